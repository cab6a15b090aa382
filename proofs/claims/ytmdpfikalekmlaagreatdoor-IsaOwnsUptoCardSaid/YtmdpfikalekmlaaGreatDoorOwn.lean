/- A slice of bytes that a call has made itself: appended to, turned to a string. -/
import Derived.Test.YtmdpfikalekmlaaGreatDoorProg
import Derived.Test.YtmdpfikalekmlaaGreatDoorBase
import Derived.Laws.AppendOwnNone
import Derived.KernelRfl
namespace Go.Proofs.YtmdpfikalekmlaaGreatDoor
open Go.RowKit

theorem infoB : (Tryz.prog.info? 5).map (fun i => (i.zero, i.size, i.bytes)) = some (some (.int .u8 0), 1, 1) := by kernel_rfl
/-- Bytes, as cells. -/
def byteVals (l : List UInt8) : List Value := l.map fun b => .int .u8 b.toNat
theorem byteVals_snoc (l : List UInt8) (b : UInt8) : byteVals (l ++ [b]) = byteVals l ++ [.int .u8 b.toNat] := by simp [byteVals]
theorem byteVals_length (l : List UInt8) : (byteVals l).length = l.length := by simp [byteVals]
/-- The slice v owns the bytes l, in a block from B on. -/
def OwnB (w : World) (B : Nat) (v : Value) (l : List UInt8) : Prop := w.ownsRow B 5 1 v l.length (byteVals l)
theorem OwnB.alloc {w : World} {B : Nat} {v : Value} {l : List UInt8} (h : OwnB w B v l) (o : Obj) : OwnB (w.alloc o) B v l := World.ownsRow.alloc h o
theorem OwnB.drew {w : World} {B : Nat} {v : Value} {l : List UInt8} (h : OwnB w B v l) : OwnB w.drew B v l := h
theorem OwnB.below {w w' : World} {B : Nat} {v : Value} {l : List UInt8} (h : OwnB w B v l) (hb : Below w.heap.size w w') : OwnB w' B v l := by
  refine ⟨h.1, ?_⟩
  rcases h.2 with h2 | ⟨g, cap, cur, hv, hg, hh, r⟩
  · exact Or.inl h2
  · refine Or.inr ⟨g, cap, cur, hv, hg, ?_, r⟩
    have hlt : g < w.heap.size := by
      rcases Nat.lt_or_ge g w.heap.size with h | h
      · exact h
      · rw [Array.getElem?_eq_none h] at hh; cases hh
    rw [hb.block g hlt]; exact hh
theorem OwnB.nil (w : World) (B : Nat) : OwnB w B (.slice none 0 0) [] := World.ownsRow_nil w B 5 1
theorem OwnB.lit0 (w : World) {B : Nat} (hB : B ≤ w.heap.size) : OwnB (w.alloc (.cells #[] 5)) B (.slice (some ⟨w.heap.size, 0, none⟩) 0 0) [] :=
  World.ownsRow_lit w #[] 0 hB (by unfold maxLen; omega) rfl
theorem OwnB.lit1 (w : World) {B : Nat} (hB : B ≤ w.heap.size) (b : UInt8) : OwnB (w.alloc (.cells #[.int .u8 b.toNat] 5)) B (.slice (some ⟨w.heap.size, 0, none⟩) 1 1) [b] :=
  World.ownsRow_lit w #[.int .u8 b.toNat] 1 hB (by unfold maxLen; omega) rfl
theorem OwnB.lit2 (w : World) {B : Nat} (hB : B ≤ w.heap.size) (a b : UInt8) : OwnB (w.alloc (.cells #[.int .u8 a.toNat, .int .u8 b.toNat] 5)) B (.slice (some ⟨w.heap.size, 0, none⟩) 2 2) [a, b] :=
  World.ownsRow_lit w #[.int .u8 a.toNat, .int .u8 b.toNat] 2 hB (by unfold maxLen; omega) rfl
/-- What it is turned to. -/
def str (l : List UInt8) : ByteArray := ⟨l.toArray⟩
theorem str_data (l : List UInt8) : (str l).data.toList = l := rfl
theorem str_size (l : List UInt8) : (str l).size = l.length := rfl
theorem strOfNums_bytes (l : List UInt8) : strOfNums (l.map fun b => (b.toNat : Int)) = str l := by
  unfold strOfNums str
  congr 1
  congr 1
  rw [List.map_map]
  conv => rhs; rw [← List.map_id l]
  apply List.map_congr_left
  intro b _
  simp
theorem OwnB.conv {w : World} {B : Nat} {v : Value} {l : List UInt8} (h : OwnB w B v l) : (convert 26 9 v).run Tryz.prog w = .ok (.string (str l)) w := by
  rcases h.2 with ⟨rfl, h0⟩ | ⟨g, cap, cur, rfl, hg, hh, hn, hm, hs, ht⟩
  · have : l = [] := List.eq_nil_of_length_eq_zero h0
    subst this
    exact run_convert_bytes_nil (P := Tryz.prog) w 26 5 Tryz.underlying26 Tryz.underlying5 0 0 9 Tryz.underlying9
  · rw [← strOfNums_bytes]
    refine run_convert_bytes_arg (P := Tryz.prog) w 26 5 Tryz.underlying26 Tryz.underlying5 g 0 l.length cap _ (by simp) (fun i hi => ?_) 9 Tryz.underlying9
    have hc := h.cellAt i (by omega)
    rw [Nat.zero_add, hc]
    simp [byteVals, List.getD, hi]
/-- 'append(b, c)': what the law of append asks, paid once. -/
theorem OwnB.append {w : World} {B : Nat} {v : Value} {l : List UInt8} (h : OwnB w B v l) (x : Int) (hx0 : 0 ≤ x) (hx1 : x ≤ 255) {ops : Array Oper} {rest : List Oper} {o : Oper} {a : Act} {Q : Exit → Act → World → Prop} (hgd : o.guard = none) (s y : Operand)
    (ho : o.op = .call { callee := .builtin .append, args := #[s, y], argTypes := #[26, 26] }) (hs : a.eval s = v) (hy : a.eval y = .slice (some ⟨w.heap.size, 0, none⟩) 1 1) (hB : B ≤ w.heap.size) (hl : l.length + 1 ≤ 140737488355328)
    (k : ∀ v' w', OwnB w' B v' (l ++ [UInt8.ofNat x.toNat]) → Below B w w' → wpList Tryz.prog ops Q rest (a.put o.dst v') w') :
    wpList Tryz.prog ops Q (o :: rest) a (w.alloc (.cells #[.int .u8 x] 5)) := by
  obtain ⟨i0, hi, hz0, hz1, hz2⟩ := info_parts infoB
  have hlt := h.lt
  refine wpList_append_own _ hgd s y 26 ho B 5 i0 (.int .u8 0) 1 1 Tryz.underlying26 hi hz0 hz1 hz2 rfl (by decide) v l.length (byteVals l) hs (World.ownsRow.alloc h _) ⟨w.heap.size, 0, none⟩ 1 1 [.int .u8 x] hy rfl ?_ ?_ ?_ ?_ ?_ ?_
  · intro j u hj
    cases j with
    | zero =>
      have : u = .int .u8 x := by simpa using hj.symm
      subst this
      exact World.cell?_alloc_new w _ _ 0
    | succ j => simp at hj
  · intro u hu
    have : u = .int .u8 x := by simpa using hu
    subst this; rfl
  · unfold maxLen; omega
  · omega
  · rw [World.size_alloc]; omega
  · intro v' w' h2 h3 _
    refine k v' w' ?_ ?_
    · unfold OwnB
      have e : ((UInt8.ofNat x.toNat).toNat : Int) = x := by rw [UInt8.toNat_ofNat']; omega
      rw [byteVals_snoc, e, List.length_append, List.length_singleton]
      exact h2
    · exact ((Below.refl _ _).alloc hB _).grown h3 (by rw [World.size_alloc]; omega) (fun g hg => (hlt g hg).1)
/-- 'append(b, x...)', x made by the call too. -/
theorem OwnB.appendAll {w : World} {B B2 : Nat} {v x : Value} {l m : List UInt8} (h : OwnB w B v l) (hx : OwnB w B2 x m) {ops : Array Oper} {rest : List Oper} {o : Oper} {a : Act} {Q : Exit → Act → World → Prop} (hgd : o.guard = none) (s y : Operand)
    (ho : o.op = .call { callee := .builtin .append, args := #[s, y], argTypes := #[26, 26] }) (hs : a.eval s = v) (hy : a.eval y = x) (hB : B ≤ w.heap.size) (hl : l.length + m.length ≤ 140737488355328)
    (k : ∀ v' w', OwnB w' B v' (l ++ m) → Below B w w' → wpList Tryz.prog ops Q rest (a.put o.dst v') w') :
    wpList Tryz.prog ops Q (o :: rest) a w := by
  obtain ⟨i0, hi, hz0, hz1, hz2⟩ := info_parts infoB
  have hlt := h.lt
  rcases hx.2 with ⟨rfl, h0⟩ | ⟨g, cap, cur, rfl, hg, hh, hn, hm, hcs, ht⟩
  · have e : m = [] := List.eq_nil_of_length_eq_zero h0
    subst e
    refine wpList_append_own_none hgd s y 26 ho B 5 i0 1 Tryz.underlying26 hi v l.length (byteVals l) hs h hy ?_
    exact k v w (by rw [List.append_nil]; exact h) (Below.refl _ _)
  · refine wpList_append_own _ hgd s y 26 ho B 5 i0 (.int .u8 0) 1 1 Tryz.underlying26 hi hz0 hz1 hz2 rfl (by decide) v l.length (byteVals l) hs h ⟨g, 0, none⟩ m.length cap (byteVals m) hy (by rw [byteVals_length, Nat.mul_one]) ?_ ?_ ?_ ?_ hB ?_
    · exact World.ownsRow.cells hx rfl
    · intro u hu
      obtain ⟨b, _, rfl⟩ := List.mem_map.1 hu
      rfl
    · unfold maxLen; omega
    · omega
    · intro v' w' h2 h3 _
      refine k v' w' ?_ ?_
      · unfold OwnB
        rw [List.length_append, show byteVals (l ++ m) = byteVals l ++ byteVals m from List.map_append]
        exact h2
      · exact (Below.refl _ _).grown h3 hB (fun g hg => (hlt g hg).1)
/-- Every block but v's own is as it was. -/
def KeptBut (w w' : World) (v : Value) : Prop := ∀ b, b < w.heap.size → v.ownBlock ≠ some b → w'.heap[b]? = w.heap[b]?
theorem KeptBut.cell {w w' : World} {v : Value} (h : KeptBut w w' v) {b o : Nat} (hb : b < w.heap.size) (hv : v.ownBlock ≠ some b) : w'.cell? ⟨b, o, none⟩ = w.cell? ⟨b, o, none⟩ := by
  simp [World.cell?, h b hb hv]
theorem OwnB.ne_new {w : World} {B : Nat} {v : Value} {l : List UInt8} (h : OwnB w B v l) {b : Nat} (hb : w.heap.size ≤ b) : v.ownBlock ≠ some b := fun e => by have := (h.lt b e).2; omega
/-- The same, where the new block's number is spelled otherwise; and more of what stays. -/
theorem OwnB.appendAt {w : World} {B : Nat} {v : Value} {l : List UInt8} (h : OwnB w B v l) (x : Int) (nb : Nat) {ops : Array Oper} {rest : List Oper} {o : Oper} {a : Act} {Q : Exit → Act → World → Prop} (hgd : o.guard = none) (s y : Operand)
    (ho : o.op = .call { callee := .builtin .append, args := #[s, y], argTypes := #[26, 26] }) (hs : a.eval s = v) (hy : a.eval y = .slice (some ⟨nb, 0, none⟩) 1 1) (hnb : nb = w.heap.size) (hx0 : 0 ≤ x) (hx1 : x ≤ 255) (hB : B ≤ w.heap.size) (hl : l.length + 1 ≤ 140737488355328)
    (k : ∀ v' w', OwnB w' B v' (l ++ [UInt8.ofNat x.toNat]) → Below B w w' → KeptBut w w' v → wpList Tryz.prog ops Q rest (a.put o.dst v') w') :
    wpList Tryz.prog ops Q (o :: rest) a (w.alloc (.cells #[.int .u8 x] 5)) := by
  subst hnb
  obtain ⟨i0, hi, hz0, hz1, hz2⟩ := info_parts infoB
  have hlt := h.lt
  refine wpList_append_own _ hgd s y 26 ho B 5 i0 (.int .u8 0) 1 1 Tryz.underlying26 hi hz0 hz1 hz2 rfl (by decide) v l.length (byteVals l) hs (World.ownsRow.alloc h _) ⟨w.heap.size, 0, none⟩ 1 1 [.int .u8 x] hy rfl ?_ ?_ ?_ ?_ ?_ ?_
  · intro j u hj
    cases j with
    | zero =>
      have : u = .int .u8 x := by simpa using hj.symm
      subst this
      exact World.cell?_alloc_new w _ _ 0
    | succ j => simp at hj
  · intro u hu
    have : u = .int .u8 x := by simpa using hu
    subst this; rfl
  · unfold maxLen; omega
  · omega
  · rw [World.size_alloc]; omega
  · intro v' w' h2 h3 _
    refine k v' w' ?_ ?_ ?_
    · unfold OwnB
      have e : ((UInt8.ofNat x.toNat).toNat : Int) = x := by rw [UInt8.toNat_ofNat']; omega
      rw [byteVals_snoc, e, List.length_append, List.length_singleton]
      exact h2
    · exact ((Below.refl _ _).alloc hB _).grown h3 (by rw [World.size_alloc]; omega) (fun g hg => (hlt g hg).1)
    · intro b hb hv
      rw [h3.block b (by rw [World.size_alloc]; omega) (fun e => hv e.symm)]
      exact Below.heap_alloc w _ b hb
theorem OwnB.appendAllK {w : World} {B B2 : Nat} {v x : Value} {l m : List UInt8} (h : OwnB w B v l) (hx : OwnB w B2 x m) {ops : Array Oper} {rest : List Oper} {o : Oper} {a : Act} {Q : Exit → Act → World → Prop} (hgd : o.guard = none) (s y : Operand)
    (ho : o.op = .call { callee := .builtin .append, args := #[s, y], argTypes := #[26, 26] }) (hs : a.eval s = v) (hy : a.eval y = x) (hB : B ≤ w.heap.size) (hl : l.length + m.length ≤ 140737488355328)
    (k : ∀ v' w', OwnB w' B v' (l ++ m) → Below B w w' → KeptBut w w' v → wpList Tryz.prog ops Q rest (a.put o.dst v') w') :
    wpList Tryz.prog ops Q (o :: rest) a w := by
  obtain ⟨i0, hi, hz0, hz1, hz2⟩ := info_parts infoB
  have hlt := h.lt
  rcases hx.2 with ⟨rfl, h0⟩ | ⟨g, cap, cur, rfl, hg, hh, hn, hm, hcs, ht⟩
  · have e : m = [] := List.eq_nil_of_length_eq_zero h0
    subst e
    refine wpList_append_own_none hgd s y 26 ho B 5 i0 1 Tryz.underlying26 hi v l.length (byteVals l) hs h hy ?_
    exact k v w (by rw [List.append_nil]; exact h) (Below.refl _ _) (fun _ _ _ => rfl)
  · refine wpList_append_own _ hgd s y 26 ho B 5 i0 (.int .u8 0) 1 1 Tryz.underlying26 hi hz0 hz1 hz2 rfl (by decide) v l.length (byteVals l) hs h ⟨g, 0, none⟩ m.length cap (byteVals m) hy (by rw [byteVals_length, Nat.mul_one]) ?_ ?_ ?_ ?_ hB ?_
    · exact World.ownsRow.cells hx rfl
    · intro u hu
      obtain ⟨b, _, rfl⟩ := List.mem_map.1 hu
      rfl
    · unfold maxLen; omega
    · omega
    · intro v' w' h2 h3 _
      refine k v' w' ?_ ?_ ?_
      · unfold OwnB
        rw [List.length_append, show byteVals (l ++ m) = byteVals l ++ byteVals m from List.map_append]
        exact h2
      · exact (Below.refl _ _).grown h3 hB (fun g hg => (hlt g hg).1)
      · intro b hb hv
        exact h3.block b hb (fun e => hv e.symm)
end Go.Proofs.YtmdpfikalekmlaaGreatDoor
