/- A slice of bytes that a call has made itself: appended to, turned to a string. -/
import Derived.Test.YtdkalcecmdadeaaProg
import Derived.Test.YtdkalcecmdadeaaBase
import Derived.Laws.AppendOwnNone
import Derived.KernelRfl
namespace Go.Proofs.Ytdkalcecmdadeaa
open Go.RowKit

theorem infoB : (Try.prog.info? 5).map (fun i => (i.zero, i.size, i.bytes)) = some (some (.int .u8 0), 1, 1) := by kernel_rfl
/-- Bytes, as cells. -/
def byteVals (l : List UInt8) : List Value := l.map fun b => .int .u8 b.toNat
theorem byteVals_snoc (l : List UInt8) (b : UInt8) : byteVals (l ++ [b]) = byteVals l ++ [.int .u8 b.toNat] := by simp [byteVals]
theorem byteVals_length (l : List UInt8) : (byteVals l).length = l.length := by simp [byteVals]
/-- The slice v owns the bytes l, in a block from B on. -/
def OwnB (w : World) (B : Nat) (v : Value) (l : List UInt8) : Prop := w.ownsRow B 5 1 v l.length (byteVals l)
theorem OwnB.alloc {w : World} {B : Nat} {v : Value} {l : List UInt8} (h : OwnB w B v l) (o : Obj) : OwnB (w.alloc o) B v l := World.ownsRow.alloc h o
theorem OwnB.drew {w : World} {B : Nat} {v : Value} {l : List UInt8} (h : OwnB w B v l) : OwnB w.drew B v l := h
theorem OwnB.nil (w : World) (B : Nat) : OwnB w B (.slice none 0 0) [] := World.ownsRow_nil w B 5 1
theorem OwnB.lit0 (w : World) {B : Nat} (hB : B ≤ w.heap.size) : OwnB (w.alloc (.cells #[] 5)) B (.slice (some ⟨w.heap.size, 0, none⟩) 0 0) [] :=
  World.ownsRow_lit w #[] 0 hB (by unfold maxLen; omega) rfl
theorem OwnB.lit1 (w : World) {B : Nat} (hB : B ≤ w.heap.size) (b : UInt8) : OwnB (w.alloc (.cells #[.int .u8 b.toNat] 5)) B (.slice (some ⟨w.heap.size, 0, none⟩) 1 1) [b] :=
  World.ownsRow_lit w #[.int .u8 b.toNat] 1 hB (by unfold maxLen; omega) rfl
/-- What it is turned to. -/
def str (l : List UInt8) : ByteArray := ⟨l.toArray⟩
theorem str_data (l : List UInt8) : (str l).data.toList = l := rfl
theorem str_size (l : List UInt8) : (str l).size = l.length := rfl
theorem strOfNums_bytes (l : List UInt8) : strOfNums (l.map fun b => (b.toNat : Int)) = str l := by
  unfold strOfNums str
  congr 1
  congr 1
  rw [List.map_map]
  conv => rhs; rw [← List.map_id l]
  apply List.map_congr_left
  intro b _
  simp
theorem OwnB.conv {w : World} {B : Nat} {v : Value} {l : List UInt8} (h : OwnB w B v l) : (convert 26 9 v).run Try.prog w = .ok (.string (str l)) w := by
  rcases h.2 with ⟨rfl, h0⟩ | ⟨g, cap, cur, rfl, hg, hh, hn, hm, hs, ht⟩
  · have : l = [] := List.eq_nil_of_length_eq_zero h0
    subst this
    exact run_convert_bytes_nil (P := Try.prog) w 26 5 Try.underlying26 Try.underlying5 0 0 9 Try.underlying9
  · rw [← strOfNums_bytes]
    refine run_convert_bytes_arg (P := Try.prog) w 26 5 Try.underlying26 Try.underlying5 g 0 l.length cap _ (by simp) (fun i hi => ?_) 9 Try.underlying9
    have hc := h.cellAt i (by omega)
    rw [Nat.zero_add, hc]
    simp [byteVals, List.getD, hi]
/-- 'append(b, c)': what the law of append asks, paid once. -/
theorem OwnB.append {w : World} {B : Nat} {v : Value} {l : List UInt8} (h : OwnB w B v l) (x : Int) (hx0 : 0 ≤ x) (hx1 : x ≤ 255) {ops : Array Oper} {rest : List Oper} {o : Oper} {a : Act} {Q : Exit → Act → World → Prop} (hgd : o.guard = none) (s y : Operand)
    (ho : o.op = .call { callee := .builtin .append, args := #[s, y], argTypes := #[26, 26] }) (hs : a.eval s = v) (hy : a.eval y = .slice (some ⟨w.heap.size, 0, none⟩) 1 1) (hB : B ≤ w.heap.size) (hl : l.length + 1 ≤ 140737488355328)
    (k : ∀ v' w', OwnB w' B v' (l ++ [UInt8.ofNat x.toNat]) → Below B w w' → wpList Try.prog ops Q rest (a.put o.dst v') w') :
    wpList Try.prog ops Q (o :: rest) a (w.alloc (.cells #[.int .u8 x] 5)) := by
  obtain ⟨i0, hi, hz0, hz1, hz2⟩ := info_parts infoB
  have hlt := h.lt
  refine wpList_append_own _ hgd s y 26 ho B 5 i0 (.int .u8 0) 1 1 Try.underlying26 hi hz0 hz1 hz2 rfl (by decide) v l.length (byteVals l) hs (World.ownsRow.alloc h _) ⟨w.heap.size, 0, none⟩ 1 1 [.int .u8 x] hy rfl ?_ ?_ ?_ ?_ ?_ ?_
  · intro j u hj
    cases j with
    | zero =>
      have : u = .int .u8 x := by simpa using hj.symm
      subst this
      exact World.cell?_alloc_new w _ _ 0
    | succ j => simp at hj
  · intro u hu
    have : u = .int .u8 x := by simpa using hu
    subst this; rfl
  · unfold maxLen; omega
  · omega
  · rw [World.size_alloc]; omega
  · intro v' w' h2 h3 _
    refine k v' w' ?_ ?_
    · unfold OwnB
      have e : ((UInt8.ofNat x.toNat).toNat : Int) = x := by rw [UInt8.toNat_ofNat']; omega
      rw [byteVals_snoc, e, List.length_append, List.length_singleton]
      exact h2
    · exact ((Below.refl _ _).alloc hB _).grown h3 (by rw [World.size_alloc]; omega) (fun g hg => (hlt g hg).1)
end Go.Proofs.Ytdkalcecmdadeaa
