/- Bytes made out of a string ('[]byte(s)'): their row bears a mark behind its last cell; appended to, turned back. -/
import Derived.Test.YtmdpfikalekmlaaGreatDoorWr
import Derived.Lib.ConvBytes
import Derived.Lib.FrozenHead2
import Derived.Lib.AtoiErrMem
namespace Go.Proofs.YtmdpfikalekmlaaGreatDoor
open Go.RowKit Go.Lib
set_option maxRecDepth 100000
set_option linter.unusedSimpArgs false
set_option linter.unusedVariables false

/-- The slice v owns the bytes l; the row's mark lies behind the room. -/
def OwnS (w : World) (B : Nat) (v : Value) (l : List UInt8) : Prop :=
  ∃ g cap cur fz, v = .slice (some ⟨g, 0, none⟩) l.length cap ∧ B ≤ g ∧ w.heap[g]? = some (.cells cur 5 fz) ∧ cap ≤ fz.1 ∧ l.length ≤ cap ∧ cap ≤ maxLen ∧ cur.size = cap ∧ cur.toList.take l.length = byteVals l
def OwnX (w : World) (B : Nat) (v : Value) (l : List UInt8) : Prop := OwnB w B v l ∨ OwnS w B v l
theorem OwnS.below {w w' : World} {B : Nat} {v : Value} {l : List UInt8} (h : OwnS w B v l) (hb : Below w.heap.size w w') : OwnS w' B v l := by
  obtain ⟨g, cap, cur, fz, hv, hg, hh, r⟩ := h
  exact ⟨g, cap, cur, fz, hv, hg, by rw [hb.block g (Array.getElem?_eq_some_iff.1 hh).1]; exact hh, r⟩
theorem OwnX.below {w w' : World} {B : Nat} {v : Value} {l : List UInt8} (h : OwnX w B v l) (hb : Below w.heap.size w w') : OwnX w' B v l := h.imp (·.below hb) (·.below hb)
theorem OwnX.alloc {w : World} {B : Nat} {v : Value} {l : List UInt8} (h : OwnX w B v l) (o : Obj) : OwnX (w.alloc o) B v l := h.below ((Below.refl _ _).alloc (Nat.le_refl _) _)
theorem OwnX.form {w : World} {B : Nat} {v : Value} {l : List UInt8} (h : OwnX w B v l) : ∃ A cap, v = .slice A l.length cap := by
  rcases h with h | ⟨g, cap, _, _, hv, _⟩
  · exact ownB_form h
  · exact ⟨_, _, hv⟩
theorem OwnX.more {w : World} {B B' : Nat} {v : Value} {l : List UInt8} (h : OwnX w B v l) (hB : B' ≤ B) : OwnX w B' v l := by
  rcases h with h | ⟨g, cap, cur, fz, hv, hg, r⟩
  · exact Or.inl ⟨h.1, h.2.imp id (fun ⟨g, cap, cur, hv, hg, r⟩ => ⟨g, cap, cur, hv, Nat.le_trans hB hg, r⟩)⟩
  · exact Or.inr ⟨g, cap, cur, fz, hv, Nat.le_trans hB hg, r⟩
theorem OwnS.cells {w : World} {B : Nat} {g n cap : Nat} {l : List UInt8} (h : OwnS w B (.slice (some ⟨g, 0, none⟩) n cap) l) : ∀ (j : Nat) u, (byteVals l)[j]? = some u → w.cell? ⟨g, j, none⟩ = some u := by
  obtain ⟨g', cap', cur, fz, hv, hg, hh, _, _, _, _, ht⟩ := h
  injection hv with e1 e2 e3
  injection e1 with e1
  injection e1 with e1
  subst e1
  intro j u hu
  rw [cell_of_row w g j cur 5 fz hh]
  rw [← ht, List.getElem?_take] at hu
  split at hu
  · simpa using hu
  · cases hu
theorem OwnX.conv {w : World} {B : Nat} {v : Value} {l : List UInt8} (h : OwnX w B v l) : (convert 26 9 v).run Tryz.prog w = .ok (.string (str l)) w := by
  rcases h with h | h
  · exact h.conv
  · have h' := h
    obtain ⟨g, cap, cur, fz, rfl, hg, hh, _⟩ := h'
    rw [← strOfNums_bytes]
    have := run_convert_bytes_arg (P := Tryz.prog) w 26 5 Tryz.underlying26 Tryz.underlying5 g 0 l.length cap (l.map fun b => (b.toNat : Int)) (by simp) (fun i hi => by
      rw [Nat.zero_add]
      refine h.cells i _ ?_
      simp [byteVals, List.getD, hi]) 9 Tryz.underlying9
    exact this
/-- The cells are written ahead of the mark. -/
theorem storeCells_lo (P : Program) (g o : Nat) (t : TypeId) (fz : Nat × Nat) : ∀ (vs : List Value) (i : Nat) (cur : Array Value) (w : World), w.heap[g]? = some (.cells cur t fz) → o + i + vs.length ≤ fz.1 → o + i + vs.length ≤ cur.size → (∀ v ∈ vs, v.oneCell' = true) →
    (storeCells ⟨g, o, none⟩ vs i).run P w = .ok () (w.setRow g (cur.toList.take (o + i) ++ vs ++ cur.toList.drop (o + i + vs.length)).toArray) := by
  intro vs
  induction vs with
  | nil =>
    intro i cur w hg _ _ _
    simp only [storeCells, List.append_nil, List.length_nil, Nat.add_zero, List.take_append_drop, Array.toArray_toList]
    rw [setRow_self w g cur t fz hg]
    rfl
  | cons v rest ih =>
    intro i cur w hg hfz hl h1
    rw [List.length_cons] at hfz hl
    have hi : o + i < cur.size := by omega
    have hfro : w.frozen? ⟨g, o + i, none⟩ = false := by
      simp only [World.frozen?, hg, Bool.and_eq_false_iff, decide_eq_false_iff_not]
      left
      omega
    have hadd : (⟨g, o, none⟩ : Addr).add i = ⟨g, o + i, none⟩ := by unfold Addr.add; split <;> simp_all
    have hst : (store ((⟨g, o, none⟩ : Addr).add i) v).run P w = .ok () (w.setRow g (cur.setIfInBounds (o + i) v)) := by
      rw [hadd, run_store P w _ v _ (h1 v List.mem_cons_self), show w.cell? ⟨g, o + i, none⟩ = some cur[o + i] from by simp [World.cell?, hg, hi]]
      simp [hfro, setCell_eq_setRow w g (o + i) cur t fz v hg]
    have e := list_seg_step cur.toList (o + i) v rest (by rw [Array.length_toList]; omega)
    have := ih (i + 1) (cur.setIfInBounds (o + i) v) (w.setRow g (cur.setIfInBounds (o + i) v)) (setRow_heap w g cur _ t _ hg) (by omega) (by simp; omega) (fun x hx => h1 x (List.mem_cons_of_mem _ hx))
    simp only [storeCells, Sem.run_bind, hst, Result.andThen_ok, this, setRow_setRow]
    congr 3
    simpa [Array.toList_setIfInBounds, Nat.add_assoc] using e
theorem below_grown {w w' : World} {B : Nat} {g : Nat} (hg : w.grownBy w' (some g)) (hB : B ≤ w.heap.size) (hBg : B ≤ g) : Below B w w' :=
  (Below.refl _ _).grown hg hB (fun k hk => by injection hk with hk; omega)
/-- What a row is behind bytes that are written behind its bytes. -/
theorem OwnS.filled {w : World} {B g cap : Nat} {cur : Array Value} {fz : Nat × Nat} {l m : List UInt8} (hB : B ≤ g) (hh : w.heap[g]? = some (.cells cur 5 fz)) (h1 : cap ≤ fz.1) (h2 : (l ++ m).length ≤ cap) (h3 : cap ≤ maxLen) (h4 : cur.size = cap) (h5 : cur.toList.take l.length = byteVals l) :
    OwnS (w.setRow g (cur.toList.take l.length ++ byteVals m ++ cur.toList.drop (l.length + (byteVals m).length)).toArray) B (.slice (some ⟨g, 0, none⟩) (l ++ m).length cap) (l ++ m) := by
  refine ⟨g, cap, _, fz, rfl, hB, setRow_heap w g cur _ 5 _ hh, h1, h2, h3, ?_, ?_⟩
  · rw [List.length_append] at h2
    simp only [List.size_toArray, List.length_append, List.length_take, List.length_drop, Array.length_toList, byteVals_length]
    omega
  · have e : (l ++ m).length = (byteVals l ++ byteVals m).length := by simp [byteVals_length]
    simp only [List.toList_toArray]
    rw [h5, e, List.take_left]
    simp [byteVals]
theorem setRow_grown (w : World) (g : Nat) (r : Array Value) : w.grownBy (w.setRow g r) (some g) :=
  ⟨rfl, rfl, rfl, by simp, fun k _ hk => setRow_other w g k _ (fun e => hk (by rw [e]))⟩
/-- 'append(v, s...)'. -/
theorem OwnX.appendStr {w : World} {B : Nat} {v : Value} {l : List UInt8} (h : OwnX w B v l) (s : ByteArray) {ops : Array Oper} {rest : List Oper} {o : Oper} {a : Act} {Q : Exit → Act → World → Prop} (hgd : o.guard = none) (sl y : Operand)
    (ho : o.op = .call { callee := .builtin .append, args := #[sl, y], argTypes := #[26, 9] }) (hs : a.eval sl = v) (hy : a.eval y = .string s) (hB : B ≤ w.heap.size) (hl : l.length + s.size ≤ 140737488355328)
    (k : ∀ v' w', OwnX w' B v' (l ++ s.data.toList) → Below B w w' → wpList Tryz.prog ops Q rest (a.put o.dst v') w') :
    wpList Tryz.prog ops Q (o :: rest) a w := by
  rcases h with h | h
  · exact h.appendStr s hgd sl y ho hs hy hB hl (fun v' w' h1 h2 _ => k v' w' (Or.inl h1) h2)
  · obtain ⟨i0, hi, hz0, hz1, hz2⟩ := info_parts infoB
    have hc := h
    obtain ⟨g, cap, cur, fz, rfl, hg, hh, hf, hn, hm, hcs, ht⟩ := h
    have hlt : g < w.heap.size := (Array.getElem?_eq_some_iff.1 hh).1
    have hsd : s.data.toList.length = s.size := rfl
    have hbs : byteVals s.data.toList = strCells s := rfl
    refine wpList_plain hgd fun K hK => ?_
    unfold Oper.wp execOp
    by_cases hroom : l.length + s.size ≤ cap
    · have hfi := run_firstCells_string (P := Tryz.prog) w 1 s
      have hst := storeCells_lo Tryz.prog g l.length 5 fz (strCells s) 0 cur w hh (by rw [strCells_length]; omega) (by rw [strCells_length]; omega) (strCells_oneCell s)
      have hr : (Builtin.append_ #[26, 9] o.type #[.slice (some ⟨g, 0, none⟩) l.length cap, .string s]).run Tryz.prog w = .ok (.slice (some ⟨g, 0, none⟩) (l.length + s.size) cap) (w.setRow g (cur.toList.take l.length ++ strCells s ++ cur.toList.drop (l.length + (strCells s).length)).toArray) := by
        simp only [Nat.add_zero] at hst
        simp [Builtin.append_, run_underlying Tryz.underlying26, run_underlying Tryz.underlying9, sizeOf, typeInfo, hi, hz1, Builtin.lenOf, hroom, hfi, Addr.add_lit, hst]
      simp only [ho, resolve, invoke, builtin, Sem.run_bind, Sem.run_pure, Result.andThen_ok, List.map_toArray, List.map_cons, List.map_nil, hs, hy, hr]
      refine hK _ _ (k _ _ (Or.inr ?_) (below_grown (setRow_grown _ _ _) hB hg))
      have := OwnS.filled (m := s.data.toList) hg hh hf (by rw [List.length_append, hsd]; exact hroom) hm hcs ht
      rw [List.length_append, hsd, hbs] at this
      exact this
    · have hr := run_append_grow_string (P := Tryz.prog) w 26 9 o.type 5 i0 (.int .u8 0) Tryz.underlying26 Tryz.underlying9 hi hz0 ⟨g, 0, none⟩ l.length cap (byteVals l) (by rw [hz1, byteVals_length, Nat.mul_one]) (fun j u hu => by rw [Addr.add_lit, Nat.zero_add]; exact hc.cells j u hu) s (by omega) (by omega) (by rw [hz2]; exact growslice_fits (by omega) (by omega))
      simp only [ho, resolve, invoke, builtin, Sem.run_bind, Sem.run_pure, Result.andThen_ok, List.map_toArray, List.map_cons, List.map_nil, hs, hy, hr]
      refine hK _ _ (k _ _ (Or.inl ?_) ((Below.refl _ _).drew.alloc hB _))
      have hge := grownCap_ge w (l.length + s.size) cap 5
      have hcm := grownCap_le_maxLen w (l.length + s.size) cap 5 (by unfold maxLen; omega)
      have e : (l ++ s.data.toList).length = l.length + s.size := by rw [List.length_append]; rfl
      unfold OwnB
      rw [e]
      refine ⟨by rw [byteVals_length, e, Nat.mul_one], .inr ⟨w.heap.size, _, _, rfl, hB, heap_alloc_new w.drew _, hge, hcm, ?_, ?_⟩⟩
      · have hz : (Value.int IntKind.u8 0).cells.size = 1 := rfl
        simp only [Array.size_append, List.size_toArray, size_zeroCells, hz, byteVals_length, strCells_length]
        omega
      · have e2 : (l.length + s.size) * 1 = (byteVals l ++ strCells s).length := by rw [List.length_append, byteVals_length, strCells_length]; omega
        simp only [Array.toList_append, List.append_assoc]
        rw [← List.append_assoc, e2, List.take_left]
        simp [byteVals, strCells]
/-- 'append(v, b)'. -/
theorem OwnX.append {w : World} {B : Nat} {v : Value} {l : List UInt8} (h : OwnX w B v l) (b : UInt8) {ops : Array Oper} {rest : List Oper} {o : Oper} {a : Act} {Q : Exit → Act → World → Prop} (hgd : o.guard = none) (s y : Operand)
    (ho : o.op = .call { callee := .builtin .append, args := #[s, y], argTypes := #[26, 26] }) (hs : a.eval s = v) (hy : a.eval y = .slice (some ⟨w.heap.size, 0, none⟩) 1 1) (hB : B ≤ w.heap.size) (hl : l.length + 1 ≤ 140737488355328)
    (k : ∀ v' w', OwnX w' B v' (l ++ [b]) → Below B w w' → wpList Tryz.prog ops Q rest (a.put o.dst v') w') :
    wpList Tryz.prog ops Q (o :: rest) a (w.alloc (.cells #[.int .u8 (b.toNat : Int)] 5)) := by
  rcases h with h | h
  · refine h.append (b.toNat : Int) (by omega) (by have := b.toNat_lt; omega) hgd s y ho hs hy hB hl (fun v' w' h1 h2 => k v' w' (Or.inl ?_) h2)
    simpa using h1
  · obtain ⟨i0, hi, hz0, hz1, hz2⟩ := info_parts infoB
    have hba : Below w.heap.size w (w.alloc (.cells #[.int .u8 (b.toNat : Int)] 5)) := (Below.refl _ _).alloc (Nat.le_refl _) _
    have hc := h.below hba
    obtain ⟨g, cap, cur, fz, rfl, hg, hh, hf, hn, hm, hcs, ht⟩ := h.below hba
    have hnew : ∀ (j : Nat) u, ([.int .u8 (b.toNat : Int)] : List Value)[j]? = some u → (w.alloc (.cells #[.int .u8 (b.toNat : Int)] 5)).cell? ((⟨w.heap.size, 0, none⟩ : Addr).add j) = some u := by
      intro j u hj
      cases j with
      | zero =>
        have : u = .int .u8 (b.toNat : Int) := by simpa using hj.symm
        subst this
        exact World.cell?_alloc_new w _ _ 0
      | succ j => simp at hj
    have hB' : B ≤ (w.alloc (.cells #[.int .u8 (b.toNat : Int)] 5)).heap.size := Nat.le_trans hB hba.size
    generalize w.alloc (.cells #[.int .u8 (b.toNat : Int)] 5) = w1 at *
    refine wpList_plain hgd fun K hK => ?_
    unfold Oper.wp execOp
    by_cases hroom : l.length + 1 ≤ cap
    · have hfi := run_firstCells_some (P := Tryz.prog) w1 1 1 ⟨w.heap.size, 0, none⟩ 1 1 [.int .u8 (b.toNat : Int)] rfl hnew
      have hst := storeCells_lo Tryz.prog g l.length 5 fz [.int .u8 (b.toNat : Int)] 0 cur w1 hh (by simp; omega) (by simp; omega) (by intro u hu; obtain rfl := List.mem_singleton.1 hu; rfl)
      have hr : (Builtin.append_ #[26, 26] o.type #[.slice (some ⟨g, 0, none⟩) l.length cap, .slice (some ⟨w.heap.size, 0, none⟩) 1 1]).run Tryz.prog w1 = .ok (.slice (some ⟨g, 0, none⟩) (l.length + 1) cap) (w1.setRow g (cur.toList.take l.length ++ byteVals [b] ++ cur.toList.drop (l.length + (byteVals [b]).length)).toArray) := by
        simp only [Nat.add_zero] at hst
        simp [Builtin.append_, run_underlying Tryz.underlying26, sizeOf, typeInfo, hi, hz1, Builtin.lenOf, hroom, hfi, Addr.add_lit, hst, byteVals]
      simp only [ho, resolve, invoke, builtin, Sem.run_bind, Sem.run_pure, Result.andThen_ok, List.map_toArray, List.map_cons, List.map_nil, hs, hy, hr]
      refine hK _ _ (k _ _ (Or.inr ?_) (((hba.mono hB)).trans (below_grown (setRow_grown _ _ _) hB' hg)))
      have := OwnS.filled (m := [b]) hg hh hf (by rw [List.length_append]; exact hroom) hm hcs ht
      rw [List.length_append] at this
      exact this
    · have hr := run_append_grow (P := Tryz.prog) w1 26 o.type 5 i0 (.int .u8 0) Tryz.underlying26 hi hz0 ⟨g, 0, none⟩ l.length cap (byteVals l) (by rw [hz1, byteVals_length, Nat.mul_one]) (fun j u hu => by rw [Addr.add_lit, Nat.zero_add]; exact hc.cells j u hu) ⟨w.heap.size, 0, none⟩ 1 1 [.int .u8 (b.toNat : Int)] (by rw [hz1]; rfl) hnew (by omega) (by omega) (by rw [hz2]; exact growslice_fits (by omega) (by omega))
      simp only [ho, resolve, invoke, builtin, Sem.run_bind, Sem.run_pure, Result.andThen_ok, List.map_toArray, List.map_cons, List.map_nil, hs, hy, hr]
      refine hK _ _ (k _ _ (Or.inl ?_) ((hba.mono hB).trans ((Below.refl _ _).drew.alloc hB' _)))
      have hge := grownCap_ge w1 (l.length + 1) cap 5
      have hcm := grownCap_le_maxLen w1 (l.length + 1) cap 5 (by unfold maxLen; omega)
      have e : (l ++ [b]).length = l.length + 1 := by rw [List.length_append]; rfl
      unfold OwnB
      rw [e]
      refine ⟨by rw [byteVals_length, e, Nat.mul_one], .inr ⟨w1.heap.size, _, _, rfl, hB', heap_alloc_new w1.drew _, hge, hcm, ?_, ?_⟩⟩
      · have hz : (Value.int IntKind.u8 0).cells.size = 1 := rfl
        simp only [Array.size_append, List.size_toArray, size_zeroCells, hz, byteVals_length, List.length_cons, List.length_nil]
        omega
      · have e2 : (l.length + 1) * 1 = (byteVals l ++ [Value.int .u8 (b.toNat : Int)]).length := by rw [List.length_append, byteVals_length]; simp
        simp only [Array.toList_append, List.append_assoc]
        rw [← List.append_assoc, e2, List.take_left]
        simp [byteVals]
theorem OwnX.appendI {w : World} {B : Nat} {v : Value} {l : List UInt8} (h : OwnX w B v l) (x : Int) (hx0 : 0 ≤ x) (hx1 : x ≤ 255) {ops : Array Oper} {rest : List Oper} {o : Oper} {a : Act} {Q : Exit → Act → World → Prop} (hgd : o.guard = none) (s y : Operand)
    (ho : o.op = .call { callee := .builtin .append, args := #[s, y], argTypes := #[26, 26] }) (hs : a.eval s = v) (hy : a.eval y = .slice (some ⟨w.heap.size, 0, none⟩) 1 1) (hB : B ≤ w.heap.size) (hl : l.length + 1 ≤ 140737488355328)
    (k : ∀ v' w', OwnX w' B v' (l ++ [UInt8.ofNat x.toNat]) → Below B w w' → wpList Tryz.prog ops Q rest (a.put o.dst v') w') :
    wpList Tryz.prog ops Q (o :: rest) a (w.alloc (.cells #[.int .u8 x] 5)) := by
  have e : ((UInt8.ofNat x.toNat).toNat : Int) = x := by rw [UInt8.toNat_ofNat']; omega
  have := h.append (UInt8.ofNat x.toNat) hgd s y ho hs hy hB hl k
  rw [e] at this
  exact this
/-- '[]byte(s)'. -/
theorem bytes_conv (s : ByteArray) (W : World) : (convert 9 26 (.string s)).run Tryz.prog W = .ok (.slice (some ⟨W.heap.size, 0, none⟩) s.size (grownCap W s.size 0 5)) (Lib.bytesWorld W 5 s) :=
  Lib.run_convert_string_bytes W 9 26 5 s Tryz.underlying9 Tryz.underlying26 Tryz.underlying5
theorem bytes_own (s : ByteArray) (W : World) (hs : s.size ≤ maxLen) : OwnX (Lib.bytesWorld W 5 s) W.heap.size (.slice (some ⟨W.heap.size, 0, none⟩) s.size (grownCap W s.size 0 5)) s.data.toList := by
  have hge := grownCap_ge W s.size 0 5
  have hsz : s.data.size = s.size := rfl
  have hcs : (Lib.bytesCells W 5 s).size = grownCap W s.size 0 5 := by unfold Lib.bytesCells; simp [hsz]; omega
  refine Or.inr ⟨W.heap.size, _, _, _, rfl, Nat.le_refl _, Lib.bytesWorld_at_new W 5 s, ?_, hge, grownCap_le_maxLen W s.size 0 5 hs, hcs, ?_⟩
  · show grownCap W s.size 0 5 ≤ (Lib.bytesCells W 5 s).size
    omega
  · unfold Lib.bytesCells
    rw [Array.toList_append]
    have e : (s.data.map fun b => Value.int .u8 (b.toNat : Int)).toList = byteVals s.data.toList := by simp [byteVals]
    rw [e]
    have e2 : s.data.toList.length = (byteVals s.data.toList).length := by rw [byteVals_length]
    rw [e2, List.take_left]
theorem bytes_below (s : ByteArray) (W : World) : Below W.heap.size W (Lib.bytesWorld W 5 s) := Lib.bytesWorld_below W 5 s
end Go.Proofs.YtmdpfikalekmlaaGreatDoor
