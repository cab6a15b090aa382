/- Layer 4, plainly: which values are good. -/
import Derived.Test.YtdkalcecmdadeaaDoorChk
import Derived.Test.YtdkalcecmdadeaaDoorPw
import Derived.Test.YtdkalcecmdadeaaDoorStr
namespace Go.Proofs.YtdkalcecmdadeaaDoor
open Go.RowKit Go.ChangeShapes Go.WideShapes Go.Deep
set_option maxRecDepth 100000

structure Vl where
  name : ByteArray
  text : ByteArray
def vlS : Shape Vl := { tS := 48, tE := 51, size := 2, bytes := 32, enc := fun x => [.string x.name, .string x.text], zero := .agg #[.string ⟨#[]⟩, .string ⟨#[]⟩] }
theorem vlOk : vlS.Ok where
  under := Tryd.underlying48
  info := by kernel_rfl
  zs := rfl
  pos := by decide
  len := fun _ => rfl
  one := fun x u hu => by
    simp only [vlS, List.mem_cons, List.not_mem_nil, or_false] at hu
    rcases hu with rfl | rfl <;> rfl
  small := by decide
theorem at_vl {w : World} {B : Nat} {A : Option Addr} {n cap : Nat} {l : List Vl} (h : RdL vlS w B (.slice A n cap) l) {k : Nat} (hk : k < l.length) :
    ∃ a, A = some a ∧ (a.add (k * 2)).block < B ∧ w.cell? (a.add (k * 2)) = some (.string l[k].name) ∧ w.cell? ⟨(a.add (k * 2)).block, (a.add (k * 2)).off + 1, none⟩ = some (.string l[k].text) := by
  obtain ⟨a, rfl, hb, h0, h⟩ := h.at2 vlOk hk
  exact ⟨a, rfl, hb, h0 _ rfl, h 0 _ (by decide) rfl⟩
def SmallVals (l : List Vl) : Prop := ∀ v ∈ l, v.name.size ≤ maxLen ∧ v.text.size ≤ maxLen
theorem vlOne : oneCellFields Tryd.prog (Tryd.prog.fieldsOf 51) = true := by kernel_rfl
theorem vlCells : Tryd.prog.cellsOf 51 = (Tryd.prog.fieldsOf 51).size := by kernel_rfl
theorem vlSize : (Tryd.prog.fieldsOf 51).size = 2 := by kernel_rfl
theorem vlStruct : Tryd.prog.underlying 51 = some (.struct (Tryd.prog.fieldsOf 51)) := by kernel_rfl
theorem vlTypes : ((Tryd.prog.fieldsOf 51).map (·.type)).toList = [9, 9] := by kernel_rfl
theorem vl_type (j : Nat) (t : TypeId) (h : [9, 9][j]? = some t) : ∃ f, (Tryd.prog.fieldsOf 51)[j]? = some f ∧ f.type = t := by
  rw [← vlTypes, Array.getElem?_toList, Array.getElem?_map] at h
  obtain ⟨f, h1, h2⟩ := Option.map_eq_some_iff.1 h
  exact ⟨f, h1, h2⟩
theorem open_values {H : Type} {enc : TypeId × Value → H} {W : World} {v : Value} {d : DataW H} {p : List MemPlace} (hv : Value.okWide Tryd.prog W .any 0 48 v) (h0 : DataW.Trod enc Tryd.prog W 0 (fun _ => true) true 48 v d p) :
    ∃ (l : List Vl), RdL vlS W W.heap.size v l ∧ l.length ≤ Rows.uptoBulk d ∧ SmallVals l := by
  obtain ⟨fuel, h⟩ := h0
  have hlt := DataW.trod_lt fuel _ _ _ h
  rcases open_slice_fields Tryd.underlying48 vlStruct vlOne vlCells h with ⟨hc, hx⟩ | ⟨a, len, cap, m, D, Pl, hc, _, hl, hm, hmm, hx, hf⟩
  · have := slice_of_ok Tryd.underlying48 hv hc
    subst this
    exact ⟨[], RdL.nil _ _ _, by simp, fun _ h => (by cases h)⟩
  · rw [if_pos rfl] at hmm
    obtain rfl : cap = m := hmm.symm
    have := slice_of_ok Tryd.underlying48 hv hc
    subst this
    simp only [Prod.mk.injEq] at hx
    obtain ⟨hd, hp⟩ := hx
    by_cases h0 : len = 0
    · subst h0
      exact ⟨[], ⟨some a, cap, rfl, hl, hm, fun h => (by simp at h), fun h => by cases h⟩, by simp, fun _ h => (by cases h)⟩
    have hblk : a.block < W.heap.size := hlt (.cell a.block a.off) (by
      show MemPlace.cell a.block a.off ∈ p
      rw [hp]
      simp only [List.mem_append]
      left
      have : 0 < cap * (Tryd.prog.fieldsOf 51).size := Nat.mul_pos (by omega) (by rw [vlSize]; decide)
      simp only [MemPlace.row, List.mem_map, List.mem_range]
      exact ⟨0, this, rfl⟩)
    obtain ⟨l, h1, h2, h3⟩ := RdL.of_cells (S := vlS) vlOk (w := W) (B := W.heap.size) (a := a) (len := len) (cap := cap) hblk hl hm (fun i f => f.name.size ≤ maxLen ∧ f.text.size ≤ maxLen) (by
      intro i hi
      obtain ⟨ys, n, hD, _, hyl, hfl⟩ := hf i (by omega)
      rw [vlSize] at hfl hyl
      obtain ⟨f0, g0, t0⟩ := vl_type 0 _ rfl
      obtain ⟨f1, g1, t1⟩ := vl_type 1 _ rfl
      obtain ⟨v0, y0, c0, hy0, r0⟩ := hfl 0 f0 g0
      obtain ⟨v1, y1, c1, hy1, r1⟩ := hfl 1 f1 g1
      rw [t0] at r0; rw [t1] at r1
      obtain ⟨s, e0, rfl, hs⟩ := DataW.trod_string Tryd.underlying9 r0
      obtain ⟨t, e1, rfl, ht⟩ := DataW.trod_string Tryd.underlying9 r1
      cases e0; cases e1
      refine ⟨⟨s, t⟩, ⟨hs, ht⟩, fun j u hj hu => ?_⟩
      match j, hj, hu with
      | 0, _, hu => cases hu; exact c0
      | 1, _, hu => cases hu; exact c1)
    refine ⟨l, h2, ?_, ?_⟩
    · have e := bulk_len ((List.range len).map D)
      have := bulk_slice ((List.range len).map D) ((List.range (cap - len)).map fun j => D (len + j))
      rw [List.length_map, List.length_range] at e
      rw [hd]
      exact Nat.le_trans (show l.length ≤ Rows.uptoBulkAll ((List.range len).map D) + 1 by omega) this
    · intro f hf
      obtain ⟨i, hi, rfl⟩ := List.getElem_of_mem hf
      exact h3 i hi

def takesB (kind : Int) (t : ByteArray) : Bool := if kind = 2 then decide (t.size ≠ 0 ∧ t.size ≤ 64) else if kind = 3 then (pnum t.data.toList).2 else true
/-- What is wrong with a value: the error's number (from 0 on). -/
def badV (l : List Fd) (v : Vl) : Option Nat := match findTo l v.name with
  | none => some 11
  | some i => if 4096 < v.text.size then some 2 else if takesB (l.getD i ⟨⟨#[]⟩, 0, false, false, false⟩).kind v.text then none else some 12
def goodL (l : List Fd) (vs : List Vl) : Option Nat := if chkL l then (if 64 < vs.length then some 2 else vs.findSome? (badV l)) else some 10
theorem findSome_at {l : List Fd} {vs : List Vl} {k i : Nat} (hk : k < vs.length) (hp : ∀ j (hj : j < vs.length), j < k → badV l vs[j] = none) (h : badV l vs[k] = some i) : vs.findSome? (badV l) = some i := by
  rw [List.findSome?_eq_some_iff]
  refine ⟨vs.take k, vs[k], vs.drop (k + 1), ?_, h, fun x hx => ?_⟩
  · rw [List.append_cons, List.take_append_getElem, List.take_append_drop]
  · obtain ⟨j, hj, rfl⟩ := List.getElem_of_mem hx
    rw [List.getElem_take]
    rw [List.length_take] at hj
    exact hp j (by omega) (by omega)
theorem findSome_none {l : List Fd} {vs : List Vl} (hp : ∀ j (hj : j < vs.length), badV l vs[j] = none) : vs.findSome? (badV l) = none := by
  rw [List.findSome?_eq_none_iff]
  intro x hx
  obtain ⟨j, hj, rfl⟩ := List.getElem_of_mem hx
  exact hp j hj
/-- The map of the names, up to field k. -/
def numTo (l : List Fd) (k : Nat) (z : List UInt8) : Option Int := ((l.take k).findIdx? (sameNm z)).map fun n => (n : Int)
theorem numTo_succ {l : List Fd} {k : Nat} (hk : k < l.length) (hd : (l.take k).any (sameNm l[k].name.data.toList) = false) (z : List UInt8) : (if z = l[k].name.data.toList then some (k : Int) else numTo l k z) = numTo l (k + 1) z := by
  unfold numTo
  rw [List.take_succ_eq_append_getElem hk, List.findIdx?_append]
  by_cases hz : z = l[k].name.data.toList
  · subst hz
    have e : (l.take k).findIdx? (sameNm l[k].name.data.toList) = none := by
      rw [List.findIdx?_eq_none_iff]
      intro x hx
      rw [List.any_eq_false] at hd
      simpa using hd x hx
    rw [if_pos rfl, e]
    have e2 : [l[k]].findIdx? (sameNm l[k].name.data.toList) = some 0 := by simp [List.findIdx?_cons, sameNm]
    rw [e2]
    simp [List.length_take]; omega
  · rw [if_neg hz]
    have e2 : [l[k]].findIdx? (sameNm z) = none := by
      rw [List.findIdx?_eq_none_iff]
      intro x hx
      rw [List.mem_singleton] at hx
      subst hx
      unfold sameNm
      exact decide_eq_false (fun e => hz e.symm)
    rw [e2]
    cases (l.take k).findIdx? (sameNm z) <;> rfl
theorem numTo_all {l : List Fd} (s : ByteArray) : numTo l l.length s.data.toList = (findTo l s).map fun n => (n : Int) := by
  unfold numTo findTo
  rw [List.take_of_length_le (Nat.le_refl _)]
  have e : sameNm s.data.toList = fun f => nameIs f s := by
    funext f
    unfold sameNm nameIs
    rw [ba_toList, ba_toList, Bool.eq_iff_iff]
    simp
  rw [e]
theorem chk_dup {l : List Fd} (h : chkL l = true) {k : Nat} (hk : k < l.length) : (l.take k).any (sameNm l[k].name.data.toList) = false := by
  unfold chkL at h
  simp only [Bool.and_eq_true, List.all_eq_true, List.mem_range] at h
  have := h.2 k hk
  rw [okAt_eq hk] at this
  simp only [Bool.and_eq_true, Bool.not_eq_true'] at this
  exact this.1.1
theorem chk_len {l : List Fd} (h : chkL l = true) : 1 ≤ l.length ∧ l.length ≤ 16 := by
  unfold chkL at h
  simp only [Bool.and_eq_true, decide_eq_true_eq] at h
  exact h.1
theorem find_lt {l : List Fd} {s : ByteArray} {i : Nat} (h : findTo l s = some i) : i < l.length := by
  unfold findTo at h
  rw [List.findIdx?_eq_some_iff_getElem] at h
  exact h.1
end Go.Proofs.YtdkalcecmdadeaaDoor
