/- Merged for a claim by shake.py: Jm Jn -/
import Derived.Test.YthcldpminmhgkaaDoorKrA
import Derived.Test.YthcldpminmhgkaaDoorKr17
set_option maxRecDepth 100000
set_option maxHeartbeats 4000000
set_option linter.unusedSimpArgs false
set_option linter.unusedVariables false
section
namespace Go.Proofs.YthcldpminmhgkaaDoor
open Go.RowKit
theorem goodNs_at {ks : List Nd} (h : ∀ (i : Nat) (t : Nd), ks[i]? = some t → goodN t = true) : goodNs ks = true := (goodNs_all ks).2 fun t ht => by
 obtain ⟨i, hi⟩ := List.getElem?_of_mem ht
 exact h i t hi
theorem goodNs_bad {ks : List Nd} {k : Nat} (hk : k < ks.length) (h : goodN ks[k] = false) : goodNs ks = false := by
 rw [Bool.eq_false_iff]
 intro h2
 have := (goodNs_all ks).1 h2 _ (List.getElem_mem hk)
 rw [h] at this; cases this
def RgdOk (t : Nd) : Prop := ∀ (w : World) (F : Nat → Prop) (x : NV), NdR w F x t → bkN t ≤ 900000000000 → Calls Tryd.prog 33 #[x.val] w (BoolRet (goodN t) w)
def KidRel (ks : List Nd) (wb : World) (iv : Value) (wr : World) : Prop := ∃ j : Nat, j ≤ ks.length ∧ iv = .int .i64 (j : Int) ∧ (∀ (i : Nat) (t : Nd), i < j → ks[i]? = some t → goodN t = true) ∧ Below wb.heap.size wb wr
theorem rgood_of (kind n : Int) (field text : List UInt8) (lo hi : Bd) (occ : List Int) (ks : List Nd) (ih : ∀ t ∈ ks, RgdOk t) : RgdOk (.mk kind field text n lo hi occ ks) := by
 intro w F x hx hbk
 obtain ⟨oa, ka, oc, kc, e, -, hO, hK⟩ := hx.open_
 rw [e]
 clear e hx x
 have hkl : ks.length ≤ 9223372036854775807 := by have h := Nat.le_trans hK.len.1 hK.len.2; unfold maxLen at h; omega
 have hb : text.length ≤ 900000000000 ∧ bkNs ks ≤ 900000000000 := by rw [bkN] at hbk; omega
 have HIH := LH (fun t (ht : t ∈ ks) => (⟨ih t ht, Nat.le_trans (bkNs_mem ht) hb.2⟩ : RgdOk t ∧ bkN t ≤ 900000000000))
 have HK := LH hK
 by_cases h9 : kind < 9
 ·have HL := LH (fun (W : World) => rleaf_any h9 n field text lo hi occ oa ka oc ks.length kc W hb.1)
  have HG := LH (show ownN kind field text n lo hi occ ks.length = goodN (.mk kind field text n lo hi occ ks) from by
   rw [goodN]
   cases ho : ownN kind field text n lo hi occ ks.length with
   | false => rfl
   | true =>
    rcases own_cases ho with ⟨_, _, h0, _, _⟩ | ⟨h, _⟩
    ·rw [List.eq_nil_of_length_eq_zero h0]; rfl
    ·omega)
  have h2 : decide (kind < 9) = true := decide_eq_true h9
  clear hO hK hbk hb h9 ih
  go_enter Tryd.func33, Tryd.ntmps33
  go_wp2_with fail
  refine (HL.out _).mono ?_
  rintro e w2 ⟨rfl, hb2⟩
  have HB2 := LH (((Below.refl w.heap.size w).alloc (Nat.le_refl _) _).trans (hb2.mono (by rw [World.size_alloc]; omega)))
  clear hb2
  go_wp2
  go_ret
  exact ⟨ret_bool HG.out, HB2.out⟩
 ·have h2 : decide (kind < 9) = false := decide_eq_false h9
  have HI := LH (fun (W : World) (hW : Below w.heap.size w W) => rinner_any (show 9 ≤ kind by omega) n field text lo hi occ oa ka oc ks.length kc W F (hO.belowW hW))
  have HGN := LH (show goodN (.mk kind field text n lo hi occ ks) = (ownN kind field text n lo hi occ ks.length && goodNs ks) from by rw [goodN])
  generalize hG : goodN (.mk kind field text n lo hi occ ks) = gd at *
  generalize hOW : ownN kind field text n lo hi occ ks.length = ow at *
  clear hO hK hbk hb h9 ih hG hOW
  have HBX := LH ((Below.refl w.heap.size w).alloc (Nat.le_refl _) (.cells #[.int .i64 kind, .string (str field), .string (str text), .int .i64 n, .bool lo.open_, .bool lo.in_, .string (str lo.text), .bool hi.open_, .bool hi.in_, .string (str hi.text), .slice oa occ.length oc, .slice ka ks.length kc] 27))
  go_enter Tryd.func33, Tryd.ntmps33
  go_wp2_with fail
  refine (HI.out _ HBX.out).mono ?_
  rintro e w2 ⟨rfl, hb2⟩
  have HB2 := LH (HBX.out.trans (hb2.mono HBX.out.size))
  have hblk := ((Blk.new w 27 #[.int .i64 kind, .string (str field), .string (str text), .int .i64 n, .bool lo.open_, .bool lo.in_, .string (str lo.text), .bool hi.open_, .bool hi.in_, .string (str hi.text), .slice oa occ.length oc, .slice ka ks.length kc]).belowW hb2)
  have HBK := LH hblk
  clear hb2 hblk
  cases ow with
  | false =>
   go_wp2
   go_ret
   exact ⟨ret_bool HGN.out.symm, HB2.out⟩
  | true =>
   go_wp2
   go_loopw [3] (fun iv wr => KidRel ks w2 iv wr) (fun iv _ => ks.length - (intOf iv).toNat)
   case atStart => exact ⟨0, Nat.zero_le _, rfl, fun i t h => absurd h (Nat.not_lt_zero _), Below.refl _ _⟩
   case round =>
    obtain ⟨j, hj, rfl, hall, hb⟩ := hrel
    have HALL := LH hall
    have HBR := LH hb
    have x11 := (HBK.out.belowW hb).cell 11
    simp only [List.getElem?_toArray, List.getElem?_cons_zero, List.getElem?_cons_succ] at x11
    have HBW := LH (HB2.out.trans (hb.mono HB2.out.size))
    clear hall hb
    by_cases hlt : j < ks.length
    ·obtain ⟨a, y, rfl, ⟨hab, q0, q1, q2, q3, q4, q5, q6, q7, q8, q9, q10, q11⟩, hy⟩ := (HK.out.belowW HBW.out).kid hlt
     have hih := HIH.out ks[j] (List.getElem_mem hlt)
     have HGT := LH (fun (h : goodN ks[j] = false) => goodNs_bad hlt h)
     have HX := LH (List.getElem?_eq_getElem hlt)
     generalize ks[j] = t at *
     have HC := LH (hih.1 wr F y hy hih.2)
     obtain ⟨kd3, fl3, tx3, xn3, ⟨la3, lb3, lc3⟩, ⟨ra3, rb3, rc3⟩, ⟨oa3, on3, oc3⟩, ⟨ka3, kn3, kc3⟩⟩ := y
     simp only [] at q0 q1 q2 q3 q4 q5 q6 q7 q8 q9 q10 q11
     unfold NV.val at HC
     simp only [] at HC
     clear hy hih
     go_wp2_with fail
     refine HC.out.mono ?_
     rintro e w3 ⟨rfl, hb3⟩
     have HB3 := LH (HBR.out.trans (hb3.mono HBR.out.size))
     have HB3W := LH (HBW.out.trans (hb3.mono HBW.out.size))
     clear hb3
     cases hg : goodN t with
     | false =>
      have HN := LH (show gd = false from by rw [HGN.out, HGT.out hg]; rfl)
      clear hg
      go_wp2
      go_ret
      exact ⟨ret_bool HN.out.symm, HB3W.out⟩
     | true =>
      have HG := LH hg
      clear hg
      go_wp2
      go_roundw
      case rel =>
       refine ⟨j + 1, hlt, by go_num, fun i u hi hu => ?_, HB3.out⟩
       by_cases hij : i = j
       ·subst hij; rw [HX.out] at hu; injection hu with hu; rw [← hu]; exact HG.out
       ·exact HALL.out i u (by omega) hu
      case measure => simp [intOf]; omega
    ·have HN := LH (show gd = true from by
      rw [HGN.out, goodNs_at fun i t hi => HALL.out i t (by have := (List.getElem?_eq_some_iff.1 hi).1; omega) hi]; rfl)
     go_wp2
     go_ret
     exact ⟨ret_bool HN.out.symm, HBW.out⟩
theorem rgood_any (t : Nd) : RgdOk t := nd_ind rgood_of t
def chkN (t : Nd) : Int := if goodN t = true then 0 else 18
theorem chkN_yes {t : Nd} (h : goodN t = true) : chkN t = 0 := by unfold chkN; rw [if_pos h]
theorem chkN_no {t : Nd} (h : goodN t = false) : chkN t = 18 := by unfold chkN; rw [if_neg (by rw [h]; decide)]
theorem ret_int15 {a b : Int} (h : a = b) : Ending.returned (.int .i64 a) = .returned (.int .i64 b) := by rw [h]
theorem rcheck15_any (t : Nd) (w : World) (F : Nat → Prop) (x : NV) (hx : NdR w F x t) (hb : bkN t ≤ 900000000000) :
  Calls Tryd.prog 15 #[x.val] w fun e w' => e = .returned (.int .i64 (chkN t)) ∧ Below w.heap.size w w' := by
 have HBX := LH ((Below.refl w.heap.size w).alloc (Nat.le_refl _) (.cells #[.int .i64 x.kind, .string (str x.field), .string (str x.text), .int .i64 x.n, .bool x.lo.open_, .bool x.lo.in_, .string (str x.lo.text), .bool x.hi.open_, .bool x.hi.in_, .string (str x.hi.text), .slice x.occ.a x.occ.n x.occ.c, .slice x.kids.a x.kids.n x.kids.c] 27))
 have HC := LH (rgood_any t _ F x (hx.belowW HBX.out) hb)
 unfold NV.val at HC ⊢
 clear hx
 go_enter Tryd.func15, Tryd.ntmps15
 go_wp2_with fail
 refine HC.out.mono ?_
 rintro e w2 ⟨rfl, hb2⟩
 have HB2 := LH (HBX.out.trans (hb2.mono HBX.out.size))
 clear hb2
 have HN := LH (fun (h : goodN t = false) => chkN_no h); have HY := LH (fun (h : goodN t = true) => chkN_yes h)
 cases hg : goodN t with
 | false =>
  have H := LH (HN.out hg)
  clear hg
  go_wp2
  go_ret
  exact ⟨ret_int15 H.out.symm, HB2.out⟩
 | true =>
  have H := LH (HY.out hg)
  clear hg
  go_wp2
  go_ret
  exact ⟨ret_int15 H.out.symm, HB2.out⟩
def PckRet (v : Value) (t : Nd) (w : World) (e : Ending) (w' : World) : Prop := Below w.heap.size w w' ∧ e = .returned (if goodN t = true then .nilIface else v)
def PckOk (t : Nd) : Prop := ∀ (w : World) (F : Nat → Prop) (x : NV) (ea : List Addr) (ei : Nat), NdR w F x t → bkN t ≤ 900000000000 → AskEnv w → ErrAt w 0 (errI ea ei) → Calls Tryd.prog 17 #[x.val] w (PckRet (errI ea ei) t w)
theorem PckRet.yes {v : Value} {t : Nd} {w w' : World} (h : Below w.heap.size w w') (hg : goodN t = true) : PckRet v t w (.returned .nilIface) w' := ⟨h, by rw [if_pos hg]⟩
theorem PckRet.no {v : Value} {t : Nd} {w w' : World} (h : Below w.heap.size w w') (hg : goodN t = false) : PckRet v t w (.returned v) w' := ⟨h, by rw [if_neg (by rw [hg]; decide)]⟩
theorem PckRet.iyes {v : Value} {t : Nd} {w w' : World} {e : Ending} (h : PckRet v t w e w') (hg : goodN t = true) : Below w.heap.size w w' ∧ e = .returned .nilIface := by
 obtain ⟨h1, h2⟩ := h
 rw [if_pos hg] at h2
 exact ⟨h1, h2⟩
theorem PckRet.ino {v : Value} {t : Nd} {w w' : World} {e : Ending} (h : PckRet v t w e w') (hg : goodN t = false) : Below w.heap.size w w' ∧ e = .returned v := by
 obtain ⟨h1, h2⟩ := h
 rw [if_neg (by rw [hg]; decide)] at h2
 exact ⟨h1, h2⟩
theorem pcheck_of (kind n : Int) (field text : List UInt8) (lo hi : Bd) (occ : List Int) (ks : List Nd) (ih : ∀ t ∈ ks, PckOk t) : PckOk (.mk kind field text n lo hi occ ks) := by
 intro w F x ea ei hx hbk hA hE
 obtain ⟨oa, ka, oc, kc, e, -, hO, hK⟩ := hx.open_
 rw [e]
 clear e hx x
 have hkl : ks.length ≤ 9223372036854775807 := by have h := Nat.le_trans hK.len.1 hK.len.2; unfold maxLen at h; omega
 have hb : text.length ≤ 900000000000 ∧ bkNs ks ≤ 900000000000 := by rw [bkN] at hbk; omega
 have HIH := LH (fun t (ht : t ∈ ks) => (⟨ih t ht, Nat.le_trans (bkNs_mem ht) hb.2⟩ : PckOk t ∧ bkN t ≤ 900000000000))
 have HK := LH hK; have HAE := LH hA; have HEE := LH hE
 have HI := LH (fun (W : World) (hW : Below w.heap.size w W) => own_any kind n field text lo hi occ oa ka oc ks.length kc W F (hA.below hW) (hO.belowW hW) hb.1)
 have HGN := LH (show goodN (.mk kind field text n lo hi occ ks) = (ownN kind field text n lo hi occ ks.length && goodNs ks) from by rw [goodN])
 have hz1 := fun W => errI_nnil ea ei W
 have hz2 := fun op x y W => errI_guard0 ea ei op x y W
 have HIH2 := LH (fun (t : Nd) (ht : t ∈ ks) (W : World) (hW : Below w.heap.size w W) (y : NV) (hy : NdR W F y t) => (HIH.out t ht).1 W F y ea ei hy (HIH.out t ht).2 (hA.below hW) (hE.below hE.2 hW))
 generalize hv : errI ea ei = v at *
 generalize hT : Nd.mk kind field text n lo hi occ ks = T at *
 generalize hOW : ownN kind field text n lo hi occ ks.length = ow at *
 clear hO hK hbk hb ih hT hOW hA hE hv
 have HBX := LH ((Below.refl w.heap.size w).alloc (Nat.le_refl _) (.cells #[.int .i64 kind, .string (str field), .string (str text), .int .i64 n, .bool lo.open_, .bool lo.in_, .string (str lo.text), .bool hi.open_, .bool hi.in_, .string (str hi.text), .slice oa occ.length oc, .slice ka ks.length kc] 27))
 go_enter Tryd.func17, Tryd.ntmps17
 go_wp2_with fail
 refine (HI.out _ HBX.out).mono ?_
 rintro e w2 ⟨rfl, hb2⟩
 have HB2 := LH (HBX.out.trans (hb2.mono HBX.out.size))
 have hblk := ((Blk.new w 27 #[.int .i64 kind, .string (str field), .string (str text), .int .i64 n, .bool lo.open_, .bool lo.in_, .string (str lo.text), .bool hi.open_, .bool hi.in_, .string (str hi.text), .slice oa occ.length oc, .slice ka ks.length kc]).belowW hb2)
 have x11 := hblk.cell 11
 simp only [List.getElem?_toArray, List.getElem?_cons_zero, List.getElem?_cons_succ] at x11
 clear hb2 hblk
 cases ow with
 | false =>
  have hv1 := (HEE.out.below HEE.out.2 HB2.out).1
  have HN := LH (show goodN T = false from by rw [HGN.out]; rfl)
  go_wp2
  go_ret
  exact .no HB2.out HN.out
 | true =>
  go_wp2
  clear x11
  go_loopw [12] (fun iv wr => KidRel ks w2 iv wr) (fun iv _ => ks.length - (intOf iv).toNat)
  case atStart => exact ⟨0, Nat.zero_le _, rfl, fun i t h => absurd h (Nat.not_lt_zero _), Below.refl _ _⟩
  case round =>
   obtain ⟨j, hj, rfl, hall, hb⟩ := hrel
   have HALL := LH hall
   have HBR := LH hb
   have HBW := LH (HB2.out.trans (hb.mono HB2.out.size))
   clear hall hb
   by_cases hlt : j < ks.length
   ·obtain ⟨a, y, rfl, ⟨hab, q0, q1, q2, q3, q4, q5, q6, q7, q8, q9, q10, q11⟩, hy⟩ := (HK.out.belowW HBW.out).kid hlt
    have HGT := LH (fun (h : goodN ks[j] = false) => goodNs_bad hlt h)
    have HX := LH (List.getElem?_eq_getElem hlt)
    have hih := HIH2.out ks[j] (List.getElem_mem hlt)
    generalize ks[j] = t at *
    obtain ⟨kd3, fl3, tx3, xn3, ⟨la3, lb3, lc3⟩, ⟨ra3, rb3, rc3⟩, ⟨oa3, on3, oc3⟩, ⟨ka3, kn3, kc3⟩⟩ := y
    simp only [] at q0 q1 q2 q3 q4 q5 q6 q7 q8 q9 q10 q11
    have HBY := LH (show Below wr.heap.size wr (wr.alloc (.cells #[.int .i64 kd3, .string (str fl3), .string (str tx3), .int .i64 xn3, .bool la3, .bool lb3, .string (str lc3), .bool ra3, .bool rb3, .string (str rc3), .slice oa3 on3 oc3, .slice ka3 kn3 kc3] 27)) from (Below.refl _ _).alloc (Nat.le_refl _) _)
    have HC := LH (hih _ (HBW.out.trans (HBY.out.mono HBW.out.size)) _ (hy.belowW HBY.out))
    unfold NV.val at HC
    simp only [] at HC
    clear hy hih
    go_wp2_with fail
    refine HC.out.mono ?_
    intro e w3 hret
    cases hg : goodN t with
    | false =>
     obtain ⟨hb3, rfl⟩ := hret.ino hg
     have HB3W := LH (HBW.out.trans ((HBY.out.trans (hb3.mono HBY.out.size)).mono HBW.out.size))
     have HN := LH (show goodN T = false from by rw [HGN.out, HGT.out hg]; rfl)
     have hv1 := (HEE.out.below HEE.out.2 HB3W.out).1
     clear hg hret hb3
     go_wp2
     go_ret
     exact .no HB3W.out HN.out
    | true =>
     obtain ⟨hb3, rfl⟩ := hret.iyes hg
     have HB3 := LH (HBR.out.trans ((HBY.out.trans (hb3.mono HBY.out.size)).mono HBR.out.size))
     have HG := LH hg
     clear hg hret hb3
     go_wp2
     go_roundw
     case rel =>
      refine ⟨j + 1, hlt, by go_num, fun i u hi hu => ?_, HB3.out⟩
      by_cases hij : i = j
      ·subst hij; rw [HX.out] at hu; injection hu with hu; rw [← hu]; exact HG.out
      ·exact HALL.out i u (by omega) hu
     case measure => simp [intOf]; omega
   ·have HN := LH (show goodN T = true from by
     rw [HGN.out, goodNs_at fun i t hi => HALL.out i t (by have := (List.getElem?_eq_some_iff.1 hi).1; omega) hi]; rfl)
    go_wp2
    go_ret
    exact .yes HBW.out HN.out
theorem pcheck_any (t : Nd) : PckOk t := nd_ind pcheck_of t
theorem sizeNs_take {ks : List Nd} {j : Nat} (h : j < ks.length) : sizeNs (ks.take (j + 1)) = sizeNs (ks.take j) + sizeN ks[j] := by
 have h2 : ∀ (a b : List Nd), sizeNs (a ++ b) = sizeNs a + sizeNs b := by
  intro a b
  induction a with
  | nil => simp [sizeNs]
  | cons x a ih => rw [List.cons_append, sizeNs, sizeNs, ih]; omega
 rw [List.take_succ_eq_append_getElem h, h2, sizeNs, sizeNs]; omega
mutual
theorem size_bk : ∀ t : Nd, sizeN t ≤ bkN t
 | .mk _ _ _ _ _ _ _ ks => by have := sizes_bk ks; rw [sizeN, bkN]; omega
theorem sizes_bk : ∀ l : List Nd, sizeNs l ≤ bkNs l
 | [] => Nat.le_refl _
 | k :: ks => by have := size_bk k; have := sizes_bk ks; rw [sizeNs, bkNs]; omega
end
theorem bkNs_take (ks : List Nd) (j : Nat) : bkNs (ks.take j) ≤ bkNs ks := by
 have h2 : ∀ (a b : List Nd), bkNs (a ++ b) = bkNs a + bkNs b := by
  intro a b
  induction a with
  | nil => simp [bkNs]
  | cons x a ih => rw [List.cons_append, bkNs, bkNs, ih]; omega
 have h := h2 (ks.take j) (ks.drop j)
 rw [List.take_append_drop] at h
 omega
def SzRel (ks : List Nd) (wb : World) (sv iv : Value) (wr : World) : Prop := ∃ j : Nat, j ≤ ks.length ∧ iv = .int .i64 (j : Int) ∧ sv = .int .i64 ((1 + sizeNs (ks.take j) : Nat) : Int) ∧ Below wb.heap.size wb wr
def SzRet (t : Nd) (w : World) (e : Ending) (w' : World) : Prop := e = .returned (.int .i64 (sizeN t : Int)) ∧ Below w.heap.size w w'
def psizeOk (t : Nd) : Prop := ∀ (w : World) (F : Nat → Prop) (x : NV), NdR w F x t → bkN t ≤ 900000000000 → Calls Tryd.prog 18 #[x.val] w (SzRet t w)
theorem psize_of (kind n : Int) (field text : List UInt8) (lo hi : Bd) (occ : List Int) (ks : List Nd) (ih : ∀ t ∈ ks, psizeOk t) : psizeOk (.mk kind field text n lo hi occ ks) := by
 intro w F x hx hbk
 obtain ⟨oa, ka, oc, kc, e, -, hO, hK⟩ := hx.open_
 rw [e]
 clear e hx x
 have hkl : ks.length ≤ 9223372036854775807 := by have h := Nat.le_trans hK.len.1 hK.len.2; unfold maxLen at h; omega
 have hol : occ.length ≤ 9223372036854775807 := by have h : occ.length ≤ maxLen := Nat.le_trans hO.2.1 hO.2.2.1; unfold maxLen at h; omega
 have HK := LH hK; have HO := LH hO
 have hb : bkNs ks ≤ 900000000000 := by rw [bkN] at hbk; omega
 have HIH := LH (fun t (ht : t ∈ ks) (W : World) (y : NV) (hy : NdR W F y t) => ih t ht W F y hy (Nat.le_trans (bkNs_mem ht) hb))
 have HSZ := LH (fun (j : Nat) => (show sizeNs (ks.take j) ≤ 900000000000 from Nat.le_trans (sizes_bk _) (Nat.le_trans (bkNs_take _ _) hb)))
 have HT := LH (show sizeN (.mk kind field text n lo hi occ ks) = 1 + sizeNs ks from by rw [sizeN])
 generalize hTT : Nd.mk kind field text n lo hi occ ks = T at *
 clear hO hK hbk hb ih hTT
 have HBX := LH ((Below.refl w.heap.size w).alloc (Nat.le_refl _) (.cells #[.int .i64 kind, .string (str field), .string (str text), .int .i64 n, .bool lo.open_, .bool lo.in_, .string (str lo.text), .bool hi.open_, .bool hi.in_, .string (str hi.text), .slice oa occ.length oc, .slice ka ks.length kc] 27))
 have HBK := LH (Blk.new w 27 #[.int .i64 kind, .string (str field), .string (str text), .int .i64 n, .bool lo.open_, .bool lo.in_, .string (str lo.text), .bool hi.open_, .bool hi.in_, .string (str hi.text), .slice oa occ.length oc, .slice ka ks.length kc])
 go_enter Tryd.func18, Tryd.ntmps18
 go_wp2
 generalize hw2 : (w.alloc (.cells #[.int .i64 kind, .string (str field), .string (str text), .int .i64 n, .bool lo.open_, .bool lo.in_, .string (str lo.text), .bool hi.open_, .bool hi.in_, .string (str hi.text), .slice oa occ.length oc, .slice ka ks.length kc] 27)) = w2 at *
 have HBK2 := LH HBK.out
 clear hw2
 go_loopw [3, 9] (fun sv iv wr => SzRel ks w2 sv iv wr) (fun _ iv _ => ks.length - (intOf iv).toNat)
 case atStart => exact ⟨0, Nat.zero_le _, rfl, rfl, Below.refl _ _⟩
 case round =>
  obtain ⟨j, hj, rfl, rfl, hb⟩ := hrel
  have HBR := LH hb
  have HBW := LH (HBX.out.trans (hb.mono HBX.out.size))
  clear hb
  have hs0 := HSZ.out j
  generalize hsj : 1 + sizeNs (ks.take j) = s at *
  have HS := LH hsj
  have hs1 : s ≤ 900000000001 := by omega
  clear hsj hs0
  by_cases hlt : j < ks.length
  ·obtain ⟨a, y, rfl, ⟨hab, q0, q1, q2, q3, q4, q5, q6, q7, q8, q9, q10, q11⟩, hy⟩ := (HK.out.belowW HBW.out).kid hlt
   have hih := HIH.out ks[j] (List.getElem_mem hlt)
   have HSN := LH (sizeNs_take hlt)
   have hs2 := HSZ.out (j + 1)
   rw [HSN.out] at hs2
   generalize ks[j] = t at *
   obtain ⟨kd3, fl3, tx3, xn3, ⟨la3, lb3, lc3⟩, ⟨ra3, rb3, rc3⟩, ⟨oa3, on3, oc3⟩, ⟨ka3, kn3, kc3⟩⟩ := y
   simp only [] at q0 q1 q2 q3 q4 q5 q6 q7 q8 q9 q10 q11
   have HBY := LH (show Below wr.heap.size wr (wr.alloc (.cells #[.int .i64 kd3, .string (str fl3), .string (str tx3), .int .i64 xn3, .bool la3, .bool lb3, .string (str lc3), .bool ra3, .bool rb3, .string (str rc3), .slice oa3 on3 oc3, .slice ka3 kn3 kc3] 27)) from (Below.refl _ _).alloc (Nat.le_refl _) _)
   have HC := LH (hih _ _ (hy.belowW HBY.out))
   unfold NV.val at HC
   simp only [] at HC
   have hs3 : sizeN t ≤ 900000000000 := by omega
   clear hy hih hs2
   go_wp2_with fail
   refine HC.out.mono ?_
   rintro e w3 ⟨rfl, hb3⟩
   have HB3 := LH (HBR.out.trans ((HBY.out.trans (hb3.mono HBY.out.size)).mono HBR.out.size))
   clear hb3
   go_wp2
   go_roundw
   case rel => exact ⟨j + 1, hlt, by go_num, by rw [HSN.out, ← Nat.add_assoc, HS.out]; go_num, HB3.out⟩
   case measure => simp [intOf]; omega
  ·have HE := LH (show s = sizeN T from by rw [HT.out, ← HS.out, List.take_of_length_le (by omega)])
   go_wp2
   go_ret
   exact ⟨ret_int15 (by rw [HE.out]), HBW.out⟩
theorem psize_any (t : Nd) : psizeOk t := nd_ind psize_of t
def rsizeOk (t : Nd) : Prop := ∀ (w : World) (F : Nat → Prop) (x : NV), NdR w F x t → bkN t ≤ 900000000000 → Calls Tryd.prog 30 #[x.val] w (SzRet t w)
theorem rsize_of (kind n : Int) (field text : List UInt8) (lo hi : Bd) (occ : List Int) (ks : List Nd) (ih : ∀ t ∈ ks, rsizeOk t) : rsizeOk (.mk kind field text n lo hi occ ks) := by
 intro w F x hx hbk
 obtain ⟨oa, ka, oc, kc, e, -, hO, hK⟩ := hx.open_
 rw [e]
 clear e hx x
 have hkl : ks.length ≤ 9223372036854775807 := by have h := Nat.le_trans hK.len.1 hK.len.2; unfold maxLen at h; omega
 have hol : occ.length ≤ 9223372036854775807 := by have h : occ.length ≤ maxLen := Nat.le_trans hO.2.1 hO.2.2.1; unfold maxLen at h; omega
 have HK := LH hK; have HO := LH hO
 have hb : bkNs ks ≤ 900000000000 := by rw [bkN] at hbk; omega
 have HIH := LH (fun t (ht : t ∈ ks) (W : World) (y : NV) (hy : NdR W F y t) => ih t ht W F y hy (Nat.le_trans (bkNs_mem ht) hb))
 have HSZ := LH (fun (j : Nat) => (show sizeNs (ks.take j) ≤ 900000000000 from Nat.le_trans (sizes_bk _) (Nat.le_trans (bkNs_take _ _) hb)))
 have HT := LH (show sizeN (.mk kind field text n lo hi occ ks) = 1 + sizeNs ks from by rw [sizeN])
 generalize hTT : Nd.mk kind field text n lo hi occ ks = T at *
 clear hO hK hbk hb ih hTT
 have HBX := LH ((Below.refl w.heap.size w).alloc (Nat.le_refl _) (.cells #[.int .i64 kind, .string (str field), .string (str text), .int .i64 n, .bool lo.open_, .bool lo.in_, .string (str lo.text), .bool hi.open_, .bool hi.in_, .string (str hi.text), .slice oa occ.length oc, .slice ka ks.length kc] 27))
 have HBK := LH (Blk.new w 27 #[.int .i64 kind, .string (str field), .string (str text), .int .i64 n, .bool lo.open_, .bool lo.in_, .string (str lo.text), .bool hi.open_, .bool hi.in_, .string (str hi.text), .slice oa occ.length oc, .slice ka ks.length kc])
 go_enter Tryd.func30, Tryd.ntmps30
 go_wp2
 generalize hw2 : (w.alloc (.cells #[.int .i64 kind, .string (str field), .string (str text), .int .i64 n, .bool lo.open_, .bool lo.in_, .string (str lo.text), .bool hi.open_, .bool hi.in_, .string (str hi.text), .slice oa occ.length oc, .slice ka ks.length kc] 27)) = w2 at *
 have HBK2 := LH HBK.out
 clear hw2
 go_loopw [3, 4] (fun sv iv wr => SzRel ks w2 sv iv wr) (fun _ iv _ => ks.length - (intOf iv).toNat)
 case atStart => exact ⟨0, Nat.zero_le _, rfl, rfl, Below.refl _ _⟩
 case round =>
  obtain ⟨j, hj, rfl, rfl, hb⟩ := hrel
  have HBR := LH hb
  have HBW := LH (HBX.out.trans (hb.mono HBX.out.size))
  clear hb
  have hs0 := HSZ.out j
  generalize hsj : 1 + sizeNs (ks.take j) = s at *
  have HS := LH hsj
  have hs1 : s ≤ 900000000001 := by omega
  clear hsj hs0
  have x11 := (HBK2.out.belowW HBR.out).cell 11
  simp only [List.getElem?_toArray, List.getElem?_cons_zero, List.getElem?_cons_succ] at x11
  by_cases hlt : j < ks.length
  ·obtain ⟨a, y, rfl, ⟨hab, q0, q1, q2, q3, q4, q5, q6, q7, q8, q9, q10, q11⟩, hy⟩ := (HK.out.belowW HBW.out).kid hlt
   have hih := HIH.out ks[j] (List.getElem_mem hlt)
   have HSN := LH (sizeNs_take hlt)
   have hs2 := HSZ.out (j + 1)
   rw [HSN.out] at hs2
   generalize ks[j] = t at *
   obtain ⟨kd3, fl3, tx3, xn3, ⟨la3, lb3, lc3⟩, ⟨ra3, rb3, rc3⟩, ⟨oa3, on3, oc3⟩, ⟨ka3, kn3, kc3⟩⟩ := y
   simp only [] at q0 q1 q2 q3 q4 q5 q6 q7 q8 q9 q10 q11
   have HBY := LH (Below.refl wr.heap.size wr)
   have HC := LH (hih _ _ hy)
   unfold NV.val at HC
   simp only [] at HC
   have hs3 : sizeN t ≤ 900000000000 := by omega
   clear hy hih hs2
   go_wp2_with fail
   refine HC.out.mono ?_
   rintro e w3 ⟨rfl, hb3⟩
   have HB3 := LH (HBR.out.trans ((HBY.out.trans (hb3.mono HBY.out.size)).mono HBR.out.size))
   clear hb3
   go_wp2
   go_roundw
   case rel => exact ⟨j + 1, hlt, by go_num, by rw [HSN.out, ← Nat.add_assoc, HS.out]; go_num, HB3.out⟩
   case measure => simp [intOf]; omega
  ·have HE := LH (show s = sizeN T from by rw [HT.out, ← HS.out, List.take_of_length_le (by omega)])
   go_wp2
   go_ret
   exact ⟨ret_int15 (by rw [HE.out]), HBW.out⟩
theorem rsize_any (t : Nd) : rsizeOk t := nd_ind rsize_of t
mutual
theorem left_lo : ∀ (t : Nd) (m : Int), 0 ≤ m → -(bkN t : Int) ≤ leftN t m
 | .mk _ f t _ lo hi occ ks, m, h => by
  have := lefts_lo ks (m - 1 - occ.length) (1 + occ.length) (by omega)
  rw [leftN, bkN]; omega
theorem lefts_lo : ∀ (l : List Nd) (m : Int) (c : Nat), -(c : Int) ≤ m → -((c + bkNs l : Nat) : Int) ≤ leftNs l m
 | [], m, c, h => by rw [leftNs, bkNs]; omega
 | k :: ks, m, c, h => by
  rw [leftNs, bkNs]
  by_cases hm : 0 ≤ m
  ·rw [if_pos hm]
   have h1 := left_lo k m hm
   have h2 := lefts_lo ks (leftN k m) (bkN k) h1
   omega
  ·rw [if_neg hm]; omega
end
theorem lefts_neg {m : Int} (h : m < 0) : ∀ l : List Nd, leftNs l m = m
 | [] => by rw [leftNs]
 | k :: ks => by rw [leftNs, if_neg (by omega)]
def LfRel (ks : List Nd) (tot : Int) (wb : World) (mv iv : Value) (wr : World) : Prop := ∃ (j : Nat) (m : Int), j ≤ ks.length ∧ iv = .int .i64 (j : Int) ∧ mv = .int .i64 m ∧ leftNs (ks.drop j) m = tot ∧ -20000000000000 ≤ m ∧ m ≤ 900000000000 ∧ Below wb.heap.size wb wr
def LfOk (t : Nd) : Prop := ∀ (w : World) (F : Nat → Prop) (x : NV) (m : Int), NdR w F x t → bkN t ≤ 900000000000 → 0 ≤ m → m ≤ 900000000000 → Calls Tryd.prog 29 #[x.val, .int .i64 m] w fun e w' => e = .returned (.int .i64 (leftN t m)) ∧ Below w.heap.size w w'
theorem left_of (kind n : Int) (field text : List UInt8) (lo hi : Bd) (occ : List Int) (ks : List Nd) (ih : ∀ t ∈ ks, LfOk t) : LfOk (.mk kind field text n lo hi occ ks) := by
 intro w F x m hx hbk hm0 hm1
 obtain ⟨oa, ka, oc, kc, e, -, hO, hK⟩ := hx.open_
 rw [e]
 clear e hx x
 have hkl : ks.length ≤ 9223372036854775807 := by have h := Nat.le_trans hK.len.1 hK.len.2; unfold maxLen at h; omega
 have hol : occ.length ≤ 9223372036854775807 := by have h : occ.length ≤ maxLen := Nat.le_trans hO.2.1 hO.2.2.1; unfold maxLen at h; omega
 have HK := LH hK; have HO := LH hO
 have hb : bkNs ks ≤ 900000000000 ∧ occ.length ≤ 900000000000 := by rw [bkN] at hbk; omega
 have HIH := LH (fun t (ht : t ∈ ks) (W : World) (y : NV) (m : Int) (hy : NdR W F y t) => ih t ht W F y m hy (Nat.le_trans (bkNs_mem ht) hb.1))
 have HLO := LH (fun t (ht : t ∈ ks) (m : Int) (h : 0 ≤ m) => (show -900000000000 ≤ leftN t m ∧ leftN t m ≤ m from by have := left_lo t m h; have := (left_eq t m).2.2; have := bkNs_mem ht; omega))
 have HT := LH (show leftN (.mk kind field text n lo hi occ ks) m = leftNs ks (m - 1 - occ.length) from by rw [leftN])
 have hob := hb.2
 generalize hTT : leftN (.mk kind field text n lo hi occ ks) m = T at *
 clear hO hK hbk hb ih hTT
 have HBX := LH ((Below.refl w.heap.size w).alloc (Nat.le_refl _) (.cells #[.int .i64 kind, .string (str field), .string (str text), .int .i64 n, .bool lo.open_, .bool lo.in_, .string (str lo.text), .bool hi.open_, .bool hi.in_, .string (str hi.text), .slice oa occ.length oc, .slice ka ks.length kc] 27))
 have HBK := LH (Blk.new w 27 #[.int .i64 kind, .string (str field), .string (str text), .int .i64 n, .bool lo.open_, .bool lo.in_, .string (str lo.text), .bool hi.open_, .bool hi.in_, .string (str hi.text), .slice oa occ.length oc, .slice ka ks.length kc])
 go_enter Tryd.func29, Tryd.ntmps29
 go_wp2
 generalize hw2 : (w.alloc (.cells #[.int .i64 kind, .string (str field), .string (str text), .int .i64 n, .bool lo.open_, .bool lo.in_, .string (str lo.text), .bool hi.open_, .bool hi.in_, .string (str hi.text), .slice oa occ.length oc, .slice ka ks.length kc] 27)) = w2 at *
 have HBK2 := LH HBK.out
 clear hw2
 go_loopw [1, 5] (fun mv iv wr => LfRel ks T w2 mv iv wr) (fun _ iv _ => ks.length - (intOf iv).toNat)
 case atStart => exact ⟨0, m - 1 - occ.length, Nat.zero_le _, rfl, rfl, HT.out.symm, by omega, by omega, Below.refl _ _⟩
 case round =>
  obtain ⟨j, r, hj, rfl, rfl, htot, hr0, hr1, hb⟩ := hrel
  have HBR := LH hb; have HTO := LH htot
  have HBW := LH (HBX.out.trans (hb.mono HBX.out.size))
  clear hb htot
  have x11 := (HBK2.out.belowW HBR.out).cell 11
  simp only [List.getElem?_toArray, List.getElem?_cons_zero, List.getElem?_cons_succ] at x11
  by_cases hlt : j < ks.length
  ·by_cases hr : 0 ≤ r
   ·obtain ⟨a, y, rfl, ⟨hab, q0, q1, q2, q3, q4, q5, q6, q7, q8, q9, q10, q11⟩, hy⟩ := (HK.out.belowW HBW.out).kid hlt
    have hih := HIH.out ks[j] (List.getElem_mem hlt)
    have hlo := HLO.out ks[j] (List.getElem_mem hlt) r hr
    have HDR := LH (show leftNs (ks.drop (j + 1)) (leftN ks[j] r) = T from by
     have h := HTO.out
     rw [List.drop_eq_getElem_cons hlt, leftNs, if_pos hr] at h
     exact h)
    generalize ks[j] = t at *
    obtain ⟨kd3, fl3, tx3, xn3, ⟨la3, lb3, lc3⟩, ⟨ra3, rb3, rc3⟩, ⟨oa3, on3, oc3⟩, ⟨ka3, kn3, kc3⟩⟩ := y
    simp only [] at q0 q1 q2 q3 q4 q5 q6 q7 q8 q9 q10 q11
    have HC := LH (hih _ _ r hy hr)
    unfold NV.val at HC
    simp only [] at HC
    generalize leftN t r = r2 at *
    have hlo1 := hlo.1; have hlo2 := hlo.2
    clear hy hih hlo
    go_wp2_with fail
    refine (HC.out hr1).mono ?_
    rintro e w3 ⟨rfl, hb3⟩
    have HB3 := LH (HBR.out.trans (hb3.mono HBR.out.size))
    clear hb3
    go_wp2
    go_roundw
    case rel => exact ⟨j + 1, r2, hlt, by go_num, rfl, HDR.out, by omega, by omega, HB3.out⟩
    case measure => simp [intOf]; omega
   ·have HE := LH (show r = T from by rw [← HTO.out, lefts_neg (by omega)])
    have hrn : ¬ (0 : Int) ≤ r := hr
    go_wp2
    go_ret
    exact ⟨ret_int15 HE.out, HBW.out⟩
  ·have HE := LH (show r = T from by rw [← HTO.out, List.drop_eq_nil_of_le (by omega), leftNs])
   go_wp2
   go_ret
   exact ⟨ret_int15 HE.out, HBW.out⟩
theorem left_any (t : Nd) : LfOk t := nd_ind left_of t
theorem few_any (t : Nd) (w : World) (F : Nat → Prop) (x : NV) (m : Nat) (hx : NdR w F x t) (hb : bkN t ≤ 900000000000) (hm : m ≤ 900000000000) :
  Calls Tryd.prog 10 #[x.val, .int .i64 (m : Int)] w fun e w' => e = .returned (.bool (decide (wtN t ≤ m))) ∧ Below w.heap.size w w' := by
 have HBX := LH ((Below.refl w.heap.size w).alloc (Nat.le_refl _) (.cells #[.int .i64 x.kind, .string (str x.field), .string (str x.text), .int .i64 x.n, .bool x.lo.open_, .bool x.lo.in_, .string (str x.lo.text), .bool x.hi.open_, .bool x.hi.in_, .string (str x.hi.text), .slice x.occ.a x.occ.n x.occ.c, .slice x.kids.a x.kids.n x.kids.c] 27))
 have HC := LH (left_any t _ F x (m : Int) (hx.belowW HBX.out) hb (by omega) (by omega))
 have HQ := LH (show decide (wtN t ≤ m) = decide (0 ≤ leftN t m) from by
  rw [Bool.eq_iff_iff, decide_eq_true_eq, decide_eq_true_eq, (left_eq t m).1]; omega)
 generalize leftN t m = r at *
 unfold NV.val at HC ⊢
 clear hx
 go_enter Tryd.func10, Tryd.ntmps10
 go_wp2_with fail
 refine HC.out.mono ?_
 rintro e w2 ⟨rfl, hb2⟩
 have HB2 := LH (HBX.out.trans (hb2.mono HBX.out.size))
 clear hb2
 go_wp2
 go_ret
 exact ⟨ret_bool HQ.out.symm, HB2.out⟩
end Go.Proofs.YthcldpminmhgkaaDoor
end
