/- Layer 4: the walk of the reference's Good. -/
import Derived.Test.YtdkalcecmdadeaaDoorGw
import Derived.Test.YtdkalcecmdadeaaDoorRck
import Derived.Test.YtdkalcecmdadeaaDoorPr
namespace Go.Proofs.YtdkalcecmdadeaaDoor
open Go.RowKit
set_option maxRecDepth 100000
set_option maxHeartbeats 1000000
set_option linter.unusedSimpArgs false
set_option linter.unusedVariables false

def numOr (r : Option Nat) : Int := match r with | none => 0 | some i => (i : Int) + 1
def RgRet (l : List Fd) (vs : List Vl) (w : World) (e : Ending) (w' : World) : Prop := e = .returned (.int .i64 (numOr (goodL l vs))) ∧ Below w.heap.size w w'
theorem rgRet_mk {l : List Fd} {vs : List Vl} {w w' : World} {r : Option Nat} {n : Int} (h : goodL l vs = r) (hv : n = numOr r) (hb : Below w.heap.size w w') : RgRet l vs w (.returned (.int .i64 n)) w' := by
  unfold RgRet; rw [h, hv]; exact ⟨rfl, hb⟩
def RgRel (w : World) (cb : Value) (l : List Fd) (vs : List Vl) (iv : Value) (wr : World) : Prop :=
  ∃ k : Nat, k ≤ vs.length ∧ iv = .int .i64 (k : Int) ∧ (∀ j (hj : j < vs.length), j < k → badV l vs[j] = none) ∧ wr.cell? ⟨w.heap.size, 0, none⟩ = some cb ∧ Below w.heap.size w wr
theorem rgood_any (fs : Value) (l : List Fd) (va : Value) (vs : List Vl) (w : World) (B : Nat) (hB : B ≤ w.heap.size) (h : RdL fdS w B fs l) (hv : RdL vlS w B va vs) (hvs : SmallVals vs) :
    Calls Tryd.prog 21 #[.agg #[fs], va] w (RgRet l vs w) := by
  obtain ⟨A, cap, rfl, hc, hc2⟩ := h.open_
  obtain ⟨A', cap', rfl, hc', hc2'⟩ := hv.open_
  unfold maxLen at hc2 hc2'
  have H := Lib.hid h; have HV := Lib.hid hv; have HVS := Lib.hid hvs
  clear h hv hvs
  go_enter Tryd.func21, Tryd.ntmps21
  go_wp2_with fail
  refine (rcheck_any _ l _ B (by rw [World.size_alloc]; omega) (H.out.alloc hB _)).mono ?_
  rintro e w1 ⟨he, hb1⟩
  have cb : w1.cell? ⟨w.heap.size, 0, none⟩ = some (.slice A l.length cap) := cellN hb1 rfl
  have hsz1 : w.heap.size < w1.heap.size := World.block_lt_of_cell? w1 ⟨w.heap.size, 0, none⟩ cb
  have HW1 := Lib.hid (((Below.refl _ _).alloc (Nat.le_refl _) _ : Below w.heap.size w (w.alloc (.cells #[.slice A l.length cap] 24))).trans (hb1.mono (by rw [World.size_alloc]; omega)))
  clear hb1
  cases hck : chkL l with
  | false =>
    rw [hck] at he
    simp only [Bool.false_eq_true, if_false] at he
    subst he
    have HG := Lib.hid (show goodL l vs = some 10 from by unfold goodL; rw [hck]; rfl)
    clear hck
    go_wp2
    go_ret
    exact rgRet_mk HG.out rfl HW1.out
  | true =>
    rw [hck] at he
    simp only [if_true] at he
    subst he
    obtain ⟨hl1, hl16⟩ := chk_len hck
    have HCK := Lib.hid hck
    clear hck
    by_cases h64 : 64 < vs.length
    · have HG := Lib.hid (show goodL l vs = some 2 from by unfold goodL; rw [HCK.out, if_pos rfl, if_pos h64])
      go_wp2
      go_ret
      exact rgRet_mk HG.out rfl HW1.out
    · have h64' : vs.length ≤ 64 := by omega
      have HGD := Lib.hid (show goodL l vs = vs.findSome? (badV l) from by unfold goodL; rw [HCK.out, if_pos rfl, if_neg h64])
      clear h64
      go_wp2
      go_loopw [23] (fun iv wr => RgRel w (.slice A l.length cap) l vs iv wr) (fun iv _ => vs.length - (intOf iv).toNat)
      case atStart => exact ⟨0, by omega, rfl, fun _ _ h => by omega, cb, HW1.out⟩
      case round =>
        obtain ⟨j, hj, rfl, hp, cbx, hbl⟩ := hrel
        have HP := Lib.hid hp
        have HB := Lib.hid hbl
        have HV2 := Lib.hid (HV.out.belowW hB hbl)
        have HF2 := Lib.hid (H.out.belowW hB hbl)
        have hszr : w.heap.size < wr.heap.size := World.block_lt_of_cell? wr ⟨w.heap.size, 0, none⟩ cbx
        clear hp hbl
        by_cases hlt2 : j < vs.length
        · obtain ⟨a', rfl, hab', d0, d1⟩ := at_vl HV2.out hlt2
          have hza' : (a'.add (j * 2)).block < wr.heap.size := by omega
          have HVJ := Lib.hid (HVS.out vs[j] (List.getElem_mem hlt2))
          have HTS := Lib.hid HVJ.out.2
          have HNXT : Hid (badV l vs[j] = none → ∀ i' (hi' : i' < vs.length), i' < j + 1 → badV l vs[i'] = none) := Lib.hid (fun hbv i' hi' hlt' => by
            rcases Nat.lt_or_ge i' j with g | g
            · exact HP.out i' hi' g
            · obtain rfl : i' = j := by omega
              exact hbv)
          go_wp2_with fail
          refine (rfind_any _ l vs[j].name _ B (by rw [World.size_alloc]; omega) (HF2.out.alloc (by omega) _)).mono ?_
          rintro e w2 ⟨rfl, hb2⟩
          have HB2 := Lib.hid ((HB.out.alloc (by omega) (.cells #[.string vs[j].name, .string vs[j].text] 51)).trans (hb2.mono (by rw [World.size_alloc]; omega)))
          have HF3 := Lib.hid (H.out.belowW hB HB2.out)
          have x1 := cellN hb2 (j := 1) rfl
          have cb2 := (hb2.cell (p := ⟨w.heap.size, 0, none⟩) (by rw [World.size_alloc]; exact Nat.lt_succ_of_lt hszr)).trans ((World.cell?_alloc_lt wr _ ⟨w.heap.size, 0, none⟩ hszr).trans cbx)
          have hsz2 : wr.heap.size < w2.heap.size := World.block_lt_of_cell? w2 ⟨wr.heap.size, 1, none⟩ x1
          clear hb2
          cases hfi : findTo l vs[j].name with
          | none =>
            have HR := Lib.hid (show goodL l vs = some 11 from by rw [HGD.out]; exact findSome_at hlt2 HP.out (by unfold badV; rw [hfi]))
            clear hfi
            simp only [Option.isSome_none, Option.getD_none]
            go_wp2
            go_ret
            exact rgRet_mk HR.out rfl HB2.out
          | some i =>
            have hil := find_lt hfi
            simp only [Option.isSome_some, Option.getD_some]
            by_cases h4 : 4096 < vs[j].text.size
            · have HR := Lib.hid (show goodL l vs = some 2 from by rw [HGD.out]; exact findSome_at hlt2 HP.out (by unfold badV; rw [hfi]; simp only []; rw [if_pos h4]))
              clear hfi
              go_wp2
              go_ret
              exact rgRet_mk HR.out rfl HB2.out
            · have h4' : vs[j].text.size ≤ 4096 := by omega
              have HBV := Lib.hid (show badV l vs[j] = if takesB l[i].kind vs[j].text then none else some 12 from by
                unfold badV; rw [hfi]; simp only []; rw [if_neg h4, List.getD_eq_getElem?_getD, List.getElem?_eq_getElem hil]; rfl)
              obtain ⟨a, rfl, hab, c0, c1, c2, c3, c4⟩ := at_fd HF3.out hil
              have hza : (a.add (i * 5)).block < w2.heap.size := by omega
              have hi16 : i < 16 := by omega
              clear hfi h4
              generalize hkd : l[i].kind = kd at *
              generalize htx : vs[j].text = tx at *
              by_cases q2 : kd = 2
              · subst q2
                have e3 : ((2 : Int) == 3) = false := by decide
                by_cases g0 : tx.size = 0
                · have HR := Lib.hid (show goodL l vs = some 12 from by rw [HGD.out]; exact findSome_at hlt2 HP.out (by rw [HBV.out, show takesB 2 tx = false from by unfold takesB; rw [if_pos rfl]; exact decide_eq_false (by omega)]; rfl))
                  have g0' : ((tx.size : Int) == 0) = true := by rw [g0]; rfl
                  clear g0
                  go_wp2
                  go_ret
                  exact rgRet_mk HR.out rfl HB2.out
                · have g0' : ((tx.size : Int) == 0) = false := by rw [beq_eq_false_iff_ne]; omega
                  by_cases g64 : 64 < tx.size
                  · have HR := Lib.hid (show goodL l vs = some 12 from by rw [HGD.out]; exact findSome_at hlt2 HP.out (by rw [HBV.out, show takesB 2 tx = false from by unfold takesB; rw [if_pos rfl]; exact decide_eq_false (by omega)]; rfl))
                    clear g0
                    go_wp2
                    go_ret
                    exact rgRet_mk HR.out rfl HB2.out
                  · have HN2 := Lib.hid (HNXT.out (by rw [HBV.out, show takesB 2 tx = true from by unfold takesB; rw [if_pos rfl]; exact decide_eq_true (by omega)]; rfl))
                    have g64' : (tx.size : Int) ≤ 64 := by omega
                    clear g0 g64
                    go_wp2_with fail
                    refine (refParse_any tx _ HTS.out).mono ?_
                    rintro e w3 ⟨rfl, rfl⟩
                    go_wp2
                    go_roundw
                    case rel => exact ⟨j + 1, by omega, by go_num, HN2.out, cb2, HB2.out⟩
                    case measure => simp [intOf]; omega
              · have e2 : (kd == 2) = false := beq_eq_false_iff_ne.2 q2
                by_cases q3 : kd = 3
                · have e3 : (kd == 3) = true := beq_iff_eq.2 q3
                  have HT := Lib.hid (show takesB kd tx = (pnum tx.data.toList).2 from by simp [takesB, q3])
                  clear q2 q3
                  cases hpn : (pnum tx.data.toList).2 with
                  | true =>
                    have HN2 := Lib.hid (HNXT.out (by rw [HBV.out, HT.out, hpn]; rfl))
                    have HPN := Lib.hid hpn
                    clear hpn
                    go_wp2_with fail
                    refine (refParse_any tx _ HTS.out).mono ?_
                    rintro e w3 ⟨rfl, rfl⟩
                    rw [HPN.out]
                    go_wp2
                    go_roundw
                    case rel => exact ⟨j + 1, by omega, by go_num, HN2.out, cb2, HB2.out⟩
                    case measure => simp [intOf]; omega
                  | false =>
                    have HR := Lib.hid (show goodL l vs = some 12 from by rw [HGD.out]; exact findSome_at hlt2 HP.out (by rw [HBV.out, HT.out, hpn]; rfl))
                    have HPN := Lib.hid hpn
                    clear hpn
                    go_wp2_with fail
                    refine (refParse_any tx _ HTS.out).mono ?_
                    rintro e w3 ⟨rfl, rfl⟩
                    rw [HPN.out]
                    go_wp2
                    go_ret
                    exact rgRet_mk HR.out rfl HB2.out
                · have e3 : (kd == 3) = false := beq_eq_false_iff_ne.2 q3
                  have HN2 := Lib.hid (HNXT.out (by rw [HBV.out, if_pos (by simp [takesB, q2, q3])]))
                  clear q2 q3
                  go_wp2_with fail
                  refine (refParse_any tx _ HTS.out).mono ?_
                  rintro e w3 ⟨rfl, rfl⟩
                  go_wp2
                  go_roundw
                  case rel => exact ⟨j + 1, by omega, by go_num, HN2.out, cb2, HB2.out⟩
                  case measure => simp [intOf]; omega
        · have HR := Lib.hid (show goodL l vs = none from by rw [HGD.out]; exact findSome_none (fun i hi => HP.out i hi (by omega)))
          go_wp2
          go_ret
          exact rgRet_mk HR.out rfl HB.out
end Go.Proofs.YtdkalcecmdadeaaDoor
