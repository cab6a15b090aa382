/- Layer 4: the walk of the law SchemaGoodOne. -/
import Derived.Test.YtdkalcecmdadeaaDoorGl
namespace Go.Proofs.YtdkalcecmdadeaaDoor
open Go.RowKit
set_option maxRecDepth 100000
set_option maxHeartbeats 1000000
set_option linter.unusedSimpArgs false
set_option linter.unusedVariables false

theorem one_good {l : List Fd} {vs : List Vl} (hc : chkL l = true) (v : Vl) : goodL l [v] = badV l v := by
  unfold goodL
  rw [hc, if_pos rfl, if_neg (by simp)]
  cases h : badV l v <;> simp [h]
def GoRel (w : World) (cb : Value) (l : List Fd) (vs : List Vl) (iv : Value) (wr : World) : Prop :=
  ∃ k : Nat, k ≤ vs.length ∧ iv = .int .i64 (k : Int) ∧ (∀ j (hj : j < vs.length), j < k → badV l vs[j] = none) ∧ wr.cell? ⟨w.heap.size, 0, none⟩ = some cb ∧ Below w.heap.size w wr
theorem goodOne_walk (w : World) (fs : Value) (l : List Fd) (va : Value) (vs : List Vl) (h : RdL fdS w w.heap.size fs l) (hn : SmallNames l) (hv : RdL vlS w w.heap.size va vs) (hvs : SmallVals vs) (ea : List Addr) (hE : ErrEnv w ea) :
    Calls Tryd.prog 7 #[.agg #[fs], va] w fun e w' => e = .returned (.bool true) ∧ Below w.heap.size w w' := by
  obtain ⟨A, cap, rfl, hc, hc2⟩ := h.open_
  obtain ⟨A', cap', rfl, hc', hc2'⟩ := hv.open_
  unfold maxLen at hc2'
  have H := Lib.hid h; have HE := Lib.hid hE; have HN := Lib.hid hn; have HV := Lib.hid hv; have HVS := Lib.hid hvs
  clear h hE hn hv hvs hc hc2
  go_enter Tryd.func7, Tryd.ntmps7
  go_wp2_with fail
  refine (lives_any _ ea (HE.out.below ((Below.refl _ _).alloc (Nat.le_refl _) _)).sch).mono ?_
  rintro e w1 ⟨rfl, hb1⟩
  have HW1 := Lib.hid (((Below.refl _ _).alloc (Nat.le_refl _) _ : Below w.heap.size w (w.alloc (.cells #[.slice A l.length cap] 24))).trans (hb1.mono (by rw [World.size_alloc]; omega)))
  have cb1 : w1.cell? ⟨w.heap.size, 0, none⟩ = some (.slice A l.length cap) := cellN hb1 rfl
  have cbz1 : w.heap.size < w1.heap.size := World.block_lt_of_cell? w1 ⟨w.heap.size, 0, none⟩ cb1
  clear hb1
  go_wp2_with fail
  refine (good_any _ l _ vs ea _ w.heap.size HW1.out.size (H.out.below HW1.out) (HV.out.below HW1.out) HN.out HVS.out (HE.out.below HW1.out)).mono ?_
  rintro e w2 ⟨rfl, hb2⟩
  have HW2 := Lib.hid (HW1.out.trans (hb2.mono HW1.out.size))
  have cb2 := (hb2.cell (p := ⟨w.heap.size, 0, none⟩) cbz1).trans cb1
  have cbz2 : w.heap.size < w2.heap.size := World.block_lt_of_cell? w2 ⟨w.heap.size, 0, none⟩ cb2
  clear hb2 cb1 cbz1
  have HXR := Lib.hid (show ∀ i, goodL l vs = some i → i < 24 from fun i hi => goodL_lt hi)
  go_wp2_with fail
  refine (check_any _ l ea _ w.heap.size HW2.out.size (H.out.below HW2.out) HN.out (HE.out.below HW2.out).sch).mono ?_
  rintro e w3 ⟨he, hb3⟩
  have HW3 := Lib.hid (HW2.out.trans (hb3.mono HW2.out.size))
  have cb3 := (hb3.cell (p := ⟨w.heap.size, 0, none⟩) cbz2).trans cb2
  have cbz3 : w.heap.size < w3.heap.size := World.block_lt_of_cell? w3 ⟨w.heap.size, 0, none⟩ cb3
  have HE3 := Lib.hid (HE.out.below HW3.out)
  have e10 : w3.cell? ⟨0, 0, none⟩ = some (errI ea 10) := HE3.out.cell 10 (by omega)
  have e2 : w3.cell? ⟨1, 0, none⟩ = some (errI ea 2) := HE3.out.cell 2 (by omega)
  clear hb3 cb2 cbz2
  cases hck : chkL l with
  | false =>
    rw [hck] at he
    simp only [Bool.false_eq_true, if_false] at he
    subst he
    have HG := Lib.hid (show errOr ea (goodL l vs) = errI ea 10 from by unfold goodL; rw [hck]; rfl)
    have k1 := fun W => errI_nnil ea 10 W
    have k2 := fun op x y W => errI_guard0 ea 10 op x y W
    have k3 := errI_same ea 10
    have k4 := errI_guard ea 10 10
    clear hck
    rw [HG.out]
    go_wp2
    go_ret
    exact ⟨rfl, HW3.out⟩
  | true =>
    rw [hck] at he
    simp only [if_true] at he
    subst he
    have HCK := Lib.hid hck
    clear hck
    by_cases h64 : 64 < vs.length
    · have HG := Lib.hid (show errOr ea (goodL l vs) = errI ea 2 from by unfold goodL; rw [HCK.out, if_pos rfl, if_pos h64]; rfl)
      have k3 := errI_same ea 2
      have k4 := errI_guard ea 2 2
      rw [HG.out]
      go_wp2
      go_ret
      exact ⟨rfl, HW3.out⟩
    · have h64' : vs.length ≤ 64 := by omega
      have HGD := Lib.hid (show goodL l vs = vs.findSome? (badV l) from by unfold goodL; rw [HCK.out, if_pos rfl, if_neg h64])
      clear h64 e10 e2
      go_wp2
      go_loopw [30] (fun iv wr => GoRel w (.slice A l.length cap) l vs iv wr) (fun iv _ => vs.length - (intOf iv).toNat)
      case atStart => exact ⟨0, by omega, rfl, fun _ _ h => by omega, cb3, HW3.out⟩
      case round =>
        obtain ⟨j, hj, rfl, hp, cbx, hbl⟩ := hrel
        have HP := Lib.hid hp
        have HB := Lib.hid hbl
        have HV2 := Lib.hid (HV.out.below hbl)
        have hszr : w.heap.size < wr.heap.size := World.block_lt_of_cell? wr ⟨w.heap.size, 0, none⟩ cbx
        clear hp hbl cb3
        by_cases hlt2 : j < vs.length
        · obtain ⟨a', rfl, hab', d0, d1⟩ := at_vl HV2.out hlt2
          have hza' : (a'.add (j * 2)).block < wr.heap.size := by omega
          have HVJ := Lib.hid (HVS.out vs[j] (List.getElem_mem hlt2))
          have HON := Lib.hid (one_good (vs := vs) HCK.out vs[j])
          have HBA := Lib.hid ((HB.out.alloc (by omega) (.cells #[.string vs[j].name, .string vs[j].text] 51)).alloc (by rw [World.size_alloc]; omega) (.cells #[.string vs[j].name, .string vs[j].text] 51))
          go_wp2_with fail
          refine (good_any _ l _ [vs[j]] ea _ (wr.heap.size + 2) (by rw [World.size_alloc, World.size_alloc]; omega) ((H.out.below HBA.out).more (by omega)) (by have h := RdL.of_own (own_val vs[j] (wr.alloc (.cells #[.string vs[j].name, .string vs[j].text] 51)) (Nat.le_refl _)); rw [World.size_alloc, World.size_alloc] at h; exact h) HN.out (fun v hv => by simp only [List.mem_singleton] at hv; subst hv; exact HVJ.out) (HE.out.below HBA.out)).mono ?_
          rintro e w4 ⟨he, hb4⟩
          rw [HON.out] at he
          have HB4 := Lib.hid (HBA.out.trans (hb4.mono (by rw [World.size_alloc, World.size_alloc]; omega)))
          have cb4 := (hb4.cell (p := ⟨w.heap.size, 0, none⟩) (by rw [World.size_alloc, World.size_alloc]; show w.heap.size < _; omega)).trans ((World.cell?_alloc_lt _ _ ⟨w.heap.size, 0, none⟩ (by rw [World.size_alloc]; show w.heap.size < _; omega)).trans ((World.cell?_alloc_lt wr _ ⟨w.heap.size, 0, none⟩ hszr).trans cbx))
          clear hb4
          cases hbv : badV l vs[j] with
          | none =>
            rw [hbv] at he
            have he' : e = .returned .nilIface := he
            clear he
            subst he'
            have HNX : Hid (∀ i' (hi' : i' < vs.length), i' < j + 1 → badV l vs[i'] = none) := Lib.hid (fun i' hi' hlt' => by
              rcases Nat.lt_or_ge i' j with g | g
              · exact HP.out i' hi' g
              · obtain rfl : i' = j := by omega
                exact hbv)
            clear hbv
            go_wp2
            go_roundw
            case rel => exact ⟨j + 1, by omega, by go_num, HNX.out, cb4, HB4.out⟩
            case measure => simp [intOf]; omega
          | some i =>
            rw [hbv] at he
            have he' : e = .returned (errI ea i) := he
            clear he
            subst he'
            have hi24 : i < 24 := by have := badV_lt hbv; omega
            have HG := Lib.hid (show errOr ea (goodL l vs) = errI ea i from by rw [HGD.out, findSome_at hlt2 HP.out hbv]; rfl)
            clear hbv
            have k1 := fun W => errI_nnil ea i W
            have k2 := fun op x y W => errI_guard0 ea i op x y W
            rw [HG.out]
            go_wp2_with fail
            refine (Num_any ea i hi24 _ (HE.out.below HB4.out)).mono ?_
            rintro e w5 ⟨rfl, rfl⟩
            go_wp2_with fail
            refine (Num_any ea i hi24 _ (HE.out.below HB4.out)).mono ?_
            rintro e w5 ⟨rfl, rfl⟩
            go_wp2
            go_ret
            refine ⟨?_, HB4.out⟩
            simp
        · have HG := Lib.hid (show errOr ea (goodL l vs) = .nilIface from by rw [HGD.out, findSome_none (fun i hi => HP.out i hi (by omega))]; rfl)
          rw [HG.out]
          go_wp2
          go_ret
          exact ⟨rfl, HB.out⟩
theorem schemaGoodOne_env {W : World} (h : laidMetH Tryd.prog Rows.schemaGoodOneUptoRow.laid W) : ∃ ea, ErrEnv W ea := by
  have h0 : laidMet Tryd.prog Rows.schemaGoodOneUptoRow.laid W := h
  exact errEnv_of h0 (by rfl)
theorem schemaGoodOne_walk (w : World) (fs : Value) (l : List Fd) (h : RdL fdS w w.heap.size fs l) (hn : SmallNames l) (va : Value) (vs : List Vl) (hv : RdL vlS w w.heap.size va vs) (hvs : SmallVals vs) (hE : ∃ ea, ErrEnv w ea) :
    Calls Tryd.prog 7 #[.agg #[fs], va] w fun e w' => e = .returned (.bool true) ∧ Below w.heap.size w w' := by
  obtain ⟨ea, hE⟩ := hE
  exact goodOne_walk w fs l va vs h hn hv hvs ea hE
end Go.Proofs.YtdkalcecmdadeaaDoor
