/- Layer 4: the walks of takes and Good. -/
import Derived.Test.YtdkalcecmdadeaaDoorGs
import Derived.Test.YtdkalcecmdadeaaDoorBlk
namespace Go.Proofs.YtdkalcecmdadeaaDoor
open Go.RowKit
set_option maxRecDepth 100000
set_option maxHeartbeats 1000000
set_option linter.unusedSimpArgs false
set_option linter.unusedVariables false

theorem takes_any (kd : Int) (t : ByteArray) (w : World) (ht : t.size ≤ maxLen) :
    Calls Tryd.prog 33 #[.int .i64 kd, .string t] w fun e w' => e = .returned (.bool (takesB kd t)) ∧ w = w' := by
  have hem : (t.toList == []) = decide (t.size = 0) := by
    rw [ba_toList, Bool.eq_iff_iff]
    simp only [beq_iff_eq, decide_eq_true_eq]
    constructor
    · intro h; rw [ba_size, h]; rfl
    · intro h; rw [ba_size] at h; exact List.eq_nil_of_length_eq_zero h
  have hem2 : t.toList.isEmpty = decide (t.size = 0) := by
    rw [← hem, Bool.eq_iff_iff]; simp
  by_cases h2 : kd = 2
  · subst h2
    by_cases h0 : t.size = 0
    · have HN := Lib.hid (show takesB 2 t = false from by simp [takesB, h0])
      rw [decide_eq_true h0] at hem hem2
      clear h0
      go_enter Tryd.func33, Tryd.ntmps33
      go_wp2
      go_ret
      exact ⟨by rw [HN.out]; rfl, rfl⟩
    · have hp : 1 ≤ t.size := by omega
      have HN := Lib.hid (show takesB 2 t = decide (t.size ≤ 64) from by simp [takesB, h0])
      rw [decide_eq_false h0] at hem hem2
      clear h0
      by_cases h64 : t.size ≤ 64
      · rw [decide_eq_true h64] at HN
        have g64 : (t.size : Int) ≤ 64 := by omega
        clear h64
        go_enter Tryd.func33, Tryd.ntmps33
        go_wp2
        go_ret
        exact ⟨by rw [HN.out]; rfl, rfl⟩
      · rw [decide_eq_false h64] at HN
        have g64 : 64 < (t.size : Int) := by omega
        have d64 : decide ((t.size : Int) ≤ 64) = false := decide_eq_false (by omega)
        clear h64
        go_enter Tryd.func33, Tryd.ntmps33
        go_wp2
        go_ret
        exact ⟨by rw [HN.out]; rfl, rfl⟩
  · have e2 : (kd == 2) = false := beq_eq_false_iff_ne.2 h2
    by_cases h3 : kd = 3
    · have HN := Lib.hid (show takesB kd t = (pnum t.data.toList).2 from by simp [takesB, h3])
      have e3 : (kd == 3) = true := beq_iff_eq.2 h3
      clear h3 h2 hem hem2
      go_enter Tryd.func33, Tryd.ntmps33
      go_wp2_with fail
      refine (parse_any t _ ht).mono ?_
      rintro e w' ⟨rfl, rfl⟩
      go_wp2
      go_ret
      exact ⟨by rw [HN.out]; rfl, rfl⟩
    · have HN := Lib.hid (show takesB kd t = true from by simp [takesB, h2, h3])
      have e3 : (kd == 3) = false := beq_eq_false_iff_ne.2 h3
      clear h3 h2 hem hem2
      go_enter Tryd.func33, Tryd.ntmps33
      go_wp2
      go_ret
      exact ⟨by rw [HN.out]; rfl, rfl⟩
def errOr (ea : List Addr) (r : Option Nat) : Value := match r with | none => .nilIface | some i => errI ea i
def GoodRet (ea : List Addr) (l : List Fd) (vs : List Vl) (w : World) (e : Ending) (w' : World) : Prop := e = .returned (errOr ea (goodL l vs)) ∧ Below w.heap.size w w'
theorem goodRet_mk {ea : List Addr} {l : List Fd} {vs : List Vl} {w w' : World} {r : Option Nat} {v : Value} (h : goodL l vs = r) (hv : v = errOr ea r) (hb : Below w.heap.size w w') : GoodRet ea l vs w (.returned v) w' := by
  unfold GoodRet; rw [h, hv]; exact ⟨rfl, hb⟩
/-- What the world holds from the second loop on. -/
structure GEnv (w : World) (ea : List Addr) (cb : Value) (B0 : Nat) (l : List Fd) (n : Nat) (wx : World) : Prop where
  box : wx.cell? ⟨w.heap.size, 0, none⟩ = some cb
  map : MapSI wx B0 n (numTo l n)
  bel : Below w.heap.size w wx
def GRel1 (w : World) (ea : List Addr) (cb : Value) (B0 : Nat) (l : List Fd) (iv : Value) (wr : World) : Prop := ∃ k : Nat, k ≤ l.length ∧ iv = .int .i64 (k : Int) ∧ GEnv w ea cb B0 l k wr
def GRel2 (w : World) (ea : List Addr) (cb : Value) (B0 : Nat) (l : List Fd) (vs : List Vl) (iv : Value) (wr : World) : Prop :=
  ∃ k : Nat, k ≤ vs.length ∧ iv = .int .i64 (k : Int) ∧ (∀ j (hj : j < vs.length), j < k → badV l vs[j] = none) ∧ GEnv w ea cb B0 l l.length wr
theorem GEnv.below {w wx wy : World} {ea : List Addr} {cb : Value} {B0 n : Nat} {l : List Fd} (h : GEnv w ea cb B0 l n wx) (hb : Below wx.heap.size wx wy) : GEnv w ea cb B0 l n wy :=
  ⟨(hb.cell (p := ⟨w.heap.size, 0, none⟩) (World.block_lt_of_cell? wx ⟨w.heap.size, 0, none⟩ h.box)).trans h.box, h.map.below hb, h.bel.trans (hb.mono h.bel.size)⟩
theorem good_any (fs : Value) (l : List Fd) (va : Value) (vs : List Vl) (ea : List Addr) (w : World) (B : Nat) (hB : B ≤ w.heap.size) (h : RdL fdS w B fs l) (hv : RdL vlS w B va vs) (hn : SmallNames l) (hvs : SmallVals vs) (hE : ErrEnv w ea) :
    Calls Tryd.prog 20 #[.agg #[fs], va] w (GoodRet ea l vs w) := by
  obtain ⟨A, cap, rfl, hc, hc2⟩ := h.open_
  obtain ⟨A', cap', rfl, hc', hc2'⟩ := hv.open_
  unfold maxLen at hc2 hc2'
  have H := Lib.hid h; have HV := Lib.hid hv; have HN := Lib.hid hn; have HVS := Lib.hid hvs; have HE := Lib.hid hE
  clear h hv hn hvs hE
  go_enter Tryd.func20, Tryd.ntmps20
  go_wp2_with fail
  refine (check_any _ l ea _ B (by rw [World.size_alloc]; omega) (H.out.alloc hB _) HN.out (HE.out.below ((Below.refl _ _).alloc (Nat.le_refl _) _)).sch).mono ?_
  rintro e w1 ⟨he, hb1⟩
  have cb : w1.cell? ⟨w.heap.size, 0, none⟩ = some (.slice A l.length cap) := cellN hb1 rfl
  have hsz1 : w.heap.size < w1.heap.size := World.block_lt_of_cell? w1 ⟨w.heap.size, 0, none⟩ cb
  have HW1 := Lib.hid (((Below.refl _ _).alloc (Nat.le_refl _) _ : Below w.heap.size w (w.alloc (.cells #[.slice A l.length cap] 24))).trans (hb1.mono (by rw [World.size_alloc]; omega)))
  have HE1 := Lib.hid (HE.out.below HW1.out)
  clear hb1
  have k1 := fun W => errI_nnil ea 10 W
  have k2 := fun op x y W => errI_guard0 ea 10 op x y W
  cases hck : chkL l with
  | false =>
    rw [hck] at he
    simp only [Bool.false_eq_true, if_false] at he
    subst he
    have HG := Lib.hid (show goodL l vs = some 10 from by unfold goodL; rw [hck]; rfl)
    clear hck
    go_wp2
    go_ret
    exact goodRet_mk HG.out rfl HW1.out
  | true =>
    rw [hck] at he
    simp only [if_true] at he
    subst he
    obtain ⟨hl1, hl16⟩ := chk_len hck
    have HCK := Lib.hid hck
    clear hck
    by_cases h64 : 64 < vs.length
    · have HG := Lib.hid (show goodL l vs = some 2 from by unfold goodL; rw [HCK.out, if_pos rfl, if_pos h64])
      have c2 : w1.cell? ⟨1, 0, none⟩ = some (errI ea 2) := HE1.out.cell 2 (by omega)
      go_wp2
      go_ret
      exact goodRet_mk HG.out rfl HW1.out
    · have hmk := fun (W : World) => run_makeMap_hint (P := Tryd.prog) 62 9 3 .i64 (l.length : Int) Tryd.underlying62 W
      have h64' : vs.length ≤ 64 := by omega
      have HGD := Lib.hid (show goodL l vs = vs.findSome? (badV l) from by unfold goodL; rw [HCK.out, if_pos rfl, if_neg h64])
      clear h64
      go_wp2
      go_loopw [29] (fun iv wr => GRel1 w ea (.slice A l.length cap) w1.heap.size l iv wr) (fun iv _ => l.length - (intOf iv).toNat)
      case atStart => exact ⟨0, by omega, rfl, (World.cell?_alloc_lt w1 _ ⟨w.heap.size, 0, none⟩ hsz1).trans cb, by have h := MapSI.made w1; exact h, HW1.out.alloc HW1.out.size _⟩
      case round =>
        obtain ⟨wo, rfl⟩ : ∃ wo : World, wo = wr := ⟨_, rfl⟩
        obtain ⟨k, hk, rfl, hg⟩ := hrel
        have HG := Lib.hid hg
        have HF := Lib.hid (H.out.belowW hB hg.bel)
        have hszo : w.heap.size ≤ wo.heap.size := hg.bel.size
        clear hg
        by_cases hlt : k < l.length
        · obtain ⟨a, rfl, hab, c0, c1, c2, c3, c4⟩ := at_fd HF.out hlt
          have hza : (a.add (k * 5)).block < wo.heap.size := by omega
          have HNS := Lib.hid (HN.out l[k] (List.getElem_mem hlt))
          have HKW := Lib.hid (lit_small k (by omega))
          have HGA := Lib.hid (HG.out.below ((Below.refl wo.heap.size wo).alloc (Nat.le_refl _) (.cells #[.string l[k].name, .int .i64 l[k].kind, .bool l[k].fold, .bool l[k].stop, .bool l[k].stem] 34)))
          have HKM : Hid (k < maxLen) := Lib.hid (by unfold maxLen; omega)
          have HNM := Lib.hid (funext (numTo_succ hlt (chk_dup HCK.out hlt)))
          go_wp2_with (at_mapUpdate; refine HGA.out.map.store rfl _ _ _ rfl l[k].name (k : Int) rfl rfl rfl HNS.out HKM.out HKW.out ?_; intro w3 hm3 hg3; have HM3 := Lib.hid hm3; have HG3 := Lib.hid hg3; clear hm3 hg3)
          go_roundw
          case rel =>
            refine ⟨k + 1, by omega, by go_num, ?_, ?_, below_grown HGA.out.bel HG3.out (by omega)⟩
            · have h := HGA.out.box
              rw [← h]
              exact World.cell?_of_block (HG3.out.block w.heap.size (World.block_lt_of_cell? _ ⟨w.heap.size, 0, none⟩ h) (fun e => by injection e; omega))
            · have h := HM3.out
              rw [HNM.out] at h; exact h
          case measure => simp [intOf]; omega
        · obtain rfl : k = l.length := by omega
          go_wp2
          go_loopw [41] (fun iv wr => GRel2 w ea (.slice A l.length cap) w1.heap.size l vs iv wr) (fun iv _ => vs.length - (intOf iv).toNat)
          case atStart => exact ⟨0, by omega, rfl, fun _ _ h => by omega, HG.out⟩
          case round =>
            obtain ⟨j, hj, rfl, hp, hg2⟩ := hrel
            have HP := Lib.hid hp
            have HG2 := Lib.hid hg2
            have HV2 := Lib.hid (HV.out.belowW hB hg2.bel)
            have HF2 := Lib.hid (H.out.belowW hB hg2.bel)
            have hszr : w.heap.size < wr.heap.size := World.block_lt_of_cell? wr ⟨w.heap.size, 0, none⟩ hg2.box
            have cbx := hg2.box
            have HEr := Lib.hid (HE.out.below hg2.bel)
            have e2 : wr.cell? ⟨1, 0, none⟩ = some (errI ea 2) := HEr.out.cell 2 (by omega)
            have e11 : wr.cell? ⟨11, 0, none⟩ = some (errI ea 11) := HEr.out.cell 11 (by omega)
            have e12 : wr.cell? ⟨12, 0, none⟩ = some (errI ea 12) := HEr.out.cell 12 (by omega)
            have z2 := World.block_lt_of_cell? wr ⟨1, 0, none⟩ e2
            have z11 := World.block_lt_of_cell? wr ⟨11, 0, none⟩ e11
            have z12 := World.block_lt_of_cell? wr ⟨12, 0, none⟩ e12
            clear hp hg2 HF HG
            by_cases hlt2 : j < vs.length
            · obtain ⟨a', rfl, hab', d0, d1⟩ := at_vl HV2.out hlt2
              have hza' : (a'.add (j * 2)).block < wr.heap.size := by omega
              have HVJ := Lib.hid (HVS.out vs[j] (List.getElem_mem hlt2))
              have HNS := Lib.hid HVJ.out.1
              have HTS := Lib.hid HVJ.out.2
              have HGA := Lib.hid (HG2.out.below ((Below.refl wr.heap.size wr).alloc (Nat.le_refl _) (.cells #[.string vs[j].name, .string vs[j].text] 51)))
              have HNA := Lib.hid (numTo_all (l := l) vs[j].name)
              cases hfi : findTo l vs[j].name with
              | none =>
                have HR := Lib.hid (show goodL l vs = some 11 from by rw [HGD.out]; exact findSome_at hlt2 HP.out (by unfold badV; rw [hfi]))
                rw [hfi] at HNA
                clear hfi
                go_wp2_with (at_lookup; refine HGA.out.map.look rfl _ _ rfl vs[j].name rfl rfl HNS.out ?_; rw [HNA.out]; simp only [Option.map_none, Option.isSome_none, Option.getD_none])
                go_ret
                exact goodRet_mk HR.out rfl HGA.out.bel
              | some i =>
                have hil := find_lt hfi
                rw [hfi] at HNA
                by_cases h4 : 4096 < vs[j].text.size
                · have HR := Lib.hid (show goodL l vs = some 2 from by rw [HGD.out]; exact findSome_at hlt2 HP.out (by unfold badV; rw [hfi]; simp only []; rw [if_pos h4]))
                  clear hfi
                  go_wp2_with (at_lookup; refine HGA.out.map.look rfl _ _ rfl vs[j].name rfl rfl HNS.out ?_; rw [HNA.out]; simp only [Option.map_some, Option.isSome_some, Option.getD_some])
                  go_ret
                  exact goodRet_mk HR.out rfl HGA.out.bel
                · have h4' : vs[j].text.size ≤ 4096 := by omega
                  have HBV := Lib.hid (show badV l vs[j] = if takesB l[i].kind vs[j].text then none else some 12 from by
                    unfold badV; rw [hfi]; simp only []; rw [if_neg h4, List.getD_eq_getElem?_getD, List.getElem?_eq_getElem hil]; rfl)
                  obtain ⟨a, rfl, hab, c0, c1, c2, c3, c4⟩ := at_fd HF2.out hil
                  have hza : (a.add (i * 5)).block < wr.heap.size := by omega
                  have hi16 : i < 16 := by omega
                  clear hfi h4
                  cases htk : takesB l[i].kind vs[j].text with
                  | true =>
                    rw [htk] at HBV
                    have HTK := Lib.hid htk
                    clear htk
                    have HQ : Hid (∀ W, Calls Tryd.prog 33 #[.int .i64 l[i].kind, .string vs[j].text] W fun e W' => e = .returned (.bool true) ∧ W' = W) := Lib.hid (fun W => (takes_any _ _ W HTS.out).mono fun e W' ⟨h1, h2⟩ => ⟨by rw [h1, HTK.out], h2.symm⟩)
                    go_wp2_with (at_lookup; refine HGA.out.map.look rfl _ _ rfl vs[j].name rfl rfl HNS.out ?_; rw [HNA.out]; simp only [Option.map_some, Option.isSome_some, Option.getD_some])
                    go_quiet ((go_at_call 33; exact Calls.quiet_of_same (HQ.out _)))
                    go_wp2
                    go_roundw
                    case rel => exact ⟨j + 1, by omega, by go_num, fun i' hi' hlt' => by
                      rcases Nat.lt_or_ge i' j with g | g
                      · exact HP.out i' hi' g
                      · obtain rfl : i' = j := by omega
                        rw [HBV.out]; rfl, HGA.out.below (below_drewN (Below.refl _ _) _)⟩
                    case measure => simp [intOf]; omega
                  | false =>
                    rw [htk] at HBV
                    have HTK := Lib.hid htk
                    clear htk
                    have HR := Lib.hid (show goodL l vs = some 12 from by rw [HGD.out]; exact findSome_at hlt2 HP.out HBV.out)
                    have HQ : Hid (∀ W, Calls Tryd.prog 33 #[.int .i64 l[i].kind, .string vs[j].text] W fun e W' => e = .returned (.bool false) ∧ W' = W) := Lib.hid (fun W => (takes_any _ _ W HTS.out).mono fun e W' ⟨h1, h2⟩ => ⟨by rw [h1, HTK.out], h2.symm⟩)
                    go_wp2_with (at_lookup; refine HGA.out.map.look rfl _ _ rfl vs[j].name rfl rfl HNS.out ?_; rw [HNA.out]; simp only [Option.map_some, Option.isSome_some, Option.getD_some])
                    go_quiet ((go_at_call 33; exact Calls.quiet_of_same (HQ.out _)))
                    go_wp2
                    go_ret
                    exact goodRet_mk HR.out rfl (below_drewN HGA.out.bel _)
            · have HR := Lib.hid (show goodL l vs = none from by rw [HGD.out]; exact findSome_none (fun i hi => HP.out i hi (by omega)))
              go_wp2
              go_ret
              exact goodRet_mk HR.out rfl HG2.out.bel
end Go.Proofs.YtdkalcecmdadeaaDoor
