/- Layer 4: the walk of the law SchemaBytes. -/
import Derived.Test.YtdkalcecmdadeaaDoorRf
import Derived.Test.YtdkalcecmdadeaaDoorRn
import Derived.Test.YtdkalcecmdadeaaDoorRc
import Derived.Test.YtdkalcecmdadeaaDoorSl
import Derived.Test.YtdkalcecmdadeaaDoorOb
namespace Go.Proofs.YtdkalcecmdadeaaDoor
open Go.RowKit
set_option maxRecDepth 100000
set_option maxHeartbeats 1000000
set_option linter.unusedSimpArgs false
set_option linter.unusedVariables false

theorem bytes_walk (w : World) (fs : Value) (l : List Fd) (bv : Value) (m : List UInt8) (hm : m.length ≤ 10000000) (h : RdL fdS w w.heap.size fs l) (hn : SmallNames l) (hbv : RdL byteS w w.heap.size bv m) (ea : List Addr) (hE : ErrEnv w ea) :
    Calls Tryd.prog 8 #[.agg #[fs], bv] w fun e w' => e = .returned (.bool true) ∧ Below w.heap.size w w' := by
  obtain ⟨A, cap, rfl, hc, hc2⟩ := h.open_
  obtain ⟨bA, bcap, rfl, hbc, hbc2⟩ := hbv.open_
  have H := Lib.hid h; have HE := Lib.hid hE; have HN := Lib.hid hn; have HM := Lib.hid hbv
  clear h hE hn hc hc2 hbv hbc hbc2
  go_enter Tryd.func8, Tryd.ntmps8
  go_wp2_with fail
  refine (lives_any _ ea (HE.out.below ((Below.refl _ _).alloc (Nat.le_refl _) _)).sch).mono ?_
  rintro e w1 ⟨rfl, hb1⟩
  have HW1 := Lib.hid (((Below.refl _ _).alloc (Nat.le_refl _) _ : Below w.heap.size w (w.alloc (.cells #[.slice A l.length cap] 24))).trans (hb1.mono (by rw [World.size_alloc]; omega)))
  have cb1 : w1.cell? ⟨w.heap.size, 0, none⟩ = some (.slice A l.length cap) := cellN hb1 rfl
  have cbz1 : w.heap.size < w1.heap.size := World.block_lt_of_cell? w1 ⟨w.heap.size, 0, none⟩ cb1
  clear hb1
  go_wp2_with fail
  refine (encode_any _ l ea _ w.heap.size HW1.out.size (H.out.below HW1.out) HN.out (HE.out.below HW1.out).sch).mono ?_
  rintro e w2 ⟨cv, he, hcv, hb2⟩
  have HW2 := Lib.hid (HW1.out.trans (hb2.mono HW1.out.size))
  have cb2 := (hb2.cell (p := ⟨w.heap.size, 0, none⟩) cbz1).trans cb1
  have cbz2 : w.heap.size < w2.heap.size := World.block_lt_of_cell? w2 ⟨w.heap.size, 0, none⟩ cb2
  have HCV := Lib.hid hcv
  clear hb2 cb1 cbz1 hcv
  obtain ⟨B0, hB0⟩ : ∃ B0, B0 = (if chkL l then encL l else []) := ⟨_, rfl⟩
  rw [← hB0] at HCV
  obtain ⟨ev, fv, HT⟩ : ∃ (ev : Value) (fv : Int), Hid ((if chkL l then Value.nilIface else errI ea 10) = ev ∧ (if chkL l then Value.int .i64 0 else .int .i64 11) = .int .i64 fv ∧
      ∀ W, ErrEnv W ea → Calls Tryd.prog 10 #[ev] W fun e w' => e = .returned (.int .i64 fv) ∧ W = w') := by
    cases chkL l
    · exact ⟨errI ea 10, 11, Lib.hid ⟨rfl, rfl, fun W hW => Num_any ea 10 (by omega) W hW⟩⟩
    · exact ⟨.nilIface, 0, Lib.hid ⟨rfl, rfl, fun W _ => Num_nil W⟩⟩
  rw [HT.out.1] at he
  subst he
  obtain ⟨cA, cn, ccap, rfl⟩ := ownB_any HCV.out
  go_wp2_with fail
  refine (rencode_any _ l _ w.heap.size HW2.out.size (H.out.below HW2.out)).mono ?_
  rintro e w3 ⟨dv, he, hdv, hb3⟩
  have HW3 := Lib.hid (HW2.out.trans (hb3.mono HW2.out.size))
  rw [← hB0] at hdv
  have HDV := Lib.hid hdv
  have HCV3 := Lib.hid (HCV.out.below hb3)
  clear hb3 cb2 cbz2 hdv hB0
  rw [HT.out.2.1] at he
  subst he
  obtain ⟨dA, dn, dcap, rfl⟩ := ownB_any HDV.out
  have q1 := HCV3.out.conv
  have q2 := HDV.out.conv
  have hbq : ((str B0).toList == (str B0).toList) = true := beq_self_eq_true _
  go_wp2_with fail
  refine (HT.out.2.2 _ (HE.out.below HW3.out)).mono ?_
  rintro e w3' ⟨rfl, rfl⟩
  clear q1 q2 hbq
  go_wp2_with fail
  refine (Decode_any (.slice bA m.length bcap) m _ ea (HM.out.belowW (Nat.le_refl _) HW3.out |>.more HW3.out.size) (by omega) (HE.out.below HW3.out)).mono ?_
  rintro e w4 ⟨hb4, hd⟩
  have HW4 := Lib.hid (HW3.out.trans (hb4.mono HW3.out.size))
  clear hb4
  obtain ⟨pv, gv, hvn, fsl, HR⟩ : ∃ (pv : Value) (gv : Value) (hvn : Int) (fsl : List Fd), Hid (e = .returned (.tuple #[.agg #[pv], gv]) ∧ RdL fdS w4 w4.heap.size pv fsl ∧ (∀ W, ErrEnv W ea → Calls Tryd.prog 10 #[gv] W fun e w' => e = .returned (.int .i64 hvn) ∧ W = w') ∧
      ∀ (wq w5 : World) (e' : Ending), DecRet badN (.int .i64 0) m wq e' w5 → ∃ qv, e' = .returned (.tuple #[.agg #[qv], .int .i64 hvn]) ∧ RdL fdS w5 w5.heap.size qv fsl ∧ Below wq.heap.size wq w5) := by
    cases hp : decS m with
    | error i =>
      rw [hp] at hd
      obtain ⟨hd1, hi⟩ := hd
      refine ⟨.slice none 0 0, errI ea i, (i : Int) + 1, [], Lib.hid ⟨hd1, RdL.nil _ _ _, fun W hW => Num_any ea i hi W hW, fun wq w5 e' hr => ?_⟩⟩
      obtain ⟨hb, hr⟩ := hr
      rw [hp] at hr
      exact ⟨_, hr.1, RdL.nil _ _ _, hb⟩
    | ok fl =>
      rw [hp] at hd
      obtain ⟨v, hv, ho⟩ := hd
      refine ⟨v, .nilIface, 0, fl, Lib.hid ⟨hv, RdL.of_own ho, fun W _ => Num_nil W, fun wq w5 e' hr => ?_⟩⟩
      obtain ⟨hb, hr⟩ := hr
      rw [hp] at hr
      obtain ⟨v', hv', ho'⟩ := hr
      exact ⟨v', hv', RdL.of_own ho', hb⟩
  clear hd
  obtain rfl := HR.out.1
  obtain ⟨pA, pcap, hpv, -, -⟩ := HR.out.2.1.open_
  subst hpv
  have hb4a : Below w4.heap.size w4 (w4.alloc (.cells #[.slice pA fsl.length pcap] 24)) := (Below.refl _ _).alloc (Nat.le_refl _) _
  go_wp2_with fail
  refine (rdecode_any (.slice bA m.length bcap) m _ (HM.out.below (HW4.out.trans (hb4a.mono HW4.out.size)) |>.more (HW4.out.trans (hb4a.mono HW4.out.size)).size) (by omega)).mono ?_
  rintro e w5 hr
  obtain ⟨qv, rfl, hq, hb5⟩ := HR.out.2.2.2 _ _ _ hr
  obtain ⟨qA, qcap, hqv, -, -⟩ := hq.open_
  subst hqv
  have HW5 := Lib.hid ((HW4.out.alloc HW4.out.size (.cells #[.slice pA fsl.length pcap] 24)).trans (hb5.mono (by rw [World.size_alloc]; have := HW4.out.size; omega)))
  have xp : w5.cell? ⟨w4.heap.size, 0, none⟩ = some (.slice pA fsl.length pcap) := cellN hb5 rfl
  have xpz : w4.heap.size < w5.heap.size := World.block_lt_of_cell? w5 ⟨w4.heap.size, 0, none⟩ xp
  have HPV := Lib.hid (HR.out.2.1.belowW (Nat.le_refl _) (((Below.refl _ _).alloc (Nat.le_refl _) (.cells #[.slice pA fsl.length pcap] 24)).trans (hb5.mono (by rw [World.size_alloc]; omega))))
  have HQV := Lib.hid hq
  clear hr hq hb5 hb4a
  go_wp2_with fail
  refine (rsame_any _ _ fsl _ w4.heap.size w5.heap.size (by rw [World.size_alloc]; omega) (by rw [World.size_alloc]; omega) (HPV.out.alloc (by omega) _) (HQV.out.alloc (Nat.le_refl _) _)).mono ?_
  rintro e w6 ⟨rfl, hb6⟩
  have HW6 := Lib.hid ((HW5.out.alloc HW5.out.size (.cells #[.slice qA fsl.length qcap] 24)).trans (hb6.mono (by rw [World.size_alloc]; have := HW5.out.size; omega)))
  clear hb6
  go_wp2_with fail
  refine (HR.out.2.2.1 _ (HE.out.below HW6.out)).mono ?_
  rintro e w7 ⟨rfl, rfl⟩
  go_wp2
  go_ret
  refine ⟨?_, HW6.out⟩
  simp
theorem schemaBytes_env {W : World} (h : laidMetH Tryd.prog Rows.schemaBytesUptoRow.laid W) : ∃ ea, ErrEnv W ea := by
  have h0 : laidMet Tryd.prog Rows.schemaBytesUptoRow.laid W := h
  exact errEnv_of h0 (by rfl)
theorem schemaBytes_walk (w : World) (fs : Value) (l : List Fd) (h : RdL fdS w w.heap.size fs l) (hn : SmallNames l) (bv : Value) (m : List UInt8) (hb : RdL byteS w w.heap.size bv m) (hm : m.length ≤ 10000000) (hE : ∃ ea, ErrEnv w ea) :
    Calls Tryd.prog 8 #[.agg #[fs], bv] w fun e w' => e = .returned (.bool true) ∧ Below w.heap.size w w' := by
  obtain ⟨ea, hE⟩ := hE
  exact bytes_walk w fs l bv m hm h hn hb ea hE
end Go.Proofs.YtdkalcecmdadeaaDoor
