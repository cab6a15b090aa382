/- Layer 4: the walk of the law SchemaTexts. -/
import Derived.Test.YtdkalcecmdadeaaDoorRp
import Derived.Test.YtdkalcecmdadeaaDoorSl
namespace Go.Proofs.YtdkalcecmdadeaaDoor
open Go.RowKit
set_option maxRecDepth 100000
set_option maxHeartbeats 1000000
set_option linter.unusedSimpArgs false
set_option linter.unusedVariables false

theorem texts_walk (w : World) (fs : Value) (l : List Fd) (t : ByteArray) (ht : t.size ≤ 10000000) (h : RdL fdS w w.heap.size fs l) (hn : SmallNames l) (ea : List Addr) (hE : ErrEnv w ea) :
    Calls Tryd.prog 5 #[.agg #[fs], .string t] w fun e w' => e = .returned (.bool true) ∧ Below w.heap.size w w' := by
  obtain ⟨A, cap, rfl, hc, hc2⟩ := h.open_
  have H := Lib.hid h; have HE := Lib.hid hE; have HN := Lib.hid hn
  clear h hE hn hc hc2
  go_enter Tryd.func5, Tryd.ntmps5
  go_wp2_with fail
  refine (lives_any _ ea (HE.out.below ((Below.refl _ _).alloc (Nat.le_refl _) _)).sch).mono ?_
  rintro e w1 ⟨rfl, hb1⟩
  have HW1 := Lib.hid (((Below.refl _ _).alloc (Nat.le_refl _) _ : Below w.heap.size w (w.alloc (.cells #[.slice A l.length cap] 24))).trans (hb1.mono (by rw [World.size_alloc]; omega)))
  have cb1 : w1.cell? ⟨w.heap.size, 0, none⟩ = some (.slice A l.length cap) := cellN hb1 rfl
  have cbz1 : w.heap.size < w1.heap.size := World.block_lt_of_cell? w1 ⟨w.heap.size, 0, none⟩ cb1
  clear hb1
  go_wp2_with fail
  refine (text_any _ l ea _ w.heap.size HW1.out.size (H.out.below HW1.out) HN.out (HE.out.below HW1.out).sch).mono ?_
  rintro e w2 ⟨he, hb2⟩
  have HW2 := Lib.hid (HW1.out.trans (hb2.mono HW1.out.size))
  have cb2 := (hb2.cell (p := ⟨w.heap.size, 0, none⟩) cbz1).trans cb1
  have cbz2 : w.heap.size < w2.heap.size := World.block_lt_of_cell? w2 ⟨w.heap.size, 0, none⟩ cb2
  clear hb2 cb1 cbz1
  obtain ⟨tv, ev, fv, HT⟩ : ∃ (tv : ByteArray) (ev : Value) (fv : Int), Hid ((if chkL l then Value.tuple #[.string (str (textL l)), .nilIface] else .tuple #[.string ⟨#[]⟩, errI ea 10]) = .tuple #[.string tv, ev] ∧
      (if chkL l then Value.tuple #[.string (str (textL l)), .int .i64 0] else .tuple #[.string ⟨#[]⟩, .int .i64 11]) = .tuple #[.string tv, .int .i64 fv] ∧ ∀ W, ErrEnv W ea → Calls Tryd.prog 10 #[ev] W fun e w' => e = .returned (.int .i64 fv) ∧ W = w') := by
    cases chkL l
    · exact ⟨⟨#[]⟩, errI ea 10, 11, Lib.hid ⟨rfl, rfl, fun W hW => Num_any ea 10 (by omega) W hW⟩⟩
    · exact ⟨str (textL l), .nilIface, 0, Lib.hid ⟨rfl, rfl, fun W _ => Num_nil W⟩⟩
  rw [HT.out.1] at he
  subst he
  go_wp2_with fail
  refine (rtext_any _ l ea _ w.heap.size HW2.out.size (H.out.below HW2.out) HN.out (HE.out.below HW2.out).sch).mono ?_
  rintro e w3 ⟨he, hb3⟩
  have HW3 := Lib.hid (HW2.out.trans (hb3.mono HW2.out.size))
  clear hb3 cb2 cbz2
  rw [HT.out.2.1] at he
  subst he
  have hbq : (tv.toList == tv.toList) = true := beq_self_eq_true _
  go_wp2_with fail
  refine (HT.out.2.2 _ (HE.out.below HW3.out)).mono ?_
  rintro e w3' ⟨rfl, rfl⟩
  go_wp2_with fail
  refine (psch_any t ea _ (by omega) (HE.out.below HW3.out).sch).mono ?_
  rintro e w4 ⟨hb4, hm⟩
  have HW4 := Lib.hid (HW3.out.trans (hb4.mono HW3.out.size))
  clear hb4
  obtain ⟨pv, gv, hvn, fsl, HR⟩ : ∃ (pv : Value) (gv : Value) (hvn : Int) (fsl : List Fd), Hid (e = .returned (.tuple #[.agg #[pv], gv]) ∧ RdL fdS w4 w4.heap.size pv fsl ∧ (∀ W, ErrEnv W ea → Calls Tryd.prog 10 #[gv] W fun e w' => e = .returned (.int .i64 hvn) ∧ W = w') ∧
      ∀ (wq w5 : World) (e' : Ending), RpRet wq (rparseL t.data.toList) e' w5 → ∃ qv, e' = .returned (.tuple #[.agg #[qv], .int .i64 hvn]) ∧ RdL fdS w5 w5.heap.size qv fsl ∧ Below wq.heap.size wq w5) := by
    cases hp : parseL t.data.toList with
    | none =>
      rw [hp] at hm
      refine ⟨.slice none 0 0, errI ea 10, 11, [], Lib.hid ⟨hm, RdL.nil _ _ _, fun W hW => Num_any ea 10 (by omega) W hW, fun wq w5 e' hr => ?_⟩⟩
      rw [rparse_eq, hp] at hr
      exact ⟨_, hr.2, RdL.nil _ _ _, hr.1⟩
    | some fl =>
      rw [hp] at hm
      obtain ⟨v, hv, ho⟩ := hm
      refine ⟨v, .nilIface, 0, fl, Lib.hid ⟨hv, RdL.of_own ho, fun W _ => Num_nil W, fun wq w5 e' hr => ?_⟩⟩
      rw [rparse_eq, hp] at hr
      obtain ⟨hb, v', hv', ho'⟩ := hr
      exact ⟨v', hv', RdL.of_own ho', hb⟩
  clear hm
  obtain rfl := HR.out.1
  obtain ⟨pA, pcap, hpv, -, -⟩ := HR.out.2.1.open_
  subst hpv
  go_wp2_with fail
  refine (rpsch_any t ea _ (by omega) (HE.out.below (HW4.out.alloc HW4.out.size _)).sch).mono ?_
  rintro e w5 hr
  obtain ⟨qv, rfl, hq, hb5⟩ := HR.out.2.2.2 _ _ _ hr
  obtain ⟨qA, qcap, hqv, -, -⟩ := hq.open_
  subst hqv
  have HW5 := Lib.hid ((HW4.out.alloc HW4.out.size (.cells #[.slice pA fsl.length pcap] 24)).trans (hb5.mono (by rw [World.size_alloc]; have := HW4.out.size; omega)))
  have xp : w5.cell? ⟨w4.heap.size, 0, none⟩ = some (.slice pA fsl.length pcap) := cellN hb5 rfl
  have xpz : w4.heap.size < w5.heap.size := World.block_lt_of_cell? w5 ⟨w4.heap.size, 0, none⟩ xp
  have HPV := Lib.hid (HR.out.2.1.belowW (Nat.le_refl _) (((Below.refl _ _).alloc (Nat.le_refl _) (.cells #[.slice pA fsl.length pcap] 24)).trans (hb5.mono (by rw [World.size_alloc]; omega))))
  have HQV := Lib.hid hq
  clear hr hq hb5
  go_wp2_with fail
  refine (rsame_any _ _ fsl _ w4.heap.size w5.heap.size (by rw [World.size_alloc]; omega) (by rw [World.size_alloc]; omega) (HPV.out.alloc (by omega) _) (HQV.out.alloc (Nat.le_refl _) _)).mono ?_
  rintro e w6 ⟨rfl, hb6⟩
  have HW6 := Lib.hid ((HW5.out.alloc HW5.out.size (.cells #[.slice qA fsl.length qcap] 24)).trans (hb6.mono (by rw [World.size_alloc]; have := HW5.out.size; omega)))
  clear hb6
  go_wp2_with fail
  refine (HR.out.2.2.1 _ (HE.out.below HW6.out)).mono ?_
  rintro e w7 ⟨rfl, rfl⟩
  go_wp2
  go_ret
  refine ⟨?_, HW6.out⟩
  simp
theorem schemaTexts_env {W : World} (h : laidMetH Tryd.prog Rows.schemaTextsUptoRow.laid W) : ∃ ea, ErrEnv W ea := by
  have h0 : laidMet Tryd.prog Rows.schemaTextsUptoRow.laid W := h
  exact errEnv_of h0 (by rfl)
theorem schemaTexts_walk (w : World) (fs : Value) (l : List Fd) (h : RdL fdS w w.heap.size fs l) (hn : SmallNames l) (t : ByteArray) (ht : t.size ≤ 10000000) (hE : ∃ ea, ErrEnv w ea) :
    Calls Tryd.prog 5 #[.agg #[fs], .string t] w fun e w' => e = .returned (.bool true) ∧ Below w.heap.size w w' := by
  obtain ⟨ea, hE⟩ := hE
  exact texts_walk w fs l t ht h hn ea hE
end Go.Proofs.YtdkalcecmdadeaaDoor
