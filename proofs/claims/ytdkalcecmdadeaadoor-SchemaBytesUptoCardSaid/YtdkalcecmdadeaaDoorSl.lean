/- Layer 4: the walks of the laws' lives, SchemaChecks. -/
import Derived.Test.YtdkalcecmdadeaaDoorPar
import Derived.Deep.RegionWith
namespace Go.Proofs.YtdkalcecmdadeaaDoor
open Go.RowKit
set_option maxRecDepth 100000
set_option maxHeartbeats 1000000
set_option linter.unusedSimpArgs false
set_option linter.unusedVariables false

theorem errI_same (ea : List Addr) (i : Nat) (W : World) : (binOp .eql 28 (errI ea i) (errI ea i)).run Tryd.prog W = .ok (.bool true) W := by
  obtain ⟨p, hp, hc⟩ := Option.map_eq_some_iff.1 einfoP
  obtain ⟨q, hq, hz⟩ := Option.map_eq_some_iff.1 einfoS
  exact run_eql_iface_ptr_same W _ Tryd.underlying28 Tryd.underlying120 hp hc hq
theorem lives_parse : parseL [97, 58, 116, 101, 120, 116, 44, 102, 111, 108, 100, 59, 110, 58, 110, 117, 109, 98, 101, 114] = some [⟨str [97], 1, true, false, false⟩, ⟨str [110], 3, false, false, false⟩] := by kernel_rfl
theorem lives_chk : chkL [⟨str [97], 1, true, false, false⟩, ⟨str [110], 3, false, false, false⟩] = true := by kernel_rfl
theorem lives_any (w : World) (ea : List Addr) (hE : SchEnv w ea) :
    Calls Tryd.prog 9 #[] w fun e w' => e = .returned (.bool true) ∧ Below w.heap.size w w' := by
  have HE := Lib.hid hE; clear hE
  go_enter Tryd.func9, Tryd.ntmps9
  go_wp2_with fail
  refine (psch_any ⟨#[97, 58, 116, 101, 120, 116, 44, 102, 111, 108, 100, 59, 110, 58, 110, 117, 109, 98, 101, 114]⟩ ea w (by decide) HE.out).mono ?_
  rintro e w1 ⟨hb1, hm⟩
  rw [show parseL (⟨#[97, 58, 116, 101, 120, 116, 44, 102, 111, 108, 100, 59, 110, 58, 110, 117, 109, 98, 101, 114]⟩ : ByteArray).data.toList = _ from lives_parse] at hm
  obtain ⟨v, rfl, ho⟩ := hm
  obtain ⟨A, cap, rfl, hcap, hcap2, -⟩ := ho.open_
  unfold maxLen at hcap2
  have HO := Lib.hid ho
  have HB1 := Lib.hid hb1
  have HE1 := Lib.hid (HE.out.below hb1)
  have hA : ∃ g, A = some ⟨g, 0, none⟩ := by obtain ⟨g, h, _⟩ := ho.at_ fdOk (k := 0) (by decide); exact ⟨g, h⟩
  obtain ⟨g, rfl⟩ := hA
  have d0 : w1.cell? ⟨g, 0, none⟩ = some (.string (str [97])) := by obtain ⟨_, h, h2⟩ := ho.at_ fdOk (k := 0) (by decide); cases h; exact h2 0 _ (by decide) rfl
  have d2 : w1.cell? ⟨g, 2, none⟩ = some (.bool true) := by obtain ⟨_, h, h2⟩ := ho.at_ fdOk (k := 0) (by decide); cases h; exact h2 2 _ (by decide) rfl
  have d6 : w1.cell? ⟨g, 6, none⟩ = some (.int .i64 3) := by obtain ⟨_, h, h2⟩ := ho.at_ fdOk (k := 1) (by decide); cases h; exact h2 1 _ (by decide) rfl
  have hg1 : g < w1.heap.size := World.block_lt_of_cell? w1 ⟨g, 0, none⟩ d0
  simp only [List.length_cons, List.length_nil, Nat.zero_add] at hcap
  clear ho hb1
  simp only [List.length_cons, List.length_nil, Nat.zero_add]
  have hn : ((str [97]).toList == [97]) = true := by rw [str_beq]; decide
  have hn2 : (!(str [97]).toList == [97]) = false := by rw [hn]; rfl
  go_wp2
  have hwb : Below w1.heap.size w1 (w1.alloc (.cells #[.slice (some ⟨g, 0, none⟩) 2 cap] 24)) := (Below.refl _ _).alloc (Nat.le_refl _) _
  have HEa := Lib.hid (HE1.out.below hwb)
  have HOa := Lib.hid (HO.out.below hwb)
  have HBa := Lib.hid (HB1.out.trans (hwb.mono HB1.out.size))
  have cs : (w1.alloc (.cells #[.slice (some ⟨g, 0, none⟩) 2 cap] 24)).cell? ⟨0, 0, none⟩ = some (errI ea 10) := HEa.out.c
  have csz : 0 < (w1.alloc (.cells #[.slice (some ⟨g, 0, none⟩) 2 cap] 24)).heap.size := World.block_lt_of_cell? (w1.alloc (.cells #[.slice (some ⟨g, 0, none⟩) 2 cap] 24)) ⟨0, 0, none⟩ cs
  have cbz : w1.heap.size < (w1.alloc (.cells #[.slice (some ⟨g, 0, none⟩) 2 cap] 24)).heap.size := by rw [World.size_alloc]; omega
  have cb : (w1.alloc (.cells #[.slice (some ⟨g, 0, none⟩) 2 cap] 24)).cell? ⟨w1.heap.size, 0, none⟩ = some (.slice (some ⟨g, 0, none⟩) 2 cap) := by rw [World.cell?_alloc_new]; rfl
  have HC1 : ∀ W, (W.cell? ⟨w1.heap.size, 0, none⟩ = some (.slice (some ⟨g, 0, none⟩) 2 cap) ∧ W.cell? ⟨0, 0, none⟩ = some (errI ea 10) ∧ Below (w1.alloc (.cells #[.slice (some ⟨g, 0, none⟩) 2 cap] 24)).heap.size (w1.alloc (.cells #[.slice (some ⟨g, 0, none⟩) 2 cap] 24)) W) → Calls Tryd.prog 11 #[.agg #[.slice (some ⟨g, 0, none⟩) 2 cap]] W fun e W' => e = .returned .nilIface ∧ (W'.cell? ⟨w1.heap.size, 0, none⟩ = some (.slice (some ⟨g, 0, none⟩) 2 cap) ∧ W'.cell? ⟨0, 0, none⟩ = some (errI ea 10) ∧ Below (w1.alloc (.cells #[.slice (some ⟨g, 0, none⟩) 2 cap] 24)).heap.size (w1.alloc (.cells #[.slice (some ⟨g, 0, none⟩) 2 cap] 24)) W') := fun W hW => by
    refine (check_any _ [⟨str [97], 1, true, false, false⟩, ⟨str [110], 3, false, false, false⟩] ea W W.heap.size (Nat.le_refl _) (RdL.of_own (HOa.out.below hW.2.2)) (fun f hf => by simp at hf; rcases hf with rfl | rfl <;> (unfold maxLen; show (1 : Nat) ≤ _; omega)) (HEa.out.below hW.2.2)).mono ?_
    rintro e W' ⟨he, hb⟩
    rw [lives_chk] at he
    have hb2 := hW.2.2.trans (hb.mono hW.2.2.size)
    exact ⟨he, (hb2.cell (p := ⟨w1.heap.size, 0, none⟩) cbz).trans cb, (hb2.cell (p := ⟨0, 0, none⟩) csz).trans cs, hb2⟩
  have HC2 : ∀ W, (W.cell? ⟨w1.heap.size, 0, none⟩ = some (.slice (some ⟨g, 0, none⟩) 2 cap) ∧ W.cell? ⟨0, 0, none⟩ = some (errI ea 10) ∧ Below (w1.alloc (.cells #[.slice (some ⟨g, 0, none⟩) 2 cap] 24)).heap.size (w1.alloc (.cells #[.slice (some ⟨g, 0, none⟩) 2 cap] 24)) W) → Calls Tryd.prog 11 #[.agg #[.slice none 0 0]] W fun e W' => e = .returned (errI ea 10) ∧ (W'.cell? ⟨w1.heap.size, 0, none⟩ = some (.slice (some ⟨g, 0, none⟩) 2 cap) ∧ W'.cell? ⟨0, 0, none⟩ = some (errI ea 10) ∧ Below (w1.alloc (.cells #[.slice (some ⟨g, 0, none⟩) 2 cap] 24)).heap.size (w1.alloc (.cells #[.slice (some ⟨g, 0, none⟩) 2 cap] 24)) W') := fun W hW => by
    refine (check_any _ [] ea W 0 (Nat.zero_le _) (RdL.nil _ _ _) (fun f hf => by cases hf) (HEa.out.below hW.2.2)).mono ?_
    rintro e W' ⟨he, hb⟩
    have hb2 := hW.2.2.trans (hb.mono hW.2.2.size)
    exact ⟨he, (hb2.cell (p := ⟨w1.heap.size, 0, none⟩) cbz).trans cb, (hb2.cell (p := ⟨0, 0, none⟩) csz).trans cs, hb2⟩
  have H1 := Lib.hid HC1; have H2 := Lib.hid HC2
  have q1 := errI_same ea 10
  have q2 := errI_guard ea 10 10
  have hs0 : (w1.alloc (.cells #[.slice (some ⟨g, 0, none⟩) 2 cap] 24)).cell? ⟨w1.heap.size, 0, none⟩ = some (.slice (some ⟨g, 0, none⟩) 2 cap) ∧ (w1.alloc (.cells #[.slice (some ⟨g, 0, none⟩) 2 cap] 24)).cell? ⟨0, 0, none⟩ = some (errI ea 10) ∧ Below (w1.alloc (.cells #[.slice (some ⟨g, 0, none⟩) 2 cap] 24)).heap.size (w1.alloc (.cells #[.slice (some ⟨g, 0, none⟩) 2 cap] 24)) (w1.alloc (.cells #[.slice (some ⟨g, 0, none⟩) 2 cap] 24)) := ⟨cb, cs, Below.refl _ _⟩
  clear HC1 HC2 hwb cs cb cbz csz d0 d2 d6 hn hn2
  go_region_held3 (fun w' => w'.cell? ⟨w1.heap.size, 0, none⟩ = some (.slice (some ⟨g, 0, none⟩) 2 cap) ∧ w'.cell? ⟨0, 0, none⟩ = some (errI ea 10) ∧ Below (w1.alloc (.cells #[.slice (some ⟨g, 0, none⟩) 2 cap] 24)).heap.size (w1.alloc (.cells #[.slice (some ⟨g, 0, none⟩) 2 cap] 24)) w') (refine ⟨?_, ?_, ?_⟩ <;> (first | assumption | exact (Below.refl _ _).drew | (with_reducible refine Below.drew ?_; assumption) | go_keep)) (first | ((with_reducible refine (H1.out _ ?_).mono ?_); (refine ⟨?_, ?_, ?_⟩ <;> (first | assumption | exact (Below.refl _ _).drew | (with_reducible refine Below.drew ?_; assumption) | go_keep)); rintro e w' ⟨rfl, hk1, hk2, hk3⟩) | ((with_reducible refine (H2.out _ ?_).mono ?_); (refine ⟨?_, ?_, ?_⟩ <;> (first | assumption | exact (Below.refl _ _).drew | (with_reducible refine Below.drew ?_; assumption) | go_keep)); rintro e w' ⟨rfl, hk1, hk2, hk3⟩))
  all_goals
    rename_i hfin
    obtain ⟨-, -, hbf⟩ := hfin
    go_wp2
    go_ret
    exact ⟨rfl, HBa.out.trans (hbf.mono HBa.out.size)⟩

theorem checks_walk (fs : Value) (l : List Fd) (ea : List Addr) (w : World) (h : RdL fdS w w.heap.size fs l) (hn : SmallNames l) (hE : ErrEnv w ea) :
    Calls Tryd.prog 3 #[.agg #[fs]] w fun e w' => e = .returned (.bool true) ∧ Below w.heap.size w w' := by
  obtain ⟨A, cap, rfl, hc, hc2⟩ := h.open_
  have H := Lib.hid h; have HE := Lib.hid hE; have HN := Lib.hid hn
  clear h hE hn hc hc2
  go_enter Tryd.func3, Tryd.ntmps3
  go_wp2_with fail
  refine (lives_any _ ea (HE.out.below ((Below.refl _ _).alloc (Nat.le_refl _) _)).sch).mono ?_
  rintro e w1 ⟨rfl, hb1⟩
  have HW1 := Lib.hid (((Below.refl _ _).alloc (Nat.le_refl _) _ : Below w.heap.size w (w.alloc (.cells #[.slice A l.length cap] 24))).trans (hb1.mono (by rw [World.size_alloc]; omega)))
  have cb : w1.cell? ⟨w.heap.size, 0, none⟩ = some (.slice A l.length cap) := cellN hb1 rfl
  have cbz : w.heap.size < w1.heap.size := World.block_lt_of_cell? w1 ⟨w.heap.size, 0, none⟩ cb
  clear hb1
  cases hck : chkL l
  · have HCK := Lib.hid hck
    clear hck
    have HC1 : ∀ W, (W.cell? ⟨w.heap.size, 0, none⟩ = some (.slice A l.length cap) ∧ Below w1.heap.size w1 W) → Calls Tryd.prog 11 #[.agg #[.slice A l.length cap]] W fun e W' => e = .returned (errI ea 10) ∧ (W'.cell? ⟨w.heap.size, 0, none⟩ = some (.slice A l.length cap) ∧ Below w1.heap.size w1 W') := fun W hW => by
      have hbw := HW1.out.trans (hW.2.mono HW1.out.size)
      refine (check_any _ l ea W w.heap.size hbw.size (H.out.below hbw) HN.out (HE.out.below hbw).sch).mono ?_
      rintro e W' ⟨he, hb⟩
      have hb2 := hW.2.trans (hb.mono hW.2.size)
      exact ⟨by rw [HCK.out] at he; exact he, (hb2.cell (p := ⟨w.heap.size, 0, none⟩) cbz).trans cb, hb2⟩
    have HC2 : ∀ W, (W.cell? ⟨w.heap.size, 0, none⟩ = some (.slice A l.length cap) ∧ Below w1.heap.size w1 W) → Calls Tryd.prog 12 #[.agg #[.slice A l.length cap]] W fun e W' => e = .returned (.int .i64 11) ∧ (W'.cell? ⟨w.heap.size, 0, none⟩ = some (.slice A l.length cap) ∧ Below w1.heap.size w1 W') := fun W hW => by
      have hbw := HW1.out.trans (hW.2.mono HW1.out.size)
      refine (rcheck_any _ l W w.heap.size hbw.size (H.out.below hbw)).mono ?_
      rintro e W' ⟨he, hb⟩
      have hb2 := hW.2.trans (hb.mono hW.2.size)
      exact ⟨by rw [HCK.out] at he; exact he, (hb2.cell (p := ⟨w.heap.size, 0, none⟩) cbz).trans cb, hb2⟩
    have HC3 : ∀ W, (W.cell? ⟨w.heap.size, 0, none⟩ = some (.slice A l.length cap) ∧ Below w1.heap.size w1 W) → Calls Tryd.prog 10 #[(errI ea 10)] W fun e W' => e = .returned (.int .i64 11) ∧ (W'.cell? ⟨w.heap.size, 0, none⟩ = some (.slice A l.length cap) ∧ Below w1.heap.size w1 W') := fun W hW => by
      refine (Num_any ea 10 (by omega) W (HE.out.below (HW1.out.trans (hW.2.mono HW1.out.size)))).mono ?_; rintro e W' ⟨rfl, rfl⟩; exact ⟨rfl, hW⟩
    have H1 := Lib.hid HC1; have H2 := Lib.hid HC2; have H3 := Lib.hid HC3
    clear HC1 HC2 HC3
    go_wp2_with fail
    go_region_held3 (fun w' => w'.cell? ⟨w.heap.size, 0, none⟩ = some (.slice A l.length cap) ∧ Below w1.heap.size w1 w') (refine ⟨?_, ?_⟩ <;> (first | assumption | exact (Below.refl _ _).drew | (with_reducible refine Below.drew ?_; assumption) | go_keep)) (first | ((with_reducible refine (H1.out _ ?_).mono ?_); (refine ⟨?_, ?_⟩ <;> (first | assumption | exact (Below.refl _ _).drew | (with_reducible refine Below.drew ?_; assumption) | go_keep)); rintro e w' ⟨rfl, hk1, hk2⟩) | ((with_reducible refine (H2.out _ ?_).mono ?_); (refine ⟨?_, ?_⟩ <;> (first | assumption | exact (Below.refl _ _).drew | (with_reducible refine Below.drew ?_; assumption) | go_keep)); rintro e w' ⟨rfl, hk1, hk2⟩) | ((with_reducible refine (H3.out _ ?_).mono ?_); (refine ⟨?_, ?_⟩ <;> (first | assumption | exact (Below.refl _ _).drew | (with_reducible refine Below.drew ?_; assumption) | go_keep)); rintro e w' ⟨rfl, hk1, hk2⟩))
    all_goals
      rename_i hfin
      obtain ⟨-, hbf⟩ := hfin
      go_wp2
      go_ret
      exact ⟨rfl, HW1.out.trans (hbf.mono HW1.out.size)⟩
  · have HCK := Lib.hid hck
    clear hck
    have HC1 : ∀ W, (W.cell? ⟨w.heap.size, 0, none⟩ = some (.slice A l.length cap) ∧ Below w1.heap.size w1 W) → Calls Tryd.prog 11 #[.agg #[.slice A l.length cap]] W fun e W' => e = .returned .nilIface ∧ (W'.cell? ⟨w.heap.size, 0, none⟩ = some (.slice A l.length cap) ∧ Below w1.heap.size w1 W') := fun W hW => by
      have hbw := HW1.out.trans (hW.2.mono HW1.out.size)
      refine (check_any _ l ea W w.heap.size hbw.size (H.out.below hbw) HN.out (HE.out.below hbw).sch).mono ?_
      rintro e W' ⟨he, hb⟩
      have hb2 := hW.2.trans (hb.mono hW.2.size)
      exact ⟨by rw [HCK.out] at he; exact he, (hb2.cell (p := ⟨w.heap.size, 0, none⟩) cbz).trans cb, hb2⟩
    have HC2 : ∀ W, (W.cell? ⟨w.heap.size, 0, none⟩ = some (.slice A l.length cap) ∧ Below w1.heap.size w1 W) → Calls Tryd.prog 12 #[.agg #[.slice A l.length cap]] W fun e W' => e = .returned (.int .i64 0) ∧ (W'.cell? ⟨w.heap.size, 0, none⟩ = some (.slice A l.length cap) ∧ Below w1.heap.size w1 W') := fun W hW => by
      have hbw := HW1.out.trans (hW.2.mono HW1.out.size)
      refine (rcheck_any _ l W w.heap.size hbw.size (H.out.below hbw)).mono ?_
      rintro e W' ⟨he, hb⟩
      have hb2 := hW.2.trans (hb.mono hW.2.size)
      exact ⟨by rw [HCK.out] at he; exact he, (hb2.cell (p := ⟨w.heap.size, 0, none⟩) cbz).trans cb, hb2⟩
    have HC3 : ∀ W, (W.cell? ⟨w.heap.size, 0, none⟩ = some (.slice A l.length cap) ∧ Below w1.heap.size w1 W) → Calls Tryd.prog 10 #[.nilIface] W fun e W' => e = .returned (.int .i64 0) ∧ (W'.cell? ⟨w.heap.size, 0, none⟩ = some (.slice A l.length cap) ∧ Below w1.heap.size w1 W') := fun W hW => by
      refine (Num_nil W).mono ?_; rintro e W' ⟨rfl, rfl⟩; exact ⟨rfl, hW⟩
    have H1 := Lib.hid HC1; have H2 := Lib.hid HC2; have H3 := Lib.hid HC3
    clear HC1 HC2 HC3
    go_wp2_with fail
    go_region_held3 (fun w' => w'.cell? ⟨w.heap.size, 0, none⟩ = some (.slice A l.length cap) ∧ Below w1.heap.size w1 w') (refine ⟨?_, ?_⟩ <;> (first | assumption | exact (Below.refl _ _).drew | (with_reducible refine Below.drew ?_; assumption) | go_keep)) (first | ((with_reducible refine (H1.out _ ?_).mono ?_); (refine ⟨?_, ?_⟩ <;> (first | assumption | exact (Below.refl _ _).drew | (with_reducible refine Below.drew ?_; assumption) | go_keep)); rintro e w' ⟨rfl, hk1, hk2⟩) | ((with_reducible refine (H2.out _ ?_).mono ?_); (refine ⟨?_, ?_⟩ <;> (first | assumption | exact (Below.refl _ _).drew | (with_reducible refine Below.drew ?_; assumption) | go_keep)); rintro e w' ⟨rfl, hk1, hk2⟩) | ((with_reducible refine (H3.out _ ?_).mono ?_); (refine ⟨?_, ?_⟩ <;> (first | assumption | exact (Below.refl _ _).drew | (with_reducible refine Below.drew ?_; assumption) | go_keep)); rintro e w' ⟨rfl, hk1, hk2⟩))
    all_goals
      rename_i hfin
      obtain ⟨-, hbf⟩ := hfin
      go_wp2
      go_ret
      exact ⟨rfl, HW1.out.trans (hbf.mono HW1.out.size)⟩
theorem schemaChecks_env {W : World} (h : laidMetH Tryd.prog Rows.schemaChecksUptoRow.laid W) : ∃ ea, ErrEnv W ea := by
  have h0 : laidMet Tryd.prog Rows.schemaChecksUptoRow.laid W := h
  exact errEnv_of h0 (by rfl)
theorem schemaChecks_walk (w : World) (fs : Value) (l : List Fd) (h : RdL fdS w w.heap.size fs l) (hn : SmallNames l) (hE : ∃ ea, ErrEnv w ea) :
    Calls Tryd.prog 3 #[.agg #[fs]] w fun e w' => e = .returned (.bool true) ∧ Below w.heap.size w w' := by
  obtain ⟨ea, hE⟩ := hE
  exact checks_walk fs l ea w h hn hE
end Go.Proofs.YtdkalcecmdadeaaDoor
