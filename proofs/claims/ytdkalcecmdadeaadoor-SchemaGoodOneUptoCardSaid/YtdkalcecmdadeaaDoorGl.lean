/- Layer 4: the walks of the laws SchemaGoods and SchemaGoodOne. -/
import Derived.Test.YtdkalcecmdadeaaDoorRg
import Derived.Test.YtdkalcecmdadeaaDoorSl
namespace Go.Proofs.YtdkalcecmdadeaaDoor
open Go.RowKit
set_option maxRecDepth 100000
set_option maxHeartbeats 1000000
set_option linter.unusedSimpArgs false
set_option linter.unusedVariables false

theorem badV_lt {l : List Fd} {v : Vl} {i : Nat} (h : badV l v = some i) : i = 2 ∨ i = 11 ∨ i = 12 := by
  unfold badV at h
  split at h
  · cases h; simp
  · split at h
    · cases h; simp
    · split at h
      · cases h
      · cases h; simp
theorem goodL_lt {l : List Fd} {vs : List Vl} {i : Nat} (h : goodL l vs = some i) : i < 24 := by
  unfold goodL at h
  split at h
  · split at h
    · cases h; omega
    · obtain ⟨x, y, z, _, h2, _⟩ := List.findSome?_eq_some_iff.1 h
      have := badV_lt h2
      omega
  · cases h; omega
theorem Num_or (ea : List Addr) (r : Option Nat) (hr : ∀ i, r = some i → i < 24) (w : World) (h : ErrEnv w ea) : Calls Tryd.prog 10 #[errOr ea r] w fun e w' => e = .returned (.int .i64 (numOr r)) ∧ w = w' := by
  cases r with
  | none => exact Num_nil w
  | some i => exact Num_any ea i (hr i rfl) w h
theorem errOr_nil (ea : List Addr) (r : Option Nat) (W : World) : (binOp .eql 28 (errOr ea r) .nilIface).run Tryd.prog W = .ok (.bool r.isNone) W := by
  cases r with
  | none => rfl
  | some i => exact errI_nil ea i W
def noName : ByteArray := ⟨#[110, 111, 32, 115, 117, 99, 104, 32, 110, 97, 109, 101]⟩
theorem chk_name {l : List Fd} (h : chkL l = true) {k : Nat} (hk : k < l.length) : goodNameL l[k].name.data.toList = true := by
  unfold chkL at h
  simp only [Bool.and_eq_true, List.all_eq_true, List.mem_range] at h
  have := h.2 k hk
  rw [okAt_eq hk] at this
  simp only [Bool.and_eq_true, Bool.not_eq_true'] at this
  exact this.1.2
theorem noName_bad (l : List Fd) : ∃ i, goodL l [⟨noName, ⟨#[]⟩⟩] = some i := by
  unfold goodL
  cases h : chkL l with
  | false => exact ⟨10, by simp⟩
  | true =>
    refine ⟨11, ?_⟩
    have hn : findTo l noName = none := by
      cases hf : findTo l noName with
      | none => rfl
      | some i =>
        have hlt := find_lt hf
        unfold findTo at hf
        rw [List.findIdx?_eq_some_iff_getElem] at hf
        obtain ⟨_, h2, _⟩ := hf
        have e : l[i].name.data.toList = noName.data.toList := by
          unfold nameIs at h2
          rw [ba_toList, ba_toList] at h2
          exact beq_iff_eq.1 h2
        have := chk_name h hlt
        rw [e] at this
        have h3 : goodNameL noName.data.toList = false := by decide +kernel
        rw [h3] at this; cases this
    simp [badV, hn]
theorem own_val (v : Vl) (w : World) {B : Nat} (hB : B ≤ w.heap.size) : OwnL vlS (w.alloc (.cells #[.string v.name, .string v.text] 51)) B (.slice (some ⟨w.heap.size, 0, none⟩) 1 1) [v] :=
  World.ownsRow_lit w #[.string v.name, .string v.text] 1 hB (by unfold maxLen; omega) rfl
theorem goods_walk (w : World) (fs : Value) (l : List Fd) (va : Value) (vs : List Vl) (h : RdL fdS w w.heap.size fs l) (hn : SmallNames l) (hv : RdL vlS w w.heap.size va vs) (hvs : SmallVals vs) (ea : List Addr) (hE : ErrEnv w ea) :
    Calls Tryd.prog 6 #[.agg #[fs], va] w fun e w' => e = .returned (.bool true) ∧ Below w.heap.size w w' := by
  obtain ⟨A, cap, rfl, hc, hc2⟩ := h.open_
  obtain ⟨A', cap', rfl, hc', hc2'⟩ := hv.open_
  have H := Lib.hid h; have HE := Lib.hid hE; have HN := Lib.hid hn; have HV := Lib.hid hv; have HVS := Lib.hid hvs
  clear h hE hn hv hvs hc hc2 hc' hc2'
  go_enter Tryd.func6, Tryd.ntmps6
  go_wp2_with fail
  refine (lives_any _ ea (HE.out.below ((Below.refl _ _).alloc (Nat.le_refl _) _)).sch).mono ?_
  rintro e w1 ⟨rfl, hb1⟩
  have HW1 := Lib.hid (((Below.refl _ _).alloc (Nat.le_refl _) _ : Below w.heap.size w (w.alloc (.cells #[.slice A l.length cap] 24))).trans (hb1.mono (by rw [World.size_alloc]; omega)))
  have cb : w1.cell? ⟨w.heap.size, 0, none⟩ = some (.slice A l.length cap) := cellN hb1 rfl
  have cbz : w.heap.size < w1.heap.size := World.block_lt_of_cell? w1 ⟨w.heap.size, 0, none⟩ cb
  clear hb1
  obtain ⟨i0, hi0⟩ := noName_bad l
  have HI0 := Lib.hid hi0
  have q1 := errI_nil ea i0
  have q2 := errI_guard0 ea i0
  clear hi0
  go_wp2_with fail
  refine (good_any _ l _ [⟨noName, ⟨#[]⟩⟩] ea _ (w1.heap.size + 1) (by rw [World.size_alloc]; omega) ((H.out.below (HW1.out.alloc HW1.out.size _)).more (by omega)) (by have h := RdL.of_own (own_val ⟨noName, ⟨#[]⟩⟩ w1 (Nat.le_refl w1.heap.size)); rw [World.size_alloc] at h; exact h) HN.out (fun v hv => by simp only [List.mem_singleton] at hv; subst hv; exact ⟨by decide, by decide⟩) (HE.out.below (HW1.out.alloc HW1.out.size _))).mono ?_
  rintro e w2 ⟨he, hb2⟩
  rw [HI0.out] at he
  have he' : e = .returned (errI ea i0) := he
  clear he
  subst he'
  have HW2 := Lib.hid ((HW1.out.alloc HW1.out.size (.cells #[.string noName, .string ⟨#[]⟩] 51)).trans (hb2.mono (by rw [World.size_alloc]; have := HW1.out.size; omega)))
  have cb2 : w2.cell? ⟨w.heap.size, 0, none⟩ = some (.slice A l.length cap) := (hb2.cell (p := ⟨w.heap.size, 0, none⟩) (by rw [World.size_alloc]; exact Nat.lt_succ_of_lt cbz)).trans ((World.cell?_alloc_lt w1 _ ⟨w.heap.size, 0, none⟩ cbz).trans cb)
  have cbz2 : w.heap.size < w2.heap.size := World.block_lt_of_cell? w2 ⟨w.heap.size, 0, none⟩ cb2
  clear hb2 cb cbz
  have HC1 : ∀ W, (W.cell? ⟨w.heap.size, 0, none⟩ = some (.slice A l.length cap) ∧ Below w2.heap.size w2 W) → Calls Tryd.prog 20 #[.agg #[.slice A l.length cap], .slice A' vs.length cap'] W fun e W' => e = .returned (errOr ea (goodL l vs)) ∧ (W'.cell? ⟨w.heap.size, 0, none⟩ = some (.slice A l.length cap) ∧ Below w2.heap.size w2 W') := fun W hW => by
    have hbw := HW2.out.trans (hW.2.mono HW2.out.size)
    refine (good_any _ l _ vs ea W w.heap.size hbw.size (H.out.below hbw) (HV.out.below hbw) HN.out HVS.out (HE.out.below hbw)).mono ?_
    rintro e W' ⟨he, hb⟩
    have hb2 := hW.2.trans (hb.mono hW.2.size)
    exact ⟨he, (hb2.cell (p := ⟨w.heap.size, 0, none⟩) cbz2).trans cb2, hb2⟩
  have HC2 : ∀ W, (W.cell? ⟨w.heap.size, 0, none⟩ = some (.slice A l.length cap) ∧ Below w2.heap.size w2 W) → Calls Tryd.prog 21 #[.agg #[.slice A l.length cap], .slice A' vs.length cap'] W fun e W' => e = .returned (.int .i64 (numOr (goodL l vs))) ∧ (W'.cell? ⟨w.heap.size, 0, none⟩ = some (.slice A l.length cap) ∧ Below w2.heap.size w2 W') := fun W hW => by
    have hbw := HW2.out.trans (hW.2.mono HW2.out.size)
    refine (rgood_any _ l _ vs W w.heap.size hbw.size (H.out.below hbw) (HV.out.below hbw) HVS.out).mono ?_
    rintro e W' ⟨he, hb⟩
    have hb2 := hW.2.trans (hb.mono hW.2.size)
    exact ⟨he, (hb2.cell (p := ⟨w.heap.size, 0, none⟩) cbz2).trans cb2, hb2⟩
  have HC3 : ∀ W, (W.cell? ⟨w.heap.size, 0, none⟩ = some (.slice A l.length cap) ∧ Below w2.heap.size w2 W) → Calls Tryd.prog 10 #[errOr ea (goodL l vs)] W fun e W' => e = .returned (.int .i64 (numOr (goodL l vs))) ∧ (W'.cell? ⟨w.heap.size, 0, none⟩ = some (.slice A l.length cap) ∧ Below w2.heap.size w2 W') := fun W hW => by
    refine (Num_or ea _ (fun i hi => goodL_lt hi) W (HE.out.below (HW2.out.trans (hW.2.mono HW2.out.size)))).mono ?_
    rintro e W' ⟨rfl, rfl⟩
    exact ⟨rfl, hW⟩
  have hgx : ∃ x n, errOr ea (goodL l vs) = x ∧ numOr (goodL l vs) = n := ⟨_, _, rfl, rfl⟩
  obtain ⟨x, n, hx, hnn⟩ := hgx
  rw [hx] at HC1 HC3
  rw [hnn] at HC2 HC3
  clear hx hnn
  have H1 := Lib.hid HC1; have H2 := Lib.hid HC2; have H3 := Lib.hid HC3
  clear HC1 HC2 HC3
  go_wp2_with fail
  go_region_held3 (fun w' => w'.cell? ⟨w.heap.size, 0, none⟩ = some (.slice A l.length cap) ∧ Below w2.heap.size w2 w') (refine ⟨?_, ?_⟩ <;> (first | assumption | exact (Below.refl _ _).drew | (with_reducible refine Below.drew ?_; assumption) | go_keep)) (first | ((with_reducible refine (H1.out _ ?_).mono ?_); (refine ⟨?_, ?_⟩ <;> (first | assumption | exact (Below.refl _ _).drew | (with_reducible refine Below.drew ?_; assumption) | go_keep)); rintro e w' ⟨rfl, hk1, hk2⟩) | ((with_reducible refine (H2.out _ ?_).mono ?_); (refine ⟨?_, ?_⟩ <;> (first | assumption | exact (Below.refl _ _).drew | (with_reducible refine Below.drew ?_; assumption) | go_keep)); rintro e w' ⟨rfl, hk1, hk2⟩) | ((with_reducible refine (H3.out _ ?_).mono ?_); (refine ⟨?_, ?_⟩ <;> (first | assumption | exact (Below.refl _ _).drew | (with_reducible refine Below.drew ?_; assumption) | go_keep)); rintro e w' ⟨rfl, hk1, hk2⟩))
  all_goals
    rename_i hfin
    obtain ⟨-, hbf⟩ := hfin
    go_wp2
    go_ret
    refine ⟨?_, HW2.out.trans (hbf.mono HW2.out.size)⟩
    simp
theorem schemaGoods_env {W : World} (h : laidMetH Tryd.prog Rows.schemaGoodsUptoRow.laid W) : ∃ ea, ErrEnv W ea := by
  have h0 : laidMet Tryd.prog Rows.schemaGoodsUptoRow.laid W := h
  exact errEnv_of h0 (by rfl)
theorem schemaGoods_walk (w : World) (fs : Value) (l : List Fd) (h : RdL fdS w w.heap.size fs l) (hn : SmallNames l) (va : Value) (vs : List Vl) (hv : RdL vlS w w.heap.size va vs) (hvs : SmallVals vs) (hE : ∃ ea, ErrEnv w ea) :
    Calls Tryd.prog 6 #[.agg #[fs], va] w fun e w' => e = .returned (.bool true) ∧ Below w.heap.size w w' := by
  obtain ⟨ea, hE⟩ := hE
  exact goods_walk w fs l va vs h hn hv hvs ea hE
end Go.Proofs.YtdkalcecmdadeaaDoor
