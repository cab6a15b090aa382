/- Layer 20: the law of Decode. -/
import Derived.Test.YtmdpfikalekmlaaDoorLe
import Derived.Test.YtmdpfikalekmlaaDoorIt
import Derived.Test.YtmdpfikalekmlaaDoorOb
import Derived.Test.YtmdpfikalekmlaaDoorSc
namespace Go.Proofs.YtmdpfikalekmlaaDoor
open Go.RowKit
set_option maxRecDepth 100000
set_option maxHeartbeats 4000000
set_option linter.unusedSimpArgs false
set_option linter.unusedVariables false

theorem isaDecodes_env {W : World} (h : laidMetH Tryd.prog Rows.isaDecodesUptoRow.laid W) : IsaEnv W := by
  have h0 : laidMet Tryd.prog Rows.isaDecodesUptoRow.laid W := h
  obtain ⟨ea, hE⟩ := errEnv_of h0 (by rfl)
  exact ⟨ea, hE, isaTab_of h0 (by rfl), pow10_of h0 (by rfl)⟩
theorem DiRet.good {bad ok : Value} {m : List UInt8} {w w' : World} {e : Ending} {l : List Ins} (h : DiRet bad ok m w e w') (hd : decI m = some l) :
    ∃ A cap, e = .returned (.tuple #[.slice A l.length cap, ok]) ∧ OwnL insS w' w.heap.size (.slice A l.length cap) l ∧ Below w.heap.size w w' := by
  obtain ⟨hb, h⟩ := h
  rw [hd] at h
  obtain ⟨v, rfl, ho⟩ := h
  obtain ⟨A, cap, rfl, -, -, -⟩ := ho.open_
  exact ⟨A, cap, rfl, ho, hb⟩
theorem DiRet.bad {bad ok : Value} {m : List UInt8} {w w' : World} {e : Ending} (h : DiRet bad ok m w e w') (hd : decI m = none) :
    e = .returned (.tuple #[.slice none 0 0, bad]) ∧ Below w.heap.size w w' := by
  obtain ⟨hb, h⟩ := h
  rw [hd] at h
  exact ⟨h, hb⟩
theorem isaDecodes_walk (w : World) (x : Value) (m : List UInt8) (h : RdL byteS w w.heap.size x m) (hl : m.length ≤ 1048576) (hE : IsaEnv w) :
    Calls Tryd.prog 4 #[x] w fun e w' => e = .returned (.bool true) ∧ Below w.heap.size w w' := by
  obtain ⟨ea, hE, hT, hP⟩ := hE
  obtain ⟨A, cap, rfl, hc, hc2⟩ := h.open_
  have H := Lib.hid h; have HE := Lib.hid hE; have HT := Lib.hid hT; have HP := Lib.hid hP
  clear h hE hT hP hc hc2
  go_enter Tryd.func4, Tryd.ntmps4
  go_wp2_with fail
  refine (lives_any _ ea HE.out HT.out HP.out).mono ?_
  rintro e w1 ⟨rfl, hb1⟩
  have HB1 := Lib.hid hb1
  clear hb1
  go_wp2_with fail
  refine (idecode_any _ m w1 ea ((H.out.below HB1.out).more HB1.out.size) (Nat.le_trans hl (by decide)) (HE.out.below HB1.out) (HT.out.below HB1.out)).mono ?_
  intro e w2 h2
  cases hd : decI m with
  | some l =>
    obtain ⟨A1, c1, rfl, ho1, hb2⟩ := h2.good hd
    have HB2 := Lib.hid (HB1.out.trans (hb2.mono HB1.out.size))
    have HO1 := Lib.hid ho1; have HD := Lib.hid hd
    clear hb2 ho1 hd h2
    go_wp2_with fail
    refine (ridecode_any _ m w2 ((H.out.below HB2.out).more HB2.out.size) (Nat.le_trans hl (by decide))).mono ?_
    intro e w3 h3
    obtain ⟨A2, c2, rfl, ho2, hb3⟩ := h3.good HD.out
    have HR1 := Lib.hid (RdL.of_own (HO1.out.below hb3))
    have HR2 := Lib.hid (RdL.of_own ho2)
    have HB3 := Lib.hid (HB2.out.trans (hb3.mono HB2.out.size))
    clear hb3 ho2 h3
    go_wp2_with fail
    refine (sameCode_any _ _ l l w3 _ _ HR1.out HR2.out (Nat.le_refl _) (Nat.le_refl _)).mono ?_
    rintro e w4 ⟨rfl, hb4⟩
    rw [decide_eq_true (Eq.refl l)]
    have HB4 := Lib.hid (HB3.out.trans (hb4.mono HB3.out.size))
    clear hb4
    go_wp2_with fail
    refine (Num_nil w4).mono ?_
    rintro e w5 ⟨rfl, rfl⟩
    go_wp2
    go_ret
    exact ⟨rfl, HB4.out⟩
  | none =>
    obtain ⟨rfl, hb2⟩ := h2.bad hd
    have HB2 := Lib.hid (HB1.out.trans (hb2.mono HB1.out.size))
    have HD := Lib.hid hd
    clear hb2 hd h2
    go_wp2_with fail
    refine (ridecode_any _ m w2 ((H.out.below HB2.out).more HB2.out.size) (Nat.le_trans hl (by decide))).mono ?_
    intro e w3 h3
    obtain ⟨rfl, hb3⟩ := h3.bad HD.out
    have HB3 := Lib.hid (HB2.out.trans (hb3.mono HB2.out.size))
    clear hb3 h3
    go_wp2_with fail
    refine (sameCode_any _ _ [] [] w3 _ _ (RdL.nil insS w3 0) (RdL.nil insS w3 0) (Nat.zero_le _) (Nat.zero_le _)).mono ?_
    rintro e w4 ⟨rfl, hb4⟩
    rw [decide_eq_true (Eq.refl ([] : List Ins))]
    have HB4 := Lib.hid (HB3.out.trans (hb4.mono HB3.out.size))
    clear hb4
    go_wp2_with fail
    refine (Num_any ea 20 (by omega) w4 (HE.out.below HB4.out)).mono ?_
    rintro e w5 ⟨rfl, rfl⟩
    go_wp2
    go_ret
    exact ⟨rfl, HB4.out⟩
end Go.Proofs.YtmdpfikalekmlaaDoor
