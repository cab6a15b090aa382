/- Merged for a claim by shake.py: Zd -/
import Derived.Test.YtcomdkejpaoneaaDoorKd32
import Derived.Test.YtcomdkejpaoneaaDoorKd4
section
namespace Go.Proofs.YtcomdkejpaoneaaDoor
open Go.RowKit
set_option maxRecDepth 100000
set_option maxHeartbeats 8000000
set_option linter.unusedSimpArgs false
set_option linter.unusedVariables false
def JoRel (w6 : World) (iv : Value) (wr : World) : Prop := ∃ i : Nat, i ≤ 3 ∧ iv = .int .i64 (i : Int) ∧ Below w6.heap.size w6 wr
theorem len_two {α : Type} {l : List α} (h : l.length = 2) : ∃ a b, l = [a, b] := by
  match l, h with
  | [a, b], _ => exact ⟨a, b, rfl⟩
theorem jo0 (p q : ByteArray) : (p ++ ⟨#[32]⟩ ++ q : ByteArray).data.toList = p.data.toList ++ 32 :: q.data.toList := by simp
theorem jo1 (p q : ByteArray) : (⟨#[40]⟩ ++ p ++ ⟨#[41]⟩ ++ ⟨#[32, 79, 82, 32]⟩ ++ ⟨#[40]⟩ ++ q ++ ⟨#[41]⟩ : ByteArray).data.toList = 40 :: (p.data.toList ++ 41 :: 32 :: ([79, 82] ++ 32 :: 40 :: (q.data.toList ++ [41]))) := by simp
theorem jo2 (p q : ByteArray) : (⟨#[40]⟩ ++ p ++ ⟨#[41]⟩ ++ ⟨#[32, 65, 78, 68, 32]⟩ ++ ⟨#[40]⟩ ++ q ++ ⟨#[41]⟩ : ByteArray).data.toList = 40 :: (p.data.toList ++ 41 :: 32 :: ([65, 78, 68] ++ 32 :: 40 :: (q.data.toList ++ [41]))) := by simp
theorem jo3 (p q : ByteArray) : (⟨#[40]⟩ ++ p ++ ⟨#[41]⟩ ++ ⟨#[32, 124, 32]⟩ ++ ⟨#[40]⟩ ++ q ++ ⟨#[41]⟩ : ByteArray).data.toList = 40 :: (p.data.toList ++ 41 :: 32 :: ([124] ++ 32 :: 40 :: (q.data.toList ++ [41]))) := by simp
theorem jo4 (p q : ByteArray) : (⟨#[43, 40]⟩ ++ p ++ ⟨#[41, 32, 45, 40]⟩ ++ q ++ ⟨#[41]⟩ : ByteArray).data.toList = 43 :: 40 :: (p.data.toList ++ 41 :: 32 :: 45 :: 40 :: (q.data.toList ++ [41])) := by simp
theorem jo_size (a b c d e p q : ByteArray) (h : a.size + b.size + c.size + d.size + e.size ≤ 20) (hp : p.size ≤ 1048576) (hq : q.size ≤ 1048576) : (a ++ p ++ b ++ c ++ d ++ q ++ e : ByteArray).size ≤ 3000000 := by
  simp only [ba_append_size]; omega
theorem jo_size0 (p q : ByteArray) (hp : p.size ≤ 1048576) (hq : q.size ≤ 1048576) : (p ++ ⟨#[32]⟩ ++ q : ByteArray).size ≤ 3000000 := by
  simp only [ba_append_size]
  have : (⟨#[32]⟩ : ByteArray).size = 1 := rfl
  omega
theorem jo_size4 (p q : ByteArray) (hp : p.size ≤ 1048576) (hq : q.size ≤ 1048576) : (⟨#[43, 40]⟩ ++ p ++ ⟨#[41, 32, 45, 40]⟩ ++ q ++ ⟨#[41]⟩ : ByteArray).size ≤ 3000000 := by
  simp only [ba_append_size]
  have : (⟨#[43, 40]⟩ : ByteArray).size = 2 := rfl
  have : (⟨#[41, 32, 45, 40]⟩ : ByteArray).size = 4 := rfl
  have : (⟨#[41]⟩ : ByteArray).size = 1 := rfl
  omega
theorem joins_walk (p q : ByteArray) (w : World) (ea : List Addr) (hp : p.size ≤ 1048576) (hq : q.size ≤ 1048576) (hE : SynEnv w ea) (hc : ClsEnv w) :
    Calls Tryd.prog 9 #[.string p, .string q] w fun e w' => e = .returned (.bool true) ∧ Below w.heap.size w w' := by
  have HLV := Lib.hid (slives_at w ea 0 hE.1 hc)
  have HE := Lib.hid (fun (W : World) (hW : Below w.heap.size w W) => And.intro (hc.belowB hc.2 hW) (hE.1.below hE.1.2 hW))
  clear hE hc
  have hps : p.size + q.size ≤ 2097152 := by omega
  have HCP := Lib.hid (fun (W : World) (hW : Below w.heap.size w W) => scheck_any p W ea 0 (by omega) (HE.out W hW).1 (HE.out W hW).2)
  have HCQ := Lib.hid (fun (W : World) (hW : Below w.heap.size w W) => scheck_any q W ea 0 (by omega) (HE.out W hW).1 (HE.out W hW).2)
  cases hr : checkS p.data.toList with
  | inr a =>
    have hz1 := fun W => errI_nnil ea 0 W
    have hz2 := fun op x y W => errI_guard0 ea 0 op x y W
    have HR := Lib.hid hr
    clear HE hr
    generalize errI ea 0 = v at *
    cases hr2 : checkS q.data.toList with
    | inr b =>
      have HR2 := Lib.hid hr2
      clear hr2
      go_enter Tryd.func9, Tryd.ntmps9
      go_wp2_with fail
      refine HLV.out.mono ?_
      rintro e w1 ⟨rfl, hb1⟩
      have HB1 := Lib.hid hb1
      clear hb1
      go_wp2_with fail
      refine ((HCP.out) w1 HB1.out).mono ?_
      rintro e w2 ⟨hb, he⟩
      rw [HR.out] at he
      subst he
      simp only []
      have HB2 := Lib.hid (HB1.out.trans (hb.mono HB1.out.size))
      clear hb
      go_wp2_with fail
      refine ((HCQ.out) w2 HB2.out).mono ?_
      rintro e w3 ⟨hb, he⟩
      rw [HR2.out] at he
      subst he
      simp only []
      have HB3 := Lib.hid (HB2.out.trans (hb.mono HB2.out.size))
      clear hb
      go_wp2
      go_ret
      exact ⟨rfl, HB3.out⟩
    | inl b =>
      have HR2 := Lib.hid hr2
      clear hr2
      go_enter Tryd.func9, Tryd.ntmps9
      go_wp2_with fail
      refine HLV.out.mono ?_
      rintro e w1 ⟨rfl, hb1⟩
      have HB1 := Lib.hid hb1
      clear hb1
      go_wp2_with fail
      refine ((HCP.out) w1 HB1.out).mono ?_
      rintro e w2 ⟨hb, he⟩
      rw [HR.out] at he
      subst he
      simp only []
      have HB2 := Lib.hid (HB1.out.trans (hb.mono HB1.out.size))
      clear hb
      go_wp2_with fail
      refine ((HCQ.out) w2 HB2.out).mono ?_
      rintro e w3 ⟨hb, he⟩
      rw [HR2.out] at he
      subst he
      simp only []
      have HB3 := Lib.hid (HB2.out.trans (hb.mono HB2.out.size))
      clear hb
      go_wp2
      go_ret
      exact ⟨rfl, HB3.out⟩
  | inl n =>
    cases hr2 : checkS q.data.toList with
    | inr b =>
      have hz1 := fun W => errI_nnil ea 0 W
      have hz2 := fun op x y W => errI_guard0 ea 0 op x y W
      have HR := Lib.hid hr; have HR2 := Lib.hid hr2
      clear HE hr hr2
      generalize errI ea 0 = v at *
      go_enter Tryd.func9, Tryd.ntmps9
      go_wp2_with fail
      refine HLV.out.mono ?_
      rintro e w1 ⟨rfl, hb1⟩
      have HB1 := Lib.hid hb1
      clear hb1
      go_wp2_with fail
      refine ((HCP.out) w1 HB1.out).mono ?_
      rintro e w2 ⟨hb, he⟩
      rw [HR.out] at he
      subst he
      simp only []
      have HB2 := Lib.hid (HB1.out.trans (hb.mono HB1.out.size))
      clear hb
      go_wp2_with fail
      refine ((HCQ.out) w2 HB2.out).mono ?_
      rintro e w3 ⟨hb, he⟩
      rw [HR2.out] at he
      subst he
      simp only []
      have HB3 := Lib.hid (HB2.out.trans (hb.mono HB2.out.size))
      clear hb
      go_wp2
      go_ret
      exact ⟨rfl, HB3.out⟩
    | inl m =>
      clear HCP HCQ
      obtain ⟨s, hD⟩ := der_of hr
      obtain ⟨t, hD2⟩ := der_of hr2
      obtain ⟨st, hD0⟩ := hD.blank hD2
      rw [← jo0] at hD0
      have hD3 := hD.or hD2
      rw [← jo1] at hD3
      have hD4 := hD.and hD2
      rw [← jo2] at hD4
      have hD5 := hD.bar hD2
      rw [← jo3] at hD5
      have hD6 := hD.signs hD2
      rw [← jo4] at hD6
      have HC0 := Lib.hid (fun (W : World) (hW : Below w.heap.size w W) => check_der hD W ea 0 (by omega) (HE.out W hW).1 (HE.out W hW).2)
      have HC1 := Lib.hid (fun (W : World) (hW : Below w.heap.size w W) => check_der hD2 W ea 0 (by omega) (HE.out W hW).1 (HE.out W hW).2)
      have HC2 := Lib.hid (fun (W : World) (hW : Below w.heap.size w W) => check_der hD0 W ea 0 (Nat.le_trans (jo_size0 p q hp hq) (by omega)) (HE.out W hW).1 (HE.out W hW).2)
      have HP := Lib.hid (fun (hn : max n m < 64) (W : World) (hW : Below w.heap.size w W) => And.intro (parse_der hD (by omega) W ea 0 (by omega) (HE.out W hW).1 (HE.out W hW).2) (And.intro (parse_der hD2 (by omega) W ea 0 (by omega) (HE.out W hW).1 (HE.out W hW).2) (And.intro (parse_der hD3 (by omega) W ea 0 (Nat.le_trans (jo_size _ _ _ _ _ p q (by decide) hp hq) (by omega)) (HE.out W hW).1 (HE.out W hW).2)
        (And.intro (parse_der hD4 (by omega) W ea 0 (Nat.le_trans (jo_size _ _ _ _ _ p q (by decide) hp hq) (by omega)) (HE.out W hW).1 (HE.out W hW).2) (And.intro (parse_der hD5 (by omega) W ea 0 (Nat.le_trans (jo_size _ _ _ _ _ p q (by decide) hp hq) (by omega)) (HE.out W hW).1 (HE.out W hW).2) (parse_der hD6 (by omega) W ea 0 (Nat.le_trans (jo_size4 p q hp hq) (by omega)) (HE.out W hW).1 (HE.out W hW).2))))))
      have HN := Lib.hid hD.le; have HM := Lib.hid hD2.le
      have hnl : (n : Int) ≤ 1000000000 := by have h := HN.out; rw [← ba_size] at h; omega
      have hml : (m : Int) ≤ 1000000000 := by have h := HM.out; rw [← ba_size] at h; omega
      obtain ⟨mx, hmx⟩ : ∃ mx, max n m = mx := ⟨_, rfl⟩
      have hmi : (if n < m then (m : Int) else (n : Int)) = (mx : Int) := by split <;> omega
      rw [hmx] at HC2 HP
      clear hmx
      clear hD hD2 hD0 hD3 hD4 hD5 hD6 hr hr2
      go_enter Tryd.func9, Tryd.ntmps9
      go_wp2_with fail
      refine HLV.out.mono ?_
      rintro e w1 ⟨rfl, hb1⟩
      have HB1 := Lib.hid hb1
      clear hb1
      go_wp2_with fail
      refine ((HC0.out) w1 HB1.out).mono ?_
      rintro e w2 ⟨hb, rfl⟩
      have HB2 := Lib.hid (HB1.out.trans (hb.mono HB1.out.size))
      clear hb
      go_wp2_with fail
      refine ((HC1.out) w2 HB2.out).mono ?_
      rintro e w3 ⟨hb, rfl⟩
      have HB3 := Lib.hid (HB2.out.trans (hb.mono HB2.out.size))
      clear hb
      go_wp2_with fail
      refine ((HC2.out) w3 HB3.out).mono ?_
      rintro e w4 ⟨hb, rfl⟩
      have HB4 := Lib.hid (HB3.out.trans (hb.mono HB3.out.size))
      clear hb
      by_cases hn : mx < 64
      rotate_left
      · have hn2 : decide (64 ≤ mx) = true := by simp; omega
        have hn3 : decide ((64 : Int) ≤ (mx : Int)) = true := decide_eq_true (by omega)
        clear hn
        go_wp2
        go_ret
        exact ⟨rfl, HB4.out⟩
      have HP2 := Lib.hid (HP.out hn)
      have hn2 : decide (64 ≤ mx) = false := by simp; omega
      have hn3 : decide ((64 : Int) ≤ (mx : Int)) = false := decide_eq_false (by omega)
      clear hn HP
      go_wp2_with fail
      refine ((fun W hW => (HP2.out W hW).1) w4 HB4.out).mono ?_
      rintro e u1 ⟨hb, x, rfl, hx⟩
      obtain ⟨kd1, fl1, tx1, xn1, ⟨la1, lb1, lc1⟩, ⟨ra1, rb1, rc1⟩, ⟨oa1, on1, oc1⟩, ⟨ka1, kn1, kc1⟩⟩ := x
      unfold NV.val
      simp only []
      have HU1 := Lib.hid (HB4.out.trans (hb.mono HB4.out.size))
      have HV1 := Lib.hid (HU1.out.alloc HU1.out.size (.cells #[.int .i64 kd1, .string (str fl1), .string (str tx1), .int .i64 xn1, .bool la1, .bool lb1, .string (str lc1), .bool ra1, .bool rb1, .string (str rc1), .slice oa1 on1 oc1, .slice ka1 kn1 kc1] 36))
      have HN1 := Lib.hid (Blk.new u1 36 #[.int .i64 kd1, .string (str fl1), .string (str tx1), .int .i64 xn1, .bool la1, .bool lb1, .string (str lc1), .bool ra1, .bool rb1, .string (str rc1), .slice oa1 on1 oc1, .slice ka1 kn1 kc1])
      have HX1 := Lib.hid (hx.belowW ((Below.refl u1.heap.size u1).alloc (Nat.le_refl _) (.cells #[.int .i64 kd1, .string (str fl1), .string (str tx1), .int .i64 xn1, .bool la1, .bool lb1, .string (str lc1), .bool ra1, .bool rb1, .string (str rc1), .slice oa1 on1 oc1, .slice ka1 kn1 kc1] 36)))
      clear hb hx
      go_wp2_with fail
      generalize u1.alloc (.cells #[.int .i64 kd1, .string (str fl1), .string (str tx1), .int .i64 xn1, .bool la1, .bool lb1, .string (str lc1), .bool ra1, .bool rb1, .string (str rc1), .slice oa1 on1 oc1, .slice ka1 kn1 kc1] 36) = v1 at *
      refine ((fun W hW => (HP2.out W hW).2.1) v1 HV1.out).mono ?_
      rintro e u2 ⟨hb, x, rfl, hx⟩
      obtain ⟨kd2, fl2, tx2, xn2, ⟨la2, lb2, lc2⟩, ⟨ra2, rb2, rc2⟩, ⟨oa2, on2, oc2⟩, ⟨ka2, kn2, kc2⟩⟩ := x
      unfold NV.val
      simp only []
      have HU2 := Lib.hid (HV1.out.trans (hb.mono HV1.out.size))
      have HV2 := Lib.hid (HU2.out.alloc HU2.out.size (.cells #[.int .i64 kd2, .string (str fl2), .string (str tx2), .int .i64 xn2, .bool la2, .bool lb2, .string (str lc2), .bool ra2, .bool rb2, .string (str rc2), .slice oa2 on2 oc2, .slice ka2 kn2 kc2] 36))
      have HN2 := Lib.hid (Blk.new u2 36 #[.int .i64 kd2, .string (str fl2), .string (str tx2), .int .i64 xn2, .bool la2, .bool lb2, .string (str lc2), .bool ra2, .bool rb2, .string (str rc2), .slice oa2 on2 oc2, .slice ka2 kn2 kc2])
      have HX2 := Lib.hid (hx.belowW ((Below.refl u2.heap.size u2).alloc (Nat.le_refl _) (.cells #[.int .i64 kd2, .string (str fl2), .string (str tx2), .int .i64 xn2, .bool la2, .bool lb2, .string (str lc2), .bool ra2, .bool rb2, .string (str rc2), .slice oa2 on2 oc2, .slice ka2 kn2 kc2] 36)))
      have HM := Lib.hid ((HN1.out.belowW hb).alloc (.cells #[.int .i64 kd2, .string (str fl2), .string (str tx2), .int .i64 xn2, .bool la2, .bool lb2, .string (str lc2), .bool ra2, .bool rb2, .string (str rc2), .slice oa2 on2 oc2, .slice ka2 kn2 kc2] 36))
      have HY := Lib.hid ((HX1.out.belowW hb).belowW ((Below.refl u2.heap.size u2).alloc (Nat.le_refl _) (.cells #[.int .i64 kd2, .string (str fl2), .string (str tx2), .int .i64 xn2, .bool la2, .bool lb2, .string (str lc2), .bool ra2, .bool rb2, .string (str rc2), .slice oa2 on2 oc2, .slice ka2 kn2 kc2] 36)))
      clear HN1 HX1
      have HN1 := HM; have HX1 := HY
      clear HM HY
      clear hb hx
      have HS6 := Lib.hid (Blk.new (u2.alloc (.cells #[.int .i64 kd2, .string (str fl2), .string (str tx2), .int .i64 xn2, .bool la2, .bool lb2, .string (str lc2), .bool ra2, .bool rb2, .string (str rc2), .slice oa2 on2 oc2, .slice ka2 kn2 kc2] 36)) 9 #[.string ⟨#[32, 79, 82, 32]⟩, .string ⟨#[32, 65, 78, 68, 32]⟩, .string ⟨#[32, 124, 32]⟩])
      have HV6 := Lib.hid (HV2.out.alloc HV2.out.size (.cells #[.string ⟨#[32, 79, 82, 32]⟩, .string ⟨#[32, 65, 78, 68, 32]⟩, .string ⟨#[32, 124, 32]⟩] 9))
      have HNA := Lib.hid (HN1.out.alloc (.cells #[.string ⟨#[32, 79, 82, 32]⟩, .string ⟨#[32, 65, 78, 68, 32]⟩, .string ⟨#[32, 124, 32]⟩] 9)); have HNB := Lib.hid (HN2.out.alloc (.cells #[.string ⟨#[32, 79, 82, 32]⟩, .string ⟨#[32, 65, 78, 68, 32]⟩, .string ⟨#[32, 124, 32]⟩] 9))
      have HXA := Lib.hid (HX1.out.belowW ((Below.refl (u2.alloc (.cells #[.int .i64 kd2, .string (str fl2), .string (str tx2), .int .i64 xn2, .bool la2, .bool lb2, .string (str lc2), .bool ra2, .bool rb2, .string (str rc2), .slice oa2 on2 oc2, .slice ka2 kn2 kc2] 36)).heap.size (u2.alloc (.cells #[.int .i64 kd2, .string (str fl2), .string (str tx2), .int .i64 xn2, .bool la2, .bool lb2, .string (str lc2), .bool ra2, .bool rb2, .string (str rc2), .slice oa2 on2 oc2, .slice ka2 kn2 kc2] 36))).alloc (Nat.le_refl _) (.cells #[.string ⟨#[32, 79, 82, 32]⟩, .string ⟨#[32, 65, 78, 68, 32]⟩, .string ⟨#[32, 124, 32]⟩] 9))); have HXB := Lib.hid (HX2.out.belowW ((Below.refl (u2.alloc (.cells #[.int .i64 kd2, .string (str fl2), .string (str tx2), .int .i64 xn2, .bool la2, .bool lb2, .string (str lc2), .bool ra2, .bool rb2, .string (str rc2), .slice oa2 on2 oc2, .slice ka2 kn2 kc2] 36)).heap.size (u2.alloc (.cells #[.int .i64 kd2, .string (str fl2), .string (str tx2), .int .i64 xn2, .bool la2, .bool lb2, .string (str lc2), .bool ra2, .bool rb2, .string (str rc2), .slice oa2 on2 oc2, .slice ka2 kn2 kc2] 36))).alloc (Nat.le_refl _) (.cells #[.string ⟨#[32, 79, 82, 32]⟩, .string ⟨#[32, 65, 78, 68, 32]⟩, .string ⟨#[32, 124, 32]⟩] 9)))
      clear HN1 HN2 HX1 HX2
      go_wp2_with fail
      rw [World.size_alloc] at HS6
      generalize (u2.alloc (.cells #[.int .i64 kd2, .string (str fl2), .string (str tx2), .int .i64 xn2, .bool la2, .bool lb2, .string (str lc2), .bool ra2, .bool rb2, .string (str rc2), .slice oa2 on2 oc2, .slice ka2 kn2 kc2] 36)).alloc (.cells #[.string ⟨#[32, 79, 82, 32]⟩, .string ⟨#[32, 65, 78, 68, 32]⟩, .string ⟨#[32, 124, 32]⟩] 9) = v6 at *
      go_loopw [86] (fun iv wr => JoRel v6 iv wr) (fun iv _ => 3 - (intOf iv).toNat)
      case atStart => exact ⟨0, by omega, rfl, Below.refl _ _⟩
      case round =>
        obtain ⟨i, hi, rfl, hb⟩ := hrel
        have HBR := Lib.hid hb
        have HWR := Lib.hid (HV6.out.trans (hb.mono HV6.out.size))
        have hss := HS6.out.belowW hb
        have s0 := hss.cell 0; have s1 := hss.cell 1; have s2 := hss.cell 2
        simp only [List.getElem?_toArray, List.getElem?_cons_zero, List.getElem?_cons_succ] at s0 s1 s2
        have HNA2 := Lib.hid (HNA.out.belowW hb); have HNB2 := Lib.hid (HNB.out.belowW hb); have HXA2 := Lib.hid (HXA.out.belowW hb); have HXB2 := Lib.hid (HXB.out.belowW hb)
        clear hb hss
        have h3 : i = 0 ∨ i = 1 ∨ i = 2 ∨ i = 3 := by omega
        clear hi
        rcases h3 with rfl | rfl | rfl | rfl
        rotate_right
        · go_wp2_with fail
          refine ((fun W hW => (HP2.out W hW).2.2.2.2.2) wr HWR.out).mono ?_
          rintro e u3 ⟨hb, x, rfl, hx⟩
          have hx2 : NdR u3 (rng wr.heap.size u3.heap.size) x (.mk 9 [] [] 0 bd0 bd0 [1, 2] [s, t]) := hx
          clear hx
          rcases hx2 with ⟨h1, h2, h3, h4⟩
          rename_i so sk nl
          obtain ⟨y1, y2, rfl⟩ := len_two h3
          have hy1 := h4 0 y1 s rfl rfl
          have hy2 := h4 1 y2 t rfl rfl
          obtain ⟨oa3, on3, oc3⟩ := so
          obtain ⟨ka3, kn3, kc3⟩ := sk
          obtain rfl : on3 = 2 := h1.1
          obtain rfl : kn3 = 2 := h2.1
          obtain ⟨b', hb', hbl2, g0, g1, g2, g3, g4, g5, g6, g7, g8, g9, g10, g11⟩ := at_ndk h2 (show 1 < [y1, y2].length from by simp)
          obtain ⟨b, rfl, hbF, hbl, hc0, hcc⟩ := h2.nd0
          obtain rfl : b = b' := by injection hb'
          clear hb' hbF
          have ead : b.add (1 * 12) = ⟨b.block, b.off + 12, none⟩ := rfl
          rw [ead] at hbl2 g0 g1 g2 g3 g4 g5 g6 g7 g8 g9 g10 g11
          clear ead
          simp only [List.getElem_cons_succ, List.getElem_cons_zero] at hbl2 g0 g1 g2 g3 g4 g5 g6 g7 g8 g9 g10 g11
          obtain ⟨kd5, fl5, tx5, xn5, ⟨la5, lb5, lc5⟩, ⟨ra5, rb5, rc5⟩, ⟨oa5, on5, oc5⟩, ⟨ka5, kn5, kc5⟩⟩ := y1
          obtain ⟨kd6, fl6, tx6, xn6, ⟨la6, lb6, lc6⟩, ⟨ra6, rb6, rc6⟩, ⟨oa6, on6, oc6⟩, ⟨ka6, kn6, kc6⟩⟩ := y2
          have HCB := Lib.hid (show u3.cell? b = some (.int .i64 kd5) ∧ u3.cell? ⟨b.block, b.off + 1, none⟩ = some (.string (str fl5)) ∧ u3.cell? ⟨b.block, b.off + 2, none⟩ = some (.string (str tx5)) ∧ u3.cell? ⟨b.block, b.off + 3, none⟩ = some (.int .i64 xn5) ∧ u3.cell? ⟨b.block, b.off + 4, none⟩ = some (.bool la5) ∧ u3.cell? ⟨b.block, b.off + 5, none⟩ = some (.bool lb5) ∧ u3.cell? ⟨b.block, b.off + 6, none⟩ = some (.string (str lc5)) ∧ u3.cell? ⟨b.block, b.off + 7, none⟩ = some (.bool ra5) ∧ u3.cell? ⟨b.block, b.off + 8, none⟩ = some (.bool rb5) ∧ u3.cell? ⟨b.block, b.off + 9, none⟩ = some (.string (str rc5)) ∧ u3.cell? ⟨b.block, b.off + 10, none⟩ = some (.slice oa5 on5 oc5) ∧ u3.cell? ⟨b.block, b.off + 11, none⟩ = some (.slice ka5 kn5 kc5) ∧ b.block < u3.heap.size from ⟨hc0, hcc 0 _ rfl, hcc 1 _ rfl, hcc 2 _ rfl, hcc 3 _ rfl, hcc 4 _ rfl, hcc 5 _ rfl, hcc 6 _ rfl, hcc 7 _ rfl, hcc 8 _ rfl, hcc 9 _ rfl, hcc 10 _ rfl, hbl⟩)
          have HCC := Lib.hid (show u3.cell? ⟨b.block, b.off + 12, none⟩ = some (.int .i64 kd6) ∧ u3.cell? ⟨b.block, b.off + 12 + 1, none⟩ = some (.string (str fl6)) ∧ u3.cell? ⟨b.block, b.off + 12 + 2, none⟩ = some (.string (str tx6)) ∧ u3.cell? ⟨b.block, b.off + 12 + 3, none⟩ = some (.int .i64 xn6) ∧ u3.cell? ⟨b.block, b.off + 12 + 4, none⟩ = some (.bool la6) ∧ u3.cell? ⟨b.block, b.off + 12 + 5, none⟩ = some (.bool lb6) ∧ u3.cell? ⟨b.block, b.off + 12 + 6, none⟩ = some (.string (str lc6)) ∧ u3.cell? ⟨b.block, b.off + 12 + 7, none⟩ = some (.bool ra6) ∧ u3.cell? ⟨b.block, b.off + 12 + 8, none⟩ = some (.bool rb6) ∧ u3.cell? ⟨b.block, b.off + 12 + 9, none⟩ = some (.string (str rc6)) ∧ u3.cell? ⟨b.block, b.off + 12 + 10, none⟩ = some (.slice oa6 on6 oc6) ∧ u3.cell? ⟨b.block, b.off + 12 + 11, none⟩ = some (.slice ka6 kn6 kc6) ∧ b.block < u3.heap.size from ⟨g0, g1, g2, g3, g4, g5, g6, g7, g8, g9, g10, g11, hbl2⟩)
          obtain ⟨o, rfl, q0⟩ := at_occ h1 (show 0 < [(1 : Int), 2].length from by simp)
          obtain ⟨o', ho', q1⟩ := at_occ h1 (show 1 < [(1 : Int), 2].length from by simp)
          obtain rfl : o = o' := by injection ho'
          simp only [List.getElem_cons_succ, List.getElem_cons_zero] at q0 q1
          have HOC := Lib.hid (And.intro q0 (And.intro q1 (And.intro (World.block_lt_of_cell? u3 _ q0) (World.block_lt_of_cell? u3 _ q1))))
          clear ho' q0 q1
          have HX5 := Lib.hid hy1; have HX6 := Lib.hid hy2
          clear h1 h2 h3 h4 g0 g1 g2 g3 g4 g5 g6 g7 g8 g9 g10 g11 hc0 hcc hbl hbl2 hy1 hy2
          unfold NV.val bd0
          simp only [str_nil]
          have HU3 := Lib.hid (HWR.out.trans (hb.mono HWR.out.size))
          have HV3 := Lib.hid (HU3.out.alloc HU3.out.size (.cells #[.int .i64 9, .string ⟨#[]⟩, .string ⟨#[]⟩, .int .i64 0, .bool false, .bool false, .string ⟨#[]⟩, .bool false, .bool false, .string ⟨#[]⟩, .slice (some o) 2 oc3, .slice (some b) 2 kc3] 36))
          have HN3 := Lib.hid (Blk.new u3 36 #[.int .i64 9, .string ⟨#[]⟩, .string ⟨#[]⟩, .int .i64 0, .bool false, .bool false, .string ⟨#[]⟩, .bool false, .bool false, .string ⟨#[]⟩, .slice (some o) 2 oc3, .slice (some b) 2 kc3])
          have HA3 := Lib.hid (show Below u3.heap.size u3 (u3.alloc (.cells #[.int .i64 9, .string ⟨#[]⟩, .string ⟨#[]⟩, .int .i64 0, .bool false, .bool false, .string ⟨#[]⟩, .bool false, .bool false, .string ⟨#[]⟩, .slice (some o) 2 oc3, .slice (some b) 2 kc3] 36)) from (Below.refl u3.heap.size u3).alloc (Nat.le_refl _) (.cells #[.int .i64 9, .string ⟨#[]⟩, .string ⟨#[]⟩, .int .i64 0, .bool false, .bool false, .string ⟨#[]⟩, .bool false, .bool false, .string ⟨#[]⟩, .slice (some o) 2 oc3, .slice (some b) 2 kc3] 36))
          have HNX := Lib.hid ((HNA2.out.belowW hb).belowW HA3.out); have HNY := Lib.hid ((HNB2.out.belowW hb).belowW HA3.out)
          have HXX := Lib.hid ((HXA2.out.belowW hb).belowW HA3.out); have HXY := Lib.hid ((HXB2.out.belowW hb).belowW HA3.out)
          have HX53 := Lib.hid (HX5.out.belowW HA3.out); have HX63 := Lib.hid (HX6.out.belowW HA3.out)
          have HBU := Lib.hid (show Below v6.heap.size v6 (u3.alloc (.cells #[.int .i64 9, .string ⟨#[]⟩, .string ⟨#[]⟩, .int .i64 0, .bool false, .bool false, .string ⟨#[]⟩, .bool false, .bool false, .string ⟨#[]⟩, .slice (some o) 2 oc3, .slice (some b) 2 kc3] 36)) from HBR.out.trans ((hb.trans (HA3.out.mono hb.size)).mono HBR.out.size))
          clear hb HX5 HX6 HNA2 HNB2 HXA2 HXB2
          obtain ⟨q0, q1, q0l, q1l⟩ := HOC.out
          have o0 := (HA3.out.cell q0l).trans q0; have o1 := (HA3.out.cell q1l).trans q1
          have ez : o.add 0 = o := by simp [Addr.add]
          rw [ez] at o0
          have o2 : (u3.alloc (.cells #[.int .i64 9, .string ⟨#[]⟩, .string ⟨#[]⟩, .int .i64 0, .bool false, .bool false, .string ⟨#[]⟩, .bool false, .bool false, .string ⟨#[]⟩, .slice (some o) 2 oc3, .slice (some b) 2 kc3] 36)).cell? ⟨o.block, o.off + 1, none⟩ = some (.int .i64 2) := o1
          clear q0 q1 q0l q1l ez
          go_wp2_with fail
          clear o0 o1 o2
          generalize u3.alloc (.cells #[.int .i64 9, .string ⟨#[]⟩, .string ⟨#[]⟩, .int .i64 0, .bool false, .bool false, .string ⟨#[]⟩, .bool false, .bool false, .string ⟨#[]⟩, .slice (some o) 2 oc3, .slice (some b) 2 kc3] 36) = v7 at *
          have HSF := Lib.hid (fun (W : World) (hW : Below v7.heap.size v7 W) => (show W.cell? ⟨u3.heap.size, 0, none⟩ = some (.int .i64 9) ∧ W.cell? ⟨u3.heap.size, 11, none⟩ = some (.slice (some b) 2 kc3) ∧ W.cell? b = some (.int .i64 kd5) ∧ W.cell? ⟨b.block, b.off + 1, none⟩ = some (.string (str fl5)) ∧ W.cell? ⟨b.block, b.off + 2, none⟩ = some (.string (str tx5)) ∧ W.cell? ⟨b.block, b.off + 3, none⟩ = some (.int .i64 xn5) ∧ W.cell? ⟨b.block, b.off + 4, none⟩ = some (.bool la5) ∧ W.cell? ⟨b.block, b.off + 5, none⟩ = some (.bool lb5) ∧ W.cell? ⟨b.block, b.off + 6, none⟩ = some (.string (str lc5)) ∧ W.cell? ⟨b.block, b.off + 7, none⟩ = some (.bool ra5) ∧ W.cell? ⟨b.block, b.off + 8, none⟩ = some (.bool rb5) ∧ W.cell? ⟨b.block, b.off + 9, none⟩ = some (.string (str rc5)) ∧ W.cell? ⟨b.block, b.off + 10, none⟩ = some (.slice oa5 on5 oc5) ∧ W.cell? ⟨b.block, b.off + 11, none⟩ = some (.slice ka5 kn5 kc5) ∧ W.cell? ⟨b.block, b.off + 12, none⟩ = some (.int .i64 kd6) ∧ W.cell? ⟨b.block, b.off + 12 + 1, none⟩ = some (.string (str fl6)) ∧ W.cell? ⟨b.block, b.off + 12 + 2, none⟩ = some (.string (str tx6)) ∧ W.cell? ⟨b.block, b.off + 12 + 3, none⟩ = some (.int .i64 xn6) ∧ W.cell? ⟨b.block, b.off + 12 + 4, none⟩ = some (.bool la6) ∧ W.cell? ⟨b.block, b.off + 12 + 5, none⟩ = some (.bool lb6) ∧ W.cell? ⟨b.block, b.off + 12 + 6, none⟩ = some (.string (str lc6)) ∧ W.cell? ⟨b.block, b.off + 12 + 7, none⟩ = some (.bool ra6) ∧ W.cell? ⟨b.block, b.off + 12 + 8, none⟩ = some (.bool rb6) ∧ W.cell? ⟨b.block, b.off + 12 + 9, none⟩ = some (.string (str rc6)) ∧ W.cell? ⟨b.block, b.off + 12 + 10, none⟩ = some (.slice oa6 on6 oc6) ∧ W.cell? ⟨b.block, b.off + 12 + 11, none⟩ = some (.slice ka6 kn6 kc6) ∧ W.cell? ⟨u1.heap.size, 0, none⟩ = some (.int .i64 kd1) ∧ W.cell? ⟨u1.heap.size, 1, none⟩ = some (.string (str fl1)) ∧ W.cell? ⟨u1.heap.size, 2, none⟩ = some (.string (str tx1)) ∧ W.cell? ⟨u1.heap.size, 3, none⟩ = some (.int .i64 xn1) ∧ W.cell? ⟨u1.heap.size, 4, none⟩ = some (.bool la1) ∧ W.cell? ⟨u1.heap.size, 5, none⟩ = some (.bool lb1) ∧ W.cell? ⟨u1.heap.size, 6, none⟩ = some (.string (str lc1)) ∧ W.cell? ⟨u1.heap.size, 7, none⟩ = some (.bool ra1) ∧ W.cell? ⟨u1.heap.size, 8, none⟩ = some (.bool rb1) ∧ W.cell? ⟨u1.heap.size, 9, none⟩ = some (.string (str rc1)) ∧ W.cell? ⟨u1.heap.size, 10, none⟩ = some (.slice oa1 on1 oc1) ∧ W.cell? ⟨u1.heap.size, 11, none⟩ = some (.slice ka1 kn1 kc1) ∧ W.cell? ⟨u2.heap.size, 0, none⟩ = some (.int .i64 kd2) ∧ W.cell? ⟨u2.heap.size, 1, none⟩ = some (.string (str fl2)) ∧ W.cell? ⟨u2.heap.size, 2, none⟩ = some (.string (str tx2)) ∧ W.cell? ⟨u2.heap.size, 3, none⟩ = some (.int .i64 xn2) ∧ W.cell? ⟨u2.heap.size, 4, none⟩ = some (.bool la2) ∧ W.cell? ⟨u2.heap.size, 5, none⟩ = some (.bool lb2) ∧ W.cell? ⟨u2.heap.size, 6, none⟩ = some (.string (str lc2)) ∧ W.cell? ⟨u2.heap.size, 7, none⟩ = some (.bool ra2) ∧ W.cell? ⟨u2.heap.size, 8, none⟩ = some (.bool rb2) ∧ W.cell? ⟨u2.heap.size, 9, none⟩ = some (.string (str rc2)) ∧ W.cell? ⟨u2.heap.size, 10, none⟩ = some (.slice oa2 on2 oc2) ∧ W.cell? ⟨u2.heap.size, 11, none⟩ = some (.slice ka2 kn2 kc2) ∧ Below v7.heap.size v7 W from by
            have hU : Below u3.heap.size u3 W := HA3.out.trans (hW.mono HA3.out.size)
            have hn1 := HNX.out.belowW hW
            have hn2 := HNY.out.belowW hW
            have hn3 := HN3.out.belowW hW
            obtain ⟨i0, i1, i2, i3, i4, i5, i6, i7, i8, i9, i10, i11, il⟩ := HCB.out
            obtain ⟨j0, j1, j2, j3, j4, j5, j6, j7, j8, j9, j10, j11, jl⟩ := HCC.out
            exact ⟨hn3.cell 0, hn3.cell 11, (hU.cell (p := b) il).trans i0, (hU.cell (p := ⟨b.block, b.off + 1, none⟩) il).trans i1, (hU.cell (p := ⟨b.block, b.off + 2, none⟩) il).trans i2, (hU.cell (p := ⟨b.block, b.off + 3, none⟩) il).trans i3, (hU.cell (p := ⟨b.block, b.off + 4, none⟩) il).trans i4, (hU.cell (p := ⟨b.block, b.off + 5, none⟩) il).trans i5, (hU.cell (p := ⟨b.block, b.off + 6, none⟩) il).trans i6, (hU.cell (p := ⟨b.block, b.off + 7, none⟩) il).trans i7, (hU.cell (p := ⟨b.block, b.off + 8, none⟩) il).trans i8, (hU.cell (p := ⟨b.block, b.off + 9, none⟩) il).trans i9, (hU.cell (p := ⟨b.block, b.off + 10, none⟩) il).trans i10, (hU.cell (p := ⟨b.block, b.off + 11, none⟩) il).trans i11, (hU.cell (p := ⟨b.block, b.off + 12, none⟩) jl).trans j0, (hU.cell (p := ⟨b.block, b.off + 12 + 1, none⟩) jl).trans j1, (hU.cell (p := ⟨b.block, b.off + 12 + 2, none⟩) jl).trans j2, (hU.cell (p := ⟨b.block, b.off + 12 + 3, none⟩) jl).trans j3, (hU.cell (p := ⟨b.block, b.off + 12 + 4, none⟩) jl).trans j4, (hU.cell (p := ⟨b.block, b.off + 12 + 5, none⟩) jl).trans j5, (hU.cell (p := ⟨b.block, b.off + 12 + 6, none⟩) jl).trans j6, (hU.cell (p := ⟨b.block, b.off + 12 + 7, none⟩) jl).trans j7, (hU.cell (p := ⟨b.block, b.off + 12 + 8, none⟩) jl).trans j8, (hU.cell (p := ⟨b.block, b.off + 12 + 9, none⟩) jl).trans j9, (hU.cell (p := ⟨b.block, b.off + 12 + 10, none⟩) jl).trans j10, (hU.cell (p := ⟨b.block, b.off + 12 + 11, none⟩) jl).trans j11, hn1.cell 0, hn1.cell 1, hn1.cell 2, hn1.cell 3, hn1.cell 4, hn1.cell 5, hn1.cell 6, hn1.cell 7, hn1.cell 8, hn1.cell 9, hn1.cell 10, hn1.cell 11, hn2.cell 0, hn2.cell 1, hn2.cell 2, hn2.cell 3, hn2.cell 4, hn2.cell 5, hn2.cell 6, hn2.cell 7, hn2.cell 8, hn2.cell 9, hn2.cell 10, hn2.cell 11, hW⟩))
          have HSM1 := Lib.hid (fun (W : World) (hW : Below v7.heap.size v7 W) => (same_all s W _ _ _ _ (HX53.out.belowW hW) (HXX.out.belowW hW)).mono (fun e w' (h : SamRet W e w') => (show e = .returned (.bool true) ∧ Below v7.heap.size v7 w' from ⟨h.1, hW.trans (h.2.mono hW.size)⟩)))
          have HSM2 := Lib.hid (fun (W : World) (hW : Below v7.heap.size v7 W) => (same_all t W _ _ _ _ (HX63.out.belowW hW) (HXY.out.belowW hW)).mono (fun e w' (h : SamRet W e w') => (show e = .returned (.bool true) ∧ Below v7.heap.size v7 w' from ⟨h.1, hW.trans (h.2.mono hW.size)⟩)))
          unfold NV.val at HSM1 HSM2
          simp only [] at HSM1 HSM2
          go_region_held3 (fun W => W.cell? ⟨u3.heap.size, 0, none⟩ = some (.int .i64 9) ∧ W.cell? ⟨u3.heap.size, 11, none⟩ = some (.slice (some b) 2 kc3) ∧ W.cell? b = some (.int .i64 kd5) ∧ W.cell? ⟨b.block, b.off + 1, none⟩ = some (.string (str fl5)) ∧ W.cell? ⟨b.block, b.off + 2, none⟩ = some (.string (str tx5)) ∧ W.cell? ⟨b.block, b.off + 3, none⟩ = some (.int .i64 xn5) ∧ W.cell? ⟨b.block, b.off + 4, none⟩ = some (.bool la5) ∧ W.cell? ⟨b.block, b.off + 5, none⟩ = some (.bool lb5) ∧ W.cell? ⟨b.block, b.off + 6, none⟩ = some (.string (str lc5)) ∧ W.cell? ⟨b.block, b.off + 7, none⟩ = some (.bool ra5) ∧ W.cell? ⟨b.block, b.off + 8, none⟩ = some (.bool rb5) ∧ W.cell? ⟨b.block, b.off + 9, none⟩ = some (.string (str rc5)) ∧ W.cell? ⟨b.block, b.off + 10, none⟩ = some (.slice oa5 on5 oc5) ∧ W.cell? ⟨b.block, b.off + 11, none⟩ = some (.slice ka5 kn5 kc5) ∧ W.cell? ⟨b.block, b.off + 12, none⟩ = some (.int .i64 kd6) ∧ W.cell? ⟨b.block, b.off + 12 + 1, none⟩ = some (.string (str fl6)) ∧ W.cell? ⟨b.block, b.off + 12 + 2, none⟩ = some (.string (str tx6)) ∧ W.cell? ⟨b.block, b.off + 12 + 3, none⟩ = some (.int .i64 xn6) ∧ W.cell? ⟨b.block, b.off + 12 + 4, none⟩ = some (.bool la6) ∧ W.cell? ⟨b.block, b.off + 12 + 5, none⟩ = some (.bool lb6) ∧ W.cell? ⟨b.block, b.off + 12 + 6, none⟩ = some (.string (str lc6)) ∧ W.cell? ⟨b.block, b.off + 12 + 7, none⟩ = some (.bool ra6) ∧ W.cell? ⟨b.block, b.off + 12 + 8, none⟩ = some (.bool rb6) ∧ W.cell? ⟨b.block, b.off + 12 + 9, none⟩ = some (.string (str rc6)) ∧ W.cell? ⟨b.block, b.off + 12 + 10, none⟩ = some (.slice oa6 on6 oc6) ∧ W.cell? ⟨b.block, b.off + 12 + 11, none⟩ = some (.slice ka6 kn6 kc6) ∧ W.cell? ⟨u1.heap.size, 0, none⟩ = some (.int .i64 kd1) ∧ W.cell? ⟨u1.heap.size, 1, none⟩ = some (.string (str fl1)) ∧ W.cell? ⟨u1.heap.size, 2, none⟩ = some (.string (str tx1)) ∧ W.cell? ⟨u1.heap.size, 3, none⟩ = some (.int .i64 xn1) ∧ W.cell? ⟨u1.heap.size, 4, none⟩ = some (.bool la1) ∧ W.cell? ⟨u1.heap.size, 5, none⟩ = some (.bool lb1) ∧ W.cell? ⟨u1.heap.size, 6, none⟩ = some (.string (str lc1)) ∧ W.cell? ⟨u1.heap.size, 7, none⟩ = some (.bool ra1) ∧ W.cell? ⟨u1.heap.size, 8, none⟩ = some (.bool rb1) ∧ W.cell? ⟨u1.heap.size, 9, none⟩ = some (.string (str rc1)) ∧ W.cell? ⟨u1.heap.size, 10, none⟩ = some (.slice oa1 on1 oc1) ∧ W.cell? ⟨u1.heap.size, 11, none⟩ = some (.slice ka1 kn1 kc1) ∧ W.cell? ⟨u2.heap.size, 0, none⟩ = some (.int .i64 kd2) ∧ W.cell? ⟨u2.heap.size, 1, none⟩ = some (.string (str fl2)) ∧ W.cell? ⟨u2.heap.size, 2, none⟩ = some (.string (str tx2)) ∧ W.cell? ⟨u2.heap.size, 3, none⟩ = some (.int .i64 xn2) ∧ W.cell? ⟨u2.heap.size, 4, none⟩ = some (.bool la2) ∧ W.cell? ⟨u2.heap.size, 5, none⟩ = some (.bool lb2) ∧ W.cell? ⟨u2.heap.size, 6, none⟩ = some (.string (str lc2)) ∧ W.cell? ⟨u2.heap.size, 7, none⟩ = some (.bool ra2) ∧ W.cell? ⟨u2.heap.size, 8, none⟩ = some (.bool rb2) ∧ W.cell? ⟨u2.heap.size, 9, none⟩ = some (.string (str rc2)) ∧ W.cell? ⟨u2.heap.size, 10, none⟩ = some (.slice oa2 on2 oc2) ∧ W.cell? ⟨u2.heap.size, 11, none⟩ = some (.slice ka2 kn2 kc2) ∧ Below v7.heap.size v7 W) (exact HSF.out _ (by repeat (first | assumption | exact Below.refl _ _ | with_reducible refine Below.drew ?_ | with_reducible refine Below.alloc ?_ (by first | exact Nat.le_refl _ | exact Below.size (by assumption)) _))) (first | ((with_reducible refine (HSM1.out _ ?_).mono ?_); (repeat (first | assumption | exact Below.refl _ _ | with_reducible refine Below.drew ?_ | with_reducible refine Below.alloc ?_ (by first | exact Nat.le_refl _ | exact Below.size (by assumption)) _)); (rintro e w' ⟨rfl, hk1⟩)) | ((with_reducible refine (HSM2.out _ ?_).mono ?_); (repeat (first | assumption | exact Below.refl _ _ | with_reducible refine Below.drew ?_ | with_reducible refine Below.alloc ?_ (by first | exact Nat.le_refl _ | exact Below.size (by assumption)) _)); (rintro e w' ⟨rfl, hk1⟩)))
          rename_i hfin
          have HBF := Lib.hid (HV6.out.trans ((HBU.out.trans (hfin.2.2.2.2.2.2.2.2.2.2.2.2.2.2.2.2.2.2.2.2.2.2.2.2.2.2.2.2.2.2.2.2.2.2.2.2.2.2.2.2.2.2.2.2.2.2.2.2.2.2.mono HBU.out.size)).mono HV6.out.size))
          clear hfin
          go_wp2
          go_ret
          exact ⟨rfl, HBF.out⟩
        · go_wp2_with fail
          refine ((fun W hW => (HP2.out W hW).2.2.1) wr HWR.out).mono ?_
          rintro e u3 ⟨hb, x, rfl, hx⟩
          have hx2 : NdR u3 (rng wr.heap.size u3.heap.size) x (.mk 11 [] [] 0 bd0 bd0 [] [s, t]) := hx
          clear hx
          rcases hx2 with ⟨h1, h2, h3, h4⟩
          rename_i so sk nl
          obtain ⟨y1, y2, rfl⟩ := len_two h3
          have hy1 := h4 0 y1 s rfl rfl
          have hy2 := h4 1 y2 t rfl rfl
          obtain ⟨oa3, on3, oc3⟩ := so
          obtain ⟨ka3, kn3, kc3⟩ := sk
          obtain rfl : on3 = 0 := h1.1
          obtain rfl : kn3 = 2 := h2.1
          obtain ⟨b', hb', hbl2, g0, g1, g2, g3, g4, g5, g6, g7, g8, g9, g10, g11⟩ := at_ndk h2 (show 1 < [y1, y2].length from by simp)
          obtain ⟨b, rfl, hbF, hbl, hc0, hcc⟩ := h2.nd0
          obtain rfl : b = b' := by injection hb'
          clear hb' hbF
          have ead : b.add (1 * 12) = ⟨b.block, b.off + 12, none⟩ := rfl
          rw [ead] at hbl2 g0 g1 g2 g3 g4 g5 g6 g7 g8 g9 g10 g11
          clear ead
          simp only [List.getElem_cons_succ, List.getElem_cons_zero] at hbl2 g0 g1 g2 g3 g4 g5 g6 g7 g8 g9 g10 g11
          obtain ⟨kd5, fl5, tx5, xn5, ⟨la5, lb5, lc5⟩, ⟨ra5, rb5, rc5⟩, ⟨oa5, on5, oc5⟩, ⟨ka5, kn5, kc5⟩⟩ := y1
          obtain ⟨kd6, fl6, tx6, xn6, ⟨la6, lb6, lc6⟩, ⟨ra6, rb6, rc6⟩, ⟨oa6, on6, oc6⟩, ⟨ka6, kn6, kc6⟩⟩ := y2
          have HCB := Lib.hid (show u3.cell? b = some (.int .i64 kd5) ∧ u3.cell? ⟨b.block, b.off + 1, none⟩ = some (.string (str fl5)) ∧ u3.cell? ⟨b.block, b.off + 2, none⟩ = some (.string (str tx5)) ∧ u3.cell? ⟨b.block, b.off + 3, none⟩ = some (.int .i64 xn5) ∧ u3.cell? ⟨b.block, b.off + 4, none⟩ = some (.bool la5) ∧ u3.cell? ⟨b.block, b.off + 5, none⟩ = some (.bool lb5) ∧ u3.cell? ⟨b.block, b.off + 6, none⟩ = some (.string (str lc5)) ∧ u3.cell? ⟨b.block, b.off + 7, none⟩ = some (.bool ra5) ∧ u3.cell? ⟨b.block, b.off + 8, none⟩ = some (.bool rb5) ∧ u3.cell? ⟨b.block, b.off + 9, none⟩ = some (.string (str rc5)) ∧ u3.cell? ⟨b.block, b.off + 10, none⟩ = some (.slice oa5 on5 oc5) ∧ u3.cell? ⟨b.block, b.off + 11, none⟩ = some (.slice ka5 kn5 kc5) ∧ b.block < u3.heap.size from ⟨hc0, hcc 0 _ rfl, hcc 1 _ rfl, hcc 2 _ rfl, hcc 3 _ rfl, hcc 4 _ rfl, hcc 5 _ rfl, hcc 6 _ rfl, hcc 7 _ rfl, hcc 8 _ rfl, hcc 9 _ rfl, hcc 10 _ rfl, hbl⟩)
          have HCC := Lib.hid (show u3.cell? ⟨b.block, b.off + 12, none⟩ = some (.int .i64 kd6) ∧ u3.cell? ⟨b.block, b.off + 12 + 1, none⟩ = some (.string (str fl6)) ∧ u3.cell? ⟨b.block, b.off + 12 + 2, none⟩ = some (.string (str tx6)) ∧ u3.cell? ⟨b.block, b.off + 12 + 3, none⟩ = some (.int .i64 xn6) ∧ u3.cell? ⟨b.block, b.off + 12 + 4, none⟩ = some (.bool la6) ∧ u3.cell? ⟨b.block, b.off + 12 + 5, none⟩ = some (.bool lb6) ∧ u3.cell? ⟨b.block, b.off + 12 + 6, none⟩ = some (.string (str lc6)) ∧ u3.cell? ⟨b.block, b.off + 12 + 7, none⟩ = some (.bool ra6) ∧ u3.cell? ⟨b.block, b.off + 12 + 8, none⟩ = some (.bool rb6) ∧ u3.cell? ⟨b.block, b.off + 12 + 9, none⟩ = some (.string (str rc6)) ∧ u3.cell? ⟨b.block, b.off + 12 + 10, none⟩ = some (.slice oa6 on6 oc6) ∧ u3.cell? ⟨b.block, b.off + 12 + 11, none⟩ = some (.slice ka6 kn6 kc6) ∧ b.block < u3.heap.size from ⟨g0, g1, g2, g3, g4, g5, g6, g7, g8, g9, g10, g11, hbl2⟩)
          have HX5 := Lib.hid hy1; have HX6 := Lib.hid hy2
          clear h1 h2 h3 h4 g0 g1 g2 g3 g4 g5 g6 g7 g8 g9 g10 g11 hc0 hcc hbl hbl2 hy1 hy2
          unfold NV.val bd0
          simp only [str_nil]
          have HU3 := Lib.hid (HWR.out.trans (hb.mono HWR.out.size))
          have HV3 := Lib.hid (HU3.out.alloc HU3.out.size (.cells #[.int .i64 11, .string ⟨#[]⟩, .string ⟨#[]⟩, .int .i64 0, .bool false, .bool false, .string ⟨#[]⟩, .bool false, .bool false, .string ⟨#[]⟩, .slice oa3 0 oc3, .slice (some b) 2 kc3] 36))
          have HN3 := Lib.hid (Blk.new u3 36 #[.int .i64 11, .string ⟨#[]⟩, .string ⟨#[]⟩, .int .i64 0, .bool false, .bool false, .string ⟨#[]⟩, .bool false, .bool false, .string ⟨#[]⟩, .slice oa3 0 oc3, .slice (some b) 2 kc3])
          have HA3 := Lib.hid (show Below u3.heap.size u3 (u3.alloc (.cells #[.int .i64 11, .string ⟨#[]⟩, .string ⟨#[]⟩, .int .i64 0, .bool false, .bool false, .string ⟨#[]⟩, .bool false, .bool false, .string ⟨#[]⟩, .slice oa3 0 oc3, .slice (some b) 2 kc3] 36)) from (Below.refl u3.heap.size u3).alloc (Nat.le_refl _) (.cells #[.int .i64 11, .string ⟨#[]⟩, .string ⟨#[]⟩, .int .i64 0, .bool false, .bool false, .string ⟨#[]⟩, .bool false, .bool false, .string ⟨#[]⟩, .slice oa3 0 oc3, .slice (some b) 2 kc3] 36))
          have HNX := Lib.hid ((HNA2.out.belowW hb).belowW HA3.out); have HNY := Lib.hid ((HNB2.out.belowW hb).belowW HA3.out)
          have HXX := Lib.hid ((HXA2.out.belowW hb).belowW HA3.out); have HXY := Lib.hid ((HXB2.out.belowW hb).belowW HA3.out)
          have HX53 := Lib.hid (HX5.out.belowW HA3.out); have HX63 := Lib.hid (HX6.out.belowW HA3.out)
          have HBU := Lib.hid (show Below v6.heap.size v6 (u3.alloc (.cells #[.int .i64 11, .string ⟨#[]⟩, .string ⟨#[]⟩, .int .i64 0, .bool false, .bool false, .string ⟨#[]⟩, .bool false, .bool false, .string ⟨#[]⟩, .slice oa3 0 oc3, .slice (some b) 2 kc3] 36)) from HBR.out.trans ((hb.trans (HA3.out.mono hb.size)).mono HBR.out.size))
          clear hb HX5 HX6 HNA2 HNB2 HXA2 HXB2
          go_wp2_with fail
          
          generalize u3.alloc (.cells #[.int .i64 11, .string ⟨#[]⟩, .string ⟨#[]⟩, .int .i64 0, .bool false, .bool false, .string ⟨#[]⟩, .bool false, .bool false, .string ⟨#[]⟩, .slice oa3 0 oc3, .slice (some b) 2 kc3] 36) = v7 at *
          have HSF := Lib.hid (fun (W : World) (hW : Below v7.heap.size v7 W) => (show W.cell? ⟨u3.heap.size, 0, none⟩ = some (.int .i64 11) ∧ W.cell? ⟨u3.heap.size, 11, none⟩ = some (.slice (some b) 2 kc3) ∧ W.cell? b = some (.int .i64 kd5) ∧ W.cell? ⟨b.block, b.off + 1, none⟩ = some (.string (str fl5)) ∧ W.cell? ⟨b.block, b.off + 2, none⟩ = some (.string (str tx5)) ∧ W.cell? ⟨b.block, b.off + 3, none⟩ = some (.int .i64 xn5) ∧ W.cell? ⟨b.block, b.off + 4, none⟩ = some (.bool la5) ∧ W.cell? ⟨b.block, b.off + 5, none⟩ = some (.bool lb5) ∧ W.cell? ⟨b.block, b.off + 6, none⟩ = some (.string (str lc5)) ∧ W.cell? ⟨b.block, b.off + 7, none⟩ = some (.bool ra5) ∧ W.cell? ⟨b.block, b.off + 8, none⟩ = some (.bool rb5) ∧ W.cell? ⟨b.block, b.off + 9, none⟩ = some (.string (str rc5)) ∧ W.cell? ⟨b.block, b.off + 10, none⟩ = some (.slice oa5 on5 oc5) ∧ W.cell? ⟨b.block, b.off + 11, none⟩ = some (.slice ka5 kn5 kc5) ∧ W.cell? ⟨b.block, b.off + 12, none⟩ = some (.int .i64 kd6) ∧ W.cell? ⟨b.block, b.off + 12 + 1, none⟩ = some (.string (str fl6)) ∧ W.cell? ⟨b.block, b.off + 12 + 2, none⟩ = some (.string (str tx6)) ∧ W.cell? ⟨b.block, b.off + 12 + 3, none⟩ = some (.int .i64 xn6) ∧ W.cell? ⟨b.block, b.off + 12 + 4, none⟩ = some (.bool la6) ∧ W.cell? ⟨b.block, b.off + 12 + 5, none⟩ = some (.bool lb6) ∧ W.cell? ⟨b.block, b.off + 12 + 6, none⟩ = some (.string (str lc6)) ∧ W.cell? ⟨b.block, b.off + 12 + 7, none⟩ = some (.bool ra6) ∧ W.cell? ⟨b.block, b.off + 12 + 8, none⟩ = some (.bool rb6) ∧ W.cell? ⟨b.block, b.off + 12 + 9, none⟩ = some (.string (str rc6)) ∧ W.cell? ⟨b.block, b.off + 12 + 10, none⟩ = some (.slice oa6 on6 oc6) ∧ W.cell? ⟨b.block, b.off + 12 + 11, none⟩ = some (.slice ka6 kn6 kc6) ∧ W.cell? ⟨u1.heap.size, 0, none⟩ = some (.int .i64 kd1) ∧ W.cell? ⟨u1.heap.size, 1, none⟩ = some (.string (str fl1)) ∧ W.cell? ⟨u1.heap.size, 2, none⟩ = some (.string (str tx1)) ∧ W.cell? ⟨u1.heap.size, 3, none⟩ = some (.int .i64 xn1) ∧ W.cell? ⟨u1.heap.size, 4, none⟩ = some (.bool la1) ∧ W.cell? ⟨u1.heap.size, 5, none⟩ = some (.bool lb1) ∧ W.cell? ⟨u1.heap.size, 6, none⟩ = some (.string (str lc1)) ∧ W.cell? ⟨u1.heap.size, 7, none⟩ = some (.bool ra1) ∧ W.cell? ⟨u1.heap.size, 8, none⟩ = some (.bool rb1) ∧ W.cell? ⟨u1.heap.size, 9, none⟩ = some (.string (str rc1)) ∧ W.cell? ⟨u1.heap.size, 10, none⟩ = some (.slice oa1 on1 oc1) ∧ W.cell? ⟨u1.heap.size, 11, none⟩ = some (.slice ka1 kn1 kc1) ∧ W.cell? ⟨u2.heap.size, 0, none⟩ = some (.int .i64 kd2) ∧ W.cell? ⟨u2.heap.size, 1, none⟩ = some (.string (str fl2)) ∧ W.cell? ⟨u2.heap.size, 2, none⟩ = some (.string (str tx2)) ∧ W.cell? ⟨u2.heap.size, 3, none⟩ = some (.int .i64 xn2) ∧ W.cell? ⟨u2.heap.size, 4, none⟩ = some (.bool la2) ∧ W.cell? ⟨u2.heap.size, 5, none⟩ = some (.bool lb2) ∧ W.cell? ⟨u2.heap.size, 6, none⟩ = some (.string (str lc2)) ∧ W.cell? ⟨u2.heap.size, 7, none⟩ = some (.bool ra2) ∧ W.cell? ⟨u2.heap.size, 8, none⟩ = some (.bool rb2) ∧ W.cell? ⟨u2.heap.size, 9, none⟩ = some (.string (str rc2)) ∧ W.cell? ⟨u2.heap.size, 10, none⟩ = some (.slice oa2 on2 oc2) ∧ W.cell? ⟨u2.heap.size, 11, none⟩ = some (.slice ka2 kn2 kc2) ∧ Below v7.heap.size v7 W from by
            have hU : Below u3.heap.size u3 W := HA3.out.trans (hW.mono HA3.out.size)
            have hn1 := HNX.out.belowW hW
            have hn2 := HNY.out.belowW hW
            have hn3 := HN3.out.belowW hW
            obtain ⟨i0, i1, i2, i3, i4, i5, i6, i7, i8, i9, i10, i11, il⟩ := HCB.out
            obtain ⟨j0, j1, j2, j3, j4, j5, j6, j7, j8, j9, j10, j11, jl⟩ := HCC.out
            exact ⟨hn3.cell 0, hn3.cell 11, (hU.cell (p := b) il).trans i0, (hU.cell (p := ⟨b.block, b.off + 1, none⟩) il).trans i1, (hU.cell (p := ⟨b.block, b.off + 2, none⟩) il).trans i2, (hU.cell (p := ⟨b.block, b.off + 3, none⟩) il).trans i3, (hU.cell (p := ⟨b.block, b.off + 4, none⟩) il).trans i4, (hU.cell (p := ⟨b.block, b.off + 5, none⟩) il).trans i5, (hU.cell (p := ⟨b.block, b.off + 6, none⟩) il).trans i6, (hU.cell (p := ⟨b.block, b.off + 7, none⟩) il).trans i7, (hU.cell (p := ⟨b.block, b.off + 8, none⟩) il).trans i8, (hU.cell (p := ⟨b.block, b.off + 9, none⟩) il).trans i9, (hU.cell (p := ⟨b.block, b.off + 10, none⟩) il).trans i10, (hU.cell (p := ⟨b.block, b.off + 11, none⟩) il).trans i11, (hU.cell (p := ⟨b.block, b.off + 12, none⟩) jl).trans j0, (hU.cell (p := ⟨b.block, b.off + 12 + 1, none⟩) jl).trans j1, (hU.cell (p := ⟨b.block, b.off + 12 + 2, none⟩) jl).trans j2, (hU.cell (p := ⟨b.block, b.off + 12 + 3, none⟩) jl).trans j3, (hU.cell (p := ⟨b.block, b.off + 12 + 4, none⟩) jl).trans j4, (hU.cell (p := ⟨b.block, b.off + 12 + 5, none⟩) jl).trans j5, (hU.cell (p := ⟨b.block, b.off + 12 + 6, none⟩) jl).trans j6, (hU.cell (p := ⟨b.block, b.off + 12 + 7, none⟩) jl).trans j7, (hU.cell (p := ⟨b.block, b.off + 12 + 8, none⟩) jl).trans j8, (hU.cell (p := ⟨b.block, b.off + 12 + 9, none⟩) jl).trans j9, (hU.cell (p := ⟨b.block, b.off + 12 + 10, none⟩) jl).trans j10, (hU.cell (p := ⟨b.block, b.off + 12 + 11, none⟩) jl).trans j11, hn1.cell 0, hn1.cell 1, hn1.cell 2, hn1.cell 3, hn1.cell 4, hn1.cell 5, hn1.cell 6, hn1.cell 7, hn1.cell 8, hn1.cell 9, hn1.cell 10, hn1.cell 11, hn2.cell 0, hn2.cell 1, hn2.cell 2, hn2.cell 3, hn2.cell 4, hn2.cell 5, hn2.cell 6, hn2.cell 7, hn2.cell 8, hn2.cell 9, hn2.cell 10, hn2.cell 11, hW⟩))
          have HSM1 := Lib.hid (fun (W : World) (hW : Below v7.heap.size v7 W) => (same_all s W _ _ _ _ (HX53.out.belowW hW) (HXX.out.belowW hW)).mono (fun e w' (h : SamRet W e w') => (show e = .returned (.bool true) ∧ Below v7.heap.size v7 w' from ⟨h.1, hW.trans (h.2.mono hW.size)⟩)))
          have HSM2 := Lib.hid (fun (W : World) (hW : Below v7.heap.size v7 W) => (same_all t W _ _ _ _ (HX63.out.belowW hW) (HXY.out.belowW hW)).mono (fun e w' (h : SamRet W e w') => (show e = .returned (.bool true) ∧ Below v7.heap.size v7 w' from ⟨h.1, hW.trans (h.2.mono hW.size)⟩)))
          unfold NV.val at HSM1 HSM2
          simp only [] at HSM1 HSM2
          refine wp_region_held_drew (S := fun W => W.cell? ⟨u3.heap.size, 0, none⟩ = some (.int .i64 11) ∧ W.cell? ⟨u3.heap.size, 11, none⟩ = some (.slice (some b) 2 kc3) ∧ W.cell? b = some (.int .i64 kd5) ∧ W.cell? ⟨b.block, b.off + 1, none⟩ = some (.string (str fl5)) ∧ W.cell? ⟨b.block, b.off + 2, none⟩ = some (.string (str tx5)) ∧ W.cell? ⟨b.block, b.off + 3, none⟩ = some (.int .i64 xn5) ∧ W.cell? ⟨b.block, b.off + 4, none⟩ = some (.bool la5) ∧ W.cell? ⟨b.block, b.off + 5, none⟩ = some (.bool lb5) ∧ W.cell? ⟨b.block, b.off + 6, none⟩ = some (.string (str lc5)) ∧ W.cell? ⟨b.block, b.off + 7, none⟩ = some (.bool ra5) ∧ W.cell? ⟨b.block, b.off + 8, none⟩ = some (.bool rb5) ∧ W.cell? ⟨b.block, b.off + 9, none⟩ = some (.string (str rc5)) ∧ W.cell? ⟨b.block, b.off + 10, none⟩ = some (.slice oa5 on5 oc5) ∧ W.cell? ⟨b.block, b.off + 11, none⟩ = some (.slice ka5 kn5 kc5) ∧ W.cell? ⟨b.block, b.off + 12, none⟩ = some (.int .i64 kd6) ∧ W.cell? ⟨b.block, b.off + 12 + 1, none⟩ = some (.string (str fl6)) ∧ W.cell? ⟨b.block, b.off + 12 + 2, none⟩ = some (.string (str tx6)) ∧ W.cell? ⟨b.block, b.off + 12 + 3, none⟩ = some (.int .i64 xn6) ∧ W.cell? ⟨b.block, b.off + 12 + 4, none⟩ = some (.bool la6) ∧ W.cell? ⟨b.block, b.off + 12 + 5, none⟩ = some (.bool lb6) ∧ W.cell? ⟨b.block, b.off + 12 + 6, none⟩ = some (.string (str lc6)) ∧ W.cell? ⟨b.block, b.off + 12 + 7, none⟩ = some (.bool ra6) ∧ W.cell? ⟨b.block, b.off + 12 + 8, none⟩ = some (.bool rb6) ∧ W.cell? ⟨b.block, b.off + 12 + 9, none⟩ = some (.string (str rc6)) ∧ W.cell? ⟨b.block, b.off + 12 + 10, none⟩ = some (.slice oa6 on6 oc6) ∧ W.cell? ⟨b.block, b.off + 12 + 11, none⟩ = some (.slice ka6 kn6 kc6) ∧ W.cell? ⟨u1.heap.size, 0, none⟩ = some (.int .i64 kd1) ∧ W.cell? ⟨u1.heap.size, 1, none⟩ = some (.string (str fl1)) ∧ W.cell? ⟨u1.heap.size, 2, none⟩ = some (.string (str tx1)) ∧ W.cell? ⟨u1.heap.size, 3, none⟩ = some (.int .i64 xn1) ∧ W.cell? ⟨u1.heap.size, 4, none⟩ = some (.bool la1) ∧ W.cell? ⟨u1.heap.size, 5, none⟩ = some (.bool lb1) ∧ W.cell? ⟨u1.heap.size, 6, none⟩ = some (.string (str lc1)) ∧ W.cell? ⟨u1.heap.size, 7, none⟩ = some (.bool ra1) ∧ W.cell? ⟨u1.heap.size, 8, none⟩ = some (.bool rb1) ∧ W.cell? ⟨u1.heap.size, 9, none⟩ = some (.string (str rc1)) ∧ W.cell? ⟨u1.heap.size, 10, none⟩ = some (.slice oa1 on1 oc1) ∧ W.cell? ⟨u1.heap.size, 11, none⟩ = some (.slice ka1 kn1 kc1) ∧ W.cell? ⟨u2.heap.size, 0, none⟩ = some (.int .i64 kd2) ∧ W.cell? ⟨u2.heap.size, 1, none⟩ = some (.string (str fl2)) ∧ W.cell? ⟨u2.heap.size, 2, none⟩ = some (.string (str tx2)) ∧ W.cell? ⟨u2.heap.size, 3, none⟩ = some (.int .i64 xn2) ∧ W.cell? ⟨u2.heap.size, 4, none⟩ = some (.bool la2) ∧ W.cell? ⟨u2.heap.size, 5, none⟩ = some (.bool lb2) ∧ W.cell? ⟨u2.heap.size, 6, none⟩ = some (.string (str lc2)) ∧ W.cell? ⟨u2.heap.size, 7, none⟩ = some (.bool ra2) ∧ W.cell? ⟨u2.heap.size, 8, none⟩ = some (.bool rb2) ∧ W.cell? ⟨u2.heap.size, 9, none⟩ = some (.string (str rc2)) ∧ W.cell? ⟨u2.heap.size, 10, none⟩ = some (.slice oa2 on2 oc2) ∧ W.cell? ⟨u2.heap.size, 11, none⟩ = some (.slice ka2 kn2 kc2) ∧ Below v7.heap.size v7 W) (by kernel_rfl) ?_ (fun hHeld => ?_)
          · exact HSF.out _ (by repeat (first | assumption | exact Below.refl _ _ | with_reducible refine Below.drew ?_ | with_reducible refine Below.alloc ?_ (by first | exact Nat.le_refl _ | exact Below.size (by assumption)) _))
          refine wpAnyH_takeD (i := 0) (d := (some 105)) (v := ?_) (by kernel_rfl) (by kernel_rfl) (fun _ _ _ h => h) (fun oi ho => ?_) (by assumption) ?_
          rotate_left
          · cases ho
            refine Or.inl ⟨by rfl, ?_⟩
            intro wq hSw
            (try dsimp only at hSw)
            go_simp
            all_goals (with_reducible rfl)
          try simp only [Act.put, List.setIfInBounds_toArray, List.set_cons_zero, List.set_cons_succ]
          refine wpAnyH_takeD (i := 1) (d := (some 106)) (v := ?_) (by kernel_rfl) (by kernel_rfl) (fun _ _ _ h => h) (fun oi ho => ?_) (by assumption) ?_
          rotate_left
          · cases ho
            refine Or.inl ⟨by rfl, ?_⟩
            intro wq hSw
            (try dsimp only at hSw)
            go_simp
            all_goals (with_reducible rfl)
          try simp only [Act.put, List.setIfInBounds_toArray, List.set_cons_zero, List.set_cons_succ]
          refine wpAnyH_takeD (i := 2) (d := (some 107)) (v := ?_) (by kernel_rfl) (by kernel_rfl) (fun _ _ _ h => h) (fun oi ho => ?_) (by assumption) ?_
          rotate_left
          · cases ho
            refine Or.inl ⟨by rfl, ?_⟩
            intro wq hSw
            (try dsimp only at hSw)
            go_simp
            all_goals (with_reducible rfl)
          try simp only [Act.put, List.setIfInBounds_toArray, List.set_cons_zero, List.set_cons_succ]
          refine wpAnyH_takeD (i := 3) (d := (some 108)) (v := ?_) (by kernel_rfl) (by kernel_rfl) (fun _ _ _ h => h) (fun oi ho => ?_) (by assumption) ?_
          rotate_left
          · cases ho
            refine Or.inl ⟨by rfl, ?_⟩
            intro wq hSw
            (try dsimp only at hSw)
            go_simp
            all_goals (with_reducible rfl)
          try simp only [Act.put, List.setIfInBounds_toArray, List.set_cons_zero, List.set_cons_succ]
          refine wpAnyH_takeD (i := 6) (d := (some 111)) (v := ?_) (by kernel_rfl) (by kernel_rfl) (fun _ _ _ h => h) (fun oi ho => ?_) (by assumption) ?_
          rotate_left
          · cases ho
            refine Or.inl ⟨by rfl, ?_⟩
            intro wq hSw
            (try dsimp only at hSw)
            go_simp
            all_goals (with_reducible rfl)
          try simp only [Act.put, List.setIfInBounds_toArray, List.set_cons_zero, List.set_cons_succ]
          refine wpAnyH_takeD (i := 4) (d := (some 109)) (v := ?_) (by kernel_rfl) (by kernel_rfl) (fun _ _ _ h => h) (fun oi ho => ?_) (by assumption) ?_
          rotate_left
          · cases ho
            refine Or.inl ⟨by rfl, ?_⟩
            intro wq hSw
            (try dsimp only at hSw)
            go_simp
            all_goals (with_reducible rfl)
          try simp only [Act.put, List.setIfInBounds_toArray, List.set_cons_zero, List.set_cons_succ]
          refine wpAnyH_ready (rs := [5]) (by kernel_rfl) (by simp) ?_
          refine AllReadyH.cons rfl (fun K hK => ?_) AllReadyH.nil
          go_simp
          refine hK.out _ _ ?_ (fun hHeld => ?_)
          · exact HSF.out _ (by repeat (first | assumption | exact Below.refl _ _ | with_reducible refine Below.drew ?_ | with_reducible refine Below.alloc ?_ (by first | exact Nat.le_refl _ | exact Below.size (by assumption)) _))
          clear hK K
          try simp only [Act.put, List.setIfInBounds_toArray, List.set_cons_zero, List.set_cons_succ]
          refine wpAnyH_takeD (i := 7) (d := (some 112)) (v := ?_) (by kernel_rfl) (by kernel_rfl) (fun _ _ _ h => h) (fun oi ho => ?_) (by assumption) ?_
          rotate_left
          · cases ho
            refine Or.inl ⟨by rfl, ?_⟩
            intro wq hSw
            (try dsimp only at hSw)
            go_simp
            all_goals (with_reducible rfl)
          try simp only [Act.put, List.setIfInBounds_toArray, List.set_cons_zero, List.set_cons_succ]
          refine wpAnyH_ready (rs := [8]) (by kernel_rfl) (by simp) ?_
          refine AllReadyH.cons rfl (fun K hK => ?_) AllReadyH.nil
          go_simp
          refine hK.out _ _ ?_ (fun hHeld => ?_)
          · exact HSF.out _ (by repeat (first | assumption | exact Below.refl _ _ | with_reducible refine Below.drew ?_ | with_reducible refine Below.alloc ?_ (by first | exact Nat.le_refl _ | exact Below.size (by assumption)) _))
          clear hK K
          try simp only [Act.put, List.setIfInBounds_toArray, List.set_cons_zero, List.set_cons_succ]
          refine wpAnyH_takeD (i := 9) (d := (some 114)) (v := ?_) (by kernel_rfl) (by kernel_rfl) (fun _ _ _ h => h) (fun oi ho => ?_) (by assumption) ?_
          rotate_left
          · cases ho
            refine Or.inl ⟨by rfl, ?_⟩
            intro wq hSw
            (try dsimp only at hSw)
            go_simp
            all_goals (with_reducible rfl)
          try simp only [Act.put, List.setIfInBounds_toArray, List.set_cons_zero, List.set_cons_succ]
          refine wpAnyH_takeD (i := 10) (d := (some 115)) (v := ?_) (by kernel_rfl) (by kernel_rfl) (fun _ _ _ h => h) (fun oi ho => ?_) (by assumption) ?_
          rotate_left
          · cases ho
            refine Or.inl ⟨by rfl, ?_⟩
            intro wq hSw
            (try dsimp only at hSw)
            go_simp
            all_goals (with_reducible rfl)
          try simp only [Act.put, List.setIfInBounds_toArray, List.set_cons_zero, List.set_cons_succ]
          refine wpAnyH_takeD (i := 11) (d := (some 116)) (v := ?_) (by kernel_rfl) (by kernel_rfl) (fun _ _ _ h => h) (fun oi ho => ?_) (by assumption) ?_
          rotate_left
          · cases ho
            refine Or.inl ⟨by rfl, ?_⟩
            intro wq hSw
            (try dsimp only at hSw)
            go_simp
            all_goals (with_reducible rfl)
          try simp only [Act.put, List.setIfInBounds_toArray, List.set_cons_zero, List.set_cons_succ]
          refine wpAnyH_takeD (i := 12) (d := (some 117)) (v := ?_) (by kernel_rfl) (by kernel_rfl) (fun _ _ _ h => h) (fun oi ho => ?_) (by assumption) ?_
          rotate_left
          · cases ho
            refine Or.inl ⟨by rfl, ?_⟩
            intro wq hSw
            (try dsimp only at hSw)
            go_simp
            all_goals (with_reducible rfl)
          try simp only [Act.put, List.setIfInBounds_toArray, List.set_cons_zero, List.set_cons_succ]
          refine wpAnyH_takeD (i := 13) (d := (some 118)) (v := ?_) (by kernel_rfl) (by kernel_rfl) (fun _ _ _ h => h) (fun oi ho => ?_) (by assumption) ?_
          rotate_left
          · cases ho
            refine Or.inl ⟨by rfl, ?_⟩
            intro wq hSw
            (try dsimp only at hSw)
            go_simp
            all_goals (with_reducible rfl)
          try simp only [Act.put, List.setIfInBounds_toArray, List.set_cons_zero, List.set_cons_succ]
          refine wpAnyH_takeD (i := 14) (d := (some 119)) (v := ?_) (by kernel_rfl) (by kernel_rfl) (fun _ _ _ h => h) (fun oi ho => ?_) (by assumption) ?_
          rotate_left
          · cases ho
            refine Or.inl ⟨by rfl, ?_⟩
            intro wq hSw
            (try dsimp only at hSw)
            go_simp
            all_goals (with_reducible rfl)
          try simp only [Act.put, List.setIfInBounds_toArray, List.set_cons_zero, List.set_cons_succ]
          refine wpAnyH_takeD (i := 15) (d := (some 120)) (v := ?_) (by kernel_rfl) (by kernel_rfl) (fun _ _ _ h => h) (fun oi ho => ?_) (by assumption) ?_
          rotate_left
          · cases ho
            refine Or.inl ⟨by rfl, ?_⟩
            intro wq hSw
            (try dsimp only at hSw)
            go_simp
            all_goals (with_reducible rfl)
          try simp only [Act.put, List.setIfInBounds_toArray, List.set_cons_zero, List.set_cons_succ]
          refine wpAnyH_takeD (i := 16) (d := (some 121)) (v := ?_) (by kernel_rfl) (by kernel_rfl) (fun _ _ _ h => h) (fun oi ho => ?_) (by assumption) ?_
          rotate_left
          · cases ho
            refine Or.inl ⟨by rfl, ?_⟩
            intro wq hSw
            (try dsimp only at hSw)
            go_simp
            all_goals (with_reducible rfl)
          try simp only [Act.put, List.setIfInBounds_toArray, List.set_cons_zero, List.set_cons_succ]
          refine wpAnyH_takeD (i := 17) (d := (some 122)) (v := ?_) (by kernel_rfl) (by kernel_rfl) (fun _ _ _ h => h) (fun oi ho => ?_) (by assumption) ?_
          rotate_left
          · cases ho
            refine Or.inl ⟨by rfl, ?_⟩
            intro wq hSw
            (try dsimp only at hSw)
            go_simp
            all_goals (with_reducible rfl)
          try simp only [Act.put, List.setIfInBounds_toArray, List.set_cons_zero, List.set_cons_succ]
          refine wpAnyH_takeD (i := 18) (d := (some 123)) (v := ?_) (by kernel_rfl) (by kernel_rfl) (fun _ _ _ h => h) (fun oi ho => ?_) (by assumption) ?_
          rotate_left
          · cases ho
            refine Or.inl ⟨by rfl, ?_⟩
            intro wq hSw
            (try dsimp only at hSw)
            go_simp
            all_goals (with_reducible rfl)
          try simp only [Act.put, List.setIfInBounds_toArray, List.set_cons_zero, List.set_cons_succ]
          refine wpAnyH_takeD (i := 19) (d := (some 124)) (v := ?_) (by kernel_rfl) (by kernel_rfl) (fun _ _ _ h => h) (fun oi ho => ?_) (by assumption) ?_
          rotate_left
          · cases ho
            refine Or.inl ⟨by rfl, ?_⟩
            intro wq hSw
            (try dsimp only at hSw)
            go_simp
            all_goals (with_reducible rfl)
          try simp only [Act.put, List.setIfInBounds_toArray, List.set_cons_zero, List.set_cons_succ]
          refine wpAnyH_takeD (i := 20) (d := (some 125)) (v := ?_) (by kernel_rfl) (by kernel_rfl) (fun _ _ _ h => h) (fun oi ho => ?_) (by assumption) ?_
          rotate_left
          · cases ho
            refine Or.inl ⟨by rfl, ?_⟩
            intro wq hSw
            (try dsimp only at hSw)
            go_simp
            all_goals (with_reducible rfl)
          try simp only [Act.put, List.setIfInBounds_toArray, List.set_cons_zero, List.set_cons_succ]
          refine wpAnyH_takeD (i := 21) (d := (some 126)) (v := ?_) (by kernel_rfl) (by kernel_rfl) (fun _ _ _ h => h) (fun oi ho => ?_) (by assumption) ?_
          rotate_left
          · cases ho
            refine Or.inl ⟨by rfl, ?_⟩
            intro wq hSw
            (try dsimp only at hSw)
            go_simp
            all_goals (with_reducible rfl)
          try simp only [Act.put, List.setIfInBounds_toArray, List.set_cons_zero, List.set_cons_succ]
          refine wpAnyH_takeD (i := 22) (d := (some 127)) (v := ?_) (by kernel_rfl) (by kernel_rfl) (fun _ _ _ h => h) (fun oi ho => ?_) (by assumption) ?_
          rotate_left
          · cases ho
            refine Or.inl ⟨by rfl, ?_⟩
            intro wq hSw
            (try dsimp only at hSw)
            go_simp
            all_goals (with_reducible rfl)
          try simp only [Act.put, List.setIfInBounds_toArray, List.set_cons_zero, List.set_cons_succ]
          refine wpAnyH_ready (rs := [23]) (by kernel_rfl) (by simp) ?_
          refine AllReadyH.cons rfl (fun K hK => ?_) AllReadyH.nil
          go_simp
          refine (HSM1.out _ ?_).mono ?_
          · repeat (first | assumption | exact Below.refl _ _ | with_reducible refine Below.drew ?_ | with_reducible refine Below.alloc ?_ (by first | exact Nat.le_refl _ | exact Below.size (by assumption)) _)
          rintro e w' ⟨rfl, hk1⟩
          (try go_wp2_with fail)
          refine hK.out _ _ ?_ (fun hHeld => ?_)
          · exact HSF.out _ (by repeat (first | assumption | exact Below.refl _ _ | with_reducible refine Below.drew ?_ | with_reducible refine Below.alloc ?_ (by first | exact Nat.le_refl _ | exact Below.size (by assumption)) _))
          clear hK K
          try simp only [Act.put, List.setIfInBounds_toArray, List.set_cons_zero, List.set_cons_succ]
          refine wpAnyH_takeD (i := 24) (d := (some 129)) (v := ?_) (by kernel_rfl) (by kernel_rfl) (fun _ _ _ h => h) (fun oi ho => ?_) (by assumption) ?_
          rotate_left
          · cases ho
            refine Or.inl ⟨by rfl, ?_⟩
            intro wq hSw
            (try dsimp only at hSw)
            go_simp
            all_goals (with_reducible rfl)
          try simp only [Act.put, List.setIfInBounds_toArray, List.set_cons_zero, List.set_cons_succ]
          refine wpAnyH_takeD (i := 25) (d := (some 130)) (v := ?_) (by kernel_rfl) (by kernel_rfl) (fun _ _ _ h => h) (fun oi ho => ?_) (by assumption) ?_
          rotate_left
          · cases ho
            refine Or.inl ⟨by rfl, ?_⟩
            intro wq hSw
            (try dsimp only at hSw)
            go_simp
            all_goals (with_reducible rfl)
          try simp only [Act.put, List.setIfInBounds_toArray, List.set_cons_zero, List.set_cons_succ]
          refine wpAnyH_takeD (i := 26) (d := (some 131)) (v := ?_) (by kernel_rfl) (by kernel_rfl) (fun _ _ _ h => h) (fun oi ho => ?_) (by assumption) ?_
          rotate_left
          · cases ho
            refine Or.inl ⟨by rfl, ?_⟩
            intro wq hSw
            (try dsimp only at hSw)
            go_simp
            all_goals (with_reducible rfl)
          try simp only [Act.put, List.setIfInBounds_toArray, List.set_cons_zero, List.set_cons_succ]
          refine wpAnyH_takeD (i := 27) (d := (some 132)) (v := ?_) (by kernel_rfl) (by kernel_rfl) (fun _ _ _ h => h) (fun oi ho => ?_) (by assumption) ?_
          rotate_left
          · cases ho
            refine Or.inl ⟨by rfl, ?_⟩
            intro wq hSw
            (try dsimp only at hSw)
            go_simp
            all_goals (with_reducible rfl)
          try simp only [Act.put, List.setIfInBounds_toArray, List.set_cons_zero, List.set_cons_succ]
          refine wpAnyH_takeD (i := 28) (d := (some 133)) (v := ?_) (by kernel_rfl) (by kernel_rfl) (fun _ _ _ h => h) (fun oi ho => ?_) (by assumption) ?_
          rotate_left
          · cases ho
            refine Or.inl ⟨by rfl, ?_⟩
            intro wq hSw
            (try dsimp only at hSw)
            go_simp
            all_goals (with_reducible rfl)
          try simp only [Act.put, List.setIfInBounds_toArray, List.set_cons_zero, List.set_cons_succ]
          refine wpAnyH_takeD (i := 29) (d := (some 134)) (v := ?_) (by kernel_rfl) (by kernel_rfl) (fun _ _ _ h => h) (fun oi ho => ?_) (by assumption) ?_
          rotate_left
          · cases ho
            refine Or.inl ⟨by rfl, ?_⟩
            intro wq hSw
            (try dsimp only at hSw)
            go_simp
            all_goals (with_reducible rfl)
          try simp only [Act.put, List.setIfInBounds_toArray, List.set_cons_zero, List.set_cons_succ]
          refine wpAnyH_takeD (i := 30) (d := (some 135)) (v := ?_) (by kernel_rfl) (by kernel_rfl) (fun _ _ _ h => h) (fun oi ho => ?_) (by assumption) ?_
          rotate_left
          · cases ho
            refine Or.inl ⟨by rfl, ?_⟩
            intro wq hSw
            (try dsimp only at hSw)
            go_simp
            all_goals (with_reducible rfl)
          try simp only [Act.put, List.setIfInBounds_toArray, List.set_cons_zero, List.set_cons_succ]
          refine wpAnyH_takeD (i := 31) (d := (some 136)) (v := ?_) (by kernel_rfl) (by kernel_rfl) (fun _ _ _ h => h) (fun oi ho => ?_) (by assumption) ?_
          rotate_left
          · cases ho
            refine Or.inl ⟨by rfl, ?_⟩
            intro wq hSw
            (try dsimp only at hSw)
            go_simp
            all_goals (with_reducible rfl)
          try simp only [Act.put, List.setIfInBounds_toArray, List.set_cons_zero, List.set_cons_succ]
          refine wpAnyH_ready (rs := [32]) (by kernel_rfl) (by simp) ?_
          refine AllReadyH.cons rfl (fun K hK => ?_) AllReadyH.nil
          go_simp
          refine (HSM2.out _ ?_).mono ?_
          · repeat (first | assumption | exact Below.refl _ _ | with_reducible refine Below.drew ?_ | with_reducible refine Below.alloc ?_ (by first | exact Nat.le_refl _ | exact Below.size (by assumption)) _)
          rintro e w' ⟨rfl, hk1⟩
          (try go_wp2_with fail)
          refine hK.out _ _ ?_ (fun hHeld => ?_)
          · exact HSF.out _ (by repeat (first | assumption | exact Below.refl _ _ | with_reducible refine Below.drew ?_ | with_reducible refine Below.alloc ?_ (by first | exact Nat.le_refl _ | exact Below.size (by assumption)) _))
          clear hK K
          try simp only [Act.put, List.setIfInBounds_toArray, List.set_cons_zero, List.set_cons_succ]
          refine wpAnyH_takeD (i := 33) (d := (some 138)) (v := ?_) (by kernel_rfl) (by kernel_rfl) (fun _ _ _ h => h) (fun oi ho => ?_) (by assumption) ?_
          rotate_left
          · cases ho
            refine Or.inl ⟨by rfl, ?_⟩
            intro wq hSw
            (try dsimp only at hSw)
            go_simp
            all_goals (with_reducible rfl)
          try simp only [Act.put, List.setIfInBounds_toArray, List.set_cons_zero, List.set_cons_succ]
          refine wpAnyH_takeD (i := 34) (d := (some 139)) (v := ?_) (by kernel_rfl) (by kernel_rfl) (fun _ _ _ h => h) (fun oi ho => ?_) (by assumption) ?_
          rotate_left
          · cases ho
            refine Or.inl ⟨by rfl, ?_⟩
            intro wq hSw
            (try dsimp only at hSw)
            go_simp
            all_goals (with_reducible rfl)
          try simp only [Act.put, List.setIfInBounds_toArray, List.set_cons_zero, List.set_cons_succ]
          refine wpAnyH_done (by kernel_rfl) ?_ _
          have HBF := Lib.hid (HBU.out.trans (hHeld.2.2.2.2.2.2.2.2.2.2.2.2.2.2.2.2.2.2.2.2.2.2.2.2.2.2.2.2.2.2.2.2.2.2.2.2.2.2.2.2.2.2.2.2.2.2.2.2.2.2.mono HBU.out.size))
          go_wp2
          go_roundw
          case rel => exact ⟨1, by omega, rfl, HBF.out⟩
          case measure => simp [intOf]
        · go_wp2_with fail
          refine ((fun W hW => (HP2.out W hW).2.2.2.1) wr HWR.out).mono ?_
          rintro e u3 ⟨hb, x, rfl, hx⟩
          have hx2 : NdR u3 (rng wr.heap.size u3.heap.size) x (.mk 10 [] [] 0 bd0 bd0 [] [s, t]) := hx
          clear hx
          rcases hx2 with ⟨h1, h2, h3, h4⟩
          rename_i so sk nl
          obtain ⟨y1, y2, rfl⟩ := len_two h3
          have hy1 := h4 0 y1 s rfl rfl
          have hy2 := h4 1 y2 t rfl rfl
          obtain ⟨oa3, on3, oc3⟩ := so
          obtain ⟨ka3, kn3, kc3⟩ := sk
          obtain rfl : on3 = 0 := h1.1
          obtain rfl : kn3 = 2 := h2.1
          obtain ⟨b', hb', hbl2, g0, g1, g2, g3, g4, g5, g6, g7, g8, g9, g10, g11⟩ := at_ndk h2 (show 1 < [y1, y2].length from by simp)
          obtain ⟨b, rfl, hbF, hbl, hc0, hcc⟩ := h2.nd0
          obtain rfl : b = b' := by injection hb'
          clear hb' hbF
          have ead : b.add (1 * 12) = ⟨b.block, b.off + 12, none⟩ := rfl
          rw [ead] at hbl2 g0 g1 g2 g3 g4 g5 g6 g7 g8 g9 g10 g11
          clear ead
          simp only [List.getElem_cons_succ, List.getElem_cons_zero] at hbl2 g0 g1 g2 g3 g4 g5 g6 g7 g8 g9 g10 g11
          obtain ⟨kd5, fl5, tx5, xn5, ⟨la5, lb5, lc5⟩, ⟨ra5, rb5, rc5⟩, ⟨oa5, on5, oc5⟩, ⟨ka5, kn5, kc5⟩⟩ := y1
          obtain ⟨kd6, fl6, tx6, xn6, ⟨la6, lb6, lc6⟩, ⟨ra6, rb6, rc6⟩, ⟨oa6, on6, oc6⟩, ⟨ka6, kn6, kc6⟩⟩ := y2
          have HCB := Lib.hid (show u3.cell? b = some (.int .i64 kd5) ∧ u3.cell? ⟨b.block, b.off + 1, none⟩ = some (.string (str fl5)) ∧ u3.cell? ⟨b.block, b.off + 2, none⟩ = some (.string (str tx5)) ∧ u3.cell? ⟨b.block, b.off + 3, none⟩ = some (.int .i64 xn5) ∧ u3.cell? ⟨b.block, b.off + 4, none⟩ = some (.bool la5) ∧ u3.cell? ⟨b.block, b.off + 5, none⟩ = some (.bool lb5) ∧ u3.cell? ⟨b.block, b.off + 6, none⟩ = some (.string (str lc5)) ∧ u3.cell? ⟨b.block, b.off + 7, none⟩ = some (.bool ra5) ∧ u3.cell? ⟨b.block, b.off + 8, none⟩ = some (.bool rb5) ∧ u3.cell? ⟨b.block, b.off + 9, none⟩ = some (.string (str rc5)) ∧ u3.cell? ⟨b.block, b.off + 10, none⟩ = some (.slice oa5 on5 oc5) ∧ u3.cell? ⟨b.block, b.off + 11, none⟩ = some (.slice ka5 kn5 kc5) ∧ b.block < u3.heap.size from ⟨hc0, hcc 0 _ rfl, hcc 1 _ rfl, hcc 2 _ rfl, hcc 3 _ rfl, hcc 4 _ rfl, hcc 5 _ rfl, hcc 6 _ rfl, hcc 7 _ rfl, hcc 8 _ rfl, hcc 9 _ rfl, hcc 10 _ rfl, hbl⟩)
          have HCC := Lib.hid (show u3.cell? ⟨b.block, b.off + 12, none⟩ = some (.int .i64 kd6) ∧ u3.cell? ⟨b.block, b.off + 12 + 1, none⟩ = some (.string (str fl6)) ∧ u3.cell? ⟨b.block, b.off + 12 + 2, none⟩ = some (.string (str tx6)) ∧ u3.cell? ⟨b.block, b.off + 12 + 3, none⟩ = some (.int .i64 xn6) ∧ u3.cell? ⟨b.block, b.off + 12 + 4, none⟩ = some (.bool la6) ∧ u3.cell? ⟨b.block, b.off + 12 + 5, none⟩ = some (.bool lb6) ∧ u3.cell? ⟨b.block, b.off + 12 + 6, none⟩ = some (.string (str lc6)) ∧ u3.cell? ⟨b.block, b.off + 12 + 7, none⟩ = some (.bool ra6) ∧ u3.cell? ⟨b.block, b.off + 12 + 8, none⟩ = some (.bool rb6) ∧ u3.cell? ⟨b.block, b.off + 12 + 9, none⟩ = some (.string (str rc6)) ∧ u3.cell? ⟨b.block, b.off + 12 + 10, none⟩ = some (.slice oa6 on6 oc6) ∧ u3.cell? ⟨b.block, b.off + 12 + 11, none⟩ = some (.slice ka6 kn6 kc6) ∧ b.block < u3.heap.size from ⟨g0, g1, g2, g3, g4, g5, g6, g7, g8, g9, g10, g11, hbl2⟩)
          have HX5 := Lib.hid hy1; have HX6 := Lib.hid hy2
          clear h1 h2 h3 h4 g0 g1 g2 g3 g4 g5 g6 g7 g8 g9 g10 g11 hc0 hcc hbl hbl2 hy1 hy2
          unfold NV.val bd0
          simp only [str_nil]
          have HU3 := Lib.hid (HWR.out.trans (hb.mono HWR.out.size))
          have HV3 := Lib.hid (HU3.out.alloc HU3.out.size (.cells #[.int .i64 10, .string ⟨#[]⟩, .string ⟨#[]⟩, .int .i64 0, .bool false, .bool false, .string ⟨#[]⟩, .bool false, .bool false, .string ⟨#[]⟩, .slice oa3 0 oc3, .slice (some b) 2 kc3] 36))
          have HN3 := Lib.hid (Blk.new u3 36 #[.int .i64 10, .string ⟨#[]⟩, .string ⟨#[]⟩, .int .i64 0, .bool false, .bool false, .string ⟨#[]⟩, .bool false, .bool false, .string ⟨#[]⟩, .slice oa3 0 oc3, .slice (some b) 2 kc3])
          have HA3 := Lib.hid (show Below u3.heap.size u3 (u3.alloc (.cells #[.int .i64 10, .string ⟨#[]⟩, .string ⟨#[]⟩, .int .i64 0, .bool false, .bool false, .string ⟨#[]⟩, .bool false, .bool false, .string ⟨#[]⟩, .slice oa3 0 oc3, .slice (some b) 2 kc3] 36)) from (Below.refl u3.heap.size u3).alloc (Nat.le_refl _) (.cells #[.int .i64 10, .string ⟨#[]⟩, .string ⟨#[]⟩, .int .i64 0, .bool false, .bool false, .string ⟨#[]⟩, .bool false, .bool false, .string ⟨#[]⟩, .slice oa3 0 oc3, .slice (some b) 2 kc3] 36))
          have HNX := Lib.hid ((HNA2.out.belowW hb).belowW HA3.out); have HNY := Lib.hid ((HNB2.out.belowW hb).belowW HA3.out)
          have HXX := Lib.hid ((HXA2.out.belowW hb).belowW HA3.out); have HXY := Lib.hid ((HXB2.out.belowW hb).belowW HA3.out)
          have HX53 := Lib.hid (HX5.out.belowW HA3.out); have HX63 := Lib.hid (HX6.out.belowW HA3.out)
          have HBU := Lib.hid (show Below v6.heap.size v6 (u3.alloc (.cells #[.int .i64 10, .string ⟨#[]⟩, .string ⟨#[]⟩, .int .i64 0, .bool false, .bool false, .string ⟨#[]⟩, .bool false, .bool false, .string ⟨#[]⟩, .slice oa3 0 oc3, .slice (some b) 2 kc3] 36)) from HBR.out.trans ((hb.trans (HA3.out.mono hb.size)).mono HBR.out.size))
          clear hb HX5 HX6 HNA2 HNB2 HXA2 HXB2
          go_wp2_with fail
          
          generalize u3.alloc (.cells #[.int .i64 10, .string ⟨#[]⟩, .string ⟨#[]⟩, .int .i64 0, .bool false, .bool false, .string ⟨#[]⟩, .bool false, .bool false, .string ⟨#[]⟩, .slice oa3 0 oc3, .slice (some b) 2 kc3] 36) = v7 at *
          have HSF := Lib.hid (fun (W : World) (hW : Below v7.heap.size v7 W) => (show W.cell? ⟨u3.heap.size, 0, none⟩ = some (.int .i64 10) ∧ W.cell? ⟨u3.heap.size, 11, none⟩ = some (.slice (some b) 2 kc3) ∧ W.cell? b = some (.int .i64 kd5) ∧ W.cell? ⟨b.block, b.off + 1, none⟩ = some (.string (str fl5)) ∧ W.cell? ⟨b.block, b.off + 2, none⟩ = some (.string (str tx5)) ∧ W.cell? ⟨b.block, b.off + 3, none⟩ = some (.int .i64 xn5) ∧ W.cell? ⟨b.block, b.off + 4, none⟩ = some (.bool la5) ∧ W.cell? ⟨b.block, b.off + 5, none⟩ = some (.bool lb5) ∧ W.cell? ⟨b.block, b.off + 6, none⟩ = some (.string (str lc5)) ∧ W.cell? ⟨b.block, b.off + 7, none⟩ = some (.bool ra5) ∧ W.cell? ⟨b.block, b.off + 8, none⟩ = some (.bool rb5) ∧ W.cell? ⟨b.block, b.off + 9, none⟩ = some (.string (str rc5)) ∧ W.cell? ⟨b.block, b.off + 10, none⟩ = some (.slice oa5 on5 oc5) ∧ W.cell? ⟨b.block, b.off + 11, none⟩ = some (.slice ka5 kn5 kc5) ∧ W.cell? ⟨b.block, b.off + 12, none⟩ = some (.int .i64 kd6) ∧ W.cell? ⟨b.block, b.off + 12 + 1, none⟩ = some (.string (str fl6)) ∧ W.cell? ⟨b.block, b.off + 12 + 2, none⟩ = some (.string (str tx6)) ∧ W.cell? ⟨b.block, b.off + 12 + 3, none⟩ = some (.int .i64 xn6) ∧ W.cell? ⟨b.block, b.off + 12 + 4, none⟩ = some (.bool la6) ∧ W.cell? ⟨b.block, b.off + 12 + 5, none⟩ = some (.bool lb6) ∧ W.cell? ⟨b.block, b.off + 12 + 6, none⟩ = some (.string (str lc6)) ∧ W.cell? ⟨b.block, b.off + 12 + 7, none⟩ = some (.bool ra6) ∧ W.cell? ⟨b.block, b.off + 12 + 8, none⟩ = some (.bool rb6) ∧ W.cell? ⟨b.block, b.off + 12 + 9, none⟩ = some (.string (str rc6)) ∧ W.cell? ⟨b.block, b.off + 12 + 10, none⟩ = some (.slice oa6 on6 oc6) ∧ W.cell? ⟨b.block, b.off + 12 + 11, none⟩ = some (.slice ka6 kn6 kc6) ∧ W.cell? ⟨u1.heap.size, 0, none⟩ = some (.int .i64 kd1) ∧ W.cell? ⟨u1.heap.size, 1, none⟩ = some (.string (str fl1)) ∧ W.cell? ⟨u1.heap.size, 2, none⟩ = some (.string (str tx1)) ∧ W.cell? ⟨u1.heap.size, 3, none⟩ = some (.int .i64 xn1) ∧ W.cell? ⟨u1.heap.size, 4, none⟩ = some (.bool la1) ∧ W.cell? ⟨u1.heap.size, 5, none⟩ = some (.bool lb1) ∧ W.cell? ⟨u1.heap.size, 6, none⟩ = some (.string (str lc1)) ∧ W.cell? ⟨u1.heap.size, 7, none⟩ = some (.bool ra1) ∧ W.cell? ⟨u1.heap.size, 8, none⟩ = some (.bool rb1) ∧ W.cell? ⟨u1.heap.size, 9, none⟩ = some (.string (str rc1)) ∧ W.cell? ⟨u1.heap.size, 10, none⟩ = some (.slice oa1 on1 oc1) ∧ W.cell? ⟨u1.heap.size, 11, none⟩ = some (.slice ka1 kn1 kc1) ∧ W.cell? ⟨u2.heap.size, 0, none⟩ = some (.int .i64 kd2) ∧ W.cell? ⟨u2.heap.size, 1, none⟩ = some (.string (str fl2)) ∧ W.cell? ⟨u2.heap.size, 2, none⟩ = some (.string (str tx2)) ∧ W.cell? ⟨u2.heap.size, 3, none⟩ = some (.int .i64 xn2) ∧ W.cell? ⟨u2.heap.size, 4, none⟩ = some (.bool la2) ∧ W.cell? ⟨u2.heap.size, 5, none⟩ = some (.bool lb2) ∧ W.cell? ⟨u2.heap.size, 6, none⟩ = some (.string (str lc2)) ∧ W.cell? ⟨u2.heap.size, 7, none⟩ = some (.bool ra2) ∧ W.cell? ⟨u2.heap.size, 8, none⟩ = some (.bool rb2) ∧ W.cell? ⟨u2.heap.size, 9, none⟩ = some (.string (str rc2)) ∧ W.cell? ⟨u2.heap.size, 10, none⟩ = some (.slice oa2 on2 oc2) ∧ W.cell? ⟨u2.heap.size, 11, none⟩ = some (.slice ka2 kn2 kc2) ∧ Below v7.heap.size v7 W from by
            have hU : Below u3.heap.size u3 W := HA3.out.trans (hW.mono HA3.out.size)
            have hn1 := HNX.out.belowW hW
            have hn2 := HNY.out.belowW hW
            have hn3 := HN3.out.belowW hW
            obtain ⟨i0, i1, i2, i3, i4, i5, i6, i7, i8, i9, i10, i11, il⟩ := HCB.out
            obtain ⟨j0, j1, j2, j3, j4, j5, j6, j7, j8, j9, j10, j11, jl⟩ := HCC.out
            exact ⟨hn3.cell 0, hn3.cell 11, (hU.cell (p := b) il).trans i0, (hU.cell (p := ⟨b.block, b.off + 1, none⟩) il).trans i1, (hU.cell (p := ⟨b.block, b.off + 2, none⟩) il).trans i2, (hU.cell (p := ⟨b.block, b.off + 3, none⟩) il).trans i3, (hU.cell (p := ⟨b.block, b.off + 4, none⟩) il).trans i4, (hU.cell (p := ⟨b.block, b.off + 5, none⟩) il).trans i5, (hU.cell (p := ⟨b.block, b.off + 6, none⟩) il).trans i6, (hU.cell (p := ⟨b.block, b.off + 7, none⟩) il).trans i7, (hU.cell (p := ⟨b.block, b.off + 8, none⟩) il).trans i8, (hU.cell (p := ⟨b.block, b.off + 9, none⟩) il).trans i9, (hU.cell (p := ⟨b.block, b.off + 10, none⟩) il).trans i10, (hU.cell (p := ⟨b.block, b.off + 11, none⟩) il).trans i11, (hU.cell (p := ⟨b.block, b.off + 12, none⟩) jl).trans j0, (hU.cell (p := ⟨b.block, b.off + 12 + 1, none⟩) jl).trans j1, (hU.cell (p := ⟨b.block, b.off + 12 + 2, none⟩) jl).trans j2, (hU.cell (p := ⟨b.block, b.off + 12 + 3, none⟩) jl).trans j3, (hU.cell (p := ⟨b.block, b.off + 12 + 4, none⟩) jl).trans j4, (hU.cell (p := ⟨b.block, b.off + 12 + 5, none⟩) jl).trans j5, (hU.cell (p := ⟨b.block, b.off + 12 + 6, none⟩) jl).trans j6, (hU.cell (p := ⟨b.block, b.off + 12 + 7, none⟩) jl).trans j7, (hU.cell (p := ⟨b.block, b.off + 12 + 8, none⟩) jl).trans j8, (hU.cell (p := ⟨b.block, b.off + 12 + 9, none⟩) jl).trans j9, (hU.cell (p := ⟨b.block, b.off + 12 + 10, none⟩) jl).trans j10, (hU.cell (p := ⟨b.block, b.off + 12 + 11, none⟩) jl).trans j11, hn1.cell 0, hn1.cell 1, hn1.cell 2, hn1.cell 3, hn1.cell 4, hn1.cell 5, hn1.cell 6, hn1.cell 7, hn1.cell 8, hn1.cell 9, hn1.cell 10, hn1.cell 11, hn2.cell 0, hn2.cell 1, hn2.cell 2, hn2.cell 3, hn2.cell 4, hn2.cell 5, hn2.cell 6, hn2.cell 7, hn2.cell 8, hn2.cell 9, hn2.cell 10, hn2.cell 11, hW⟩))
          have HSM1 := Lib.hid (fun (W : World) (hW : Below v7.heap.size v7 W) => (same_all s W _ _ _ _ (HX53.out.belowW hW) (HXX.out.belowW hW)).mono (fun e w' (h : SamRet W e w') => (show e = .returned (.bool true) ∧ Below v7.heap.size v7 w' from ⟨h.1, hW.trans (h.2.mono hW.size)⟩)))
          have HSM2 := Lib.hid (fun (W : World) (hW : Below v7.heap.size v7 W) => (same_all t W _ _ _ _ (HX63.out.belowW hW) (HXY.out.belowW hW)).mono (fun e w' (h : SamRet W e w') => (show e = .returned (.bool true) ∧ Below v7.heap.size v7 w' from ⟨h.1, hW.trans (h.2.mono hW.size)⟩)))
          unfold NV.val at HSM1 HSM2
          simp only [] at HSM1 HSM2
          refine wp_region_held_drew (S := fun W => W.cell? ⟨u3.heap.size, 0, none⟩ = some (.int .i64 10) ∧ W.cell? ⟨u3.heap.size, 11, none⟩ = some (.slice (some b) 2 kc3) ∧ W.cell? b = some (.int .i64 kd5) ∧ W.cell? ⟨b.block, b.off + 1, none⟩ = some (.string (str fl5)) ∧ W.cell? ⟨b.block, b.off + 2, none⟩ = some (.string (str tx5)) ∧ W.cell? ⟨b.block, b.off + 3, none⟩ = some (.int .i64 xn5) ∧ W.cell? ⟨b.block, b.off + 4, none⟩ = some (.bool la5) ∧ W.cell? ⟨b.block, b.off + 5, none⟩ = some (.bool lb5) ∧ W.cell? ⟨b.block, b.off + 6, none⟩ = some (.string (str lc5)) ∧ W.cell? ⟨b.block, b.off + 7, none⟩ = some (.bool ra5) ∧ W.cell? ⟨b.block, b.off + 8, none⟩ = some (.bool rb5) ∧ W.cell? ⟨b.block, b.off + 9, none⟩ = some (.string (str rc5)) ∧ W.cell? ⟨b.block, b.off + 10, none⟩ = some (.slice oa5 on5 oc5) ∧ W.cell? ⟨b.block, b.off + 11, none⟩ = some (.slice ka5 kn5 kc5) ∧ W.cell? ⟨b.block, b.off + 12, none⟩ = some (.int .i64 kd6) ∧ W.cell? ⟨b.block, b.off + 12 + 1, none⟩ = some (.string (str fl6)) ∧ W.cell? ⟨b.block, b.off + 12 + 2, none⟩ = some (.string (str tx6)) ∧ W.cell? ⟨b.block, b.off + 12 + 3, none⟩ = some (.int .i64 xn6) ∧ W.cell? ⟨b.block, b.off + 12 + 4, none⟩ = some (.bool la6) ∧ W.cell? ⟨b.block, b.off + 12 + 5, none⟩ = some (.bool lb6) ∧ W.cell? ⟨b.block, b.off + 12 + 6, none⟩ = some (.string (str lc6)) ∧ W.cell? ⟨b.block, b.off + 12 + 7, none⟩ = some (.bool ra6) ∧ W.cell? ⟨b.block, b.off + 12 + 8, none⟩ = some (.bool rb6) ∧ W.cell? ⟨b.block, b.off + 12 + 9, none⟩ = some (.string (str rc6)) ∧ W.cell? ⟨b.block, b.off + 12 + 10, none⟩ = some (.slice oa6 on6 oc6) ∧ W.cell? ⟨b.block, b.off + 12 + 11, none⟩ = some (.slice ka6 kn6 kc6) ∧ W.cell? ⟨u1.heap.size, 0, none⟩ = some (.int .i64 kd1) ∧ W.cell? ⟨u1.heap.size, 1, none⟩ = some (.string (str fl1)) ∧ W.cell? ⟨u1.heap.size, 2, none⟩ = some (.string (str tx1)) ∧ W.cell? ⟨u1.heap.size, 3, none⟩ = some (.int .i64 xn1) ∧ W.cell? ⟨u1.heap.size, 4, none⟩ = some (.bool la1) ∧ W.cell? ⟨u1.heap.size, 5, none⟩ = some (.bool lb1) ∧ W.cell? ⟨u1.heap.size, 6, none⟩ = some (.string (str lc1)) ∧ W.cell? ⟨u1.heap.size, 7, none⟩ = some (.bool ra1) ∧ W.cell? ⟨u1.heap.size, 8, none⟩ = some (.bool rb1) ∧ W.cell? ⟨u1.heap.size, 9, none⟩ = some (.string (str rc1)) ∧ W.cell? ⟨u1.heap.size, 10, none⟩ = some (.slice oa1 on1 oc1) ∧ W.cell? ⟨u1.heap.size, 11, none⟩ = some (.slice ka1 kn1 kc1) ∧ W.cell? ⟨u2.heap.size, 0, none⟩ = some (.int .i64 kd2) ∧ W.cell? ⟨u2.heap.size, 1, none⟩ = some (.string (str fl2)) ∧ W.cell? ⟨u2.heap.size, 2, none⟩ = some (.string (str tx2)) ∧ W.cell? ⟨u2.heap.size, 3, none⟩ = some (.int .i64 xn2) ∧ W.cell? ⟨u2.heap.size, 4, none⟩ = some (.bool la2) ∧ W.cell? ⟨u2.heap.size, 5, none⟩ = some (.bool lb2) ∧ W.cell? ⟨u2.heap.size, 6, none⟩ = some (.string (str lc2)) ∧ W.cell? ⟨u2.heap.size, 7, none⟩ = some (.bool ra2) ∧ W.cell? ⟨u2.heap.size, 8, none⟩ = some (.bool rb2) ∧ W.cell? ⟨u2.heap.size, 9, none⟩ = some (.string (str rc2)) ∧ W.cell? ⟨u2.heap.size, 10, none⟩ = some (.slice oa2 on2 oc2) ∧ W.cell? ⟨u2.heap.size, 11, none⟩ = some (.slice ka2 kn2 kc2) ∧ Below v7.heap.size v7 W) (by kernel_rfl) ?_ (fun hHeld => ?_)
          · exact HSF.out _ (by repeat (first | assumption | exact Below.refl _ _ | with_reducible refine Below.drew ?_ | with_reducible refine Below.alloc ?_ (by first | exact Nat.le_refl _ | exact Below.size (by assumption)) _))
          refine wpAnyH_takeD (i := 0) (d := (some 105)) (v := ?_) (by kernel_rfl) (by kernel_rfl) (fun _ _ _ h => h) (fun oi ho => ?_) (by assumption) ?_
          rotate_left
          · cases ho
            refine Or.inl ⟨by rfl, ?_⟩
            intro wq hSw
            (try dsimp only at hSw)
            go_simp
            all_goals (with_reducible rfl)
          try simp only [Act.put, List.setIfInBounds_toArray, List.set_cons_zero, List.set_cons_succ]
          refine wpAnyH_takeD (i := 1) (d := (some 106)) (v := ?_) (by kernel_rfl) (by kernel_rfl) (fun _ _ _ h => h) (fun oi ho => ?_) (by assumption) ?_
          rotate_left
          · cases ho
            refine Or.inl ⟨by rfl, ?_⟩
            intro wq hSw
            (try dsimp only at hSw)
            go_simp
            all_goals (with_reducible rfl)
          try simp only [Act.put, List.setIfInBounds_toArray, List.set_cons_zero, List.set_cons_succ]
          refine wpAnyH_takeD (i := 2) (d := (some 107)) (v := ?_) (by kernel_rfl) (by kernel_rfl) (fun _ _ _ h => h) (fun oi ho => ?_) (by assumption) ?_
          rotate_left
          · cases ho
            refine Or.inl ⟨by rfl, ?_⟩
            intro wq hSw
            (try dsimp only at hSw)
            go_simp
            all_goals (with_reducible rfl)
          try simp only [Act.put, List.setIfInBounds_toArray, List.set_cons_zero, List.set_cons_succ]
          refine wpAnyH_takeD (i := 3) (d := (some 108)) (v := ?_) (by kernel_rfl) (by kernel_rfl) (fun _ _ _ h => h) (fun oi ho => ?_) (by assumption) ?_
          rotate_left
          · cases ho
            refine Or.inl ⟨by rfl, ?_⟩
            intro wq hSw
            (try dsimp only at hSw)
            go_simp
            all_goals (with_reducible rfl)
          try simp only [Act.put, List.setIfInBounds_toArray, List.set_cons_zero, List.set_cons_succ]
          refine wpAnyH_takeD (i := 6) (d := (some 111)) (v := ?_) (by kernel_rfl) (by kernel_rfl) (fun _ _ _ h => h) (fun oi ho => ?_) (by assumption) ?_
          rotate_left
          · cases ho
            refine Or.inl ⟨by rfl, ?_⟩
            intro wq hSw
            (try dsimp only at hSw)
            go_simp
            all_goals (with_reducible rfl)
          try simp only [Act.put, List.setIfInBounds_toArray, List.set_cons_zero, List.set_cons_succ]
          refine wpAnyH_takeD (i := 4) (d := (some 109)) (v := ?_) (by kernel_rfl) (by kernel_rfl) (fun _ _ _ h => h) (fun oi ho => ?_) (by assumption) ?_
          rotate_left
          · cases ho
            refine Or.inl ⟨by rfl, ?_⟩
            intro wq hSw
            (try dsimp only at hSw)
            go_simp
            all_goals (with_reducible rfl)
          try simp only [Act.put, List.setIfInBounds_toArray, List.set_cons_zero, List.set_cons_succ]
          refine wpAnyH_ready (rs := [5]) (by kernel_rfl) (by simp) ?_
          refine AllReadyH.cons rfl (fun K hK => ?_) AllReadyH.nil
          go_simp
          refine hK.out _ _ ?_ (fun hHeld => ?_)
          · exact HSF.out _ (by repeat (first | assumption | exact Below.refl _ _ | with_reducible refine Below.drew ?_ | with_reducible refine Below.alloc ?_ (by first | exact Nat.le_refl _ | exact Below.size (by assumption)) _))
          clear hK K
          try simp only [Act.put, List.setIfInBounds_toArray, List.set_cons_zero, List.set_cons_succ]
          refine wpAnyH_takeD (i := 7) (d := (some 112)) (v := ?_) (by kernel_rfl) (by kernel_rfl) (fun _ _ _ h => h) (fun oi ho => ?_) (by assumption) ?_
          rotate_left
          · cases ho
            refine Or.inl ⟨by rfl, ?_⟩
            intro wq hSw
            (try dsimp only at hSw)
            go_simp
            all_goals (with_reducible rfl)
          try simp only [Act.put, List.setIfInBounds_toArray, List.set_cons_zero, List.set_cons_succ]
          refine wpAnyH_ready (rs := [8]) (by kernel_rfl) (by simp) ?_
          refine AllReadyH.cons rfl (fun K hK => ?_) AllReadyH.nil
          go_simp
          refine hK.out _ _ ?_ (fun hHeld => ?_)
          · exact HSF.out _ (by repeat (first | assumption | exact Below.refl _ _ | with_reducible refine Below.drew ?_ | with_reducible refine Below.alloc ?_ (by first | exact Nat.le_refl _ | exact Below.size (by assumption)) _))
          clear hK K
          try simp only [Act.put, List.setIfInBounds_toArray, List.set_cons_zero, List.set_cons_succ]
          refine wpAnyH_takeD (i := 9) (d := (some 114)) (v := ?_) (by kernel_rfl) (by kernel_rfl) (fun _ _ _ h => h) (fun oi ho => ?_) (by assumption) ?_
          rotate_left
          · cases ho
            refine Or.inl ⟨by rfl, ?_⟩
            intro wq hSw
            (try dsimp only at hSw)
            go_simp
            all_goals (with_reducible rfl)
          try simp only [Act.put, List.setIfInBounds_toArray, List.set_cons_zero, List.set_cons_succ]
          refine wpAnyH_takeD (i := 10) (d := (some 115)) (v := ?_) (by kernel_rfl) (by kernel_rfl) (fun _ _ _ h => h) (fun oi ho => ?_) (by assumption) ?_
          rotate_left
          · cases ho
            refine Or.inl ⟨by rfl, ?_⟩
            intro wq hSw
            (try dsimp only at hSw)
            go_simp
            all_goals (with_reducible rfl)
          try simp only [Act.put, List.setIfInBounds_toArray, List.set_cons_zero, List.set_cons_succ]
          refine wpAnyH_takeD (i := 11) (d := (some 116)) (v := ?_) (by kernel_rfl) (by kernel_rfl) (fun _ _ _ h => h) (fun oi ho => ?_) (by assumption) ?_
          rotate_left
          · cases ho
            refine Or.inl ⟨by rfl, ?_⟩
            intro wq hSw
            (try dsimp only at hSw)
            go_simp
            all_goals (with_reducible rfl)
          try simp only [Act.put, List.setIfInBounds_toArray, List.set_cons_zero, List.set_cons_succ]
          refine wpAnyH_takeD (i := 12) (d := (some 117)) (v := ?_) (by kernel_rfl) (by kernel_rfl) (fun _ _ _ h => h) (fun oi ho => ?_) (by assumption) ?_
          rotate_left
          · cases ho
            refine Or.inl ⟨by rfl, ?_⟩
            intro wq hSw
            (try dsimp only at hSw)
            go_simp
            all_goals (with_reducible rfl)
          try simp only [Act.put, List.setIfInBounds_toArray, List.set_cons_zero, List.set_cons_succ]
          refine wpAnyH_takeD (i := 13) (d := (some 118)) (v := ?_) (by kernel_rfl) (by kernel_rfl) (fun _ _ _ h => h) (fun oi ho => ?_) (by assumption) ?_
          rotate_left
          · cases ho
            refine Or.inl ⟨by rfl, ?_⟩
            intro wq hSw
            (try dsimp only at hSw)
            go_simp
            all_goals (with_reducible rfl)
          try simp only [Act.put, List.setIfInBounds_toArray, List.set_cons_zero, List.set_cons_succ]
          refine wpAnyH_takeD (i := 14) (d := (some 119)) (v := ?_) (by kernel_rfl) (by kernel_rfl) (fun _ _ _ h => h) (fun oi ho => ?_) (by assumption) ?_
          rotate_left
          · cases ho
            refine Or.inl ⟨by rfl, ?_⟩
            intro wq hSw
            (try dsimp only at hSw)
            go_simp
            all_goals (with_reducible rfl)
          try simp only [Act.put, List.setIfInBounds_toArray, List.set_cons_zero, List.set_cons_succ]
          refine wpAnyH_takeD (i := 15) (d := (some 120)) (v := ?_) (by kernel_rfl) (by kernel_rfl) (fun _ _ _ h => h) (fun oi ho => ?_) (by assumption) ?_
          rotate_left
          · cases ho
            refine Or.inl ⟨by rfl, ?_⟩
            intro wq hSw
            (try dsimp only at hSw)
            go_simp
            all_goals (with_reducible rfl)
          try simp only [Act.put, List.setIfInBounds_toArray, List.set_cons_zero, List.set_cons_succ]
          refine wpAnyH_takeD (i := 16) (d := (some 121)) (v := ?_) (by kernel_rfl) (by kernel_rfl) (fun _ _ _ h => h) (fun oi ho => ?_) (by assumption) ?_
          rotate_left
          · cases ho
            refine Or.inl ⟨by rfl, ?_⟩
            intro wq hSw
            (try dsimp only at hSw)
            go_simp
            all_goals (with_reducible rfl)
          try simp only [Act.put, List.setIfInBounds_toArray, List.set_cons_zero, List.set_cons_succ]
          refine wpAnyH_takeD (i := 17) (d := (some 122)) (v := ?_) (by kernel_rfl) (by kernel_rfl) (fun _ _ _ h => h) (fun oi ho => ?_) (by assumption) ?_
          rotate_left
          · cases ho
            refine Or.inl ⟨by rfl, ?_⟩
            intro wq hSw
            (try dsimp only at hSw)
            go_simp
            all_goals (with_reducible rfl)
          try simp only [Act.put, List.setIfInBounds_toArray, List.set_cons_zero, List.set_cons_succ]
          refine wpAnyH_takeD (i := 18) (d := (some 123)) (v := ?_) (by kernel_rfl) (by kernel_rfl) (fun _ _ _ h => h) (fun oi ho => ?_) (by assumption) ?_
          rotate_left
          · cases ho
            refine Or.inl ⟨by rfl, ?_⟩
            intro wq hSw
            (try dsimp only at hSw)
            go_simp
            all_goals (with_reducible rfl)
          try simp only [Act.put, List.setIfInBounds_toArray, List.set_cons_zero, List.set_cons_succ]
          refine wpAnyH_takeD (i := 19) (d := (some 124)) (v := ?_) (by kernel_rfl) (by kernel_rfl) (fun _ _ _ h => h) (fun oi ho => ?_) (by assumption) ?_
          rotate_left
          · cases ho
            refine Or.inl ⟨by rfl, ?_⟩
            intro wq hSw
            (try dsimp only at hSw)
            go_simp
            all_goals (with_reducible rfl)
          try simp only [Act.put, List.setIfInBounds_toArray, List.set_cons_zero, List.set_cons_succ]
          refine wpAnyH_takeD (i := 20) (d := (some 125)) (v := ?_) (by kernel_rfl) (by kernel_rfl) (fun _ _ _ h => h) (fun oi ho => ?_) (by assumption) ?_
          rotate_left
          · cases ho
            refine Or.inl ⟨by rfl, ?_⟩
            intro wq hSw
            (try dsimp only at hSw)
            go_simp
            all_goals (with_reducible rfl)
          try simp only [Act.put, List.setIfInBounds_toArray, List.set_cons_zero, List.set_cons_succ]
          refine wpAnyH_takeD (i := 21) (d := (some 126)) (v := ?_) (by kernel_rfl) (by kernel_rfl) (fun _ _ _ h => h) (fun oi ho => ?_) (by assumption) ?_
          rotate_left
          · cases ho
            refine Or.inl ⟨by rfl, ?_⟩
            intro wq hSw
            (try dsimp only at hSw)
            go_simp
            all_goals (with_reducible rfl)
          try simp only [Act.put, List.setIfInBounds_toArray, List.set_cons_zero, List.set_cons_succ]
          refine wpAnyH_takeD (i := 22) (d := (some 127)) (v := ?_) (by kernel_rfl) (by kernel_rfl) (fun _ _ _ h => h) (fun oi ho => ?_) (by assumption) ?_
          rotate_left
          · cases ho
            refine Or.inl ⟨by rfl, ?_⟩
            intro wq hSw
            (try dsimp only at hSw)
            go_simp
            all_goals (with_reducible rfl)
          try simp only [Act.put, List.setIfInBounds_toArray, List.set_cons_zero, List.set_cons_succ]
          refine wpAnyH_ready (rs := [23]) (by kernel_rfl) (by simp) ?_
          refine AllReadyH.cons rfl (fun K hK => ?_) AllReadyH.nil
          go_simp
          refine (HSM1.out _ ?_).mono ?_
          · repeat (first | assumption | exact Below.refl _ _ | with_reducible refine Below.drew ?_ | with_reducible refine Below.alloc ?_ (by first | exact Nat.le_refl _ | exact Below.size (by assumption)) _)
          rintro e w' ⟨rfl, hk1⟩
          (try go_wp2_with fail)
          refine hK.out _ _ ?_ (fun hHeld => ?_)
          · exact HSF.out _ (by repeat (first | assumption | exact Below.refl _ _ | with_reducible refine Below.drew ?_ | with_reducible refine Below.alloc ?_ (by first | exact Nat.le_refl _ | exact Below.size (by assumption)) _))
          clear hK K
          try simp only [Act.put, List.setIfInBounds_toArray, List.set_cons_zero, List.set_cons_succ]
          refine wpAnyH_takeD (i := 24) (d := (some 129)) (v := ?_) (by kernel_rfl) (by kernel_rfl) (fun _ _ _ h => h) (fun oi ho => ?_) (by assumption) ?_
          rotate_left
          · cases ho
            refine Or.inl ⟨by rfl, ?_⟩
            intro wq hSw
            (try dsimp only at hSw)
            go_simp
            all_goals (with_reducible rfl)
          try simp only [Act.put, List.setIfInBounds_toArray, List.set_cons_zero, List.set_cons_succ]
          refine wpAnyH_takeD (i := 25) (d := (some 130)) (v := ?_) (by kernel_rfl) (by kernel_rfl) (fun _ _ _ h => h) (fun oi ho => ?_) (by assumption) ?_
          rotate_left
          · cases ho
            refine Or.inl ⟨by rfl, ?_⟩
            intro wq hSw
            (try dsimp only at hSw)
            go_simp
            all_goals (with_reducible rfl)
          try simp only [Act.put, List.setIfInBounds_toArray, List.set_cons_zero, List.set_cons_succ]
          refine wpAnyH_takeD (i := 26) (d := (some 131)) (v := ?_) (by kernel_rfl) (by kernel_rfl) (fun _ _ _ h => h) (fun oi ho => ?_) (by assumption) ?_
          rotate_left
          · cases ho
            refine Or.inl ⟨by rfl, ?_⟩
            intro wq hSw
            (try dsimp only at hSw)
            go_simp
            all_goals (with_reducible rfl)
          try simp only [Act.put, List.setIfInBounds_toArray, List.set_cons_zero, List.set_cons_succ]
          refine wpAnyH_takeD (i := 27) (d := (some 132)) (v := ?_) (by kernel_rfl) (by kernel_rfl) (fun _ _ _ h => h) (fun oi ho => ?_) (by assumption) ?_
          rotate_left
          · cases ho
            refine Or.inl ⟨by rfl, ?_⟩
            intro wq hSw
            (try dsimp only at hSw)
            go_simp
            all_goals (with_reducible rfl)
          try simp only [Act.put, List.setIfInBounds_toArray, List.set_cons_zero, List.set_cons_succ]
          refine wpAnyH_takeD (i := 28) (d := (some 133)) (v := ?_) (by kernel_rfl) (by kernel_rfl) (fun _ _ _ h => h) (fun oi ho => ?_) (by assumption) ?_
          rotate_left
          · cases ho
            refine Or.inl ⟨by rfl, ?_⟩
            intro wq hSw
            (try dsimp only at hSw)
            go_simp
            all_goals (with_reducible rfl)
          try simp only [Act.put, List.setIfInBounds_toArray, List.set_cons_zero, List.set_cons_succ]
          refine wpAnyH_takeD (i := 29) (d := (some 134)) (v := ?_) (by kernel_rfl) (by kernel_rfl) (fun _ _ _ h => h) (fun oi ho => ?_) (by assumption) ?_
          rotate_left
          · cases ho
            refine Or.inl ⟨by rfl, ?_⟩
            intro wq hSw
            (try dsimp only at hSw)
            go_simp
            all_goals (with_reducible rfl)
          try simp only [Act.put, List.setIfInBounds_toArray, List.set_cons_zero, List.set_cons_succ]
          refine wpAnyH_takeD (i := 30) (d := (some 135)) (v := ?_) (by kernel_rfl) (by kernel_rfl) (fun _ _ _ h => h) (fun oi ho => ?_) (by assumption) ?_
          rotate_left
          · cases ho
            refine Or.inl ⟨by rfl, ?_⟩
            intro wq hSw
            (try dsimp only at hSw)
            go_simp
            all_goals (with_reducible rfl)
          try simp only [Act.put, List.setIfInBounds_toArray, List.set_cons_zero, List.set_cons_succ]
          refine wpAnyH_takeD (i := 31) (d := (some 136)) (v := ?_) (by kernel_rfl) (by kernel_rfl) (fun _ _ _ h => h) (fun oi ho => ?_) (by assumption) ?_
          rotate_left
          · cases ho
            refine Or.inl ⟨by rfl, ?_⟩
            intro wq hSw
            (try dsimp only at hSw)
            go_simp
            all_goals (with_reducible rfl)
          try simp only [Act.put, List.setIfInBounds_toArray, List.set_cons_zero, List.set_cons_succ]
          refine wpAnyH_ready (rs := [32]) (by kernel_rfl) (by simp) ?_
          refine AllReadyH.cons rfl (fun K hK => ?_) AllReadyH.nil
          go_simp
          refine (HSM2.out _ ?_).mono ?_
          · repeat (first | assumption | exact Below.refl _ _ | with_reducible refine Below.drew ?_ | with_reducible refine Below.alloc ?_ (by first | exact Nat.le_refl _ | exact Below.size (by assumption)) _)
          rintro e w' ⟨rfl, hk1⟩
          (try go_wp2_with fail)
          refine hK.out _ _ ?_ (fun hHeld => ?_)
          · exact HSF.out _ (by repeat (first | assumption | exact Below.refl _ _ | with_reducible refine Below.drew ?_ | with_reducible refine Below.alloc ?_ (by first | exact Nat.le_refl _ | exact Below.size (by assumption)) _))
          clear hK K
          try simp only [Act.put, List.setIfInBounds_toArray, List.set_cons_zero, List.set_cons_succ]
          refine wpAnyH_takeD (i := 33) (d := (some 138)) (v := ?_) (by kernel_rfl) (by kernel_rfl) (fun _ _ _ h => h) (fun oi ho => ?_) (by assumption) ?_
          rotate_left
          · cases ho
            refine Or.inl ⟨by rfl, ?_⟩
            intro wq hSw
            (try dsimp only at hSw)
            go_simp
            all_goals (with_reducible rfl)
          try simp only [Act.put, List.setIfInBounds_toArray, List.set_cons_zero, List.set_cons_succ]
          refine wpAnyH_takeD (i := 34) (d := (some 139)) (v := ?_) (by kernel_rfl) (by kernel_rfl) (fun _ _ _ h => h) (fun oi ho => ?_) (by assumption) ?_
          rotate_left
          · cases ho
            refine Or.inl ⟨by rfl, ?_⟩
            intro wq hSw
            (try dsimp only at hSw)
            go_simp
            all_goals (with_reducible rfl)
          try simp only [Act.put, List.setIfInBounds_toArray, List.set_cons_zero, List.set_cons_succ]
          refine wpAnyH_done (by kernel_rfl) ?_ _
          have HBF := Lib.hid (HBU.out.trans (hHeld.2.2.2.2.2.2.2.2.2.2.2.2.2.2.2.2.2.2.2.2.2.2.2.2.2.2.2.2.2.2.2.2.2.2.2.2.2.2.2.2.2.2.2.2.2.2.2.2.2.2.mono HBU.out.size))
          go_wp2
          go_roundw
          case rel => exact ⟨2, by omega, rfl, HBF.out⟩
          case measure => simp [intOf]
        · go_wp2_with fail
          refine ((fun W hW => (HP2.out W hW).2.2.2.2.1) wr HWR.out).mono ?_
          rintro e u3 ⟨hb, x, rfl, hx⟩
          have hx2 : NdR u3 (rng wr.heap.size u3.heap.size) x (.mk 12 [] [] 0 bd0 bd0 [] [s, t]) := hx
          clear hx
          rcases hx2 with ⟨h1, h2, h3, h4⟩
          rename_i so sk nl
          obtain ⟨y1, y2, rfl⟩ := len_two h3
          have hy1 := h4 0 y1 s rfl rfl
          have hy2 := h4 1 y2 t rfl rfl
          obtain ⟨oa3, on3, oc3⟩ := so
          obtain ⟨ka3, kn3, kc3⟩ := sk
          obtain rfl : on3 = 0 := h1.1
          obtain rfl : kn3 = 2 := h2.1
          obtain ⟨b', hb', hbl2, g0, g1, g2, g3, g4, g5, g6, g7, g8, g9, g10, g11⟩ := at_ndk h2 (show 1 < [y1, y2].length from by simp)
          obtain ⟨b, rfl, hbF, hbl, hc0, hcc⟩ := h2.nd0
          obtain rfl : b = b' := by injection hb'
          clear hb' hbF
          have ead : b.add (1 * 12) = ⟨b.block, b.off + 12, none⟩ := rfl
          rw [ead] at hbl2 g0 g1 g2 g3 g4 g5 g6 g7 g8 g9 g10 g11
          clear ead
          simp only [List.getElem_cons_succ, List.getElem_cons_zero] at hbl2 g0 g1 g2 g3 g4 g5 g6 g7 g8 g9 g10 g11
          obtain ⟨kd5, fl5, tx5, xn5, ⟨la5, lb5, lc5⟩, ⟨ra5, rb5, rc5⟩, ⟨oa5, on5, oc5⟩, ⟨ka5, kn5, kc5⟩⟩ := y1
          obtain ⟨kd6, fl6, tx6, xn6, ⟨la6, lb6, lc6⟩, ⟨ra6, rb6, rc6⟩, ⟨oa6, on6, oc6⟩, ⟨ka6, kn6, kc6⟩⟩ := y2
          have HCB := Lib.hid (show u3.cell? b = some (.int .i64 kd5) ∧ u3.cell? ⟨b.block, b.off + 1, none⟩ = some (.string (str fl5)) ∧ u3.cell? ⟨b.block, b.off + 2, none⟩ = some (.string (str tx5)) ∧ u3.cell? ⟨b.block, b.off + 3, none⟩ = some (.int .i64 xn5) ∧ u3.cell? ⟨b.block, b.off + 4, none⟩ = some (.bool la5) ∧ u3.cell? ⟨b.block, b.off + 5, none⟩ = some (.bool lb5) ∧ u3.cell? ⟨b.block, b.off + 6, none⟩ = some (.string (str lc5)) ∧ u3.cell? ⟨b.block, b.off + 7, none⟩ = some (.bool ra5) ∧ u3.cell? ⟨b.block, b.off + 8, none⟩ = some (.bool rb5) ∧ u3.cell? ⟨b.block, b.off + 9, none⟩ = some (.string (str rc5)) ∧ u3.cell? ⟨b.block, b.off + 10, none⟩ = some (.slice oa5 on5 oc5) ∧ u3.cell? ⟨b.block, b.off + 11, none⟩ = some (.slice ka5 kn5 kc5) ∧ b.block < u3.heap.size from ⟨hc0, hcc 0 _ rfl, hcc 1 _ rfl, hcc 2 _ rfl, hcc 3 _ rfl, hcc 4 _ rfl, hcc 5 _ rfl, hcc 6 _ rfl, hcc 7 _ rfl, hcc 8 _ rfl, hcc 9 _ rfl, hcc 10 _ rfl, hbl⟩)
          have HCC := Lib.hid (show u3.cell? ⟨b.block, b.off + 12, none⟩ = some (.int .i64 kd6) ∧ u3.cell? ⟨b.block, b.off + 12 + 1, none⟩ = some (.string (str fl6)) ∧ u3.cell? ⟨b.block, b.off + 12 + 2, none⟩ = some (.string (str tx6)) ∧ u3.cell? ⟨b.block, b.off + 12 + 3, none⟩ = some (.int .i64 xn6) ∧ u3.cell? ⟨b.block, b.off + 12 + 4, none⟩ = some (.bool la6) ∧ u3.cell? ⟨b.block, b.off + 12 + 5, none⟩ = some (.bool lb6) ∧ u3.cell? ⟨b.block, b.off + 12 + 6, none⟩ = some (.string (str lc6)) ∧ u3.cell? ⟨b.block, b.off + 12 + 7, none⟩ = some (.bool ra6) ∧ u3.cell? ⟨b.block, b.off + 12 + 8, none⟩ = some (.bool rb6) ∧ u3.cell? ⟨b.block, b.off + 12 + 9, none⟩ = some (.string (str rc6)) ∧ u3.cell? ⟨b.block, b.off + 12 + 10, none⟩ = some (.slice oa6 on6 oc6) ∧ u3.cell? ⟨b.block, b.off + 12 + 11, none⟩ = some (.slice ka6 kn6 kc6) ∧ b.block < u3.heap.size from ⟨g0, g1, g2, g3, g4, g5, g6, g7, g8, g9, g10, g11, hbl2⟩)
          have HX5 := Lib.hid hy1; have HX6 := Lib.hid hy2
          clear h1 h2 h3 h4 g0 g1 g2 g3 g4 g5 g6 g7 g8 g9 g10 g11 hc0 hcc hbl hbl2 hy1 hy2
          unfold NV.val bd0
          simp only [str_nil]
          have HU3 := Lib.hid (HWR.out.trans (hb.mono HWR.out.size))
          have HV3 := Lib.hid (HU3.out.alloc HU3.out.size (.cells #[.int .i64 12, .string ⟨#[]⟩, .string ⟨#[]⟩, .int .i64 0, .bool false, .bool false, .string ⟨#[]⟩, .bool false, .bool false, .string ⟨#[]⟩, .slice oa3 0 oc3, .slice (some b) 2 kc3] 36))
          have HN3 := Lib.hid (Blk.new u3 36 #[.int .i64 12, .string ⟨#[]⟩, .string ⟨#[]⟩, .int .i64 0, .bool false, .bool false, .string ⟨#[]⟩, .bool false, .bool false, .string ⟨#[]⟩, .slice oa3 0 oc3, .slice (some b) 2 kc3])
          have HA3 := Lib.hid (show Below u3.heap.size u3 (u3.alloc (.cells #[.int .i64 12, .string ⟨#[]⟩, .string ⟨#[]⟩, .int .i64 0, .bool false, .bool false, .string ⟨#[]⟩, .bool false, .bool false, .string ⟨#[]⟩, .slice oa3 0 oc3, .slice (some b) 2 kc3] 36)) from (Below.refl u3.heap.size u3).alloc (Nat.le_refl _) (.cells #[.int .i64 12, .string ⟨#[]⟩, .string ⟨#[]⟩, .int .i64 0, .bool false, .bool false, .string ⟨#[]⟩, .bool false, .bool false, .string ⟨#[]⟩, .slice oa3 0 oc3, .slice (some b) 2 kc3] 36))
          have HNX := Lib.hid ((HNA2.out.belowW hb).belowW HA3.out); have HNY := Lib.hid ((HNB2.out.belowW hb).belowW HA3.out)
          have HXX := Lib.hid ((HXA2.out.belowW hb).belowW HA3.out); have HXY := Lib.hid ((HXB2.out.belowW hb).belowW HA3.out)
          have HX53 := Lib.hid (HX5.out.belowW HA3.out); have HX63 := Lib.hid (HX6.out.belowW HA3.out)
          have HBU := Lib.hid (show Below v6.heap.size v6 (u3.alloc (.cells #[.int .i64 12, .string ⟨#[]⟩, .string ⟨#[]⟩, .int .i64 0, .bool false, .bool false, .string ⟨#[]⟩, .bool false, .bool false, .string ⟨#[]⟩, .slice oa3 0 oc3, .slice (some b) 2 kc3] 36)) from HBR.out.trans ((hb.trans (HA3.out.mono hb.size)).mono HBR.out.size))
          clear hb HX5 HX6 HNA2 HNB2 HXA2 HXB2
          go_wp2_with fail
          
          generalize u3.alloc (.cells #[.int .i64 12, .string ⟨#[]⟩, .string ⟨#[]⟩, .int .i64 0, .bool false, .bool false, .string ⟨#[]⟩, .bool false, .bool false, .string ⟨#[]⟩, .slice oa3 0 oc3, .slice (some b) 2 kc3] 36) = v7 at *
          have HSF := Lib.hid (fun (W : World) (hW : Below v7.heap.size v7 W) => (show W.cell? ⟨u3.heap.size, 0, none⟩ = some (.int .i64 12) ∧ W.cell? ⟨u3.heap.size, 11, none⟩ = some (.slice (some b) 2 kc3) ∧ W.cell? b = some (.int .i64 kd5) ∧ W.cell? ⟨b.block, b.off + 1, none⟩ = some (.string (str fl5)) ∧ W.cell? ⟨b.block, b.off + 2, none⟩ = some (.string (str tx5)) ∧ W.cell? ⟨b.block, b.off + 3, none⟩ = some (.int .i64 xn5) ∧ W.cell? ⟨b.block, b.off + 4, none⟩ = some (.bool la5) ∧ W.cell? ⟨b.block, b.off + 5, none⟩ = some (.bool lb5) ∧ W.cell? ⟨b.block, b.off + 6, none⟩ = some (.string (str lc5)) ∧ W.cell? ⟨b.block, b.off + 7, none⟩ = some (.bool ra5) ∧ W.cell? ⟨b.block, b.off + 8, none⟩ = some (.bool rb5) ∧ W.cell? ⟨b.block, b.off + 9, none⟩ = some (.string (str rc5)) ∧ W.cell? ⟨b.block, b.off + 10, none⟩ = some (.slice oa5 on5 oc5) ∧ W.cell? ⟨b.block, b.off + 11, none⟩ = some (.slice ka5 kn5 kc5) ∧ W.cell? ⟨b.block, b.off + 12, none⟩ = some (.int .i64 kd6) ∧ W.cell? ⟨b.block, b.off + 12 + 1, none⟩ = some (.string (str fl6)) ∧ W.cell? ⟨b.block, b.off + 12 + 2, none⟩ = some (.string (str tx6)) ∧ W.cell? ⟨b.block, b.off + 12 + 3, none⟩ = some (.int .i64 xn6) ∧ W.cell? ⟨b.block, b.off + 12 + 4, none⟩ = some (.bool la6) ∧ W.cell? ⟨b.block, b.off + 12 + 5, none⟩ = some (.bool lb6) ∧ W.cell? ⟨b.block, b.off + 12 + 6, none⟩ = some (.string (str lc6)) ∧ W.cell? ⟨b.block, b.off + 12 + 7, none⟩ = some (.bool ra6) ∧ W.cell? ⟨b.block, b.off + 12 + 8, none⟩ = some (.bool rb6) ∧ W.cell? ⟨b.block, b.off + 12 + 9, none⟩ = some (.string (str rc6)) ∧ W.cell? ⟨b.block, b.off + 12 + 10, none⟩ = some (.slice oa6 on6 oc6) ∧ W.cell? ⟨b.block, b.off + 12 + 11, none⟩ = some (.slice ka6 kn6 kc6) ∧ W.cell? ⟨u1.heap.size, 0, none⟩ = some (.int .i64 kd1) ∧ W.cell? ⟨u1.heap.size, 1, none⟩ = some (.string (str fl1)) ∧ W.cell? ⟨u1.heap.size, 2, none⟩ = some (.string (str tx1)) ∧ W.cell? ⟨u1.heap.size, 3, none⟩ = some (.int .i64 xn1) ∧ W.cell? ⟨u1.heap.size, 4, none⟩ = some (.bool la1) ∧ W.cell? ⟨u1.heap.size, 5, none⟩ = some (.bool lb1) ∧ W.cell? ⟨u1.heap.size, 6, none⟩ = some (.string (str lc1)) ∧ W.cell? ⟨u1.heap.size, 7, none⟩ = some (.bool ra1) ∧ W.cell? ⟨u1.heap.size, 8, none⟩ = some (.bool rb1) ∧ W.cell? ⟨u1.heap.size, 9, none⟩ = some (.string (str rc1)) ∧ W.cell? ⟨u1.heap.size, 10, none⟩ = some (.slice oa1 on1 oc1) ∧ W.cell? ⟨u1.heap.size, 11, none⟩ = some (.slice ka1 kn1 kc1) ∧ W.cell? ⟨u2.heap.size, 0, none⟩ = some (.int .i64 kd2) ∧ W.cell? ⟨u2.heap.size, 1, none⟩ = some (.string (str fl2)) ∧ W.cell? ⟨u2.heap.size, 2, none⟩ = some (.string (str tx2)) ∧ W.cell? ⟨u2.heap.size, 3, none⟩ = some (.int .i64 xn2) ∧ W.cell? ⟨u2.heap.size, 4, none⟩ = some (.bool la2) ∧ W.cell? ⟨u2.heap.size, 5, none⟩ = some (.bool lb2) ∧ W.cell? ⟨u2.heap.size, 6, none⟩ = some (.string (str lc2)) ∧ W.cell? ⟨u2.heap.size, 7, none⟩ = some (.bool ra2) ∧ W.cell? ⟨u2.heap.size, 8, none⟩ = some (.bool rb2) ∧ W.cell? ⟨u2.heap.size, 9, none⟩ = some (.string (str rc2)) ∧ W.cell? ⟨u2.heap.size, 10, none⟩ = some (.slice oa2 on2 oc2) ∧ W.cell? ⟨u2.heap.size, 11, none⟩ = some (.slice ka2 kn2 kc2) ∧ Below v7.heap.size v7 W from by
            have hU : Below u3.heap.size u3 W := HA3.out.trans (hW.mono HA3.out.size)
            have hn1 := HNX.out.belowW hW
            have hn2 := HNY.out.belowW hW
            have hn3 := HN3.out.belowW hW
            obtain ⟨i0, i1, i2, i3, i4, i5, i6, i7, i8, i9, i10, i11, il⟩ := HCB.out
            obtain ⟨j0, j1, j2, j3, j4, j5, j6, j7, j8, j9, j10, j11, jl⟩ := HCC.out
            exact ⟨hn3.cell 0, hn3.cell 11, (hU.cell (p := b) il).trans i0, (hU.cell (p := ⟨b.block, b.off + 1, none⟩) il).trans i1, (hU.cell (p := ⟨b.block, b.off + 2, none⟩) il).trans i2, (hU.cell (p := ⟨b.block, b.off + 3, none⟩) il).trans i3, (hU.cell (p := ⟨b.block, b.off + 4, none⟩) il).trans i4, (hU.cell (p := ⟨b.block, b.off + 5, none⟩) il).trans i5, (hU.cell (p := ⟨b.block, b.off + 6, none⟩) il).trans i6, (hU.cell (p := ⟨b.block, b.off + 7, none⟩) il).trans i7, (hU.cell (p := ⟨b.block, b.off + 8, none⟩) il).trans i8, (hU.cell (p := ⟨b.block, b.off + 9, none⟩) il).trans i9, (hU.cell (p := ⟨b.block, b.off + 10, none⟩) il).trans i10, (hU.cell (p := ⟨b.block, b.off + 11, none⟩) il).trans i11, (hU.cell (p := ⟨b.block, b.off + 12, none⟩) jl).trans j0, (hU.cell (p := ⟨b.block, b.off + 12 + 1, none⟩) jl).trans j1, (hU.cell (p := ⟨b.block, b.off + 12 + 2, none⟩) jl).trans j2, (hU.cell (p := ⟨b.block, b.off + 12 + 3, none⟩) jl).trans j3, (hU.cell (p := ⟨b.block, b.off + 12 + 4, none⟩) jl).trans j4, (hU.cell (p := ⟨b.block, b.off + 12 + 5, none⟩) jl).trans j5, (hU.cell (p := ⟨b.block, b.off + 12 + 6, none⟩) jl).trans j6, (hU.cell (p := ⟨b.block, b.off + 12 + 7, none⟩) jl).trans j7, (hU.cell (p := ⟨b.block, b.off + 12 + 8, none⟩) jl).trans j8, (hU.cell (p := ⟨b.block, b.off + 12 + 9, none⟩) jl).trans j9, (hU.cell (p := ⟨b.block, b.off + 12 + 10, none⟩) jl).trans j10, (hU.cell (p := ⟨b.block, b.off + 12 + 11, none⟩) jl).trans j11, hn1.cell 0, hn1.cell 1, hn1.cell 2, hn1.cell 3, hn1.cell 4, hn1.cell 5, hn1.cell 6, hn1.cell 7, hn1.cell 8, hn1.cell 9, hn1.cell 10, hn1.cell 11, hn2.cell 0, hn2.cell 1, hn2.cell 2, hn2.cell 3, hn2.cell 4, hn2.cell 5, hn2.cell 6, hn2.cell 7, hn2.cell 8, hn2.cell 9, hn2.cell 10, hn2.cell 11, hW⟩))
          have HSM1 := Lib.hid (fun (W : World) (hW : Below v7.heap.size v7 W) => (same_all s W _ _ _ _ (HX53.out.belowW hW) (HXX.out.belowW hW)).mono (fun e w' (h : SamRet W e w') => (show e = .returned (.bool true) ∧ Below v7.heap.size v7 w' from ⟨h.1, hW.trans (h.2.mono hW.size)⟩)))
          have HSM2 := Lib.hid (fun (W : World) (hW : Below v7.heap.size v7 W) => (same_all t W _ _ _ _ (HX63.out.belowW hW) (HXY.out.belowW hW)).mono (fun e w' (h : SamRet W e w') => (show e = .returned (.bool true) ∧ Below v7.heap.size v7 w' from ⟨h.1, hW.trans (h.2.mono hW.size)⟩)))
          unfold NV.val at HSM1 HSM2
          simp only [] at HSM1 HSM2
          refine wp_region_held_drew (S := fun W => W.cell? ⟨u3.heap.size, 0, none⟩ = some (.int .i64 12) ∧ W.cell? ⟨u3.heap.size, 11, none⟩ = some (.slice (some b) 2 kc3) ∧ W.cell? b = some (.int .i64 kd5) ∧ W.cell? ⟨b.block, b.off + 1, none⟩ = some (.string (str fl5)) ∧ W.cell? ⟨b.block, b.off + 2, none⟩ = some (.string (str tx5)) ∧ W.cell? ⟨b.block, b.off + 3, none⟩ = some (.int .i64 xn5) ∧ W.cell? ⟨b.block, b.off + 4, none⟩ = some (.bool la5) ∧ W.cell? ⟨b.block, b.off + 5, none⟩ = some (.bool lb5) ∧ W.cell? ⟨b.block, b.off + 6, none⟩ = some (.string (str lc5)) ∧ W.cell? ⟨b.block, b.off + 7, none⟩ = some (.bool ra5) ∧ W.cell? ⟨b.block, b.off + 8, none⟩ = some (.bool rb5) ∧ W.cell? ⟨b.block, b.off + 9, none⟩ = some (.string (str rc5)) ∧ W.cell? ⟨b.block, b.off + 10, none⟩ = some (.slice oa5 on5 oc5) ∧ W.cell? ⟨b.block, b.off + 11, none⟩ = some (.slice ka5 kn5 kc5) ∧ W.cell? ⟨b.block, b.off + 12, none⟩ = some (.int .i64 kd6) ∧ W.cell? ⟨b.block, b.off + 12 + 1, none⟩ = some (.string (str fl6)) ∧ W.cell? ⟨b.block, b.off + 12 + 2, none⟩ = some (.string (str tx6)) ∧ W.cell? ⟨b.block, b.off + 12 + 3, none⟩ = some (.int .i64 xn6) ∧ W.cell? ⟨b.block, b.off + 12 + 4, none⟩ = some (.bool la6) ∧ W.cell? ⟨b.block, b.off + 12 + 5, none⟩ = some (.bool lb6) ∧ W.cell? ⟨b.block, b.off + 12 + 6, none⟩ = some (.string (str lc6)) ∧ W.cell? ⟨b.block, b.off + 12 + 7, none⟩ = some (.bool ra6) ∧ W.cell? ⟨b.block, b.off + 12 + 8, none⟩ = some (.bool rb6) ∧ W.cell? ⟨b.block, b.off + 12 + 9, none⟩ = some (.string (str rc6)) ∧ W.cell? ⟨b.block, b.off + 12 + 10, none⟩ = some (.slice oa6 on6 oc6) ∧ W.cell? ⟨b.block, b.off + 12 + 11, none⟩ = some (.slice ka6 kn6 kc6) ∧ W.cell? ⟨u1.heap.size, 0, none⟩ = some (.int .i64 kd1) ∧ W.cell? ⟨u1.heap.size, 1, none⟩ = some (.string (str fl1)) ∧ W.cell? ⟨u1.heap.size, 2, none⟩ = some (.string (str tx1)) ∧ W.cell? ⟨u1.heap.size, 3, none⟩ = some (.int .i64 xn1) ∧ W.cell? ⟨u1.heap.size, 4, none⟩ = some (.bool la1) ∧ W.cell? ⟨u1.heap.size, 5, none⟩ = some (.bool lb1) ∧ W.cell? ⟨u1.heap.size, 6, none⟩ = some (.string (str lc1)) ∧ W.cell? ⟨u1.heap.size, 7, none⟩ = some (.bool ra1) ∧ W.cell? ⟨u1.heap.size, 8, none⟩ = some (.bool rb1) ∧ W.cell? ⟨u1.heap.size, 9, none⟩ = some (.string (str rc1)) ∧ W.cell? ⟨u1.heap.size, 10, none⟩ = some (.slice oa1 on1 oc1) ∧ W.cell? ⟨u1.heap.size, 11, none⟩ = some (.slice ka1 kn1 kc1) ∧ W.cell? ⟨u2.heap.size, 0, none⟩ = some (.int .i64 kd2) ∧ W.cell? ⟨u2.heap.size, 1, none⟩ = some (.string (str fl2)) ∧ W.cell? ⟨u2.heap.size, 2, none⟩ = some (.string (str tx2)) ∧ W.cell? ⟨u2.heap.size, 3, none⟩ = some (.int .i64 xn2) ∧ W.cell? ⟨u2.heap.size, 4, none⟩ = some (.bool la2) ∧ W.cell? ⟨u2.heap.size, 5, none⟩ = some (.bool lb2) ∧ W.cell? ⟨u2.heap.size, 6, none⟩ = some (.string (str lc2)) ∧ W.cell? ⟨u2.heap.size, 7, none⟩ = some (.bool ra2) ∧ W.cell? ⟨u2.heap.size, 8, none⟩ = some (.bool rb2) ∧ W.cell? ⟨u2.heap.size, 9, none⟩ = some (.string (str rc2)) ∧ W.cell? ⟨u2.heap.size, 10, none⟩ = some (.slice oa2 on2 oc2) ∧ W.cell? ⟨u2.heap.size, 11, none⟩ = some (.slice ka2 kn2 kc2) ∧ Below v7.heap.size v7 W) (by kernel_rfl) ?_ (fun hHeld => ?_)
          · exact HSF.out _ (by repeat (first | assumption | exact Below.refl _ _ | with_reducible refine Below.drew ?_ | with_reducible refine Below.alloc ?_ (by first | exact Nat.le_refl _ | exact Below.size (by assumption)) _))
          refine wpAnyH_takeD (i := 0) (d := (some 105)) (v := ?_) (by kernel_rfl) (by kernel_rfl) (fun _ _ _ h => h) (fun oi ho => ?_) (by assumption) ?_
          rotate_left
          · cases ho
            refine Or.inl ⟨by rfl, ?_⟩
            intro wq hSw
            (try dsimp only at hSw)
            go_simp
            all_goals (with_reducible rfl)
          try simp only [Act.put, List.setIfInBounds_toArray, List.set_cons_zero, List.set_cons_succ]
          refine wpAnyH_takeD (i := 1) (d := (some 106)) (v := ?_) (by kernel_rfl) (by kernel_rfl) (fun _ _ _ h => h) (fun oi ho => ?_) (by assumption) ?_
          rotate_left
          · cases ho
            refine Or.inl ⟨by rfl, ?_⟩
            intro wq hSw
            (try dsimp only at hSw)
            go_simp
            all_goals (with_reducible rfl)
          try simp only [Act.put, List.setIfInBounds_toArray, List.set_cons_zero, List.set_cons_succ]
          refine wpAnyH_takeD (i := 2) (d := (some 107)) (v := ?_) (by kernel_rfl) (by kernel_rfl) (fun _ _ _ h => h) (fun oi ho => ?_) (by assumption) ?_
          rotate_left
          · cases ho
            refine Or.inl ⟨by rfl, ?_⟩
            intro wq hSw
            (try dsimp only at hSw)
            go_simp
            all_goals (with_reducible rfl)
          try simp only [Act.put, List.setIfInBounds_toArray, List.set_cons_zero, List.set_cons_succ]
          refine wpAnyH_takeD (i := 3) (d := (some 108)) (v := ?_) (by kernel_rfl) (by kernel_rfl) (fun _ _ _ h => h) (fun oi ho => ?_) (by assumption) ?_
          rotate_left
          · cases ho
            refine Or.inl ⟨by rfl, ?_⟩
            intro wq hSw
            (try dsimp only at hSw)
            go_simp
            all_goals (with_reducible rfl)
          try simp only [Act.put, List.setIfInBounds_toArray, List.set_cons_zero, List.set_cons_succ]
          refine wpAnyH_takeD (i := 6) (d := (some 111)) (v := ?_) (by kernel_rfl) (by kernel_rfl) (fun _ _ _ h => h) (fun oi ho => ?_) (by assumption) ?_
          rotate_left
          · cases ho
            refine Or.inl ⟨by rfl, ?_⟩
            intro wq hSw
            (try dsimp only at hSw)
            go_simp
            all_goals (with_reducible rfl)
          try simp only [Act.put, List.setIfInBounds_toArray, List.set_cons_zero, List.set_cons_succ]
          refine wpAnyH_takeD (i := 4) (d := (some 109)) (v := ?_) (by kernel_rfl) (by kernel_rfl) (fun _ _ _ h => h) (fun oi ho => ?_) (by assumption) ?_
          rotate_left
          · cases ho
            refine Or.inl ⟨by rfl, ?_⟩
            intro wq hSw
            (try dsimp only at hSw)
            go_simp
            all_goals (with_reducible rfl)
          try simp only [Act.put, List.setIfInBounds_toArray, List.set_cons_zero, List.set_cons_succ]
          refine wpAnyH_ready (rs := [5]) (by kernel_rfl) (by simp) ?_
          refine AllReadyH.cons rfl (fun K hK => ?_) AllReadyH.nil
          go_simp
          refine hK.out _ _ ?_ (fun hHeld => ?_)
          · exact HSF.out _ (by repeat (first | assumption | exact Below.refl _ _ | with_reducible refine Below.drew ?_ | with_reducible refine Below.alloc ?_ (by first | exact Nat.le_refl _ | exact Below.size (by assumption)) _))
          clear hK K
          try simp only [Act.put, List.setIfInBounds_toArray, List.set_cons_zero, List.set_cons_succ]
          refine wpAnyH_takeD (i := 7) (d := (some 112)) (v := ?_) (by kernel_rfl) (by kernel_rfl) (fun _ _ _ h => h) (fun oi ho => ?_) (by assumption) ?_
          rotate_left
          · cases ho
            refine Or.inl ⟨by rfl, ?_⟩
            intro wq hSw
            (try dsimp only at hSw)
            go_simp
            all_goals (with_reducible rfl)
          try simp only [Act.put, List.setIfInBounds_toArray, List.set_cons_zero, List.set_cons_succ]
          refine wpAnyH_ready (rs := [8]) (by kernel_rfl) (by simp) ?_
          refine AllReadyH.cons rfl (fun K hK => ?_) AllReadyH.nil
          go_simp
          refine hK.out _ _ ?_ (fun hHeld => ?_)
          · exact HSF.out _ (by repeat (first | assumption | exact Below.refl _ _ | with_reducible refine Below.drew ?_ | with_reducible refine Below.alloc ?_ (by first | exact Nat.le_refl _ | exact Below.size (by assumption)) _))
          clear hK K
          try simp only [Act.put, List.setIfInBounds_toArray, List.set_cons_zero, List.set_cons_succ]
          refine wpAnyH_takeD (i := 9) (d := (some 114)) (v := ?_) (by kernel_rfl) (by kernel_rfl) (fun _ _ _ h => h) (fun oi ho => ?_) (by assumption) ?_
          rotate_left
          · cases ho
            refine Or.inl ⟨by rfl, ?_⟩
            intro wq hSw
            (try dsimp only at hSw)
            go_simp
            all_goals (with_reducible rfl)
          try simp only [Act.put, List.setIfInBounds_toArray, List.set_cons_zero, List.set_cons_succ]
          refine wpAnyH_takeD (i := 10) (d := (some 115)) (v := ?_) (by kernel_rfl) (by kernel_rfl) (fun _ _ _ h => h) (fun oi ho => ?_) (by assumption) ?_
          rotate_left
          · cases ho
            refine Or.inl ⟨by rfl, ?_⟩
            intro wq hSw
            (try dsimp only at hSw)
            go_simp
            all_goals (with_reducible rfl)
          try simp only [Act.put, List.setIfInBounds_toArray, List.set_cons_zero, List.set_cons_succ]
          refine wpAnyH_takeD (i := 11) (d := (some 116)) (v := ?_) (by kernel_rfl) (by kernel_rfl) (fun _ _ _ h => h) (fun oi ho => ?_) (by assumption) ?_
          rotate_left
          · cases ho
            refine Or.inl ⟨by rfl, ?_⟩
            intro wq hSw
            (try dsimp only at hSw)
            go_simp
            all_goals (with_reducible rfl)
          try simp only [Act.put, List.setIfInBounds_toArray, List.set_cons_zero, List.set_cons_succ]
          refine wpAnyH_takeD (i := 12) (d := (some 117)) (v := ?_) (by kernel_rfl) (by kernel_rfl) (fun _ _ _ h => h) (fun oi ho => ?_) (by assumption) ?_
          rotate_left
          · cases ho
            refine Or.inl ⟨by rfl, ?_⟩
            intro wq hSw
            (try dsimp only at hSw)
            go_simp
            all_goals (with_reducible rfl)
          try simp only [Act.put, List.setIfInBounds_toArray, List.set_cons_zero, List.set_cons_succ]
          refine wpAnyH_takeD (i := 13) (d := (some 118)) (v := ?_) (by kernel_rfl) (by kernel_rfl) (fun _ _ _ h => h) (fun oi ho => ?_) (by assumption) ?_
          rotate_left
          · cases ho
            refine Or.inl ⟨by rfl, ?_⟩
            intro wq hSw
            (try dsimp only at hSw)
            go_simp
            all_goals (with_reducible rfl)
          try simp only [Act.put, List.setIfInBounds_toArray, List.set_cons_zero, List.set_cons_succ]
          refine wpAnyH_takeD (i := 14) (d := (some 119)) (v := ?_) (by kernel_rfl) (by kernel_rfl) (fun _ _ _ h => h) (fun oi ho => ?_) (by assumption) ?_
          rotate_left
          · cases ho
            refine Or.inl ⟨by rfl, ?_⟩
            intro wq hSw
            (try dsimp only at hSw)
            go_simp
            all_goals (with_reducible rfl)
          try simp only [Act.put, List.setIfInBounds_toArray, List.set_cons_zero, List.set_cons_succ]
          refine wpAnyH_takeD (i := 15) (d := (some 120)) (v := ?_) (by kernel_rfl) (by kernel_rfl) (fun _ _ _ h => h) (fun oi ho => ?_) (by assumption) ?_
          rotate_left
          · cases ho
            refine Or.inl ⟨by rfl, ?_⟩
            intro wq hSw
            (try dsimp only at hSw)
            go_simp
            all_goals (with_reducible rfl)
          try simp only [Act.put, List.setIfInBounds_toArray, List.set_cons_zero, List.set_cons_succ]
          refine wpAnyH_takeD (i := 16) (d := (some 121)) (v := ?_) (by kernel_rfl) (by kernel_rfl) (fun _ _ _ h => h) (fun oi ho => ?_) (by assumption) ?_
          rotate_left
          · cases ho
            refine Or.inl ⟨by rfl, ?_⟩
            intro wq hSw
            (try dsimp only at hSw)
            go_simp
            all_goals (with_reducible rfl)
          try simp only [Act.put, List.setIfInBounds_toArray, List.set_cons_zero, List.set_cons_succ]
          refine wpAnyH_takeD (i := 17) (d := (some 122)) (v := ?_) (by kernel_rfl) (by kernel_rfl) (fun _ _ _ h => h) (fun oi ho => ?_) (by assumption) ?_
          rotate_left
          · cases ho
            refine Or.inl ⟨by rfl, ?_⟩
            intro wq hSw
            (try dsimp only at hSw)
            go_simp
            all_goals (with_reducible rfl)
          try simp only [Act.put, List.setIfInBounds_toArray, List.set_cons_zero, List.set_cons_succ]
          refine wpAnyH_takeD (i := 18) (d := (some 123)) (v := ?_) (by kernel_rfl) (by kernel_rfl) (fun _ _ _ h => h) (fun oi ho => ?_) (by assumption) ?_
          rotate_left
          · cases ho
            refine Or.inl ⟨by rfl, ?_⟩
            intro wq hSw
            (try dsimp only at hSw)
            go_simp
            all_goals (with_reducible rfl)
          try simp only [Act.put, List.setIfInBounds_toArray, List.set_cons_zero, List.set_cons_succ]
          refine wpAnyH_takeD (i := 19) (d := (some 124)) (v := ?_) (by kernel_rfl) (by kernel_rfl) (fun _ _ _ h => h) (fun oi ho => ?_) (by assumption) ?_
          rotate_left
          · cases ho
            refine Or.inl ⟨by rfl, ?_⟩
            intro wq hSw
            (try dsimp only at hSw)
            go_simp
            all_goals (with_reducible rfl)
          try simp only [Act.put, List.setIfInBounds_toArray, List.set_cons_zero, List.set_cons_succ]
          refine wpAnyH_takeD (i := 20) (d := (some 125)) (v := ?_) (by kernel_rfl) (by kernel_rfl) (fun _ _ _ h => h) (fun oi ho => ?_) (by assumption) ?_
          rotate_left
          · cases ho
            refine Or.inl ⟨by rfl, ?_⟩
            intro wq hSw
            (try dsimp only at hSw)
            go_simp
            all_goals (with_reducible rfl)
          try simp only [Act.put, List.setIfInBounds_toArray, List.set_cons_zero, List.set_cons_succ]
          refine wpAnyH_takeD (i := 21) (d := (some 126)) (v := ?_) (by kernel_rfl) (by kernel_rfl) (fun _ _ _ h => h) (fun oi ho => ?_) (by assumption) ?_
          rotate_left
          · cases ho
            refine Or.inl ⟨by rfl, ?_⟩
            intro wq hSw
            (try dsimp only at hSw)
            go_simp
            all_goals (with_reducible rfl)
          try simp only [Act.put, List.setIfInBounds_toArray, List.set_cons_zero, List.set_cons_succ]
          refine wpAnyH_takeD (i := 22) (d := (some 127)) (v := ?_) (by kernel_rfl) (by kernel_rfl) (fun _ _ _ h => h) (fun oi ho => ?_) (by assumption) ?_
          rotate_left
          · cases ho
            refine Or.inl ⟨by rfl, ?_⟩
            intro wq hSw
            (try dsimp only at hSw)
            go_simp
            all_goals (with_reducible rfl)
          try simp only [Act.put, List.setIfInBounds_toArray, List.set_cons_zero, List.set_cons_succ]
          refine wpAnyH_ready (rs := [23]) (by kernel_rfl) (by simp) ?_
          refine AllReadyH.cons rfl (fun K hK => ?_) AllReadyH.nil
          go_simp
          refine (HSM1.out _ ?_).mono ?_
          · repeat (first | assumption | exact Below.refl _ _ | with_reducible refine Below.drew ?_ | with_reducible refine Below.alloc ?_ (by first | exact Nat.le_refl _ | exact Below.size (by assumption)) _)
          rintro e w' ⟨rfl, hk1⟩
          (try go_wp2_with fail)
          refine hK.out _ _ ?_ (fun hHeld => ?_)
          · exact HSF.out _ (by repeat (first | assumption | exact Below.refl _ _ | with_reducible refine Below.drew ?_ | with_reducible refine Below.alloc ?_ (by first | exact Nat.le_refl _ | exact Below.size (by assumption)) _))
          clear hK K
          try simp only [Act.put, List.setIfInBounds_toArray, List.set_cons_zero, List.set_cons_succ]
          refine wpAnyH_takeD (i := 24) (d := (some 129)) (v := ?_) (by kernel_rfl) (by kernel_rfl) (fun _ _ _ h => h) (fun oi ho => ?_) (by assumption) ?_
          rotate_left
          · cases ho
            refine Or.inl ⟨by rfl, ?_⟩
            intro wq hSw
            (try dsimp only at hSw)
            go_simp
            all_goals (with_reducible rfl)
          try simp only [Act.put, List.setIfInBounds_toArray, List.set_cons_zero, List.set_cons_succ]
          refine wpAnyH_takeD (i := 25) (d := (some 130)) (v := ?_) (by kernel_rfl) (by kernel_rfl) (fun _ _ _ h => h) (fun oi ho => ?_) (by assumption) ?_
          rotate_left
          · cases ho
            refine Or.inl ⟨by rfl, ?_⟩
            intro wq hSw
            (try dsimp only at hSw)
            go_simp
            all_goals (with_reducible rfl)
          try simp only [Act.put, List.setIfInBounds_toArray, List.set_cons_zero, List.set_cons_succ]
          refine wpAnyH_takeD (i := 26) (d := (some 131)) (v := ?_) (by kernel_rfl) (by kernel_rfl) (fun _ _ _ h => h) (fun oi ho => ?_) (by assumption) ?_
          rotate_left
          · cases ho
            refine Or.inl ⟨by rfl, ?_⟩
            intro wq hSw
            (try dsimp only at hSw)
            go_simp
            all_goals (with_reducible rfl)
          try simp only [Act.put, List.setIfInBounds_toArray, List.set_cons_zero, List.set_cons_succ]
          refine wpAnyH_takeD (i := 27) (d := (some 132)) (v := ?_) (by kernel_rfl) (by kernel_rfl) (fun _ _ _ h => h) (fun oi ho => ?_) (by assumption) ?_
          rotate_left
          · cases ho
            refine Or.inl ⟨by rfl, ?_⟩
            intro wq hSw
            (try dsimp only at hSw)
            go_simp
            all_goals (with_reducible rfl)
          try simp only [Act.put, List.setIfInBounds_toArray, List.set_cons_zero, List.set_cons_succ]
          refine wpAnyH_takeD (i := 28) (d := (some 133)) (v := ?_) (by kernel_rfl) (by kernel_rfl) (fun _ _ _ h => h) (fun oi ho => ?_) (by assumption) ?_
          rotate_left
          · cases ho
            refine Or.inl ⟨by rfl, ?_⟩
            intro wq hSw
            (try dsimp only at hSw)
            go_simp
            all_goals (with_reducible rfl)
          try simp only [Act.put, List.setIfInBounds_toArray, List.set_cons_zero, List.set_cons_succ]
          refine wpAnyH_takeD (i := 29) (d := (some 134)) (v := ?_) (by kernel_rfl) (by kernel_rfl) (fun _ _ _ h => h) (fun oi ho => ?_) (by assumption) ?_
          rotate_left
          · cases ho
            refine Or.inl ⟨by rfl, ?_⟩
            intro wq hSw
            (try dsimp only at hSw)
            go_simp
            all_goals (with_reducible rfl)
          try simp only [Act.put, List.setIfInBounds_toArray, List.set_cons_zero, List.set_cons_succ]
          refine wpAnyH_takeD (i := 30) (d := (some 135)) (v := ?_) (by kernel_rfl) (by kernel_rfl) (fun _ _ _ h => h) (fun oi ho => ?_) (by assumption) ?_
          rotate_left
          · cases ho
            refine Or.inl ⟨by rfl, ?_⟩
            intro wq hSw
            (try dsimp only at hSw)
            go_simp
            all_goals (with_reducible rfl)
          try simp only [Act.put, List.setIfInBounds_toArray, List.set_cons_zero, List.set_cons_succ]
          refine wpAnyH_takeD (i := 31) (d := (some 136)) (v := ?_) (by kernel_rfl) (by kernel_rfl) (fun _ _ _ h => h) (fun oi ho => ?_) (by assumption) ?_
          rotate_left
          · cases ho
            refine Or.inl ⟨by rfl, ?_⟩
            intro wq hSw
            (try dsimp only at hSw)
            go_simp
            all_goals (with_reducible rfl)
          try simp only [Act.put, List.setIfInBounds_toArray, List.set_cons_zero, List.set_cons_succ]
          refine wpAnyH_ready (rs := [32]) (by kernel_rfl) (by simp) ?_
          refine AllReadyH.cons rfl (fun K hK => ?_) AllReadyH.nil
          go_simp
          refine (HSM2.out _ ?_).mono ?_
          · repeat (first | assumption | exact Below.refl _ _ | with_reducible refine Below.drew ?_ | with_reducible refine Below.alloc ?_ (by first | exact Nat.le_refl _ | exact Below.size (by assumption)) _)
          rintro e w' ⟨rfl, hk1⟩
          (try go_wp2_with fail)
          refine hK.out _ _ ?_ (fun hHeld => ?_)
          · exact HSF.out _ (by repeat (first | assumption | exact Below.refl _ _ | with_reducible refine Below.drew ?_ | with_reducible refine Below.alloc ?_ (by first | exact Nat.le_refl _ | exact Below.size (by assumption)) _))
          clear hK K
          try simp only [Act.put, List.setIfInBounds_toArray, List.set_cons_zero, List.set_cons_succ]
          refine wpAnyH_takeD (i := 33) (d := (some 138)) (v := ?_) (by kernel_rfl) (by kernel_rfl) (fun _ _ _ h => h) (fun oi ho => ?_) (by assumption) ?_
          rotate_left
          · cases ho
            refine Or.inl ⟨by rfl, ?_⟩
            intro wq hSw
            (try dsimp only at hSw)
            go_simp
            all_goals (with_reducible rfl)
          try simp only [Act.put, List.setIfInBounds_toArray, List.set_cons_zero, List.set_cons_succ]
          refine wpAnyH_takeD (i := 34) (d := (some 139)) (v := ?_) (by kernel_rfl) (by kernel_rfl) (fun _ _ _ h => h) (fun oi ho => ?_) (by assumption) ?_
          rotate_left
          · cases ho
            refine Or.inl ⟨by rfl, ?_⟩
            intro wq hSw
            (try dsimp only at hSw)
            go_simp
            all_goals (with_reducible rfl)
          try simp only [Act.put, List.setIfInBounds_toArray, List.set_cons_zero, List.set_cons_succ]
          refine wpAnyH_done (by kernel_rfl) ?_ _
          have HBF := Lib.hid (HBU.out.trans (hHeld.2.2.2.2.2.2.2.2.2.2.2.2.2.2.2.2.2.2.2.2.2.2.2.2.2.2.2.2.2.2.2.2.2.2.2.2.2.2.2.2.2.2.2.2.2.2.2.2.2.2.mono HBU.out.size))
          go_wp2
          go_roundw
          case rel => exact ⟨3, by omega, rfl, HBF.out⟩
          case measure => simp [intOf]
theorem syntaxJoins_env {W : World} (h : laidMetH Tryd.prog Rows.syntaxJoinsUptoRow.laid W) : ∃ ea, SynEnv W ea ∧ ClsEnv W := by
  have h0 : laidMet Tryd.prog Rows.syntaxJoinsUptoRow.laid W := h
  obtain ⟨ea, h1⟩ := synEnv_of h0 (by rfl)
  have h3 := h0.filter (fun x => x.1 == "concord/lexer.classes")
  exact ⟨ea, h1, cls_of_head (rest := []) h3⟩
theorem syntaxJoins_walk (a0 : ByteArray) (a1 : ByteArray) (w0 : a0.size ≤ 1048576) (w1 : a1.size ≤ 1048576) (w : World) (hE : ∃ ea, SynEnv w ea ∧ ClsEnv w) :
    Calls Tryd.prog 9 #[.string a0, .string a1] w fun e w' => e = .returned (.bool true) ∧ Below w.heap.size w w' := by
  obtain ⟨ea, hE, hc⟩ := hE
  exact joins_walk a0 a1 w ea w0 w1 hE hc
end Go.Proofs.YtcomdkejpaoneaaDoor
end
