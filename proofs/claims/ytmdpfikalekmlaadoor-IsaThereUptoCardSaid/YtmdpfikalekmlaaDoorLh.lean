/- Layer 20: the law of there and back. -/
import Derived.Test.YtmdpfikalekmlaaDoorLc
import Derived.Test.YtmdpfikalekmlaaDoorTk
namespace Go.Proofs.YtmdpfikalekmlaaDoor
open Go.RowKit
set_option maxRecDepth 100000
set_option maxHeartbeats 1000000
set_option linter.unusedSimpArgs false
set_option linter.unusedVariables false

theorem isaThere_env {W : World} (h : laidMetH Tryd.prog Rows.isaThereUptoRow.laid W) : IsaEnv W := by
  have h0 : laidMet Tryd.prog Rows.isaThereUptoRow.laid W := h
  obtain ⟨ea, hE⟩ := errEnv_of h0 (by rfl)
  exact ⟨ea, hE, isaTab_of h0 (by rfl), pow10_of h0 (by rfl)⟩
theorem encI_len21 {l : List Ins} (h : SmallIns l) : (encI l).length ≤ 21 * l.length := by
  have := encI_len h l.length
  rw [List.take_of_length_le (Nat.le_refl _)] at this
  exact this
theorem RdL.front {α : Type} {S : Shape α} {w : World} {B : Nat} {A : Option Addr} {n cap : Nat} {l m : List α} (h : RdL S w B (.slice A n cap) (l ++ m)) : RdL S w B (.slice A l.length cap) l := by
  obtain ⟨A', cap', e, h1, h2, h3, h4⟩ := h
  injection e with e1 e2 e3
  subst e1; subst e3
  rw [List.length_append] at h1 h3
  refine ⟨A, cap, rfl, by omega, h2, fun hn => ?_, fun hA => ?_⟩
  · obtain ⟨a, e2, hb, hc⟩ := h3 (by omega)
    refine ⟨a, e2, hb, fun j u hu => hc j u ?_⟩
    rw [Shape.cells_append, List.getElem?_append_left (List.getElem?_eq_some_iff.1 hu).1]
    exact hu
  · exact h4 hA
theorem RdL.back {α : Type} {S : Shape α} (hS : S.Ok) {w : World} {B : Nat} {a : Addr} {n cap : Nat} {l m : List α} (h : RdL S w B (.slice (some a) n cap) (l ++ m)) : RdL S w B (.slice (some (a.add (l.length * S.size))) m.length (cap - l.length)) m := by
  obtain ⟨A', cap', e, h1, h2, h3, h4⟩ := h
  injection e with e1 e2 e3
  subst e1; subst e3
  rw [List.length_append] at h1 h3
  refine ⟨_, _, rfl, by omega, by omega, fun hn => ?_, fun hA => by cases hA⟩
  obtain ⟨a', e2, hb, hc⟩ := h3 (by omega)
  injection e2 with e2
  subst e2
  refine ⟨_, rfl, by rw [block_of_add]; exact hb, fun j u hu => ?_⟩
  rw [add_of_add]
  refine hc _ u ?_
  rw [Shape.cells_append, List.getElem?_append_right (by rw [Shape.cells_length hS]; omega), Shape.cells_length hS, Nat.add_sub_cancel_left]
  exact hu
theorem RdL.convAll {w : World} {B : Nat} {A : Option Addr} {n cap : Nat} {l : List UInt8} (h : RdL byteS w B (.slice A n cap) l) : (convert 24 9 (.slice A n cap)).run Tryd.prog w = .ok (.string (str l)) w := by
  obtain ⟨A', cap', e, h1⟩ := h.open_
  injection e with e1 e2 e3
  subst e1; subst e2; subst e3
  by_cases hl : l.length = 0
  · have hn : l = [] := List.eq_nil_of_length_eq_zero hl
    subst hn
    cases A with
    | none =>
      obtain ⟨A', cap', e, h1, h2, h3, h4⟩ := h
      injection e with e1 e2 e3
      subst e1; subst e3
      obtain rfl := h4 rfl
      exact run_convert_bytes_nil (P := Tryd.prog) w 24 5 Tryd.underlying24 Tryd.underlying5 0 0 9 Tryd.underlying9
    | some a =>
      have := run_convert_bytes_back (P := Tryd.prog) w 24 9 5 a cap [] Tryd.underlying24 Tryd.underlying5 Tryd.underlying9 (fun i hi => absurd hi (by simp))
      exact this
  · obtain ⟨a, rfl, _, _⟩ := at_byte h (k := 0) (by omega)
    refine run_convert_bytes_back (P := Tryd.prog) w 24 9 5 a cap l Tryd.underlying24 Tryd.underlying5 Tryd.underlying9 (fun i hi => ?_)
    obtain ⟨a', e, _, hx⟩ := at_byte h (k := i) hi
    injection e with e
    subst e
    exact hx
theorem there_11 (w : World) (v0 v1 x : Value) (l m : List Ins) (b : List UInt8) (h0 : RdL insS w w.heap.size v0 l) (h1 : RdL insS w w.heap.size v1 m) (h2 : RdL byteS w w.heap.size x b) (hs0 : SmallIns l) (hs1 : SmallIns m) (hl : l.length + m.length + b.length ≤ 1048576) (ea : List Addr) (hE : ErrEnv w ea) (hT : TabEnv w) (hP : Pow10 w) (ha : l.all insOk = true) (hb : m.all insOk = true) :
    Calls Tryd.prog 5 #[v0, v1, x] w fun e w' => e = .returned (.bool true) ∧ Below w.heap.size w w' := by
  obtain ⟨A0, c0, rfl, hc0, hd0⟩ := h0.open_
  obtain ⟨A1, c1, rfl, hc1, hd1⟩ := h1.open_
  obtain ⟨A2, c2, rfl, hc2, hd2⟩ := h2.open_
  have H0 := Lib.hid h0; have H1 := Lib.hid h1; have H2 := Lib.hid h2; have HE := Lib.hid hE; have HT := Lib.hid hT; have HP := Lib.hid hP; have HS0 := Lib.hid hs0; have HS1 := Lib.hid hs1
  obtain ⟨lm, HLM⟩ : ∃ lm : List Ins, Hid (lm = l ++ m) := ⟨_, Lib.hid rfl⟩
  have HSA := Lib.hid (show SmallIns lm from by rw [HLM.out]; exact fun y hy => (List.mem_append.1 hy).elim (hs0 y) (hs1 y))
  have HA2 := Lib.hid ha; have HA3 := Lib.hid hb
  have HA5 := Lib.hid (show lm.all insOk = true from by rw [HLM.out, List.all_append, ha, hb]; rfl)
  have HLL := Lib.hid (show lm.length = l.length + m.length from by rw [HLM.out, List.length_append])
  have hlm : lm.length ≤ 1048576 := by rw [HLL.out]; omega
  clear h0 h1 h2 hE hT hP hc0 hd0 hc1 hd1 hc2 hd2 hs0 hs1 ha hb
  have en0 := fun W => errI_nil ea 20 W
  have en1 := fun W => errI_nnil ea 20 W
  have eg0 := fun op x y W => errI_guard0 ea 20 op x y W
  go_enter Tryd.func5, Tryd.ntmps5
  go_wp2_with fail
  refine (lives_any _ ea HE.out HT.out HP.out).mono ?_
  rintro e w1 ⟨rfl, hb1⟩
  have HB1 := Lib.hid hb1
  clear hb1
  go_wp2_with fail
  refine (iencode_any _ l ea w1 w1.heap.size (Nat.le_refl _) ((H0.out.below HB1.out).more HB1.out.size) (by omega) HS0.out (HE.out.below HB1.out) (HT.out.below HB1.out)).mono ?_
  intro e w2 hr
  obtain ⟨E2, n2, k2, rfl, ho2, hb2⟩ := hr.good HA2.out
  have HB2 := Lib.hid (HB1.out.trans (hb2.mono HB1.out.size))
  have HO2 := Lib.hid ho2
  have HX2 := Lib.hid hb2
  clear hb2 ho2 hr
  go_wp2_with fail
  refine (iencode_any _ m ea w2 w2.heap.size (Nat.le_refl _) ((H1.out.below HB2.out).more HB2.out.size) (by omega) HS1.out (HE.out.below HB2.out) (HT.out.below HB2.out)).mono ?_
  intro e w3 hr
  obtain ⟨E3, n3, k3, rfl, ho3, hb3⟩ := hr.good HA3.out
  have HB3 := Lib.hid (HB2.out.trans (hb3.mono HB2.out.size))
  have HO3 := Lib.hid ho3
  have HX3 := Lib.hid hb3
  clear hb3 ho3 hr
  have HL0 := Lib.hid (OwnL.lit0 insS w3 (Nat.le_refl _))
  have HR0 := Lib.hid (((H0.out.below HB3.out).alloc HB3.out.size (.cells #[] 64)))
  have hz3 : w3.heap.size ≤ (w3.alloc (.cells #[] 64)).heap.size := by rw [World.size_alloc]; omega
  have hap1 : ([] : List Ins).length + l.length ≤ 100000000000 := by simp; omega
  have hap2 : l.length + m.length ≤ 100000000000 := by omega
  go_wp2_with (at_builtin; first
    | (refine OwnL.appendRd insSOk HO4.out HR4.out rfl _ _ rfl rfl rfl hz4 hap2 ?_; intro v5 w4b ho5 hb5; rw [← HLM.out] at ho5; obtain ⟨A5, c5, rfl, -, -, -⟩ := ho5.open_; have HX4 := Lib.hid (HB3a.out.trans hb5); have HO5a := Lib.hid ho5; clear ho5 hb5)
    | (refine OwnL.appendRd insSOk HL0.out HR0.out rfl _ _ rfl rfl rfl hz3 hap1 ?_; intro v4 w4 ho4 hb4; rw [List.nil_append] at ho4; obtain ⟨A4, c4, rfl, -, -, -⟩ := ho4.open_; have HB3a := Lib.hid (((Below.refl w3.heap.size w3).alloc (Nat.le_refl _) (.cells #[] 64)).trans hb4); have HO4 := Lib.hid ho4; have HR4 := Lib.hid (((H1.out.below HB3.out).more HB3.out.size).below HB3a.out); have hz4 := HB3a.out.size; clear ho4 hb4))
  have HB4 := Lib.hid (HB3.out.trans (HX4.out.mono HB3.out.size))
  refine (iencode_any _ lm ea w4b w4b.heap.size (Nat.le_refl _) (RdL.of_own HO5a.out) (by omega) HSA.out (HE.out.below HB4.out) (HT.out.below HB4.out)).mono ?_
  intro e w5 hr
  obtain ⟨E5, n5, k5, rfl, ho5, hb5⟩ := hr.good HA5.out
  have HB5 := Lib.hid (HB4.out.trans (hb5.mono HB4.out.size))
  have HO5 := Lib.hid ho5
  have HX5 := Lib.hid hb5
  clear hb5 ho5 hr
  have X35 := HX4.out.trans (HX5.out.mono HX4.out.size)
  have hcx := HO2.out.convAt (HX3.out.trans (X35.mono HX3.out.size))
  have hcy := HO3.out.convAt X35
  have hcz := HO5.out.conv
  have HRZ := Lib.hid (RdL.ofB HO5.out)
  have hxl := encI_len21 HS0.out
  have hyl := encI_len21 HS1.out
  have hzl := encI_len21 HSA.out
  rw [show str (encI lm) = str (encI l) ++ str (encI m) from by rw [HLM.out, encI_append, str_cat2]] at hcz
  have q := fun W => str_add (P := Tryd.prog) (str (encI l)) (str (encI m)) (by rw [str_size, str_size]; omega) W
  generalize str (encI l) = sx at *
  generalize str (encI m) = sy at *
  clear X35
  go_wp2_with fail
  refine (idecode_any _ (encI lm) w5 ea HRZ.out (by omega) (HE.out.below HB5.out) (HT.out.below HB5.out)).mono ?_
  intro e w6 hr
  obtain ⟨A6, c6, rfl, ho6, hb6⟩ := hr.good (decI_encI HA5.out HSA.out)
  have HB6 := Lib.hid (HB5.out.trans (hb6.mono HB5.out.size))
  have hneq : ((lm.length : Int) != (l.length : Int) + (m.length : Int)) = false := by rw [HLL.out]; simp
  obtain ⟨A6', c6', e6, hq6, hm6, -⟩ := ho6.open_
  injection e6 with e61 e62 e63
  subst e61; subst e63
  have HR6 := Lib.hid (RdL.of_own ho6)
  have hlc : l.length ≤ c6 := by have := HLL.out; omega
  have hle : l.length ≤ lm.length := by have := HLL.out; omega
  have HF6 := Lib.hid (RdL.front (l := l) (m := m) (by rw [← HLM.out]; exact HR6.out))
  clear hr ho6 hb6 hcx hcy hcz q HRZ hxl hyl hzl e62
  go_wp2_with fail
  refine (sameCode_any _ _ l l w6 _ _ HF6.out (H0.out.below HB6.out) (Nat.le_refl _) HB6.out.size).mono ?_
  rintro e w7 ⟨rfl, hb7⟩
  rw [decide_eq_true (Eq.refl l)]
  have HX7 := Lib.hid hb7
  have HB7 := Lib.hid (HB6.out.trans (hb7.mono HB6.out.size))
  clear hb7
  by_cases hcm : c6 = l.length
  · have hm0 : m = [] := List.eq_nil_of_length_eq_zero (by have := HLL.out; omega)
    have HRB := Lib.hid (show RdL insS w7 w7.heap.size (.slice A6 0 0) m from by
      rw [hm0]
      exact ⟨A6, 0, rfl, Nat.le_refl _, by unfold maxLen; omega, fun h => absurd h (by simp), fun _ => rfl⟩)
    clear hm0
    subst hcm
    go_wp2_with fail
    refine (sameCode_any _ _ m m w7 _ _ HRB.out (H1.out.below HB7.out) (Nat.le_refl _) HB7.out.size).mono ?_
    rintro e w8 ⟨rfl, hb8⟩
    rw [decide_eq_true (Eq.refl m)]
    have HB8 := Lib.hid (HB7.out.trans (hb8.mono HB7.out.size))
    clear hb8
    go_wp2_with fail
    refine (idecode_any _ b w8 ea ((H2.out.below HB8.out).more HB8.out.size) (by omega) (HE.out.below HB8.out) (HT.out.below HB8.out)).mono ?_
    intro e w9 hr
    cases hd : decI b with
    | none =>
      obtain ⟨rfl, hb9⟩ := hr.bad hd
      have HB9 := Lib.hid (HB8.out.trans (hb9.mono HB8.out.size))
      clear hr hb9 hd
      go_wp2_with fail
      refine (Num_any ea 20 (by omega) w9 (HE.out.below HB9.out)).mono ?_
      rintro e w10 ⟨rfl, rfl⟩
      go_wp2
      go_ret
      exact ⟨rfl, HB9.out⟩
    | some lb =>
      obtain ⟨A9, c9, rfl, ho9, hb9⟩ := hr.good hd
      have HB9 := Lib.hid (HB8.out.trans (hb9.mono HB8.out.size))
      have HO9 := Lib.hid ho9
      have HD := Lib.hid (encI_decI hd)
      have hdl := decI_len hd
      clear hr hb9 hd ho9
      go_wp2_with fail
      refine (iencode_any _ lb ea w9 w9.heap.size (Nat.le_refl _) (RdL.of_own HO9.out) (by omega) HD.out.2.1 (HE.out.below HB9.out) (HT.out.below HB9.out)).mono ?_
      intro e w10 hr
      obtain ⟨E10, n10, k10, rfl, ho10, hb10⟩ := hr.good HD.out.1
      have HB10 := Lib.hid (HB9.out.trans (hb10.mono HB9.out.size))
      have hc10 := ho10.conv
      rw [HD.out.2.2] at hc10
      have hc11 := RdL.convAll (H2.out.below HB10.out)
      generalize str b = sb at *
      clear hr hb10 ho10
      go_wp2
      go_ret
      exact ⟨rfl, HB10.out⟩
  · obtain ⟨A6', c6', e6, -, -, -, h46⟩ := HR6.out
    injection e6 with e61 e62 e63
    subst e61; subst e63
    obtain ⟨a6, rfl⟩ : ∃ a, A6 = some a := by
      cases A6 with
      | none => exact absurd (h46 rfl) (by omega)
      | some a => exact ⟨a, rfl⟩
    have HRB := Lib.hid (show RdL insS w7 w7.heap.size (.slice (some (a6.add (l.length * 3))) (lm.length - l.length) (c6 - l.length)) m from by
      rw [HLL.out, Nat.add_sub_cancel_left]
      exact ((RdL.back insSOk (l := l) (m := m) (by rw [← HLM.out]; exact HR6.out)).below HX7.out).more HX7.out.size)
    clear h46 e62
    go_wp2_with fail
    refine (sameCode_any _ _ m m w7 _ _ HRB.out (H1.out.below HB7.out) (Nat.le_refl _) HB7.out.size).mono ?_
    rintro e w8 ⟨rfl, hb8⟩
    rw [decide_eq_true (Eq.refl m)]
    have HB8 := Lib.hid (HB7.out.trans (hb8.mono HB7.out.size))
    clear hb8
    go_wp2_with fail
    refine (idecode_any _ b w8 ea ((H2.out.below HB8.out).more HB8.out.size) (by omega) (HE.out.below HB8.out) (HT.out.below HB8.out)).mono ?_
    intro e w9 hr
    cases hd : decI b with
    | none =>
      obtain ⟨rfl, hb9⟩ := hr.bad hd
      have HB9 := Lib.hid (HB8.out.trans (hb9.mono HB8.out.size))
      clear hr hb9 hd
      go_wp2_with fail
      refine (Num_any ea 20 (by omega) w9 (HE.out.below HB9.out)).mono ?_
      rintro e w10 ⟨rfl, rfl⟩
      go_wp2
      go_ret
      exact ⟨rfl, HB9.out⟩
    | some lb =>
      obtain ⟨A9, c9, rfl, ho9, hb9⟩ := hr.good hd
      have HB9 := Lib.hid (HB8.out.trans (hb9.mono HB8.out.size))
      have HO9 := Lib.hid ho9
      have HD := Lib.hid (encI_decI hd)
      have hdl := decI_len hd
      clear hr hb9 hd ho9
      go_wp2_with fail
      refine (iencode_any _ lb ea w9 w9.heap.size (Nat.le_refl _) (RdL.of_own HO9.out) (by omega) HD.out.2.1 (HE.out.below HB9.out) (HT.out.below HB9.out)).mono ?_
      intro e w10 hr
      obtain ⟨E10, n10, k10, rfl, ho10, hb10⟩ := hr.good HD.out.1
      have HB10 := Lib.hid (HB9.out.trans (hb10.mono HB9.out.size))
      have hc10 := ho10.conv
      rw [HD.out.2.2] at hc10
      have hc11 := RdL.convAll (H2.out.below HB10.out)
      generalize str b = sb at *
      clear hr hb10 ho10
      go_wp2
      go_ret
      exact ⟨rfl, HB10.out⟩
theorem there_10 (w : World) (v0 v1 x : Value) (l m : List Ins) (b : List UInt8) (h0 : RdL insS w w.heap.size v0 l) (h1 : RdL insS w w.heap.size v1 m) (h2 : RdL byteS w w.heap.size x b) (hs0 : SmallIns l) (hs1 : SmallIns m) (hl : l.length + m.length + b.length ≤ 1048576) (ea : List Addr) (hE : ErrEnv w ea) (hT : TabEnv w) (hP : Pow10 w) (ha : l.all insOk = true) (hb : m.all insOk = false) :
    Calls Tryd.prog 5 #[v0, v1, x] w fun e w' => e = .returned (.bool true) ∧ Below w.heap.size w w' := by
  obtain ⟨A0, c0, rfl, hc0, hd0⟩ := h0.open_
  obtain ⟨A1, c1, rfl, hc1, hd1⟩ := h1.open_
  obtain ⟨A2, c2, rfl, hc2, hd2⟩ := h2.open_
  have H0 := Lib.hid h0; have H1 := Lib.hid h1; have H2 := Lib.hid h2; have HE := Lib.hid hE; have HT := Lib.hid hT; have HP := Lib.hid hP; have HS0 := Lib.hid hs0; have HS1 := Lib.hid hs1
  obtain ⟨lm, HLM⟩ : ∃ lm : List Ins, Hid (lm = l ++ m) := ⟨_, Lib.hid rfl⟩
  have HSA := Lib.hid (show SmallIns lm from by rw [HLM.out]; exact fun y hy => (List.mem_append.1 hy).elim (hs0 y) (hs1 y))
  have HA2 := Lib.hid ha; have HA3 := Lib.hid hb
  have HA5 := Lib.hid (show lm.all insOk = false from by rw [HLM.out, List.all_append, ha, hb]; rfl)
  have HLL := Lib.hid (show lm.length = l.length + m.length from by rw [HLM.out, List.length_append])
  have hlm : lm.length ≤ 1048576 := by rw [HLL.out]; omega
  clear h0 h1 h2 hE hT hP hc0 hd0 hc1 hd1 hc2 hd2 hs0 hs1 ha hb
  have en0 := fun W => errI_nil ea 20 W
  have en1 := fun W => errI_nnil ea 20 W
  have eg0 := fun op x y W => errI_guard0 ea 20 op x y W
  go_enter Tryd.func5, Tryd.ntmps5
  go_wp2_with fail
  refine (lives_any _ ea HE.out HT.out HP.out).mono ?_
  rintro e w1 ⟨rfl, hb1⟩
  have HB1 := Lib.hid hb1
  clear hb1
  go_wp2_with fail
  refine (iencode_any _ l ea w1 w1.heap.size (Nat.le_refl _) ((H0.out.below HB1.out).more HB1.out.size) (by omega) HS0.out (HE.out.below HB1.out) (HT.out.below HB1.out)).mono ?_
  intro e w2 hr
  obtain ⟨E2, n2, k2, rfl, ho2, hb2⟩ := hr.good HA2.out
  have HB2 := Lib.hid (HB1.out.trans (hb2.mono HB1.out.size))
  have HO2 := Lib.hid ho2
  have HX2 := Lib.hid hb2
  clear hb2 ho2 hr
  go_wp2_with fail
  refine (iencode_any _ m ea w2 w2.heap.size (Nat.le_refl _) ((H1.out.below HB2.out).more HB2.out.size) (by omega) HS1.out (HE.out.below HB2.out) (HT.out.below HB2.out)).mono ?_
  intro e w3 hr
  obtain ⟨E3, n3, k3, rfl, ho3, hb3⟩ := hr.bad HA3.out
  have HB3 := Lib.hid (HB2.out.trans (hb3.mono HB2.out.size))
  have HO3 := Lib.hid ho3
  have HX3 := Lib.hid hb3
  clear hb3 ho3 hr
  have HL0 := Lib.hid (OwnL.lit0 insS w3 (Nat.le_refl _))
  have HR0 := Lib.hid (((H0.out.below HB3.out).alloc HB3.out.size (.cells #[] 64)))
  have hz3 : w3.heap.size ≤ (w3.alloc (.cells #[] 64)).heap.size := by rw [World.size_alloc]; omega
  have hap1 : ([] : List Ins).length + l.length ≤ 100000000000 := by simp; omega
  have hap2 : l.length + m.length ≤ 100000000000 := by omega
  go_wp2_with (at_builtin; first
    | (refine OwnL.appendRd insSOk HO4.out HR4.out rfl _ _ rfl rfl rfl hz4 hap2 ?_; intro v5 w4b ho5 hb5; rw [← HLM.out] at ho5; obtain ⟨A5, c5, rfl, -, -, -⟩ := ho5.open_; have HX4 := Lib.hid (HB3a.out.trans hb5); have HO5a := Lib.hid ho5; clear ho5 hb5)
    | (refine OwnL.appendRd insSOk HL0.out HR0.out rfl _ _ rfl rfl rfl hz3 hap1 ?_; intro v4 w4 ho4 hb4; rw [List.nil_append] at ho4; obtain ⟨A4, c4, rfl, -, -, -⟩ := ho4.open_; have HB3a := Lib.hid (((Below.refl w3.heap.size w3).alloc (Nat.le_refl _) (.cells #[] 64)).trans hb4); have HO4 := Lib.hid ho4; have HR4 := Lib.hid (((H1.out.below HB3.out).more HB3.out.size).below HB3a.out); have hz4 := HB3a.out.size; clear ho4 hb4))
  have HB4 := Lib.hid (HB3.out.trans (HX4.out.mono HB3.out.size))
  refine (iencode_any _ lm ea w4b w4b.heap.size (Nat.le_refl _) (RdL.of_own HO5a.out) (by omega) HSA.out (HE.out.below HB4.out) (HT.out.below HB4.out)).mono ?_
  intro e w5 hr
  obtain ⟨E5, n5, k5, rfl, ho5, hb5⟩ := hr.bad HA5.out
  have HB5 := Lib.hid (HB4.out.trans (hb5.mono HB4.out.size))
  have HO5 := Lib.hid ho5
  have HX5 := Lib.hid hb5
  clear hb5 ho5 hr
  have hn5 : n5 = 0 := by obtain ⟨_, _, e⟩ := ownB_form HO5.out; injection e
  subst hn5
  go_wp2_with fail
  refine (Num_any ea 20 (by omega) w5 (HE.out.below HB5.out)).mono ?_
  rintro e w5b ⟨rfl, rfl⟩
  go_wp2_with fail
  refine (idecode_any _ b w5 ea ((H2.out.below HB5.out).more HB5.out.size) (by omega) (HE.out.below HB5.out) (HT.out.below HB5.out)).mono ?_
  intro e w9 hr
  cases hd : decI b with
  | none =>
    obtain ⟨rfl, hb9⟩ := hr.bad hd
    have HB9 := Lib.hid (HB5.out.trans (hb9.mono HB5.out.size))
    clear hr hb9 hd
    go_wp2_with fail
    refine (Num_any ea 20 (by omega) w9 (HE.out.below HB9.out)).mono ?_
    rintro e w10 ⟨rfl, rfl⟩
    go_wp2
    go_ret
    exact ⟨rfl, HB9.out⟩
  | some lb =>
    obtain ⟨A9, c9, rfl, ho9, hb9⟩ := hr.good hd
    have HB9 := Lib.hid (HB5.out.trans (hb9.mono HB5.out.size))
    have HO9 := Lib.hid ho9
    have HD := Lib.hid (encI_decI hd)
    have hdl := decI_len hd
    clear hr hb9 hd ho9
    go_wp2_with fail
    refine (iencode_any _ lb ea w9 w9.heap.size (Nat.le_refl _) (RdL.of_own HO9.out) (by omega) HD.out.2.1 (HE.out.below HB9.out) (HT.out.below HB9.out)).mono ?_
    intro e w10 hr
    obtain ⟨E10, n10, k10, rfl, ho10, hb10⟩ := hr.good HD.out.1
    have HB10 := Lib.hid (HB9.out.trans (hb10.mono HB9.out.size))
    have hc10 := ho10.conv
    rw [HD.out.2.2] at hc10
    have hc11 := RdL.convAll (H2.out.below HB10.out)
    generalize str b = sb at *
    clear hr hb10 ho10
    go_wp2
    go_ret
    exact ⟨rfl, HB10.out⟩
theorem there_01 (w : World) (v0 v1 x : Value) (l m : List Ins) (b : List UInt8) (h0 : RdL insS w w.heap.size v0 l) (h1 : RdL insS w w.heap.size v1 m) (h2 : RdL byteS w w.heap.size x b) (hs0 : SmallIns l) (hs1 : SmallIns m) (hl : l.length + m.length + b.length ≤ 1048576) (ea : List Addr) (hE : ErrEnv w ea) (hT : TabEnv w) (hP : Pow10 w) (ha : l.all insOk = false) (hb : m.all insOk = true) :
    Calls Tryd.prog 5 #[v0, v1, x] w fun e w' => e = .returned (.bool true) ∧ Below w.heap.size w w' := by
  obtain ⟨A0, c0, rfl, hc0, hd0⟩ := h0.open_
  obtain ⟨A1, c1, rfl, hc1, hd1⟩ := h1.open_
  obtain ⟨A2, c2, rfl, hc2, hd2⟩ := h2.open_
  have H0 := Lib.hid h0; have H1 := Lib.hid h1; have H2 := Lib.hid h2; have HE := Lib.hid hE; have HT := Lib.hid hT; have HP := Lib.hid hP; have HS0 := Lib.hid hs0; have HS1 := Lib.hid hs1
  obtain ⟨lm, HLM⟩ : ∃ lm : List Ins, Hid (lm = l ++ m) := ⟨_, Lib.hid rfl⟩
  have HSA := Lib.hid (show SmallIns lm from by rw [HLM.out]; exact fun y hy => (List.mem_append.1 hy).elim (hs0 y) (hs1 y))
  have HA2 := Lib.hid ha; have HA3 := Lib.hid hb
  have HA5 := Lib.hid (show lm.all insOk = false from by rw [HLM.out, List.all_append, ha, hb]; rfl)
  have HLL := Lib.hid (show lm.length = l.length + m.length from by rw [HLM.out, List.length_append])
  have hlm : lm.length ≤ 1048576 := by rw [HLL.out]; omega
  clear h0 h1 h2 hE hT hP hc0 hd0 hc1 hd1 hc2 hd2 hs0 hs1 ha hb
  have en0 := fun W => errI_nil ea 20 W
  have en1 := fun W => errI_nnil ea 20 W
  have eg0 := fun op x y W => errI_guard0 ea 20 op x y W
  go_enter Tryd.func5, Tryd.ntmps5
  go_wp2_with fail
  refine (lives_any _ ea HE.out HT.out HP.out).mono ?_
  rintro e w1 ⟨rfl, hb1⟩
  have HB1 := Lib.hid hb1
  clear hb1
  go_wp2_with fail
  refine (iencode_any _ l ea w1 w1.heap.size (Nat.le_refl _) ((H0.out.below HB1.out).more HB1.out.size) (by omega) HS0.out (HE.out.below HB1.out) (HT.out.below HB1.out)).mono ?_
  intro e w2 hr
  obtain ⟨E2, n2, k2, rfl, ho2, hb2⟩ := hr.bad HA2.out
  have HB2 := Lib.hid (HB1.out.trans (hb2.mono HB1.out.size))
  have HO2 := Lib.hid ho2
  have HX2 := Lib.hid hb2
  clear hb2 ho2 hr
  go_wp2_with fail
  refine (iencode_any _ m ea w2 w2.heap.size (Nat.le_refl _) ((H1.out.below HB2.out).more HB2.out.size) (by omega) HS1.out (HE.out.below HB2.out) (HT.out.below HB2.out)).mono ?_
  intro e w3 hr
  obtain ⟨E3, n3, k3, rfl, ho3, hb3⟩ := hr.good HA3.out
  have HB3 := Lib.hid (HB2.out.trans (hb3.mono HB2.out.size))
  have HO3 := Lib.hid ho3
  have HX3 := Lib.hid hb3
  clear hb3 ho3 hr
  have HL0 := Lib.hid (OwnL.lit0 insS w3 (Nat.le_refl _))
  have HR0 := Lib.hid (((H0.out.below HB3.out).alloc HB3.out.size (.cells #[] 64)))
  have hz3 : w3.heap.size ≤ (w3.alloc (.cells #[] 64)).heap.size := by rw [World.size_alloc]; omega
  have hap1 : ([] : List Ins).length + l.length ≤ 100000000000 := by simp; omega
  have hap2 : l.length + m.length ≤ 100000000000 := by omega
  go_wp2_with (at_builtin; first
    | (refine OwnL.appendRd insSOk HO4.out HR4.out rfl _ _ rfl rfl rfl hz4 hap2 ?_; intro v5 w4b ho5 hb5; rw [← HLM.out] at ho5; obtain ⟨A5, c5, rfl, -, -, -⟩ := ho5.open_; have HX4 := Lib.hid (HB3a.out.trans hb5); have HO5a := Lib.hid ho5; clear ho5 hb5)
    | (refine OwnL.appendRd insSOk HL0.out HR0.out rfl _ _ rfl rfl rfl hz3 hap1 ?_; intro v4 w4 ho4 hb4; rw [List.nil_append] at ho4; obtain ⟨A4, c4, rfl, -, -, -⟩ := ho4.open_; have HB3a := Lib.hid (((Below.refl w3.heap.size w3).alloc (Nat.le_refl _) (.cells #[] 64)).trans hb4); have HO4 := Lib.hid ho4; have HR4 := Lib.hid (((H1.out.below HB3.out).more HB3.out.size).below HB3a.out); have hz4 := HB3a.out.size; clear ho4 hb4))
  have HB4 := Lib.hid (HB3.out.trans (HX4.out.mono HB3.out.size))
  refine (iencode_any _ lm ea w4b w4b.heap.size (Nat.le_refl _) (RdL.of_own HO5a.out) (by omega) HSA.out (HE.out.below HB4.out) (HT.out.below HB4.out)).mono ?_
  intro e w5 hr
  obtain ⟨E5, n5, k5, rfl, ho5, hb5⟩ := hr.bad HA5.out
  have HB5 := Lib.hid (HB4.out.trans (hb5.mono HB4.out.size))
  have HO5 := Lib.hid ho5
  have HX5 := Lib.hid hb5
  clear hb5 ho5 hr
  have hn5 : n5 = 0 := by obtain ⟨_, _, e⟩ := ownB_form HO5.out; injection e
  subst hn5
  go_wp2_with fail
  refine (Num_any ea 20 (by omega) w5 (HE.out.below HB5.out)).mono ?_
  rintro e w5b ⟨rfl, rfl⟩
  go_wp2_with fail
  refine (idecode_any _ b w5 ea ((H2.out.below HB5.out).more HB5.out.size) (by omega) (HE.out.below HB5.out) (HT.out.below HB5.out)).mono ?_
  intro e w9 hr
  cases hd : decI b with
  | none =>
    obtain ⟨rfl, hb9⟩ := hr.bad hd
    have HB9 := Lib.hid (HB5.out.trans (hb9.mono HB5.out.size))
    clear hr hb9 hd
    go_wp2_with fail
    refine (Num_any ea 20 (by omega) w9 (HE.out.below HB9.out)).mono ?_
    rintro e w10 ⟨rfl, rfl⟩
    go_wp2
    go_ret
    exact ⟨rfl, HB9.out⟩
  | some lb =>
    obtain ⟨A9, c9, rfl, ho9, hb9⟩ := hr.good hd
    have HB9 := Lib.hid (HB5.out.trans (hb9.mono HB5.out.size))
    have HO9 := Lib.hid ho9
    have HD := Lib.hid (encI_decI hd)
    have hdl := decI_len hd
    clear hr hb9 hd ho9
    go_wp2_with fail
    refine (iencode_any _ lb ea w9 w9.heap.size (Nat.le_refl _) (RdL.of_own HO9.out) (by omega) HD.out.2.1 (HE.out.below HB9.out) (HT.out.below HB9.out)).mono ?_
    intro e w10 hr
    obtain ⟨E10, n10, k10, rfl, ho10, hb10⟩ := hr.good HD.out.1
    have HB10 := Lib.hid (HB9.out.trans (hb10.mono HB9.out.size))
    have hc10 := ho10.conv
    rw [HD.out.2.2] at hc10
    have hc11 := RdL.convAll (H2.out.below HB10.out)
    generalize str b = sb at *
    clear hr hb10 ho10
    go_wp2
    go_ret
    exact ⟨rfl, HB10.out⟩
theorem there_00 (w : World) (v0 v1 x : Value) (l m : List Ins) (b : List UInt8) (h0 : RdL insS w w.heap.size v0 l) (h1 : RdL insS w w.heap.size v1 m) (h2 : RdL byteS w w.heap.size x b) (hs0 : SmallIns l) (hs1 : SmallIns m) (hl : l.length + m.length + b.length ≤ 1048576) (ea : List Addr) (hE : ErrEnv w ea) (hT : TabEnv w) (hP : Pow10 w) (ha : l.all insOk = false) (hb : m.all insOk = false) :
    Calls Tryd.prog 5 #[v0, v1, x] w fun e w' => e = .returned (.bool true) ∧ Below w.heap.size w w' := by
  obtain ⟨A0, c0, rfl, hc0, hd0⟩ := h0.open_
  obtain ⟨A1, c1, rfl, hc1, hd1⟩ := h1.open_
  obtain ⟨A2, c2, rfl, hc2, hd2⟩ := h2.open_
  have H0 := Lib.hid h0; have H1 := Lib.hid h1; have H2 := Lib.hid h2; have HE := Lib.hid hE; have HT := Lib.hid hT; have HP := Lib.hid hP; have HS0 := Lib.hid hs0; have HS1 := Lib.hid hs1
  obtain ⟨lm, HLM⟩ : ∃ lm : List Ins, Hid (lm = l ++ m) := ⟨_, Lib.hid rfl⟩
  have HSA := Lib.hid (show SmallIns lm from by rw [HLM.out]; exact fun y hy => (List.mem_append.1 hy).elim (hs0 y) (hs1 y))
  have HA2 := Lib.hid ha; have HA3 := Lib.hid hb
  have HA5 := Lib.hid (show lm.all insOk = false from by rw [HLM.out, List.all_append, ha, hb]; rfl)
  have HLL := Lib.hid (show lm.length = l.length + m.length from by rw [HLM.out, List.length_append])
  have hlm : lm.length ≤ 1048576 := by rw [HLL.out]; omega
  clear h0 h1 h2 hE hT hP hc0 hd0 hc1 hd1 hc2 hd2 hs0 hs1 ha hb
  have en0 := fun W => errI_nil ea 20 W
  have en1 := fun W => errI_nnil ea 20 W
  have eg0 := fun op x y W => errI_guard0 ea 20 op x y W
  go_enter Tryd.func5, Tryd.ntmps5
  go_wp2_with fail
  refine (lives_any _ ea HE.out HT.out HP.out).mono ?_
  rintro e w1 ⟨rfl, hb1⟩
  have HB1 := Lib.hid hb1
  clear hb1
  go_wp2_with fail
  refine (iencode_any _ l ea w1 w1.heap.size (Nat.le_refl _) ((H0.out.below HB1.out).more HB1.out.size) (by omega) HS0.out (HE.out.below HB1.out) (HT.out.below HB1.out)).mono ?_
  intro e w2 hr
  obtain ⟨E2, n2, k2, rfl, ho2, hb2⟩ := hr.bad HA2.out
  have HB2 := Lib.hid (HB1.out.trans (hb2.mono HB1.out.size))
  have HO2 := Lib.hid ho2
  have HX2 := Lib.hid hb2
  clear hb2 ho2 hr
  go_wp2_with fail
  refine (iencode_any _ m ea w2 w2.heap.size (Nat.le_refl _) ((H1.out.below HB2.out).more HB2.out.size) (by omega) HS1.out (HE.out.below HB2.out) (HT.out.below HB2.out)).mono ?_
  intro e w3 hr
  obtain ⟨E3, n3, k3, rfl, ho3, hb3⟩ := hr.bad HA3.out
  have HB3 := Lib.hid (HB2.out.trans (hb3.mono HB2.out.size))
  have HO3 := Lib.hid ho3
  have HX3 := Lib.hid hb3
  clear hb3 ho3 hr
  have HL0 := Lib.hid (OwnL.lit0 insS w3 (Nat.le_refl _))
  have HR0 := Lib.hid (((H0.out.below HB3.out).alloc HB3.out.size (.cells #[] 64)))
  have hz3 : w3.heap.size ≤ (w3.alloc (.cells #[] 64)).heap.size := by rw [World.size_alloc]; omega
  have hap1 : ([] : List Ins).length + l.length ≤ 100000000000 := by simp; omega
  have hap2 : l.length + m.length ≤ 100000000000 := by omega
  go_wp2_with (at_builtin; first
    | (refine OwnL.appendRd insSOk HO4.out HR4.out rfl _ _ rfl rfl rfl hz4 hap2 ?_; intro v5 w4b ho5 hb5; rw [← HLM.out] at ho5; obtain ⟨A5, c5, rfl, -, -, -⟩ := ho5.open_; have HX4 := Lib.hid (HB3a.out.trans hb5); have HO5a := Lib.hid ho5; clear ho5 hb5)
    | (refine OwnL.appendRd insSOk HL0.out HR0.out rfl _ _ rfl rfl rfl hz3 hap1 ?_; intro v4 w4 ho4 hb4; rw [List.nil_append] at ho4; obtain ⟨A4, c4, rfl, -, -, -⟩ := ho4.open_; have HB3a := Lib.hid (((Below.refl w3.heap.size w3).alloc (Nat.le_refl _) (.cells #[] 64)).trans hb4); have HO4 := Lib.hid ho4; have HR4 := Lib.hid (((H1.out.below HB3.out).more HB3.out.size).below HB3a.out); have hz4 := HB3a.out.size; clear ho4 hb4))
  have HB4 := Lib.hid (HB3.out.trans (HX4.out.mono HB3.out.size))
  refine (iencode_any _ lm ea w4b w4b.heap.size (Nat.le_refl _) (RdL.of_own HO5a.out) (by omega) HSA.out (HE.out.below HB4.out) (HT.out.below HB4.out)).mono ?_
  intro e w5 hr
  obtain ⟨E5, n5, k5, rfl, ho5, hb5⟩ := hr.bad HA5.out
  have HB5 := Lib.hid (HB4.out.trans (hb5.mono HB4.out.size))
  have HO5 := Lib.hid ho5
  have HX5 := Lib.hid hb5
  clear hb5 ho5 hr
  have hn5 : n5 = 0 := by obtain ⟨_, _, e⟩ := ownB_form HO5.out; injection e
  subst hn5
  go_wp2_with fail
  refine (Num_any ea 20 (by omega) w5 (HE.out.below HB5.out)).mono ?_
  rintro e w5b ⟨rfl, rfl⟩
  go_wp2_with fail
  refine (idecode_any _ b w5 ea ((H2.out.below HB5.out).more HB5.out.size) (by omega) (HE.out.below HB5.out) (HT.out.below HB5.out)).mono ?_
  intro e w9 hr
  cases hd : decI b with
  | none =>
    obtain ⟨rfl, hb9⟩ := hr.bad hd
    have HB9 := Lib.hid (HB5.out.trans (hb9.mono HB5.out.size))
    clear hr hb9 hd
    go_wp2_with fail
    refine (Num_any ea 20 (by omega) w9 (HE.out.below HB9.out)).mono ?_
    rintro e w10 ⟨rfl, rfl⟩
    go_wp2
    go_ret
    exact ⟨rfl, HB9.out⟩
  | some lb =>
    obtain ⟨A9, c9, rfl, ho9, hb9⟩ := hr.good hd
    have HB9 := Lib.hid (HB5.out.trans (hb9.mono HB5.out.size))
    have HO9 := Lib.hid ho9
    have HD := Lib.hid (encI_decI hd)
    have hdl := decI_len hd
    clear hr hb9 hd ho9
    go_wp2_with fail
    refine (iencode_any _ lb ea w9 w9.heap.size (Nat.le_refl _) (RdL.of_own HO9.out) (by omega) HD.out.2.1 (HE.out.below HB9.out) (HT.out.below HB9.out)).mono ?_
    intro e w10 hr
    obtain ⟨E10, n10, k10, rfl, ho10, hb10⟩ := hr.good HD.out.1
    have HB10 := Lib.hid (HB9.out.trans (hb10.mono HB9.out.size))
    have hc10 := ho10.conv
    rw [HD.out.2.2] at hc10
    have hc11 := RdL.convAll (H2.out.below HB10.out)
    generalize str b = sb at *
    clear hr hb10 ho10
    go_wp2
    go_ret
    exact ⟨rfl, HB10.out⟩
theorem isaThere_walk (w : World) (v0 v1 x : Value) (l m : List Ins) (b : List UInt8) (h0 : RdL insS w w.heap.size v0 l) (h1 : RdL insS w w.heap.size v1 m) (h2 : RdL byteS w w.heap.size x b) (hs0 : SmallIns l) (hs1 : SmallIns m) (hl : l.length + m.length + b.length ≤ 1048576) (hE : IsaEnv w) :
    Calls Tryd.prog 5 #[v0, v1, x] w fun e w' => e = .returned (.bool true) ∧ Below w.heap.size w w' := by
  obtain ⟨ea, hE, hT, hP⟩ := hE
  cases ha : l.all insOk with
  | true => cases hb : m.all insOk with
    | true => exact there_11 w v0 v1 x l m b h0 h1 h2 hs0 hs1 hl ea hE hT hP ha hb
    | false => exact there_10 w v0 v1 x l m b h0 h1 h2 hs0 hs1 hl ea hE hT hP ha hb
  | false => cases hb : m.all insOk with
    | true => exact there_01 w v0 v1 x l m b h0 h1 h2 hs0 hs1 hl ea hE hT hP ha hb
    | false => exact there_00 w v0 v1 x l m b h0 h1 h2 hs0 hs1 hl ea hE hT hP ha hb
end Go.Proofs.YtmdpfikalekmlaaDoor
