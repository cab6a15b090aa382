/- Merged for a claim by shake.py: Zu -/
import Derived.Test.YtcomdkejpaoneaaDoorKg9
section
namespace Go.Proofs.YtcomdkejpaoneaaDoor
open Go.RowKit
set_option maxRecDepth 100000
set_option maxHeartbeats 4000000
set_option linter.unusedSimpArgs false
set_option linter.unusedVariables false
def RetScR (w : World) (r : List Lx × Option Nat) (e : Ending) (w' : World) : Prop :=
  Below w.heap.size w w' ∧ ∃ sl, OwnL lexS w' w.heap.size sl r.1 ∧ e = .returned (.tuple #[sl, .int .i64 (((r.2.getD 0 : Nat)) : Int), .int .i64 (if r.2.isSome = true then 16 else 0)])
def RsRel (s : ByteArray) (w1 : World) (ov iv : Value) (wr : World) : Prop :=
  ∃ i p f pre, ScPos s p f pre ∧ SgPos s i p ∧ i ≤ (signs s.data.toList).length ∧ iv = .int .i64 (i : Int) ∧ OwnL lexS wr w1.heap.size ov pre ∧ Below w1.heap.size w1 wr
theorem signs_len : ∀ (t : List UInt8) (q : Nat), (signsFrom t q).length ≤ t.length
  | [], q => by simp [signsFrom]
  | [c], q => by simp [signsFrom]
  | c :: d :: t, q => by
    by_cases h92 : c = 92
    · subst h92
      rw [sg_es]
      have := signs_len t (q + 2)
      simp only [List.length_cons]; omega
    · rw [sg_ne _ _ h92]
      have := signs_len (d :: t) (q + 1)
      simp only [List.length_cons] at *; omega
theorem ScanR_any (s : ByteArray) (w : World) (hs : s.size ≤ 10000000) :
    Calls Tryd.prog 21 #[.string s] w (RetScR w (scanL s.data.toList)) := by
  have HS := Lib.hid (signs_any s w hs)
  have hsl : (signs s.data.toList).length ≤ 10000000 := Nat.le_trans (signs_len _ _) (by rw [← ba_size]; exact hs)
  go_enter Tryd.func21, Tryd.ntmps21
  go_wp2_with fail
  refine HS.out.mono ?_
  rintro e w1 ⟨sv, rfl, ho1, hb1⟩
  obtain ⟨A, cap, rfl, hcap, hml, -⟩ := ho1.open_
  have HR1 := Lib.hid (RdL.of_own ho1)
  have HB1 := Lib.hid hb1
  clear hb1 ho1
  generalize hSG : signs s.data.toList = SG at *
  have HSG := Lib.hid hSG; clear hSG
  go_wp2
  go_loopw [6, 7] (fun ov iv wr => RsRel s w1 ov iv wr) (fun _ iv _ => SG.length - (intOf iv).toNat)
  case atStart => exact ⟨0, 0, _, [], ScPos_start s, ⟨Nat.zero_le _, rfl⟩, Nat.zero_le _, rfl, OwnL.lit0 _ _ (Nat.le_refl _), (Below.refl _ _).alloc (Nat.le_refl _) _⟩
  case round =>
    obtain ⟨i, p, f, pre, hp0, hg0, hi0, rfl, ho, hb⟩ := hrel
    have HP := Lib.hid hp0; have HG := Lib.hid hg0
    have HO := Lib.hid ho; have HB := Lib.hid hb
    have hBr : w1.heap.size ≤ wr.heap.size := hb.size
    have HRr := Lib.hid ((HR1.out.below hb).more hBr)
    have hpl := hp0.2.1
    have hps := hp0.1
    rw [HSG.out] at hi0
    clear hp0 hg0 ho hb
    by_cases hlt : i < SG.length
    · have hps2 : p < s.size := HG.out.lt (by rw [HSG.out]; exact hlt)
      obtain ⟨x, hx⟩ : ∃ x, SG[i]? = some x := ⟨_, List.getElem?_eq_getElem hlt⟩
      have HX := Lib.hid hx
      have hx' : (signs s.data.toList)[i]? = some x := by rw [HSG.out]; exact hx
      have HX' := Lib.hid hx'
      obtain ⟨a, rfl, hab, c0, c1, c2, c3⟩ := at_sg HRr.out hx
      have hxl := u8_lt x.c
      by_cases hc : cls s[p] = 1
      · obtain ⟨b1, b2, b3⟩ := HG.out.blank hps2 hc hx'
        obtain ⟨f', hp'⟩ := ScPos_blank HP.out hps2 hc
        have HP' := Lib.hid hp'; have HG' := Lib.hid b3
        have hcx : decide (cls x.c = 1) = true := by rw [b2]; exact decide_eq_true hc
        rw [b1] at c1
        clear hx hx' hp' b1 b2 b3 hc
        go_wp2_with fail
        refine (blank_any x.c _).mono ?_
        rintro e wc ⟨rfl, rfl⟩
        rw [hcx]
        go_wp2
        go_roundw
        case rel => exact ⟨i + 1, p + 1, f', pre, HP'.out, HG'.out, by rw [HSG.out]; omega, by go_num, HO.out, HB.out⟩
        case measure => simp [intOf]; omega
      · have hpx := HG.out.place hx'
        have HPX := Lib.hid hpx
        have HC := Lib.hid hc
        have hnb := HG.out.notBlank hps2 hc hx'
        clear hx hx' hc hpx
        rcases hnb with hb1 | ⟨hb1, hb2⟩
        · rw [hb1] at c1
          clear hb1
          go_wp2_with fail
          refine (one_any (.slice (some a) SG.length cap) SG i x wr HRr.out hsl HX.out).mono ?_
          rintro e w2 ⟨hb2, hm⟩
          have HB2 := Lib.hid (HB.out.trans (hb2.mono hBr))
          have HR2 := Lib.hid (HRr.out.below hb2)
          have hB2 : w1.heap.size ≤ w2.heap.size := Nat.le_trans hBr hb2.size
          have HW1 := Lib.hid (hb2.size)
          cases hr : oneS (SG.drop i) with
          | none =>
            rw [hr] at hm
            obtain ⟨t, n, j, rfl⟩ := hm
            have HQ := Lib.hid (ScPos_bad HP.out hps2 HC.out (HG.out.none hps2 HC.out (by rw [HSG.out]; exact hr)))
            have hpx := HPX.out
            rw [hpx]
            clear hr hb2 hpx
            go_wp2
            go_region
            go_wp2
            go_ret3
            have hb3 := HB1.out.trans ((HB2.out.alloc hB2 (.cells #[.int .i64 (-1), .string t, .int .i64 n, .int .i64 (p : Int), .int .i64 0] 49)).mono HB1.out.size)
            have hsz : w.heap.size ≤ (w2.alloc (.cells #[.int .i64 (-1), .string t, .int .i64 n, .int .i64 (p : Int), .int .i64 0] 49)).heap.size := by rw [World.size_alloc]; have := HB1.out.size; omega
            refine ⟨?_, ?_⟩
            · have hb4 := hb3.alloc hsz (.cells #[] 49)
              first | exact hb4 | exact hb4.drew
            · rw [HQ.out]
              have ho4 := OwnL.lit0 lexS (w2.alloc (.cells #[.int .i64 (-1), .string t, .int .i64 n, .int .i64 (p : Int), .int .i64 0] 49)) hsz
              refine ⟨_, ?_, rfl⟩
              have ho5 := ho4.drew
              simp only [World.size_alloc] at ho5
              exact ho5
          | some y =>
            rw [hr] at hm
            obtain ⟨kind, t, n, k⟩ := y
            have hm2 : e = .returned (.tuple #[.agg #[.int .i64 kind, .string (str t), .int .i64 n, .int .i64 (x.place : Int), .int .i64 0], .int .i64 ((i + k : Nat) : Int)]) := hm
            clear hm
            obtain ⟨m, en, y, hk, him, hy, hye, hpe, hst, hk0, hg'⟩ := HG.out.tok hps2 HC.out (by rw [HSG.out]; exact hr)
            obtain ⟨f', hp'⟩ := ScPos_tok HP.out hps2 HC.out hst
            have HP' := Lib.hid hp'; have HG' := Lib.hid hg'
            have hpx := HPX.out
            rw [hk, hpx] at hm2
            subst hm2
            rw [HSG.out] at hy
            have hml2 : m < SG.length := (List.getElem?_eq_some_iff.1 hy).1
            obtain ⟨a', ha', hab2, d0, d1, d2, d3⟩ := at_sg HR2.out hy
            cases ha'
            have hes : en ≤ s.size := hp'.1
            have HYE := Lib.hid hye
            have HPL := Lib.hid hp'.2.1
            have HO2 := Lib.hid (HO.out.below hb2)
            have hblt : (a.add (m * 4)).block < w2.heap.size := Nat.lt_of_lt_of_le hab2 HW1.out
            clear hr hb2 hpx hk hye hp' hg' hst hy
            go_wp2
            go_region
            have HWE : Hid (wrap64 ((y.place : Int) + (y.size : Int)) = (en : Int)) := Lib.hid (by
              have h := HYE.out
              rw [← h]
              unfold wrap64; push_cast; omega)
            have k0 := Blk5.new w2 (.int .i64 kind) (.string (str t)) (.int .i64 n) (.int .i64 (p : Int)) (.int .i64 (wrap64 ((y.place : Int) + (y.size : Int))))
            have hb3 := (Below.refl w2.heap.size (w2.alloc (.cells #[.int .i64 kind, .string (str t), .int .i64 n, .int .i64 (p : Int), .int .i64 (wrap64 ((y.place : Int) + (y.size : Int)))] 49))).drew
            have hb4 : Below w2.heap.size w2 (w2.alloc (.cells #[.int .i64 kind, .string (str t), .int .i64 n, .int .i64 (p : Int), .int .i64 (wrap64 ((y.place : Int) + (y.size : Int)))] 49)).drew := ((Below.refl _ w2).alloc (Nat.le_refl _) _).drew
            have k1 : Blk5 (w2.alloc (.cells #[.int .i64 kind, .string (str t), .int .i64 n, .int .i64 (p : Int), .int .i64 (wrap64 ((y.place : Int) + (y.size : Int)))] 49)).drew w2.heap.size (.int .i64 kind) (.string (str t)) (.int .i64 n) (.int .i64 (p : Int)) (.int .i64 (wrap64 ((y.place : Int) + (y.size : Int)))) := k0.below ((Below.refl _ _).drew) k0.lt
            clear k0 hb3
            generalize (w2.alloc (.cells #[.int .i64 kind, .string (str t), .int .i64 n, .int .i64 (p : Int), .int .i64 (wrap64 ((y.place : Int) + (y.size : Int)))] 49)).drew = w3 at *
            rw [HWE.out] at k1
            obtain ⟨⟨g0, g1, g2, g3, g4⟩, z0, z1, z2, z3, z4⟩ := k1.facts
            have HO3 := Lib.hid (HO2.out.below hb4)
            have HB4 := Lib.hid (HB2.out.trans (hb4.mono hB2))
            have hB3 : w1.heap.size ≤ w3.heap.size := Nat.le_trans hB2 hb4.size
            clear k1 hb4
            go_wp2_with (at_builtin; refine OwnL.append lexOk HO3.out ⟨kind, t, n, p, en⟩ rfl _ _ rfl rfl rfl _ rfl hB3 ?_ ?_)
            · have := HPL.out; simp at this; omega
            · intro v' w' h2 h3
              have H2 := Lib.hid h2
              have HB5 := Lib.hid (HB4.out.trans h3)
              clear h2 h3
              go_wp2
              go_roundw
              case rel => exact ⟨m + 1, en, f', _, HP'.out, HG'.out, by rw [HSG.out]; omega, by go_num, H2.out, HB5.out⟩
              case measure => simp [intOf]; omega
        · rw [hb1] at c1
          have hcx : decide (cls x.c = 1) = false := decide_eq_false hb2
          clear hb1 hb2
          go_wp2_with fail
          refine (blank_any x.c _).mono ?_
          rintro e wc ⟨rfl, rfl⟩
          rw [hcx]
          go_wp2_with fail
          refine (one_any (.slice (some a) SG.length cap) SG i x wr HRr.out hsl HX.out).mono ?_
          rintro e w2 ⟨hb2, hm⟩
          have HB2 := Lib.hid (HB.out.trans (hb2.mono hBr))
          have HR2 := Lib.hid (HRr.out.below hb2)
          have hB2 : w1.heap.size ≤ w2.heap.size := Nat.le_trans hBr hb2.size
          have HW1 := Lib.hid (hb2.size)
          cases hr : oneS (SG.drop i) with
          | none =>
            rw [hr] at hm
            obtain ⟨t, n, j, rfl⟩ := hm
            have HQ := Lib.hid (ScPos_bad HP.out hps2 HC.out (HG.out.none hps2 HC.out (by rw [HSG.out]; exact hr)))
            have hpx := HPX.out
            rw [hpx]
            clear hr hb2 hpx
            go_wp2
            go_region
            go_wp2
            go_ret3
            have hb3 := HB1.out.trans ((HB2.out.alloc hB2 (.cells #[.int .i64 (-1), .string t, .int .i64 n, .int .i64 (p : Int), .int .i64 0] 49)).mono HB1.out.size)
            have hsz : w.heap.size ≤ (w2.alloc (.cells #[.int .i64 (-1), .string t, .int .i64 n, .int .i64 (p : Int), .int .i64 0] 49)).heap.size := by rw [World.size_alloc]; have := HB1.out.size; omega
            refine ⟨?_, ?_⟩
            · have hb4 := hb3.alloc hsz (.cells #[] 49)
              first | exact hb4 | exact hb4.drew
            · rw [HQ.out]
              have ho4 := OwnL.lit0 lexS (w2.alloc (.cells #[.int .i64 (-1), .string t, .int .i64 n, .int .i64 (p : Int), .int .i64 0] 49)) hsz
              refine ⟨_, ?_, rfl⟩
              have ho5 := ho4.drew
              simp only [World.size_alloc] at ho5
              exact ho5
          | some y =>
            rw [hr] at hm
            obtain ⟨kind, t, n, k⟩ := y
            have hm2 : e = .returned (.tuple #[.agg #[.int .i64 kind, .string (str t), .int .i64 n, .int .i64 (x.place : Int), .int .i64 0], .int .i64 ((i + k : Nat) : Int)]) := hm
            clear hm
            obtain ⟨m, en, y, hk, him, hy, hye, hpe, hst, hk0, hg'⟩ := HG.out.tok hps2 HC.out (by rw [HSG.out]; exact hr)
            obtain ⟨f', hp'⟩ := ScPos_tok HP.out hps2 HC.out hst
            have HP' := Lib.hid hp'; have HG' := Lib.hid hg'
            have hpx := HPX.out
            rw [hk, hpx] at hm2
            subst hm2
            rw [HSG.out] at hy
            have hml2 : m < SG.length := (List.getElem?_eq_some_iff.1 hy).1
            obtain ⟨a', ha', hab2, d0, d1, d2, d3⟩ := at_sg HR2.out hy
            cases ha'
            have hes : en ≤ s.size := hp'.1
            have HYE := Lib.hid hye
            have HPL := Lib.hid hp'.2.1
            have HO2 := Lib.hid (HO.out.below hb2)
            have hblt : (a.add (m * 4)).block < w2.heap.size := Nat.lt_of_lt_of_le hab2 HW1.out
            clear hr hb2 hpx hk hye hp' hg' hst hy
            go_wp2
            go_region
            have HWE : Hid (wrap64 ((y.place : Int) + (y.size : Int)) = (en : Int)) := Lib.hid (by
              have h := HYE.out
              rw [← h]
              unfold wrap64; push_cast; omega)
            have k0 := Blk5.new w2 (.int .i64 kind) (.string (str t)) (.int .i64 n) (.int .i64 (p : Int)) (.int .i64 (wrap64 ((y.place : Int) + (y.size : Int))))
            have hb3 := (Below.refl w2.heap.size (w2.alloc (.cells #[.int .i64 kind, .string (str t), .int .i64 n, .int .i64 (p : Int), .int .i64 (wrap64 ((y.place : Int) + (y.size : Int)))] 49))).drew
            have hb4 : Below w2.heap.size w2 (w2.alloc (.cells #[.int .i64 kind, .string (str t), .int .i64 n, .int .i64 (p : Int), .int .i64 (wrap64 ((y.place : Int) + (y.size : Int)))] 49)).drew := ((Below.refl _ w2).alloc (Nat.le_refl _) _).drew
            have k1 : Blk5 (w2.alloc (.cells #[.int .i64 kind, .string (str t), .int .i64 n, .int .i64 (p : Int), .int .i64 (wrap64 ((y.place : Int) + (y.size : Int)))] 49)).drew w2.heap.size (.int .i64 kind) (.string (str t)) (.int .i64 n) (.int .i64 (p : Int)) (.int .i64 (wrap64 ((y.place : Int) + (y.size : Int)))) := k0.below ((Below.refl _ _).drew) k0.lt
            clear k0 hb3
            generalize (w2.alloc (.cells #[.int .i64 kind, .string (str t), .int .i64 n, .int .i64 (p : Int), .int .i64 (wrap64 ((y.place : Int) + (y.size : Int)))] 49)).drew = w3 at *
            rw [HWE.out] at k1
            obtain ⟨⟨g0, g1, g2, g3, g4⟩, z0, z1, z2, z3, z4⟩ := k1.facts
            have HO3 := Lib.hid (HO2.out.below hb4)
            have HB4 := Lib.hid (HB2.out.trans (hb4.mono hB2))
            have hB3 : w1.heap.size ≤ w3.heap.size := Nat.le_trans hB2 hb4.size
            clear k1 hb4
            go_wp2_with (at_builtin; refine OwnL.append lexOk HO3.out ⟨kind, t, n, p, en⟩ rfl _ _ rfl rfl rfl _ rfl hB3 ?_ ?_)
            · have := HPL.out; simp at this; omega
            · intro v' w' h2 h3
              have H2 := Lib.hid h2
              have HB5 := Lib.hid (HB4.out.trans h3)
              clear h2 h3
              go_wp2
              go_roundw
              case rel => exact ⟨m + 1, en, f', _, HP'.out, HG'.out, by rw [HSG.out]; omega, by go_num, H2.out, HB5.out⟩
              case measure => simp [intOf]; omega
    · have hps2 : ¬ p < s.size := HG.out.stop (by rw [HSG.out]; exact hlt)
      have HQ := Lib.hid (ScPos_end HP.out hps2)
      have hpe : p = s.size := by omega
      subst hpe
      go_wp2_with (at_builtin; refine OwnL.append lexOk HO.out ⟨0, [], 0, s.size, s.size⟩ rfl _ _ rfl rfl rfl _ rfl hBr ?_ ?_)
      · omega
      · intro v' w' h2 h3
        have H2 := Lib.hid h2; clear h2
        go_wp2
        go_ret3
        refine ⟨HB1.out.trans ((HB.out.trans h3).mono HB1.out.size), ?_⟩
        rw [HQ.out]
        exact ⟨_, H2.out.more HB1.out.size, rfl⟩
end Go.Proofs.YtcomdkejpaoneaaDoor
end
