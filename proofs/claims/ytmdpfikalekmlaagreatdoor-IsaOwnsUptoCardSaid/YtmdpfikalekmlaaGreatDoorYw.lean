/- Layer 20: unquoted. -/
import Derived.Test.YtmdpfikalekmlaaGreatDoorQu
import Derived.Test.YtmdpfikalekmlaaGreatDoorRq
import Derived.Test.YtmdpfikalekmlaaGreatDoorIxb
import Derived.Deep.QuietTactic
namespace Go.Proofs.YtmdpfikalekmlaaGreatDoor
open Go.RowKit
set_option maxRecDepth 100000
set_option maxHeartbeats 2000000
set_option linter.unusedSimpArgs false
set_option linter.unusedVariables false

def hexIx (c : UInt8) : Int := Lib.indexByte [48, 49, 50, 51, 52, 53, 54, 55, 56, 57, 97, 98, 99, 100, 101, 102] c
theorem hexIx_eq (c : UInt8) : hexIx c = match hexV c with | some n => (n : Int) | none => -1 := by
  have h : (List.range 256).all (fun n => decide (hexIx (UInt8.ofNat n) = match hexV (UInt8.ofNat n) with | some n => (n : Int) | none => -1)) = true := by decide
  exact of_decide_eq_true (all_bytesQ (p := fun c => decide (hexIx c = match hexV c with | some n => (n : Int) | none => -1)) h c)
theorem hexIx_bd (c : UInt8) : -1 ≤ hexIx c ∧ hexIx c < 16 := by
  have h : (List.range 256).all (fun n => decide (-1 ≤ hexIx (UInt8.ofNat n)) && decide (hexIx (UInt8.ofNat n) < 16)) = true := by decide
  have := all_bytesQ (p := fun c => decide (-1 ≤ hexIx c) && decide (hexIx c < 16)) h c
  simpa using this
theorem sIndexByte_any (c : UInt8) (w : World) :
    Calls Tryz.prog 99 #[.string ⟨#[48, 49, 50, 51, 52, 53, 54, 55, 56, 57, 97, 98, 99, 100, 101, 102]⟩, .int .u8 (c.toNat : Int)] w fun e w' => e = .returned (.int .i64 (hexIx c)) ∧ w = w' := by
  have hc := u8_lt c
  go_enter Tryz.func99, Tryz.ntmps99
  go_wp2_with fail
  refine (indexByte_any ⟨#[48, 49, 50, 51, 52, 53, 54, 55, 56, 57, 97, 98, 99, 100, 101, 102]⟩ c w).mono ?_
  rintro e w' ⟨rfl, rfl⟩
  go_wp2
  go_ret
  exact ⟨rfl, rfl⟩
theorem unqF_plain {c : UInt8} {r : List UInt8} (h : c ≠ 92) (hp : plainC c = true) : unqF (c :: r) = (unqF r).map (c :: ·) := by rw [unqF.eq_def]; simp only []; rw [if_neg h, if_pos hp]
theorem unqF_bad {c : UInt8} {r : List UInt8} (h : c ≠ 92) (hp : plainC c = false) : unqF (c :: r) = none := by rw [unqF.eq_def]; simp only []; rw [if_neg h, if_neg (by rw [hp]; decide)]
theorem unqF_short {r : List UInt8} (h : r.length < 2) : unqF (92 :: r) = none := by
  rw [unqF.eq_def]; simp only [if_true]
  match r, h with
  | [], _ => rfl
  | [_], _ => rfl
theorem unqF_esc (h l : UInt8) (r : List UInt8) : unqF (92 :: h :: l :: r) = match hexV h, hexV l with
    | some a, some b => if plainC (UInt8.ofNat (16 * a + b)) = true then none else (unqF r).map (UInt8.ofNat (16 * a + b) :: ·)
    | _, _ => none := by rw [unqF.eq_def]; simp only [if_true]; rfl
theorem unqL_short {l : List UInt8} (h : l.length < 2) : unqL l = none := by
  unfold unqL
  match l, h with
  | [], _ => rfl
  | [c], _ =>
    split
    · rename_i r hr
      injection hr with _ hr
      subst hr; rfl
    · rfl
theorem unqL_first {l : List UInt8} (h : l.head? ≠ some 34) : unqL l = none := by
  unfold unqL
  split
  · exact absurd rfl h
  · rfl
theorem unqL_mid (m : List UInt8) (c : UInt8) : unqL (34 :: (m ++ [c])) = if c = 34 then unqF m else none := by
  unfold unqL
  have e : (m ++ [c]).reverse = c :: m.reverse := by simp
  simp only [e]
  split
  · rename_i m' h
    injection h with h1 h2
    subst h1; subst h2
    rw [if_pos rfl, List.reverse_reverse]
  · rename_i hn
    rw [if_neg (fun hc => hn m.reverse (by rw [hc]))]
def UqRet (r : Option (List UInt8)) : Ending := .returned (match r with | some t => .tuple #[.string (str t), .bool true] | none => .tuple #[.string ⟨#[]⟩, .bool false])
def UqRel (t : ByteArray) (w : World) (ov iv : Value) (wr : World) : Prop :=
  ∃ (k : Nat) (acc : List UInt8), k ≤ t.size ∧ iv = .int .i64 (k : Int) ∧ acc.length ≤ k ∧ OwnB wr w.heap.size ov acc ∧ Below w.heap.size w wr ∧ unqF t.data.toList = (unqF (t.data.toList.drop k)).map (acc ++ ·)
theorem ba_ends (s : ByteArray) (h : 2 ≤ s.size) : s.data.toList = s[0] :: ((s.extract 1 (s.size - 1)).data.toList ++ [s[s.size - 1]]) := by
  have hl : s.data.toList.length = s.size := rfl
  have e1 : (s.extract 1 (s.size - 1)).data.toList = (s.data.toList.drop 1).take (s.size - 2) := by
    rw [Lib.extract_data]
    congr 1
  have e2 : s[s.size - 1]'(by omega) = s.data.toList[s.size - 1]'(by omega) := rfl
  have e3 : s[0]'(by omega) = s.data.toList[0]'(by omega) := rfl
  rw [e1, e2, e3]
  have h1 : s.data.toList = s.data.toList[0]'(by omega) :: s.data.toList.drop 1 := by
    have := List.drop_eq_getElem_cons (l := s.data.toList) (i := 0) (by omega)
    simpa using this
  have h2 : s.data.toList.drop 1 = (s.data.toList.drop 1).take (s.size - 2) ++ [s.data.toList[s.size - 1]'(by omega)] := by
    conv => lhs; rw [← List.take_append_drop (s.size - 2) (s.data.toList.drop 1)]
    congr 1
    rw [List.drop_drop, show 1 + (s.size - 2) = s.size - 1 by omega, List.drop_eq_getElem_cons (by omega), List.drop_eq_nil_of_le (by omega)]
  conv => lhs; rw [h1]
  conv => lhs; rw [h2]
theorem u8_ne {b c : UInt8} (h : b ≠ c) : ¬ (b.toNat : Int) = (c.toNat : Int) := fun e => h (UInt8.toNat_inj.1 (by omega))
theorem str_ix (t : ByteArray) (k : Nat) (h : k < t.size) (z : Int) (hz : z = (k : Int)) (W : World) : (Instr.index 9 (.string t) (.int .i64 z)).run Tryz.prog W = .ok (.int .u8 (t[k].toNat : Int)) W := by
  subst hz
  rw [run_index_string W 9 _ .i64 (k : Int) Tryz.underlying9, dif_pos ⟨by omega, by omega⟩]
  rfl
theorem wrap_i64 (z : Int) (h0 : 0 ≤ z) (h1 : z < 9223372036854775808) : IntKind.i64.wrap z = z := by
  simp [IntKind.wrap, IntKind.bits, IntKind.signed]
  omega
theorem unquoted_any (s : ByteArray) (w : World) (hs : s.size ≤ 1000000000) :
    Calls Tryz.prog 80 #[.string s] w fun e w' => e = UqRet (unqL s.data.toList) ∧ Below w.heap.size w w' := by
  have hls : s.data.toList.length = s.size := rfl
  by_cases h2 : s.size < 2
  · have HQ := Lib.hid (unqL_short (l := s.data.toList) (by omega))
    clear hls
    go_enter Tryz.func80, Tryz.ntmps80
    go_wp2
    go_ret2
    exact ⟨by rw [HQ.out]; rfl, Below.refl _ _⟩
  · have h0 : 0 < s.size := by omega
    have hl1 : s.size - 1 < s.size := by omega
    by_cases hf : s[0] = 34
    · by_cases hl : s[s.size - 1] = 34
      · have HM := Lib.hid (show unqL s.data.toList = unqF (s.extract 1 (s.size - 1)).data.toList from by rw [ba_ends s (by omega), hf, hl, unqL_mid, if_pos rfl])
        have hne0 : (s[0].toNat : Int) = 34 := by rw [hf]; rfl
        have hne : (s[s.size - 1].toNat : Int) = 34 := by rw [hl]; rfl
        have hts : (s.extract 1 (s.size - 1)).size = s.size - 2 := by rw [ByteArray.size_extract]; omega
        clear hls hf hl
        go_enter Tryz.func80, Tryz.ntmps80
        go_wp2
        generalize s.extract 1 (s.size - 1) = t at *
        have hts2 : t.size ≤ 1000000000 := by omega
        clear hts hne hne0
        go_loopw [4, 5] (fun ov iv wr => UqRel t w ov iv wr) (fun _ iv _ => t.size - (intOf iv).toNat)
        case atStart => exact ⟨0, [], Nat.zero_le _, rfl, Nat.le_refl _, OwnB.lit0 w (Nat.le_refl _), (Below.refl _ _).alloc (Nat.le_refl _) _, by simp⟩
        case round =>
          obtain ⟨k, acc, hk, rfl, hal, ho, hb, hu⟩ := hrel
          have HO := Lib.hid ho; have HB := Lib.hid hb; have HU := Lib.hid hu
          have hBr := hb.size
          clear ho hb hu
          by_cases hlt : k < t.size
          · have hbx := u8_lt t[k]
            have hdk : t.data.toList.drop k = t[k] :: t.data.toList.drop (k + 1) := List.drop_eq_getElem_cons (show k < t.data.toList.length from hlt)
            by_cases hc : t[k] = 92
            · --ESC
              have hcn : (t[k].toNat : Int) = 92 := by rw [hc]; rfl
              by_cases hk2 : k + 2 < t.size
              · have hd2 : t.data.toList.drop (k + 1) = t[k + 1] :: t[k + 2] :: t.data.toList.drop (k + 3) := by
                  rw [List.drop_eq_getElem_cons (show k + 1 < t.data.toList.length from by show k + 1 < t.size; omega), List.drop_eq_getElem_cons (show k + 1 + 1 < t.data.toList.length from by show k + 1 + 1 < t.size; omega)]
                  rfl
                have hx1 := u8_lt t[k + 1]
                have hx2 := u8_lt t[k + 2]
                have I1 := fun W => (sIndexByte_any t[k + 1] W).mono (fun e W' h => show e = .returned (.int .i64 (hexIx t[k + 1])) ∧ W' = W from ⟨h.1, h.2.symm⟩)
                have I2 := fun W => (sIndexByte_any t[k + 2] W).mono (fun e W' h => show e = .returned (.int .i64 (hexIx t[k + 2])) ∧ W' = W from ⟨h.1, h.2.symm⟩)
                have ix1 := fun W => str_ix t (k + 1) (by omega) ((k : Int) + 1) (by omega) W
                have ix2 := fun W => str_ix t (k + 2) (by omega) ((k : Int) + 2) (by omega) W
                have hw1 := wrap_i64 ((k : Int) + 1) (by omega) (by omega)
                have hw2 := wrap_i64 ((k : Int) + 2) (by omega) (by omega)
                have hcd1 : 0 ≤ (k : Int) + 1 ∧ (k : Int) + 1 < (t.size : Int) := by omega
                have hcd2 : 0 ≤ (k : Int) + 2 ∧ (k : Int) + 2 < (t.size : Int) := by omega
                have E1 := hexIx_eq t[k + 1]
                have E2 := hexIx_eq t[k + 2]
                cases hv1 : hexV t[k + 1] with
                | none =>
                  rw [hv1] at E1
                  simp only [] at E1
                  obtain ⟨z2, hz2⟩ : ∃ z : Int, hexIx t[k + 2] = z ∧ -1 ≤ z ∧ z < 16 := ⟨_, rfl, hexIx_bd _⟩
                  rw [E1] at I1
                  rw [hz2.1] at I2
                  have HI1 := Lib.hid I1; have HI2 := Lib.hid I2
                  have hzz := hz2.2
                  clear E1 E2 I1 I2 hz2
                  have HN := Lib.hid (show unqL s.data.toList = none from by
                    rw [HM.out, HU.out, hdk, hc, hd2, unqF_esc, hv1]; rfl)
                  clear hdk hc hd2
                  go_wp2
                  go_region_law (first | (go_simp; go_at_call 99; refine (HI1.out _).mono ?_; rintro e w5 ⟨rfl, rfl⟩) | (go_simp; go_at_call 99; refine (HI2.out _).mono ?_; rintro e w5 ⟨rfl, rfl⟩))
                  all_goals
                    go_wp2_with fail
                    go_ret2
                    first
                      | exact ⟨by rw [HN.out]; rfl, HB.out⟩
                      | exact ⟨by rw [HN.out]; rfl, HB.out.drew⟩
                | some a =>
                  rw [hv1] at E1
                  simp only [] at E1
                  have ha16 := ((hexV_iff _ _).1 hv1).1
                  rw [E1] at I1
                  cases hv2 : hexV t[k + 2] with
                  | none =>
                    rw [hv2] at E2
                    simp only [] at E2
                    rw [E2] at I2
                    have HI1 := Lib.hid I1; have HI2 := Lib.hid I2
                    clear E1 E2 I1 I2
                    have HN := Lib.hid (show unqL s.data.toList = none from by
                      rw [HM.out, HU.out, hdk, hc, hd2, unqF_esc, hv1, hv2]; rfl)
                    clear hdk hc hd2
                    go_wp2
                    go_region_law (first | (go_simp; go_at_call 99; refine (HI1.out _).mono ?_; rintro e w5 ⟨rfl, rfl⟩) | (go_simp; go_at_call 99; refine (HI2.out _).mono ?_; rintro e w5 ⟨rfl, rfl⟩))
                    all_goals
                      go_wp2_with fail
                      go_ret2
                      first
                        | exact ⟨by rw [HN.out]; rfl, HB.out⟩
                        | exact ⟨by rw [HN.out]; rfl, HB.out.drew⟩
                  | some b =>
                    rw [hv2] at E2
                    simp only [] at E2
                    have hb16 := ((hexV_iff _ _).1 hv2).1
                    rw [E2] at I2
                    have HI1 := Lib.hid I1; have HI2 := Lib.hid I2
                    clear E1 E2 I1 I2
                    have hbn : ((UInt8.ofNat (16 * a + b)).toNat : Int) = 16 * (a : Int) + (b : Int) := by rw [UInt8.toNat_ofNat']; omega
                    have hpa : ∀ W, Calls Tryz.prog 69 #[.int .u8 (16 * (a : Int) + (b : Int))] W fun e W' => e = .returned (.bool (plainC (UInt8.ofNat (16 * a + b)))) ∧ W = W' := by
                      intro W
                      have h := plain_any (UInt8.ofNat (16 * a + b)) W
                      rw [hbn] at h
                      exact h
                    have HPA := Lib.hid hpa
                    clear hpa
                    cases hpl : plainC (UInt8.ofNat (16 * a + b)) with
                    | true =>
                      have HN := Lib.hid (show unqL s.data.toList = none from by
                        rw [HM.out, HU.out, hdk, hc, hd2, unqF_esc, hv1, hv2]; simp only [hpl, if_true]; rfl)
                      have HPL := Lib.hid hpl
                      clear hdk hc hd2 hpl
                      go_wp2
                      go_region_law (first | (go_simp; go_at_call 99; refine (HI1.out _).mono ?_; rintro e w5 ⟨rfl, rfl⟩) | (go_simp; go_at_call 99; refine (HI2.out _).mono ?_; rintro e w5 ⟨rfl, rfl⟩))
                      all_goals
                        go_wp2_with fail
                        refine (HPA.out wr.drew).mono ?_
                        rintro e wc ⟨rfl, rfl⟩
                        rw [HPL.out]
                        go_wp2
                        go_ret2
                        exact ⟨by rw [HN.out]; rfl, HB.out.drew⟩
                    | false =>
                      have HNX := Lib.hid (show unqF t.data.toList = (unqF (t.data.toList.drop (k + 3))).map ((acc ++ [UInt8.ofNat (16 * a + b)]) ++ ·) from by
                        rw [HU.out, hdk, hc, hd2, unqF_esc, hv1, hv2]
                        simp only [hpl, Bool.false_eq_true, if_false, Option.map_map]
                        congr 1
                        funext z; simp)
                      have HPL := Lib.hid hpl
                      have ha1 : acc.length + 1 ≤ 140737488355328 := by omega
                      clear hdk hc hd2 hpl
                      go_wp2
                      go_region_law (first | (go_simp; go_at_call 99; refine (HI1.out _).mono ?_; rintro e w5 ⟨rfl, rfl⟩) | (go_simp; go_at_call 99; refine (HI2.out _).mono ?_; rintro e w5 ⟨rfl, rfl⟩))
                      all_goals
                        go_wp2_with fail
                        refine (HPA.out wr.drew).mono ?_
                        rintro e wc ⟨rfl, rfl⟩
                        rw [HPL.out]
                        go_wp2_with (at_builtin; refine OwnB.append HO.out.drew (16 * (a : Int) + (b : Int)) (by omega) (by omega) rfl _ _ rfl rfl rfl hBr ha1 ?_; intro v6 w6 ho6 hb6; have HO6 := Lib.hid ho6; have HB6 := Lib.hid (HB.out.drew.trans hb6); clear ho6 hb6)
                        go_roundw
                        case rel =>
                          refine ⟨k + 3, acc ++ [UInt8.ofNat (16 * a + b)], by omega, by go_num, by rw [List.length_append, List.length_singleton]; omega, ?_, HB6.out, HNX.out⟩
                          have h := HO6.out
                          rw [show (16 * (a : Int) + (b : Int)).toNat = 16 * a + b from by omega] at h
                          exact h
                        case measure => simp [intOf]; omega
              · have HN := Lib.hid (show unqL s.data.toList = none from by
                  rw [HM.out, HU.out, hdk, hc, unqF_short (by rw [List.length_drop]; show t.size - (k + 1) < 2; omega)]; rfl)
                clear hdk hc
                go_wp2
                go_ret2
                exact ⟨by rw [HN.out]; rfl, HB.out⟩
            · have hcn : ¬ (t[k].toNat : Int) = 92 := u8_ne (c := 92) hc
              cases hp : plainC t[k] with
              | true =>
                have HNX := Lib.hid (show unqF t.data.toList = (unqF (t.data.toList.drop (k + 1))).map ((acc ++ [t[k]]) ++ ·) from by
                  rw [HU.out, hdk, unqF_plain hc hp, Option.map_map]
                  congr 1
                  funext z; simp)
                have HP := Lib.hid hp
                have ha1 : acc.length + 1 ≤ 140737488355328 := by omega
                clear hdk hc hp
                go_wp2_with fail
                refine (plain_any t[k] _).mono ?_
                rintro e wc ⟨rfl, rfl⟩
                rw [HP.out]
                go_wp2_with (at_builtin; refine OwnB.append HO.out t[k].toNat (by omega) (by omega) rfl _ _ rfl rfl rfl hBr ha1 ?_; intro v6 w6 ho6 hb6; have HO6 := Lib.hid ho6; have HB6 := Lib.hid (HB.out.trans hb6); clear ho6 hb6)
                go_roundw
                case rel =>
                  refine ⟨k + 1, acc ++ [t[k]], by omega, by go_num, by rw [List.length_append, List.length_singleton]; omega, ?_, HB6.out, HNX.out⟩
                  have h := HO6.out
                  simpa using h
                case measure => simp [intOf]; omega
              | false =>
                have HN := Lib.hid (show unqL s.data.toList = none from by
                  rw [HM.out, HU.out, hdk, unqF_bad hc hp]; rfl)
                have HP := Lib.hid hp
                clear hdk hc hp
                go_wp2_with fail
                refine (plain_any t[k] _).mono ?_
                rintro e wc ⟨rfl, rfl⟩
                rw [HP.out]
                go_wp2
                go_ret2
                exact ⟨by rw [HN.out]; rfl, HB.out⟩
          · have HE := Lib.hid (show unqL s.data.toList = some acc from by
              rw [HM.out, HU.out, List.drop_eq_nil_of_le (show t.data.toList.length ≤ k from by show t.size ≤ k; omega)]
              show (unqF []).map _ = _
              simp [unqF])
            have cv := HO.out.conv
            go_wp2
            go_ret2
            exact ⟨by rw [HE.out]; rfl, HB.out⟩
      · have HQ := Lib.hid (show unqL s.data.toList = none from by rw [ba_ends s (by omega), hf, unqL_mid, if_neg hl])
        have hne0 : (s[0].toNat : Int) = 34 := by rw [hf]; rfl
        have hne : ¬ (s[s.size - 1].toNat : Int) = 34 := u8_ne (c := 34) hl
        have hneb : ((s[s.size - 1].toNat : Int) != 34) = true := by simpa using hne
        clear hls hf hl
        go_enter Tryz.func80, Tryz.ntmps80
        go_wp2
        go_ret2
        exact ⟨by rw [HQ.out]; rfl, Below.refl _ _⟩
    · have HQ := Lib.hid (unqL_first (l := s.data.toList) (by
        intro h
        apply hf
        have : s.data.toList[0]? = some 34 := by rw [← h, List.head?_eq_getElem?]
        rw [List.getElem?_eq_getElem (by omega)] at this
        exact Option.some.inj this))
      have hne : ¬ (s[0].toNat : Int) = 34 := u8_ne (c := 34) hf
      clear hls hf
      go_enter Tryz.func80, Tryz.ntmps80
      go_wp2
      go_ret2
      exact ⟨by rw [HQ.out]; rfl, Below.refl _ _⟩
end Go.Proofs.YtmdpfikalekmlaaGreatDoor
