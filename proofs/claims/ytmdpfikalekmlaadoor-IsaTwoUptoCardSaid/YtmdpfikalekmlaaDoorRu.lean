/- Layer 1: the Reader's Uvarint, Upto and Text. -/
import Derived.Test.YtmdpfikalekmlaaDoorRe
import Derived.Test.YtmdpfikalekmlaaDoorUv
import Derived.Laws.Bits64b
import Derived.Laws.BitsAllLaws
namespace Go.Proofs.YtmdpfikalekmlaaDoor
open Go.RowKit
set_option maxRecDepth 100000
set_option maxHeartbeats 1000000
set_option linter.unusedSimpArgs false
set_option linter.unusedVariables false

theorem and127 (x : UInt8) : bits .and .u8 (x.toNat : Int) 127 = ((x.toNat % 128 : Nat) : Int) := by
  have h := u8_and_nat x.toNat 127 x.toNat_lt (by decide)
  rw [show ((127 : Nat) : Int) = 127 from rfl] at h
  rw [h, show (127 : Nat) = 2 ^ 7 - 1 from rfl, Nat.and_two_pow_sub_one_eq_mod]
theorem shl7 (y i : Nat) (hy : y < 128) (hi : i ≤ 9) (h9 : i = 9 → y ≤ 1) : IntKind.u64.wrap ((y : Int) * 2 ^ (7 * i)) = ((128 ^ i * y : Nat) : Int) := by
  have e : (2 : Int) ^ (7 * i) = ((128 ^ i : Nat) : Int) := by
    rw [Int.pow_mul]
    push_cast
    rfl
  have hlt : 128 ^ i * y < 18446744073709551616 := by
    rcases Nat.lt_or_ge i 9 with h | h
    · have h1 : 128 ^ i ≤ 128 ^ 8 := Nat.pow_le_pow_right (by decide) (by omega)
      have h2 : (128 : Nat) ^ 8 = 72057594037927936 := by decide
      have := Nat.mul_le_mul h1 (by omega : y ≤ 127)
      omega
    · obtain rfl : i = 9 := by omega
      have h2 : (128 : Nat) ^ 9 = 9223372036854775808 := by decide
      have := h9 rfl
      have := Nat.mul_le_mul_left (128 ^ 9) this
      omega
  rw [e, Int.mul_comm, ← Int.natCast_mul, IntKind.wrap_u64]
  omega
theorem or_add (i a y : Nat) (ha : a < 128 ^ i) : a ||| 128 ^ i * y = a + 128 ^ i * y := by
  have e : 128 ^ i = 2 ^ (7 * i) := by rw [Nat.pow_mul]
  rw [e] at ha ⊢
  rw [Nat.or_comm, ← Nat.two_pow_add_eq_or_of_lt ha, Nat.add_comm]
theorem or64 (i a y : Nat) (ha : a < 128 ^ i) (hs : a + 128 ^ i * y < 18446744073709551616) : bits .or .u64 (a : Int) ((128 ^ i * y : Nat) : Int) = ((a + 128 ^ i * y : Nat) : Int) := by
  rw [u64_or_nat a (128 ^ i * y) (by omega) (by omega), or_add i a y ha]
theorem at_byte' {w : World} {B : Nat} {A : Option Addr} {n cap : Nat} {l : List UInt8} (h : RdL byteS w B (.slice A n cap) l) {k : Nat} (hk : k < l.length) :
    ∃ a x, A = some a ∧ (a.add k).block < B ∧ l[k]? = some x ∧ w.cell? (a.add k) = some (.int .u8 x.toNat) := by
  obtain ⟨a, h1, h2, h3⟩ := at_byte h hk
  exact ⟨a, l[k], h1, h2, List.getElem?_eq_getElem hk, h3⟩
theorem uvScan_get {m : List UInt8} {j : Nat} {x : UInt8} (i : Nat) (h : m[j]? = some x) : uvScan i (m.drop j) = if i = 9 ∧ 1 < x.toNat then .bad else if 128 ≤ x.toNat then uvScan (i + 1) (m.drop (j + 1)) else if x.toNat = 0 ∧ 0 < i then .bad else .ok (i + 1) := by
  obtain ⟨h1, rfl⟩ := List.getElem?_eq_some_iff.1 h
  exact uvScan_at i h1
theorem uvVal_next {m : List UInt8} {k i : Nat} {x : UInt8} (h : m[k + i]? = some x) : uvVal ((m.drop k).take (i + 1)) = uvVal ((m.drop k).take i) + 128 ^ i * (x.toNat % 128) ∧ uvVal ((m.drop k).take i) < 128 ^ i := by
  obtain ⟨h1, rfl⟩ := List.getElem?_eq_some_iff.1 h
  have hlk : i < (m.drop k).length := by rw [List.length_drop]; omega
  refine ⟨by rw [List.take_succ_eq_append_getElem hlk, uvVal_snoc, List.length_take, Nat.min_eq_left (by omega), List.getElem_drop], ?_⟩
  have := uvVal_lt ((m.drop k).take i)
  rw [List.length_take, List.length_drop, Nat.min_eq_left (by omega)] at this
  exact this
theorem uv_fit {x V i : Nat} (hV : V < 128 ^ i) (hi : i ≤ 9) (h9 : i = 9 → x ≤ 1) : V + 128 ^ i * (x % 128) < 18446744073709551616 := by
  rcases Nat.lt_or_ge i 9 with h | h
  · have h1 : 128 ^ i ≤ 128 ^ 8 := Nat.pow_le_pow_right (by decide) (by omega)
    have h2 : (128 : Nat) ^ 8 = 72057594037927936 := by decide
    have := Nat.mul_le_mul h1 (by omega : x % 128 ≤ 127)
    omega
  · obtain rfl : i = 9 := by omega
    have h2 : (128 : Nat) ^ 9 = 9223372036854775808 := by decide
    have := h9 rfl
    have := Nat.mul_le_mul_left (128 ^ 9) (by omega : x % 128 ≤ 1)
    omega
/-- The step of the value, in numbers alone. -/
theorem uv_step {x : UInt8} {V i : Nat} (hV : V < 128 ^ i) (hi : i ≤ 9) (h9 : i = 9 → x.toNat ≤ 1) :
    ∃ y z V' : Nat, y < 128 ∧ z < 18446744073709551616 ∧ V' < 18446744073709551616 ∧ bits .and .u8 (x.toNat : Int) 127 = (y : Int) ∧ IntKind.u64.wrap ((y : Int) * 2 ^ (7 * i)) = (z : Int) ∧ bits .or .u64 (V : Int) (z : Int) = (V' : Int) ∧ V' = V + 128 ^ i * (x.toNat % 128) := by
  have hfit := uv_fit hV hi h9
  exact ⟨x.toNat % 128, 128 ^ i * (x.toNat % 128), V + 128 ^ i * (x.toNat % 128), by omega, by omega, hfit, and127 x, shl7 _ i (by omega) hi (fun h => by have := h9 h; omega), or64 i V _ hV hfit, rfl⟩
/-- Uvarint's loop. -/
def UrRel (m : List UInt8) (k g : Nat) (w : World) (vv iv : Value) (wr : World) : Prop :=
  ∃ i V : Nat, i ≤ 9 ∧ k + i ≤ m.length ∧ V = uvVal ((m.drop k).take i) ∧ vv = .int .u64 (V : Int) ∧ iv = .int .i64 (i : Int) ∧ uvScan 0 (m.drop k) = uvScan i (m.drop (k + i)) ∧ Frm g w wr ∧ RdAt wr g m k
/-- What a reading function answers. -/
def RdRet {α : Type} (ea : List Addr) (g : Nat) (m : List UInt8) (k : Nat) (val : α → Value) (zero : Value) (r : Rr α) (w : World) (e : Ending) (w' : World) : Prop :=
  Frm g w w' ∧ match r with
    | .ok v j => e = .returned (.tuple #[val v, .nilIface]) ∧ RdAt w' g m j
    | .no i => e = .returned (.tuple #[zero, errI ea i]) ∧ RdAt w' g m k
theorem rdRet_ok {α : Type} {ea : List Addr} {g : Nat} {m : List UInt8} {k : Nat} {val : α → Value} {zero : Value} {r : Rr α} {w w' : World} {v : α} {j : Nat} (hr : r = .ok v j) (hf : Frm g w w') (ha : RdAt w' g m j) : RdRet ea g m k val zero r w (.returned (.tuple #[val v, .nilIface])) w' := by
  subst hr; exact ⟨hf, rfl, ha⟩
theorem rdRet_no {α : Type} {ea : List Addr} {g : Nat} {m : List UInt8} {k : Nat} {val : α → Value} {zero : Value} {r : Rr α} {w w' : World} {i : Nat} (hr : r = .no i) (hf : Frm g w w') (ha : RdAt w' g m k) : RdRet ea g m k val zero r w (.returned (.tuple #[zero, errI ea i])) w' := by
  subst hr; exact ⟨hf, rfl, ha⟩
theorem ruvarint_any (g : Nat) (m : List UInt8) (k : Nat) (w : World) (ea : List Addr) (h : RdAt w g m k) (hE : ErrLowF w g ea) :
    Calls Tryd.prog 36 #[.pointer (some ⟨g, 0, none⟩)] w (RdRet ea g m k (fun v : Nat => .int .u64 (v : Int)) (.int .u64 0) (uvR m k) w) := by
  have hk0 : k ≤ m.length ∧ m.length ≤ 10000000000 := by obtain ⟨A, cap, _, _, h3, h4⟩ := h; exact ⟨h3, h4⟩
  obtain ⟨hkm, hml⟩ := hk0
  have HE := Lib.hid hE
  have H := Lib.hid h
  clear hE h
  go_enter Tryd.func36, Tryd.ntmps36
  go_wp2
  go_loopw [4, 5] (fun vv iv wr => UrRel m k g w vv iv wr) (fun _ iv _ => 10 - (intOf iv).toNat)
  case atStart => exact ⟨0, 0, by omega, by omega, rfl, rfl, rfl, rfl, Frm.refl _ _, H.out⟩
  case round =>
    obtain ⟨i, V, hi, hki, hV, rfl, rfl, hs, hf, hr⟩ := hrel
    have HV := Lib.hid hV
    have HS := Lib.hid hs
    have HF := Lib.hid hf
    have HR := Lib.hid hr
    clear hs hf hr hV
    go_wp2_with fail
    refine (left_any g m k _ HR.out).mono ?_
    rintro e w1 ⟨rfl, hf1, hr1⟩
    have HF1 := Lib.hid (HF.out.trans hf1)
    have HR1 := Lib.hid hr1
    obtain ⟨A, cap, h1, h2, h3, h4⟩ := hr1
    have c0 : w1.cell? ⟨g, 0, none⟩ = some (.int .i64 (k : Int)) := h1.cell 0
    have c2 : w1.cell? ⟨g, 2, none⟩ = some (.slice A m.length cap) := h1.cell 2
    have hfz := h1.frozen 0
    have HB1 := Lib.hid h1
    have H2 := Lib.hid h2
    have cE0 : w1.cell? ⟨1, 0, none⟩ = some (errI ea 0) := (HE.out.below HF1.out.below).cell 0 (by decide)
    have cE1 : w1.cell? ⟨2, 0, none⟩ = some (errI ea 1) := (HE.out.below HF1.out.below).cell 1 (by decide)
    clear h2 hf1 h1
    obtain ⟨d, hd⟩ : ∃ d, d = m.length - k := ⟨_, rfl⟩
    rw [← hd]
    by_cases hlt : k + i < m.length
    · obtain ⟨a, x, rfl, hab, hg, hx⟩ := at_byte' H2.out hlt
      have HU := Lib.hid (uvScan_get i hg)
      have hxl := x.toNat_lt
      have hid : i < d := by omega
      have HD := Lib.hid hd
      obtain ⟨hvs, hvl⟩ := uvVal_next hg
      rw [← HV.out] at hvs hvl
      have HVS := Lib.hid hvs
      clear hd hvs hg
      by_cases hbad : i = 9 ∧ 1 < x.toNat
      · have HR9 : Hid (uvR m k = .no 1) := Lib.hid (uvR_bad (by rw [HS.out, HU.out, if_pos hbad]))
        obtain ⟨h9, hb1⟩ := hbad
        have h9b : ((i : Int) == 9) = true := by rw [beq_iff_eq]; omega
        have hb1' : 1 < (x.toNat : Int) := by omega
        clear hvl h9 hb1
        go_wp2
        go_region
        go_wp2
        go_region
        go_wp2
        go_ret2
        exact rdRet_no HR9.out HF1.out.drew.drew HR1.out.drew.drew
      · have hnb : i = 9 → x.toNat ≤ 1 := fun h => by
          rcases Nat.lt_or_ge 1 x.toNat with h5 | h5
          · exact absurd ⟨h, h5⟩ hbad
          · exact h5
        have HUn := Lib.hid (HU.out.trans (if_neg hbad))
        obtain ⟨y, z, V', hy, hz, hV', ha, hsh, hor, hVV⟩ := uv_step hvl hi hnb
        have HVV := Lib.hid hVV
        have hk9 : i = 9 → (x.toNat : Int) ≤ 1 := fun h => by have := hnb h; omega
        clear hvl hVV hbad hnb
        by_cases hi9 : i = 9
        · have hx1 : (x.toNat : Int) ≤ 1 := hk9 hi9
          have hI9 := Lib.hid hi9
          have h9b : ((i : Int) == 9) = true := by rw [beq_iff_eq]; omega
          clear hk9 hi9
          by_cases hx0 : x.toNat = 0
          · have HE9 : Hid (uvR m k = .no 1) := Lib.hid (uvR_bad (by rw [HS.out, HUn.out, if_neg (by omega), if_pos ⟨hx0, by have := hI9.out; omega⟩]))
            have hx0b : ((x.toNat : Int) == 0) = true := by rw [beq_iff_eq]; omega
            have hi0 : 0 < i := by have := hI9.out; omega
            clear hx0
            go_wp2
            go_region
            go_wp2
            go_region
            go_wp2
            go_ret2
            exact rdRet_no HE9.out HF1.out.drew.drew HR1.out.drew.drew
          · have HE9 : Hid (uvR m k = .ok V' (k + i + 1)) := Lib.hid (by
              rw [uvR_ok (n := i + 1) (by rw [HS.out, HUn.out, if_neg (by omega), if_neg (fun h => hx0 h.1)]), HVS.out, HVV.out]; rfl)
            have hx0b : ((x.toNat : Int) == 0) = false := by rw [beq_eq_false_iff_ne]; omega
            clear hx0
            go_wp2
            go_region
            go_wp2
            go_ret2
            have hset := HR1.out.drew.set_ (k + i + 1) (by omega)
            rw [show ((k + i + 1 : Nat) : Int) = (k : Int) + ((i : Int) + 1) from by omega] at hset
            exact rdRet_ok HE9.out (HF1.out.drew.set_ 0 _) hset
        · have h9b : ((i : Int) == 9) = false := by rw [beq_eq_false_iff_ne]; omega
          have hi8 : i ≤ 8 := by omega
          have HS1 := Lib.hid (HS.out.trans HUn.out)
          clear hk9 hi9
          by_cases hc : 128 ≤ x.toNat
          · have HC := Lib.hid hc
            have hc' : 128 ≤ (x.toNat : Int) := by omega
            clear hc
            go_wp2
            go_region
            go_wp2
            go_roundw
            case rel => exact ⟨i + 1, V', by omega, by omega, by rw [HVS.out, HVV.out], rfl, by go_num, by rw [HS1.out, if_pos HC.out]; rfl, HF1.out.drew, HR1.out.drew⟩
            case measure => simp [intOf]; omega
          · have HC := Lib.hid hc
            have hc' : (x.toNat : Int) < 128 := by omega
            clear hc
            by_cases hx0 : x.toNat = 0
            · have hx0b : ((x.toNat : Int) == 0) = true := by rw [beq_iff_eq]; omega
              by_cases hi0 : 0 < i
              · have HE9 : Hid (uvR m k = .no 1) := Lib.hid (uvR_bad (by rw [HS1.out, if_neg HC.out, if_pos ⟨hx0, hi0⟩]))
                clear hx0
                go_wp2
                go_region
                go_wp2
                go_region
                go_wp2
                go_ret2
                exact rdRet_no HE9.out HF1.out.drew.drew HR1.out.drew.drew
              · have HE9 : Hid (uvR m k = .ok V' (k + i + 1)) := Lib.hid (by
                  rw [uvR_ok (n := i + 1) (by rw [HS1.out, if_neg HC.out, if_neg (fun h => hi0 h.2)]), HVS.out, HVV.out]; rfl)
                clear hx0
                go_wp2
                go_region
                go_wp2
                go_ret2
                have hset := HR1.out.drew.set_ (k + i + 1) (by omega)
                rw [show ((k + i + 1 : Nat) : Int) = (k : Int) + ((i : Int) + 1) from by omega] at hset
                exact rdRet_ok HE9.out (HF1.out.drew.set_ 0 _) hset
            · have HE9 : Hid (uvR m k = .ok V' (k + i + 1)) := Lib.hid (by
                rw [uvR_ok (n := i + 1) (by rw [HS1.out, if_neg HC.out, if_neg (fun h => hx0 h.1)]), HVS.out, HVV.out]; rfl)
              have hx0b : ((x.toNat : Int) == 0) = false := by rw [beq_eq_false_iff_ne]; omega
              clear hx0
              go_wp2
              go_region
              go_wp2
              go_ret2
              have hset := HR1.out.drew.set_ (k + i + 1) (by omega)
              rw [show ((k + i + 1 : Nat) : Int) = (k : Int) + ((i : Int) + 1) from by omega] at hset
              exact rdRet_ok HE9.out (HF1.out.drew.set_ 0 _) hset
    · have HE9 : Hid (uvR m k = .no 0) := Lib.hid (uvR_short (by rw [HS.out, uvScan_end i (by omega)]))
      have hid : d ≤ i := by omega
      clear hd
      go_wp2
      go_region
      go_wp2
      go_ret2
      exact rdRet_no HE9.out HF1.out.drew HR1.out.drew
end Go.Proofs.YtmdpfikalekmlaaDoor
