/- Layer 1, the reference: GetUvarint. -/
import Derived.Test.YtmdpfikalekmlaaDoorBy
import Derived.Test.YtmdpfikalekmlaaDoorUv
namespace Go.Proofs.YtmdpfikalekmlaaDoor
open Go.RowKit
set_option maxRecDepth 100000
set_option maxHeartbeats 1000000
set_option linter.unusedSimpArgs false
set_option linter.unusedVariables false

theorem at_byteG {w : World} {B : Nat} {A : Option Addr} {n cap : Nat} {l : List UInt8} (h : RdL byteS w B (.slice A n cap) l) {k : Nat} (hk : k < l.length) :
    ∃ a x, A = some a ∧ (a.add k).block < B ∧ l[k]? = some x ∧ w.cell? (a.add k) = some (.int .u8 x.toNat) := by
  obtain ⟨a, h1, h2, h3⟩ := at_byte h hk
  exact ⟨a, l[k], h1, h2, List.getElem?_eq_getElem hk, h3⟩
theorem uvScan_getG {m : List UInt8} {j : Nat} {x : UInt8} (i : Nat) (h : m[j]? = some x) : uvScan i (m.drop j) = if i = 9 ∧ 1 < x.toNat then .bad else if 128 ≤ x.toNat then uvScan (i + 1) (m.drop (j + 1)) else if x.toNat = 0 ∧ 0 < i then .bad else .ok (i + 1) := by
  obtain ⟨h1, rfl⟩ := List.getElem?_eq_some_iff.1 h
  exact uvScan_at i h1
/-- What a reading function of the reference answers. -/
def GtRet {α : Type} (k : Nat) (val : α → Value) (zero : Value) (r : Rr α) (w : World) (e : Ending) (w' : World) : Prop :=
  w = w' ∧ match r with
    | .ok v j => e = .returned (.tuple #[val v, .int .i64 (j : Int), .int .i64 0])
    | .no i => e = .returned (.tuple #[zero, .int .i64 (k : Int), .int .i64 ((i : Int) + 1)])
theorem gtRet_ok {α : Type} {k : Nat} {val : α → Value} {zero : Value} {r : Rr α} {w : World} {v : α} {j : Nat} (hr : r = .ok v j) : GtRet k val zero r w (.returned (.tuple #[val v, .int .i64 (j : Int), .int .i64 0])) w := by
  subst hr; exact ⟨rfl, rfl⟩
theorem gtRet_no {α : Type} {k : Nat} {val : α → Value} {zero : Value} {r : Rr α} {w : World} {i : Nat} (hr : r = .no i) : GtRet k val zero r w (.returned (.tuple #[zero, .int .i64 (k : Int), .int .i64 ((i : Int) + 1)])) w := by
  subst hr; exact ⟨rfl, rfl⟩
def GvRel (m : List UInt8) (k : Nat) (nv : Value) : Prop :=
  ∃ i : Nat, i ≤ 9 ∧ k + i ≤ m.length ∧ nv = .int .i64 (i : Int) ∧ uvScan 0 (m.drop k) = uvScan i (m.drop (k + i))
/-- The value, from the last byte on. -/
def GwRel (m : List UInt8) (k n : Nat) (vv iv : Value) : Prop :=
  ∃ i : Nat, i ≤ n ∧ iv = .int .i64 ((i : Int) - 1) ∧ vv = .int .u64 (uvVal (((m.drop k).take n).drop i) : Int)
theorem uvVal_back {m : List UInt8} {k n i : Nat} {x : UInt8} (hi : i < n) (h : m[k + i]? = some x) : uvVal (((m.drop k).take n).drop i) = 128 * uvVal (((m.drop k).take n).drop (i + 1)) + x.toNat % 128 := by
  obtain ⟨h1, rfl⟩ := List.getElem?_eq_some_iff.1 h
  have hl : i < ((m.drop k).take n).length := by rw [List.length_take, List.length_drop]; omega
  rw [List.drop_eq_getElem_cons hl, uvVal_cons, List.getElem_take, List.getElem_drop]
theorem uvVal_mono (l : List UInt8) (i : Nat) : uvVal (l.drop i) ≤ uvVal l := by
  induction i generalizing l with
  | zero => exact Nat.le_refl _
  | succ i ih =>
    cases l with
    | nil => exact Nat.le_refl _
    | cons a l =>
      rw [List.drop_succ_cons, uvVal_cons]
      have := ih l
      omega
theorem guvarint_any (x : Value) (m : List UInt8) (k : Nat) (w : World) (B : Nat) (hx : RdL byteS w B x m) (hk : k ≤ m.length) (hm : m.length ≤ 10000000000) :
    Calls Tryd.prog 37 #[x, .int .i64 (k : Int)] w (GtRet k (fun v : Nat => .int .u64 (v : Int)) (.int .u64 0) (uvR m k) w) := by
  obtain ⟨A, cap, rfl, h1, h2⟩ := hx.open_
  have HX := Lib.hid hx
  clear hx
  go_enter Tryd.func37, Tryd.ntmps37
  go_wp2
  go_loop [7] (fun nv => GvRel m k nv) (fun nv => 10 - (intOf nv).toNat)
  case atStart => exact ⟨0, by omega, by omega, rfl, rfl⟩
  case round =>
    obtain ⟨i, hi, hki, rfl, hs⟩ := hrel
    have HS := Lib.hid hs
    clear hs
    by_cases hlt : k + i < m.length
    · obtain ⟨a, x, rfl, hab, hg, hc⟩ := at_byteG HX.out hlt
      have HU := Lib.hid (HS.out.trans (uvScan_getG i hg))
      have HG := Lib.hid hg
      have hxl := x.toNat_lt
      clear hg
      by_cases hbad : i = 9 ∧ 1 < x.toNat
      · have HR9 : Hid (uvR m k = .no 1) := Lib.hid (uvR_bad (by rw [HU.out, if_pos hbad]))
        obtain ⟨h9, hb1⟩ := hbad
        have h9b : ((i : Int) + 1 == 10) = true := by rw [beq_iff_eq]; omega
        have hb1' : 1 < (x.toNat : Int) := by omega
        clear h9 hb1
        go_wp2
        go_ret3
        exact gtRet_no HR9.out
      · have hnb : i = 9 → (x.toNat : Int) ≤ 1 := fun h => by
          rcases Nat.lt_or_ge 1 x.toNat with h5 | h5
          · exact absurd ⟨h, h5⟩ hbad
          · omega
        have HUn := Lib.hid (HU.out.trans (if_neg hbad))
        clear hbad
        by_cases hc128 : 128 ≤ x.toNat
        · have hc' : 128 ≤ (x.toNat : Int) := by omega
          have hi8 : i ≤ 8 := by
            rcases Nat.lt_or_ge i 9 with h | h
            · omega
            · have := hnb (by omega); omega
          have h9b : ((i : Int) + 1 == 10) = false := by rw [beq_eq_false_iff_ne]; omega
          have HC := Lib.hid hc128
          clear hnb hc128
          go_wp2
          go_round
          case rel => exact ⟨i + 1, by omega, by omega, by go_num, by rw [HUn.out, if_pos HC.out]; rfl⟩
          case measure => simp [intOf]; omega
        · have hc' : (x.toNat : Int) < 128 := by omega
          have HC := Lib.hid hc128
          clear hc128
          by_cases hz : x.toNat = 0 ∧ 0 < i
          · have HR9 : Hid (uvR m k = .no 1) := Lib.hid (uvR_bad (by rw [HUn.out, if_neg HC.out, if_pos hz]))
            obtain ⟨hz0, hz1⟩ := hz
            have hz0b : ((x.toNat : Int) == 0) = true := by rw [beq_iff_eq]; omega
            have hx1 : (x.toNat : Int) ≤ 1 := by omega
            clear hz0 hnb
            by_cases h9 : i = 9
            · have h9b : ((i : Int) + 1 == 10) = true := by rw [beq_iff_eq]; omega
              clear h9
              go_wp2
              go_ret3
              exact gtRet_no HR9.out
            · have h9b : ((i : Int) + 1 == 10) = false := by rw [beq_eq_false_iff_ne]; omega
              clear h9
              go_wp2
              go_ret3
              exact gtRet_no HR9.out
          · have HOK : Hid (uvScan 0 (m.drop k) = .ok (i + 1)) := Lib.hid (by rw [HUn.out, if_neg HC.out, if_neg hz])
            have hfit := uvVal_fits _ _ HOK.out
            have HFIT := Lib.hid hfit
            have hzz : (((x.toNat : Int) == 0) = false) ∨ (((x.toNat : Int) == 0) = true ∧ (i : Int) + 1 ≤ 1) := by
              by_cases h0 : x.toNat = 0
              · exact .inr ⟨by rw [beq_iff_eq]; omega, by
                  rcases Nat.eq_zero_or_pos i with h | h
                  · omega
                  · exact absurd ⟨h0, h⟩ hz⟩
              · exact .inl (by rw [beq_eq_false_iff_ne]; omega)
            have hb10 : (((i : Int) + 1 == 10) = false) ∨ (((i : Int) + 1 == 10) = true ∧ (x.toNat : Int) ≤ 1) := by
              by_cases h9 : i = 9
              · exact .inr ⟨by rw [beq_iff_eq]; omega, hnb h9⟩
              · exact .inl (by rw [beq_eq_false_iff_ne]; omega)
            clear hz hnb hfit
            have HR9 := Lib.hid (uvR_ok HOK.out)
            have hki1 : k + i < m.length := hlt
            rcases hzz with h0 | ⟨h0, hi0⟩ <;> rcases hb10 with hb | ⟨hb, hx1⟩
            all_goals try (exfalso; have hbb := beq_iff_eq.1 hb; omega)
            all_goals
              go_wp2
              go_loop [9, 10] (fun vv jv => GwRel m k (i + 1) vv jv) (fun _ jv => (intOf jv + 1).toNat)
              case atStart => exact ⟨i + 1, Nat.le_refl _, by go_num, by rw [List.drop_eq_nil_of_le (by rw [List.length_take]; omega)]; rfl⟩
              case round =>
                obtain ⟨j, hj, rfl, rfl⟩ := hrel
                cases j with
                | zero =>
                  go_wp2
                  go_ret3
                  rw [show (k : Int) + ((i : Int) + 1) = ((k + (i + 1) : Nat) : Int) from by omega]
                  exact gtRet_ok (val := fun v : Nat => Value.int .u64 (v : Int)) HR9.out
                | succ j =>
                  obtain ⟨a2, y, e2, hab2, hg2, hc2⟩ := at_byteG HX.out (k := k + j) (by omega)
                  cases e2
                  have hb2 := uvVal_back (n := i + 1) (by omega : j < i + 1) hg2
                  have hb3 := uvVal_mono ((m.drop k).take (i + 1)) j
                  have hb4 := HFIT.out
                  have hyl := y.toNat_lt
                  have HB2 := Lib.hid hb2
                  obtain ⟨V, hV⟩ : ∃ V, V = uvVal (((m.drop k).take (i + 1)).drop (j + 1)) := ⟨_, rfl⟩
                  rw [← hV] at hb2 ⊢
                  have hv1 : 128 * V + y.toNat % 128 < 18446744073709551616 := by omega
                  have HV := Lib.hid hV
                  rw [show (((j + 1 : Nat)) : Int) - 1 = (j : Int) from by omega]
                  clear hb2 hb3 hb4 hV hg2
                  go_wp2
                  go_round
                  case rel => exact ⟨j, by omega, by go_num, by rw [HB2.out, ← HV.out]; go_num⟩
                  case measure => simp [intOf]
    · have HR9 : Hid (uvR m k = .no 0) := Lib.hid (uvR_short (by rw [HS.out, uvScan_end i (by omega)]))
      go_wp2
      go_ret3
      exact gtRet_no HR9.out
end Go.Proofs.YtmdpfikalekmlaaDoor
