/- The reference's scan: its small functions. -/
import Derived.Test.YtlgcofinmpckkaaDoorZp
import Derived.Test.YtlgcofinmpckkaaDoorRd
import Derived.Test.YtlgcofinmpckkaaDoorLsg
import Derived.Test.YtlgcofinmpckkaaDoorSn
namespace Go.Proofs.YtlgcofinmpckkaaDoor
open Go.RowKit
set_option maxRecDepth 100000
set_option maxHeartbeats 4000000
set_option linter.unusedSimpArgs false
set_option linter.unusedVariables false

theorem at_sg {w : World} {B : Nat} {A : Option Addr} {n cap : Nat} {l : List Sg} (h : RdL sgShape w B (.slice A n cap) l) {k : Nat} {x : Sg} (hx : l[k]? = some x) :
    ∃ a, A = some a ∧ (a.add (k * 4)).block < B ∧ w.cell? (a.add (k * 4)) = some (.int .u8 x.c.toNat) ∧ w.cell? ⟨(a.add (k * 4)).block, (a.add (k * 4)).off + 1, none⟩ = some (.bool x.letter) ∧ w.cell? ⟨(a.add (k * 4)).block, (a.add (k * 4)).off + 2, none⟩ = some (.int .i64 (x.place : Int)) ∧ w.cell? ⟨(a.add (k * 4)).block, (a.add (k * 4)).off + 3, none⟩ = some (.int .i64 (x.size : Int)) := by
  obtain ⟨hk, rfl⟩ := List.getElem?_eq_some_iff.1 hx
  obtain ⟨a, rfl, hb, h0, h⟩ := h.at2 sgOk hk
  exact ⟨a, rfl, hb, h0 _ rfl, h 0 _ (by decide) rfl, h 1 _ (by decide) rfl, h 2 _ (by decide) rfl⟩
def plainS (s : List Sg) (i : Nat) (c : UInt8) : Bool := match s[i]? with
  | none => false
  | some x => !x.letter && (x.c == c)
theorem plain_any (sv : Value) (s : List Sg) (i : Nat) (c : UInt8) (w : World) (B : Nat) (h : RdL sgShape w B sv s) (hs : s.length ≤ 10000000) (hi : i ≤ 10000001) :
    Calls Tryd.prog 44 #[sv, .int .i64 (i : Int), .int .u8 c.toNat] w fun e w' => w = w' ∧ e = .returned (.bool (plainS s i c)) := by
  obtain ⟨A, cap, rfl, h1, h2⟩ := h.open_
  cases hx : s[i]? with
  | none =>
    have hp : plainS s i c = false := by unfold plainS; rw [hx]
    have hge : s.length ≤ i := List.getElem?_eq_none_iff.1 hx
    rw [hp]
    clear hp hx
    go_enter Tryd.func44, Tryd.ntmps44
    go_wp2
    go_ret
    exact ⟨rfl, rfl⟩
  | some x =>
    have hp : plainS s i c = (!x.letter && (x.c == c)) := by unfold plainS; rw [hx]
    have hlt : i < s.length := (List.getElem?_eq_some_iff.1 hx).1
    obtain ⟨a, rfl, hb, c0, c1, c2, c3⟩ := at_sg h hx
    rw [hp]
    have hq := byte_beq x.c c
    have hxl := u8_lt x.c
    clear hp hx h
    cases hl : x.letter with
    | true =>
      rw [hl] at c1
      clear hl
      go_enter Tryd.func44, Tryd.ntmps44
      go_wp2
      go_ret
      exact ⟨rfl, rfl⟩
    | false =>
      rw [hl] at c1
      clear hl
      cases hc : x.c == c with
      | true =>
        rw [hc] at hq
        clear hc
        go_enter Tryd.func44, Tryd.ntmps44
        go_wp2
        go_ret
        exact ⟨rfl, rfl⟩
      | false =>
        rw [hc] at hq
        clear hc
        go_enter Tryd.func44, Tryd.ntmps44
        go_wp2
        go_ret
        exact ⟨rfl, rfl⟩
theorem digit_any (c : UInt8) (w : World) : Calls Tryd.prog 46 #[.int .u8 c.toNat] w fun e w' => w = w' ∧ e = .returned (.bool (isDg c)) := by
  have hl := u8_lt c
  unfold isDg
  by_cases h1 : 48 ≤ c.toNat
  · by_cases h2 : c.toNat ≤ 57
    · rw [decide_eq_true (show 48 ≤ c.toNat ∧ c.toNat ≤ 57 from ⟨h1, h2⟩)]
      have h1' : 48 ≤ (c.toNat : Int) := by omega
      have h2' : (c.toNat : Int) ≤ 57 := by omega
      have h3' : decide ((c.toNat : Int) ≤ 57) = true := decide_eq_true h2'
      clear h1 h2
      go_enter Tryd.func46, Tryd.ntmps46
      go_wp2
      go_ret
      exact ⟨rfl, rfl⟩
    · rw [decide_eq_false (fun h : 48 ≤ c.toNat ∧ c.toNat ≤ 57 => h2 h.2)]
      have h1' : 48 ≤ (c.toNat : Int) := by omega
      have h2' : 57 < (c.toNat : Int) := by omega
      have h3' : decide ((c.toNat : Int) ≤ 57) = false := decide_eq_false (by omega)
      clear h1 h2
      go_enter Tryd.func46, Tryd.ntmps46
      go_wp2
      go_ret
      exact ⟨rfl, rfl⟩
  · rw [decide_eq_false (fun h : 48 ≤ c.toNat ∧ c.toNat ≤ 57 => h1 h.1)]
    have h1' : (c.toNat : Int) < 48 := by omega
    clear h1
    go_enter Tryd.func46, Tryd.ntmps46
    go_wp2
    go_ret
    exact ⟨rfl, rfl⟩
/-- number's loop. -/
def NsRel (s : List Sg) (i : Nat) (iv nv : Value) : Prop :=
  ∃ (j : Nat) (pre : List Sg) (n : Int), i + j ≤ s.length ∧ pre.length = j ∧ dgS (s.drop i) = pre ++ dgS (s.drop (i + j)) ∧ iv = .int .i64 ((i + j : Nat) : Int) ∧ nv = .int .i64 n ∧ n = (if j = 0 then -1 else (capS pre : Int)) ∧ capS pre ≤ 1099511627776
theorem capS_snoc (l : List Sg) (x : Sg) : capS (l ++ [x]) = min (10 * capS l + (x.c.toNat - 48)) 1099511627776 := by unfold capS; simp
theorem dg_end {a b p : List Sg} (h : a = p ++ b) (h2 : b = []) : a = p := by rw [h, h2, List.append_nil]
theorem numberS_any (sv : Value) (s : List Sg) (i : Nat) (w : World) (B : Nat) (h : RdL sgShape w B sv s) (hs : s.length ≤ 10000000) (hi : i ≤ s.length) :
    Calls Tryd.prog 43 #[sv, .int .i64 (i : Int)] w fun e w' => w = w' ∧ e = .returned (.tuple #[.int .i64 (numS (s.drop i)), .int .i64 ((i + (dgS (s.drop i)).length : Nat) : Int)]) := by
  obtain ⟨A, cap, rfl, h1, h2⟩ := h.open_
  have H := Lib.hid h
  clear h
  go_enter Tryd.func43, Tryd.ntmps43
  go_wp2
  go_loop [1, 6] (fun iv nv => NsRel s i iv nv) (fun iv _ => s.length - (intOf iv).toNat)
  case atStart => exact ⟨0, [], -1, by omega, rfl, rfl, rfl, rfl, rfl, by decide⟩
  case round =>
    obtain ⟨j, pre, n, hj, hpl, hdg, rfl, rfl, hn, hcap⟩ := hrel
    have HDG := Lib.hid hdg
    have HN := Lib.hid hn
    have HPL := Lib.hid hpl
    have hnb : -1 ≤ n ∧ n ≤ 1099511627776 := by rw [hn]; split <;> omega
    clear hdg hn hpl
    have finish : dgS (s.drop (i + j)) = [] → numS (s.drop i) = (if 999999999 < n then -1 else n) ∧ (dgS (s.drop i)).length = j := by
      intro he
      have e := dg_end HDG.out he
      have hl : (dgS (s.drop i)).length = j := by rw [e]; exact HPL.out
      refine ⟨?_, hl⟩
      unfold numS
      rw [hl, e, HN.out]
      by_cases hj0 : j = 0
      · rw [if_pos hj0, if_pos hj0, if_neg (by omega)]
      · rw [if_neg hj0, if_neg hj0]
        by_cases hc : 999999999 < capS pre
        · rw [if_pos hc, if_pos (by omega)]
        · rw [if_neg hc, if_neg (by omega)]
    have FIN := Lib.hid finish
    clear finish
    cases hx : s[i + j]? with
    | none =>
      have hge : s.length ≤ i + j := List.getElem?_eq_none_iff.1 hx
      have F := Lib.hid (FIN.out (by rw [List.drop_eq_nil_of_le hge]; rfl))
      clear hx
      by_cases hbig : 999999999 < n
      · have HBG := Lib.hid hbig
        go_wp2
        go_ret2
        refine ⟨rfl, ?_⟩; rw [F.out.1, F.out.2, if_pos (by omega)]; first | rfl | simp
      · have HBG := Lib.hid hbig
        have hbig2 : n ≤ 999999999 := by omega
        go_wp2
        go_ret2
        refine ⟨rfl, ?_⟩; rw [F.out.1, F.out.2, if_neg (by omega)]; first | rfl | simp
    | some x =>
      have hlt : i + j < s.length := (List.getElem?_eq_some_iff.1 hx).1
      have hdr : s.drop (i + j) = x :: s.drop (i + j + 1) := by
        obtain ⟨h3, rfl⟩ := List.getElem?_eq_some_iff.1 hx
        exact List.drop_eq_getElem_cons h3
      obtain ⟨a, rfl, hb, c0, c1, c2, c3⟩ := at_sg H.out hx
      have HDR := Lib.hid hdr
      have hxl := u8_lt x.c
      clear hx hdr
      cases hl : x.letter with
      | true =>
        rw [hl] at c1
        have F := Lib.hid (FIN.out (by rw [HDR.out]; unfold dgS; rw [List.takeWhile_cons, hl]; rfl))
        clear hl
        by_cases hbig : 999999999 < n
        · have HBG := Lib.hid hbig
          go_wp2
          go_ret2
          refine ⟨rfl, ?_⟩; rw [F.out.1, F.out.2, if_pos (by omega)]; first | rfl | simp
        · have HBG := Lib.hid hbig
          have hbig2 : n ≤ 999999999 := by omega
          go_wp2
          go_ret2
          refine ⟨rfl, ?_⟩; rw [F.out.1, F.out.2, if_neg (by omega)]; first | rfl | simp
      | false =>
        rw [hl] at c1
        cases hd : isDg x.c with
        | false =>
          have F := Lib.hid (FIN.out (by rw [HDR.out]; unfold dgS; rw [List.takeWhile_cons, hl, hd]; rfl))
          clear hl
          have HD := Lib.hid hd
          clear hd
          by_cases hbig : 999999999 < n
          · have HBG := Lib.hid hbig
            go_wp2_with fail
            refine (digit_any x.c w).mono ?_
            rintro e w1 ⟨rfl, rfl⟩
            rw [HD.out]
            go_wp2
            go_ret2
            refine ⟨rfl, ?_⟩; rw [F.out.1, F.out.2, if_pos (by omega)]; first | rfl | simp
          · have HBG := Lib.hid hbig
            have hbig2 : n ≤ 999999999 := by omega
            go_wp2_with fail
            refine (digit_any x.c w).mono ?_
            rintro e w1 ⟨rfl, rfl⟩
            rw [HD.out]
            go_wp2
            go_ret2
            refine ⟨rfl, ?_⟩; rw [F.out.1, F.out.2, if_neg (by omega)]; first | rfl | simp
        | true =>
          have hd2 := of_decide_eq_true hd
          have HST : Hid (dgS (s.drop (i + j)) = x :: dgS (s.drop (i + (j + 1)))) := Lib.hid (by rw [HDR.out]; unfold dgS; rw [List.takeWhile_cons, hl, hd]; rfl)
          have HD := Lib.hid hd
          clear hd hl
          have hsub : (x.c.toNat : Int) - 48 = ((x.c.toNat - 48 : Nat) : Int) := by omega
          go_wp2_with fail
          refine (digit_any x.c w).mono ?_
          rintro e w1 ⟨rfl, rfl⟩
          rw [HD.out]
          have HC := Lib.hid (capS_snoc pre x)
          by_cases hj0 : j = 0
          · have hn0 : n < 0 := by rw [HN.out, if_pos hj0]; decide
            have hp0 : pre = [] := List.eq_nil_of_length_eq_zero (by rw [HPL.out, hj0])
            have hcp : capS (pre ++ [x]) = x.c.toNat - 48 := by rw [HC.out, hp0]; show min (10 * 0 + _) _ = _; omega
            have HCP := Lib.hid hcp
            have HJ0 := Lib.hid hj0
            clear hp0 hcp hj0
            go_wp2
            go_round
            case measure => simp [intOf]; omega
            case rel => exact ⟨j + 1, pre ++ [x], _, by omega, by rw [List.length_append, HPL.out]; rfl, by rw [HDG.out, HST.out, List.append_assoc]; rfl, by go_num, rfl, by rw [if_neg (by omega), HCP.out], by rw [HCP.out]; omega⟩
          · have hn0 : 0 ≤ n := by rw [HN.out, if_neg hj0]; omega
            obtain ⟨n0, rfl⟩ : ∃ n0 : Nat, n = (n0 : Int) := ⟨n.toNat, by omega⟩
            have HNN : Hid (n0 = capS pre) := Lib.hid (by have := HN.out; rw [if_neg hj0] at this; omega)
            have HJ0 := Lib.hid hj0
            clear hj0
            by_cases hmx : 10 * n0 + (x.c.toNat - 48) ≤ 1099511627776
            · have hmx' : 10 * (n0 : Int) + ((x.c.toNat - 48 : Nat) : Int) ≤ 1099511627776 := by omega
              have HMX := Lib.hid hmx
              clear hmx
              go_wp2
              go_round
              case measure => simp [intOf]; omega
              case rel => exact ⟨j + 1, pre ++ [x], _, by omega, by rw [List.length_append, HPL.out]; rfl, by rw [HDG.out, HST.out, List.append_assoc]; rfl, by go_num, rfl, by rw [if_neg (by omega), HC.out, ← HNN.out]; have := HMX.out; omega, by rw [HC.out]; omega⟩
            · have hmx' : 1099511627776 < 10 * (n0 : Int) + ((x.c.toNat - 48 : Nat) : Int) := by omega
              have HMX := Lib.hid hmx
              clear hmx
              go_wp2
              go_round
              case measure => simp [intOf]; omega
              case rel => exact ⟨j + 1, pre ++ [x], _, by omega, by rw [List.length_append, HPL.out]; rfl, by rw [HDG.out, HST.out, List.append_assoc]; rfl, by go_num, rfl, by rw [if_neg (by omega), HC.out, ← HNN.out]; have := HMX.out; omega, by rw [HC.out]; omega⟩
end Go.Proofs.YtlgcofinmpckkaaDoor
