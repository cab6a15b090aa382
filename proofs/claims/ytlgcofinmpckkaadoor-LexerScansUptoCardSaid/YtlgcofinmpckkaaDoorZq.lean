/- The reference's scan: quoted and keyword. -/
import Derived.Test.YtlgcofinmpckkaaDoorZw
namespace Go.Proofs.YtlgcofinmpckkaaDoor
open Go.RowKit
set_option maxRecDepth 100000
set_option maxHeartbeats 4000000
set_option linter.unusedSimpArgs false
set_option linter.unusedVariables false

theorem ownB_formZ {w : World} {B : Nat} {v : Value} {l : List UInt8} (h : OwnB w B v l) : ∃ A n c, v = .slice A n c := by
  rcases h.2 with ⟨rfl, h0⟩ | ⟨g, cap, cur, rfl, _⟩
  · exact ⟨_, _, _, rfl⟩
  · exact ⟨_, _, _, rfl⟩
theorem qS_cons (x : Sg) (r : List Sg) : qS (x :: r) = if x.letter = false ∧ x.c = 34 then some ([], 1) else if x.letter = false ∧ x.c = 92 then none else (qS r).map fun y => (x.c :: y.1, y.2 + 1) := rfl
theorem drop_get {s : List Sg} {k : Nat} {x : Sg} (hx : s[k]? = some x) : s.drop k = x :: s.drop (k + 1) := by
  obtain ⟨h3, rfl⟩ := List.getElem?_eq_some_iff.1 hx
  exact List.drop_eq_getElem_cons h3
theorem plainS_some {s : List Sg} {k : Nat} {x : Sg} (c : UInt8) (hx : s[k]? = some x) : plainS s k c = decide (x.letter = false ∧ x.c = c) := by
  unfold plainS; rw [hx, Bool.eq_iff_iff]; simp
def QsRet (r : Option (List UInt8 × Nat)) (i : Nat) (w : World) (e : Ending) (w' : World) : Prop :=
  Below w.heap.size w w' ∧ e = .returned (match r with | none => .tuple #[.string ⟨#[]⟩, .int .i64 (-1)] | some y => .tuple #[.string (str y.1), .int .i64 ((i + y.2 : Nat) : Int)])
theorem qsRet_none {r : Option (List UInt8 × Nat)} {i : Nat} {w w' : World} (h : r = none) (hb : Below w.heap.size w w') : QsRet r i w (.returned (.tuple #[.string ⟨#[]⟩, .int .i64 (-1)])) w' := by subst h; exact ⟨hb, rfl⟩
theorem qsRet_some {r : Option (List UInt8 × Nat)} {i k : Nat} {T : List UInt8} {w w' : World} {n : Int} (h : r = some (T, k)) (hn : n = ((i + k : Nat) : Int)) (hb : Below w.heap.size w w') : QsRet r i w (.returned (.tuple #[.string (str T), .int .i64 n])) w' := by subst h; subst hn; exact ⟨hb, rfl⟩
def QsRel (s : List Sg) (i : Nat) (w : World) (iv bv : Value) (wr : World) : Prop :=
  ∃ (j : Nat) (T : List UInt8), i + j ≤ s.length ∧ iv = .int .i64 ((i + j : Nat) : Int) ∧ OwnB wr w.heap.size bv T ∧ T.length = j ∧ qS (s.drop i) = (qS (s.drop (i + j))).map (fun y => (T ++ y.1, j + y.2)) ∧ Below w.heap.size w wr
theorem quotedS_any (sv : Value) (s : List Sg) (i : Nat) (w : World) (B : Nat) (hB : B ≤ w.heap.size) (h : RdL sgShape w B sv s) (hs : s.length ≤ 10000000) (hi : i ≤ s.length) :
    Calls Tryd.prog 41 #[sv, .int .i64 (i : Int)] w (QsRet (qS (s.drop i)) i w) := by
  obtain ⟨A, cap, rfl, h1, h2⟩ := h.open_
  have H := Lib.hid h
  clear h
  go_enter Tryd.func41, Tryd.ntmps41
  go_wp2
  go_loopw [1, 6] (fun iv bv wr => QsRel s i w iv bv wr) (fun iv _ _ => s.length - (intOf iv).toNat)
  case atStart => exact ⟨0, [], by omega, rfl, OwnB.lit0 _ (Nat.le_refl _), rfl, by simp, (Below.refl _ _).alloc (Nat.le_refl _) _⟩
  case round =>
    obtain ⟨j, T, hj, rfl, ho, hT, hq, hbl⟩ := hrel
    have HO := Lib.hid ho
    have HQ := Lib.hid hq
    have HB := Lib.hid hbl
    have HTL := Lib.hid hT
    have hsz : w.heap.size ≤ wr.heap.size := hbl.size
    have HR := Lib.hid (H.out.belowW hB hbl)
    have hTl : T.length ≤ 10000000 := by omega
    obtain ⟨bA, bn, bc, rfl⟩ := ownB_formZ ho
    clear ho hq hbl hT
    cases hx : s[i + j]? with
    | none =>
      have hge : s.length ≤ i + j := List.getElem?_eq_none_iff.1 hx
      have HN : Hid (qS (s.drop i) = none) := Lib.hid (by rw [HQ.out, List.drop_eq_nil_of_le hge]; rfl)
      clear hx
      go_wp2
      go_ret2
      exact qsRet_none HN.out HB.out
    | some x =>
      have hlt : i + j < s.length := (List.getElem?_eq_some_iff.1 hx).1
      obtain ⟨a, rfl, hb, c0, c1, c2, c3⟩ := at_sg HR.out hx
      have HDR := Lib.hid (drop_get hx)
      have HP34 := Lib.hid (plainS_some 34 hx)
      have HP92 := Lib.hid (plainS_some 92 hx)
      have hxl := u8_lt x.c
      have hab : (a.add ((i + j) * 4)).block < wr.heap.size := by omega
      clear hx
      go_wp2_with fail
      refine (plain_any (.slice (some a) s.length cap) s (i + j) 34 wr B HR.out hs (by omega)).mono ?_
      rintro e w1 ⟨rfl, rfl⟩
      rw [HP34.out]
      by_cases h34 : x.letter = false ∧ x.c = 34
      · have HN : Hid (qS (s.drop i) = some (T, j + 1)) := Lib.hid (by rw [HQ.out, HDR.out, qS_cons, if_pos h34]; simp)
        rw [decide_eq_true h34]
        have hcv := HO.out.conv
        clear h34
        go_wp2
        go_ret2
        exact qsRet_some HN.out (by go_num) HB.out
      · rw [decide_eq_false h34]
        have H34 := Lib.hid h34
        clear h34
        go_wp2_with fail
        refine (plain_any (.slice (some a) s.length cap) s (i + j) 92 wr B HR.out hs (by omega)).mono ?_
        rintro e w1 ⟨rfl, rfl⟩
        rw [HP92.out]
        by_cases h92 : x.letter = false ∧ x.c = 92
        · have HN : Hid (qS (s.drop i) = none) := Lib.hid (by rw [HQ.out, HDR.out, qS_cons, if_neg H34.out, if_pos h92]; rfl)
          rw [decide_eq_true h92]
          clear h92
          go_wp2
          go_ret2
          exact qsRet_none HN.out HB.out
        · have HN : Hid (qS (s.drop i) = (qS (s.drop (i + (j + 1)))).map (fun y => ((T ++ [x.c]) ++ y.1, (j + 1) + y.2))) := Lib.hid (by
            rw [HQ.out, HDR.out, qS_cons, if_neg H34.out, if_neg h92, Option.map_map]
            congr 1
            funext y
            simp [Nat.add_comm, Nat.add_left_comm])
          rw [decide_eq_false h92]
          clear h92
          go_wp2_with (at_builtin; refine OwnB.appendAt HO.out _ _ rfl _ _ rfl rfl rfl ?_ ?_ ?_ hsz ?_ ?_)
          all_goals first | omega | exact (World.size_alloc ..).symm | skip
          intro v5 w5 ho5 hb5 hk5
          have HO5 := Lib.hid ho5
          have HB5 := Lib.hid hb5
          clear ho5 hb5 hk5
          go_wp2
          go_roundw
          case measure => simp [intOf]; omega
          case rel => exact ⟨j + 1, T ++ [x.c], by omega, by go_num, by have h := HO5.out; simpa using h, by simp [HTL.out], HN.out, HB.out.trans HB5.out⟩
/-- keyword's loop. -/
def KwRel (ds : List Sg) (w : World) (bv iv : Value) (wr : World) : Prop :=
  ∃ k : Nat, k ≤ ds.length ∧ iv = .int .i64 (k : Int) ∧ OwnB wr w.heap.size bv ((ds.take k).map (·.c)) ∧ (ds.take k).any (·.letter) = false ∧ Below w.heap.size w wr
theorem keywordS_any (kv : Value) (ds : List Sg) (w : World) (B : Nat) (hB : B ≤ w.heap.size) (h : RdL sgShape w B kv ds) (hs : ds.length ≤ 10000000) :
    Calls Tryd.prog 45 #[kv] w fun e w' => Below w.heap.size w w' ∧ e = .returned (.int .i64 (if kwS ds = 1 then -1 else kwS ds)) := by
  obtain ⟨A, cap, rfl, h1, h2⟩ := h.open_
  have H := Lib.hid h
  clear h
  obtain ⟨K, hK⟩ : ∃ K, K = (if kwS ds = 1 then (-1 : Int) else kwS ds) := ⟨_, rfl⟩
  rw [← hK]
  have HK := Lib.hid hK
  clear hK
  go_enter Tryd.func45, Tryd.ntmps45
  go_wp2
  go_loopw [3, 9] (fun bv iv wr => KwRel ds w bv iv wr) (fun _ iv _ => ds.length - (intOf iv).toNat)
  case atStart => exact ⟨0, Nat.zero_le _, rfl, OwnB.lit0 _ (Nat.le_refl _), rfl, (Below.refl _ _).alloc (Nat.le_refl _) _⟩
  case round =>
    obtain ⟨k, hk, rfl, ho, hal, hbl⟩ := hrel
    have HO := Lib.hid ho
    have HAL := Lib.hid hal
    have HB := Lib.hid hbl
    have hsz : w.heap.size ≤ wr.heap.size := hbl.size
    have HR := Lib.hid (H.out.belowW hB hbl)
    have hll : ((ds.take k).map (·.c)).length ≤ 10000000 := by rw [List.length_map, List.length_take]; omega
    obtain ⟨bA, bn, bc, rfl⟩ := ownB_formZ ho
    clear ho hal hbl
    by_cases hlt : k < ds.length
    · obtain ⟨a, rfl, hb, c0, c1, c2, c3⟩ := at_sg HR.out (List.getElem?_eq_getElem hlt)
      have hab : (a.add (k * 4)).block < wr.heap.size := by omega
      have HTK : Hid (ds.take (k + 1) = ds.take k ++ [ds[k]]) := Lib.hid (List.take_succ_eq_append_getElem hlt)
      have HMEM := Lib.hid (List.getElem_mem hlt)
      generalize ds[k] = x at *
      have hxl := u8_lt x.c
      cases hl : x.letter with
      | true =>
        rw [hl] at c1
        have HKK : Hid (K = -1) := Lib.hid (by
          have : kwS ds = 1 := by unfold kwS; rw [if_pos (List.any_eq_true.2 ⟨x, HMEM.out, hl⟩)]
          rw [HK.out, if_pos this])
        clear hl
        go_wp2
        go_ret
        exact ⟨HB.out.alloc hsz _, by have e := HKK.out; subst e; rfl⟩
      | false =>
        rw [hl] at c1
        have HL := Lib.hid hl
        have HOa := Lib.hid (HO.out.alloc (.cells #[.int .u8 x.c.toNat, .bool false, .int .i64 (x.place : Int), .int .i64 (x.size : Int)] 52))
        have hsa : w.heap.size ≤ wr.heap.size + 1 := by omega
        clear hl
        go_wp2_with (at_builtin; refine OwnB.appendAt HOa.out _ _ rfl _ _ rfl rfl rfl ?_ ?_ ?_ ?_ ?_ ?_)
        all_goals first | omega | exact (World.size_alloc ..).symm | (rw [World.size_alloc]; omega) | skip
        intro v5 w5 ho5 hb5 hk5
        have HO5 := Lib.hid ho5
        have HB5 := Lib.hid hb5
        clear ho5 hb5 hk5
        go_wp2
        go_roundw
        case measure => simp [intOf]; omega
        case rel => exact ⟨k + 1, hlt, by go_num, by rw [HTK.out, List.map_append]; have h := HO5.out; simpa using h, by rw [HTK.out, List.any_append, HAL.out]; simp [HL.out], (HB.out.alloc hsz _).trans HB5.out⟩
    · have HTK : Hid (ds.take k = ds) := Lib.hid (List.take_of_length_le (by omega))
      have hcv := HO.out.conv
      have HKS : Hid (kwS ds = kwd (ds.map (·.c))) := Lib.hid (by
        have h := HAL.out
        rw [HTK.out] at h
        unfold kwS; rw [if_neg (by rw [h]; decide)])
      obtain ⟨q1, q2, q3, q4⟩ := kwd_toList (str ((ds.take k).map (·.c)))
      rw [str_data, HTK.out] at q1 q2 q3 q4
      rw [HTK.out] at hcv
      generalize ds.map (·.c) = M at *
      by_cases e1 : M = [65, 78, 68]
      · have HKK : Hid (K = 4) := Lib.hid (by rw [HK.out, HKS.out, e1]; rfl)
        rw [decide_eq_true e1] at q1
        clear e1
        go_wp2
        go_ret
        exact ⟨HB.out, by have e := HKK.out; subst e; rfl⟩
      · rw [decide_eq_false e1] at q1
        by_cases e2 : M = [79, 82]
        · have HKK : Hid (K = 5) := Lib.hid (by rw [HK.out, HKS.out, e2]; rfl)
          rw [decide_eq_true e2] at q2
          clear e1 e2
          go_wp2
          go_ret
          exact ⟨HB.out, by have e := HKK.out; subst e; rfl⟩
        · rw [decide_eq_false e2] at q2
          by_cases e3 : M = [78, 79, 84]
          · have HKK : Hid (K = 6) := Lib.hid (by rw [HK.out, HKS.out, e3]; rfl)
            rw [decide_eq_true e3] at q3
            clear e1 e2 e3
            go_wp2
            go_ret
            exact ⟨HB.out, by have e := HKK.out; subst e; rfl⟩
          · rw [decide_eq_false e3] at q3
            by_cases e4 : M = [84, 79]
            · have HKK : Hid (K = 7) := Lib.hid (by rw [HK.out, HKS.out, e4]; rfl)
              rw [decide_eq_true e4] at q4
              clear e1 e2 e3 e4
              go_wp2
              go_ret
              exact ⟨HB.out, by have e := HKK.out; subst e; rfl⟩
            · have HKK : Hid (K = -1) := Lib.hid (by
                rw [HK.out, HKS.out]
                unfold kwd
                rw [if_neg e1, if_neg e2, if_neg e3, if_neg e4]; rfl)
              rw [decide_eq_false e4] at q4
              clear e1 e2 e3 e4
              go_wp2
              go_ret
              exact ⟨HB.out, by have e := HKK.out; subst e; rfl⟩
end Go.Proofs.YtlgcofinmpckkaaDoor
