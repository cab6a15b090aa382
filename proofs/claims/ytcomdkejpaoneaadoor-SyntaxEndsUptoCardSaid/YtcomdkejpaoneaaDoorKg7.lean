/- Merged for a claim by shake.py: Zq Zo -/
import Derived.Test.YtcomdkejpaoneaaDoorKg6
section
namespace Go.Proofs.YtcomdkejpaoneaaDoor
open Go.RowKit
set_option maxRecDepth 100000
set_option maxHeartbeats 4000000
set_option linter.unusedSimpArgs false
set_option linter.unusedVariables false
theorem ownB_formZ {w : World} {B : Nat} {v : Value} {l : List UInt8} (h : OwnB w B v l) : ∃ A n c, v = .slice A n c := by
  rcases h.2 with ⟨rfl, h0⟩ | ⟨g, cap, cur, rfl, _⟩
  · exact ⟨_, _, _, rfl⟩
  · exact ⟨_, _, _, rfl⟩
theorem qS_cons (x : Sg) (r : List Sg) : qS (x :: r) = if x.letter = false ∧ x.c = 34 then some ([], 1) else if x.letter = false ∧ x.c = 92 then none else (qS r).map fun y => (x.c :: y.1, y.2 + 1) := rfl
theorem drop_get {s : List Sg} {k : Nat} {x : Sg} (hx : s[k]? = some x) : s.drop k = x :: s.drop (k + 1) := by
  obtain ⟨h3, rfl⟩ := List.getElem?_eq_some_iff.1 hx
  exact List.drop_eq_getElem_cons h3
theorem plainS_some {s : List Sg} {k : Nat} {x : Sg} (c : UInt8) (hx : s[k]? = some x) : plainS s k c = decide (x.letter = false ∧ x.c = c) := by
  unfold plainS; rw [hx, Bool.eq_iff_iff]; simp
def QsRet (r : Option (List UInt8 × Nat)) (i : Nat) (w : World) (e : Ending) (w' : World) : Prop :=
  Below w.heap.size w w' ∧ e = .returned (match r with | none => .tuple #[.string ⟨#[]⟩, .int .i64 (-1)] | some y => .tuple #[.string (str y.1), .int .i64 ((i + y.2 : Nat) : Int)])
theorem qsRet_none {r : Option (List UInt8 × Nat)} {i : Nat} {w w' : World} (h : r = none) (hb : Below w.heap.size w w') : QsRet r i w (.returned (.tuple #[.string ⟨#[]⟩, .int .i64 (-1)])) w' := by subst h; exact ⟨hb, rfl⟩
theorem qsRet_some {r : Option (List UInt8 × Nat)} {i k : Nat} {T : List UInt8} {w w' : World} {n : Int} (h : r = some (T, k)) (hn : n = ((i + k : Nat) : Int)) (hb : Below w.heap.size w w') : QsRet r i w (.returned (.tuple #[.string (str T), .int .i64 n])) w' := by subst h; subst hn; exact ⟨hb, rfl⟩
def QsRel (s : List Sg) (i : Nat) (w : World) (iv bv : Value) (wr : World) : Prop :=
  ∃ (j : Nat) (T : List UInt8), i + j ≤ s.length ∧ iv = .int .i64 ((i + j : Nat) : Int) ∧ OwnB wr w.heap.size bv T ∧ T.length = j ∧ qS (s.drop i) = (qS (s.drop (i + j))).map (fun y => (T ++ y.1, j + y.2)) ∧ Below w.heap.size w wr
theorem quotedS_any (sv : Value) (s : List Sg) (i : Nat) (w : World) (B : Nat) (hB : B ≤ w.heap.size) (h : RdL sgShape w B sv s) (hs : s.length ≤ 10000000) (hi : i ≤ s.length) :
    Calls Tryd.prog 61 #[sv, .int .i64 (i : Int)] w (QsRet (qS (s.drop i)) i w) := by
  obtain ⟨A, cap, rfl, h1, h2⟩ := h.open_
  have H := Lib.hid h
  clear h
  go_enter Tryd.func61, Tryd.ntmps61
  go_wp2
  go_loopw [1, 6] (fun iv bv wr => QsRel s i w iv bv wr) (fun iv _ _ => s.length - (intOf iv).toNat)
  case atStart => exact ⟨0, [], by omega, rfl, OwnB.lit0 _ (Nat.le_refl _), rfl, by simp, (Below.refl _ _).alloc (Nat.le_refl _) _⟩
  case round =>
    obtain ⟨j, T, hj, rfl, ho, hT, hq, hbl⟩ := hrel
    have HO := Lib.hid ho
    have HQ := Lib.hid hq
    have HB := Lib.hid hbl
    have HTL := Lib.hid hT
    have hsz : w.heap.size ≤ wr.heap.size := hbl.size
    have HR := Lib.hid (H.out.belowW hB hbl)
    have hTl : T.length ≤ 10000000 := by omega
    obtain ⟨bA, bn, bc, rfl⟩ := ownB_formZ ho
    clear ho hq hbl hT
    cases hx : s[i + j]? with
    | none =>
      have hge : s.length ≤ i + j := List.getElem?_eq_none_iff.1 hx
      have HN : Hid (qS (s.drop i) = none) := Lib.hid (by rw [HQ.out, List.drop_eq_nil_of_le hge]; rfl)
      clear hx
      go_wp2
      go_ret2
      exact qsRet_none HN.out HB.out
    | some x =>
      have hlt : i + j < s.length := (List.getElem?_eq_some_iff.1 hx).1
      obtain ⟨a, rfl, hb, c0, c1, c2, c3⟩ := at_sg HR.out hx
      have HDR := Lib.hid (drop_get hx)
      have HP34 := Lib.hid (plainS_some 34 hx)
      have HP92 := Lib.hid (plainS_some 92 hx)
      have hxl := u8_lt x.c
      have hab : (a.add ((i + j) * 4)).block < wr.heap.size := by omega
      clear hx
      go_wp2_with fail
      refine (plain_any (.slice (some a) s.length cap) s (i + j) 34 wr B HR.out hs (by omega)).mono ?_
      rintro e w1 ⟨rfl, rfl⟩
      rw [HP34.out]
      by_cases h34 : x.letter = false ∧ x.c = 34
      · have HN : Hid (qS (s.drop i) = some (T, j + 1)) := Lib.hid (by rw [HQ.out, HDR.out, qS_cons, if_pos h34]; simp)
        rw [decide_eq_true h34]
        have hcv := HO.out.conv
        clear h34
        go_wp2
        go_ret2
        exact qsRet_some HN.out (by go_num) HB.out
      · rw [decide_eq_false h34]
        have H34 := Lib.hid h34
        clear h34
        go_wp2_with fail
        refine (plain_any (.slice (some a) s.length cap) s (i + j) 92 wr B HR.out hs (by omega)).mono ?_
        rintro e w1 ⟨rfl, rfl⟩
        rw [HP92.out]
        by_cases h92 : x.letter = false ∧ x.c = 92
        · have HN : Hid (qS (s.drop i) = none) := Lib.hid (by rw [HQ.out, HDR.out, qS_cons, if_neg H34.out, if_pos h92]; rfl)
          rw [decide_eq_true h92]
          clear h92
          go_wp2
          go_ret2
          exact qsRet_none HN.out HB.out
        · have HN : Hid (qS (s.drop i) = (qS (s.drop (i + (j + 1)))).map (fun y => ((T ++ [x.c]) ++ y.1, (j + 1) + y.2))) := Lib.hid (by
            rw [HQ.out, HDR.out, qS_cons, if_neg H34.out, if_neg h92, Option.map_map]
            congr 1
            funext y
            simp [Nat.add_comm, Nat.add_left_comm])
          rw [decide_eq_false h92]
          clear h92
          go_wp2_with (at_builtin; refine OwnB.appendAt HO.out _ _ rfl _ _ rfl rfl rfl ?_ ?_ ?_ hsz ?_ ?_)
          all_goals first | omega | exact (World.size_alloc ..).symm | skip
          intro v5 w5 ho5 hb5 hk5
          have HO5 := Lib.hid ho5
          have HB5 := Lib.hid hb5
          clear ho5 hb5 hk5
          go_wp2
          go_roundw
          case measure => simp [intOf]; omega
          case rel => exact ⟨j + 1, T ++ [x.c], by omega, by go_num, by have h := HO5.out; simpa using h, by simp [HTL.out], HN.out, HB.out.trans HB5.out⟩
def KwRel (ds : List Sg) (w : World) (bv iv : Value) (wr : World) : Prop :=
  ∃ k : Nat, k ≤ ds.length ∧ iv = .int .i64 (k : Int) ∧ OwnB wr w.heap.size bv ((ds.take k).map (·.c)) ∧ (ds.take k).any (·.letter) = false ∧ Below w.heap.size w wr
theorem keywordS_any (kv : Value) (ds : List Sg) (w : World) (B : Nat) (hB : B ≤ w.heap.size) (h : RdL sgShape w B kv ds) (hs : ds.length ≤ 10000000) :
    Calls Tryd.prog 92 #[kv] w fun e w' => Below w.heap.size w w' ∧ e = .returned (.int .i64 (if kwS ds = 1 then -1 else kwS ds)) := by
  obtain ⟨A, cap, rfl, h1, h2⟩ := h.open_
  have H := Lib.hid h
  clear h
  obtain ⟨K, hK⟩ : ∃ K, K = (if kwS ds = 1 then (-1 : Int) else kwS ds) := ⟨_, rfl⟩
  rw [← hK]
  have HK := Lib.hid hK
  clear hK
  go_enter Tryd.func92, Tryd.ntmps92
  go_wp2
  go_loopw [3, 9] (fun bv iv wr => KwRel ds w bv iv wr) (fun _ iv _ => ds.length - (intOf iv).toNat)
  case atStart => exact ⟨0, Nat.zero_le _, rfl, OwnB.lit0 _ (Nat.le_refl _), rfl, (Below.refl _ _).alloc (Nat.le_refl _) _⟩
  case round =>
    obtain ⟨k, hk, rfl, ho, hal, hbl⟩ := hrel
    have HO := Lib.hid ho
    have HAL := Lib.hid hal
    have HB := Lib.hid hbl
    have hsz : w.heap.size ≤ wr.heap.size := hbl.size
    have HR := Lib.hid (H.out.belowW hB hbl)
    have hll : ((ds.take k).map (·.c)).length ≤ 10000000 := by rw [List.length_map, List.length_take]; omega
    obtain ⟨bA, bn, bc, rfl⟩ := ownB_formZ ho
    clear ho hal hbl
    by_cases hlt : k < ds.length
    · obtain ⟨a, rfl, hb, c0, c1, c2, c3⟩ := at_sg HR.out (List.getElem?_eq_getElem hlt)
      have hab : (a.add (k * 4)).block < wr.heap.size := by omega
      have HTK : Hid (ds.take (k + 1) = ds.take k ++ [ds[k]]) := Lib.hid (List.take_succ_eq_append_getElem hlt)
      have HMEM := Lib.hid (List.getElem_mem hlt)
      generalize ds[k] = x at *
      have hxl := u8_lt x.c
      cases hl : x.letter with
      | true =>
        rw [hl] at c1
        have HKK : Hid (K = -1) := Lib.hid (by
          have : kwS ds = 1 := by unfold kwS; rw [if_pos (List.any_eq_true.2 ⟨x, HMEM.out, hl⟩)]
          rw [HK.out, if_pos this])
        clear hl
        go_wp2
        go_ret
        exact ⟨HB.out.alloc hsz _, by have e := HKK.out; subst e; rfl⟩
      | false =>
        rw [hl] at c1
        have HL := Lib.hid hl
        have HOa := Lib.hid (HO.out.alloc (.cells #[.int .u8 x.c.toNat, .bool false, .int .i64 (x.place : Int), .int .i64 (x.size : Int)] 81))
        have hsa : w.heap.size ≤ wr.heap.size + 1 := by omega
        clear hl
        go_wp2_with (at_builtin; refine OwnB.appendAt HOa.out _ _ rfl _ _ rfl rfl rfl ?_ ?_ ?_ ?_ ?_ ?_)
        all_goals first | omega | exact (World.size_alloc ..).symm | (rw [World.size_alloc]; omega) | skip
        intro v5 w5 ho5 hb5 hk5
        have HO5 := Lib.hid ho5
        have HB5 := Lib.hid hb5
        clear ho5 hb5 hk5
        go_wp2
        go_roundw
        case measure => simp [intOf]; omega
        case rel => exact ⟨k + 1, hlt, by go_num, by rw [HTK.out, List.map_append]; have h := HO5.out; simpa using h, by rw [HTK.out, List.any_append, HAL.out]; simp [HL.out], (HB.out.alloc hsz _).trans HB5.out⟩
    · have HTK : Hid (ds.take k = ds) := Lib.hid (List.take_of_length_le (by omega))
      have hcv := HO.out.conv
      have HKS : Hid (kwS ds = kwd (ds.map (·.c))) := Lib.hid (by
        have h := HAL.out
        rw [HTK.out] at h
        unfold kwS; rw [if_neg (by rw [h]; decide)])
      obtain ⟨q1, q2, q3, q4⟩ := kwd_toList (str ((ds.take k).map (·.c)))
      rw [str_data, HTK.out] at q1 q2 q3 q4
      rw [HTK.out] at hcv
      generalize ds.map (·.c) = M at *
      by_cases e1 : M = [65, 78, 68]
      · have HKK : Hid (K = 4) := Lib.hid (by rw [HK.out, HKS.out, e1]; rfl)
        rw [decide_eq_true e1] at q1
        clear e1
        go_wp2
        go_ret
        exact ⟨HB.out, by have e := HKK.out; subst e; rfl⟩
      · rw [decide_eq_false e1] at q1
        by_cases e2 : M = [79, 82]
        · have HKK : Hid (K = 5) := Lib.hid (by rw [HK.out, HKS.out, e2]; rfl)
          rw [decide_eq_true e2] at q2
          clear e1 e2
          go_wp2
          go_ret
          exact ⟨HB.out, by have e := HKK.out; subst e; rfl⟩
        · rw [decide_eq_false e2] at q2
          by_cases e3 : M = [78, 79, 84]
          · have HKK : Hid (K = 6) := Lib.hid (by rw [HK.out, HKS.out, e3]; rfl)
            rw [decide_eq_true e3] at q3
            clear e1 e2 e3
            go_wp2
            go_ret
            exact ⟨HB.out, by have e := HKK.out; subst e; rfl⟩
          · rw [decide_eq_false e3] at q3
            by_cases e4 : M = [84, 79]
            · have HKK : Hid (K = 7) := Lib.hid (by rw [HK.out, HKS.out, e4]; rfl)
              rw [decide_eq_true e4] at q4
              clear e1 e2 e3 e4
              go_wp2
              go_ret
              exact ⟨HB.out, by have e := HKK.out; subst e; rfl⟩
            · have HKK : Hid (K = -1) := Lib.hid (by
                rw [HK.out, HKS.out]
                unfold kwd
                rw [if_neg e1, if_neg e2, if_neg e3, if_neg e4]; rfl)
              rw [decide_eq_false e4] at q4
              clear e1 e2 e3 e4
              go_wp2
              go_ret
              exact ⟨HB.out, by have e := HKK.out; subst e; rfl⟩
end Go.Proofs.YtcomdkejpaoneaaDoor
end
section
namespace Go.Proofs.YtcomdkejpaoneaaDoor
open Go.RowKit
set_option maxRecDepth 100000
set_option maxHeartbeats 4000000
set_option linter.unusedSimpArgs false
set_option linter.unusedVariables false
theorem rsingle_any (c : UInt8) (w : World) :
    Calls Tryd.prog 59 #[.int .u8 (c.toNat : Int)] w fun e w' => e = .returned (.int .i64 (if singleK c = 0 then -1 else singleK c)) ∧ w = w' := by
  have hb : ∀ d : UInt8, ((c.toNat : Int) == (d.toNat : Int)) = decide (c = d) := fun d => by
    rw [Bool.eq_iff_iff, beq_iff_eq, decide_eq_true_iff]; exact ⟨byte_eq, fun h => by rw [h]⟩
  have e1 := hb 40; have e2 := hb 41; have e3 := hb 91; have e4 := hb 93; have e5 := hb 123; have e6 := hb 125; have e7 := hb 58; have e8 := hb 43; have e9 := hb 45; have e10 := hb 124
  simp only [show ((40 : UInt8).toNat : Int) = 40 from rfl, show ((41 : UInt8).toNat : Int) = 41 from rfl, show ((91 : UInt8).toNat : Int) = 91 from rfl, show ((93 : UInt8).toNat : Int) = 93 from rfl, show ((123 : UInt8).toNat : Int) = 123 from rfl, show ((125 : UInt8).toNat : Int) = 125 from rfl, show ((58 : UInt8).toNat : Int) = 58 from rfl, show ((43 : UInt8).toNat : Int) = 43 from rfl, show ((45 : UInt8).toNat : Int) = 45 from rfl, show ((124 : UInt8).toNat : Int) = 124 from rfl] at e1 e2 e3 e4 e5 e6 e7 e8 e9 e10
  clear hb
  generalize hk : (if singleK c = 0 then (-1 : Int) else singleK c) = K
  unfold singleK at hk
  have HK := Lib.hid hk; clear hk
  generalize (c.toNat : Int) = x at *
  go_enter Tryd.func59, Tryd.ntmps59
  go_wp2
  all_goals go_ret
  all_goals refine ⟨?_, rfl⟩
  all_goals (have h := HK.out; simp_all)
def NdRet (r : Option (Int × List UInt8 × Int × Nat)) (i : Nat) (w : World) (e : Ending) (w' : World) : Prop :=
  w = w' ∧ match r with
    | none => ∃ j : Int, e = .returned (.tuple #[.int .i64 (-1), .int .i64 0, .int .i64 j])
    | some y => e = .returned (.tuple #[.int .i64 y.1, .int .i64 y.2.2.1, .int .i64 ((i + y.2.2.2 : Nat) : Int)])
theorem ndRet_none {r : Option (Int × List UInt8 × Int × Nat)} {i : Nat} {j : Int} {w : World} (h : r = none) : NdRet r i w (.returned (.tuple #[.int .i64 (-1), .int .i64 0, .int .i64 j])) w := by subst h; exact ⟨rfl, j, rfl⟩
theorem ndRet_some {r : Option (Int × List UInt8 × Int × Nat)} {i k : Nat} {t : List UInt8} {kind n m : Int} {w : World} (h : r = some (kind, t, n, k)) (hm : m = ((i + k : Nat) : Int)) : NdRet r i w (.returned (.tuple #[.int .i64 kind, .int .i64 n, .int .i64 m])) w := by subst h; subst hm; exact ⟨rfl, rfl⟩
theorem numS_bd (l : List Sg) : -1 ≤ numS l ∧ numS l ≤ 999999999 := by
  unfold numS
  split
  · omega
  · split <;> omega
theorem numbered_any (sv : Value) (s : List Sg) (i : Nat) (x : Sg) (w : World) (B : Nat) (h : RdL sgShape w B sv s) (hs : s.length ≤ 10000000) (hx : s[i]? = some x) (hl : x.letter = false) (hk0 : singleK x.c = 0) (hc : x.c = 94 ∨ x.c = 64 ∨ x.c = 126) :
    Calls Tryd.prog 60 #[sv, .int .i64 (i : Int)] w (NdRet (oneS (s.drop i)) i w) := by
  obtain ⟨A, cap, rfl, h1, h2⟩ := h.open_
  have H := Lib.hid h
  have hlt : i < s.length := (List.getElem?_eq_some_iff.1 hx).1
  obtain ⟨a, rfl, hab, c0, c1, c2, c3⟩ := at_sg h hx
  have HDR := Lib.hid (drop_get hx)
  have HX := Lib.hid hx
  have HL := Lib.hid hl
  have HK0 := Lib.hid hk0
  clear h hx hl hk0
  rcases hc with hc | hc | hc
  · rw [hc] at c0
    have HC := Lib.hid hc
    clear hc
    cases hp : plainS s (i + 1) 61 with
    | true =>
      obtain ⟨y, hy, hyl⟩ : ∃ y, s[i + 1]? = some y ∧ (y.letter = false ∧ y.c = 61) := by
        cases hy : s[i + 1]? with
        | none => unfold plainS at hp; rw [hy] at hp; cases hp
        | some y => rw [plainS_some 61 hy] at hp; exact ⟨y, rfl, of_decide_eq_true hp⟩
      have hlt2 : i + 1 < s.length := (List.getElem?_eq_some_iff.1 hy).1
      have HO : Hid (oneS (s.drop i) = if numS (s.drop (i + 2)) < 0 then none else some (19, [], numS (s.drop (i + 2)), 2 + (dgS (s.drop (i + 2))).length)) := Lib.hid (by
        rw [HDR.out, drop_get hy, oneS_cons]
        simp only [HL.out, HC.out, hyl, and_self, if_true, true_and, show ¬ (singleK 94 ≠ 0) from by decide, if_false, show ¬ ((94 : UInt8) = 64) from by decide])
      have HP := Lib.hid hp
      have hbd := numS_bd (s.drop (i + 2))
      have HN := Lib.hid (numberS_any (.slice (some a) s.length cap) s (i + 2) w B H.out hs (by omega))
      clear hp hy hyl
      go_enter Tryd.func60, Tryd.ntmps60
      go_wp2_with fail
      refine (plain_any (.slice (some a) s.length cap) s (i + 1) 61 w B H.out hs (by omega)).mono ?_
      rintro e w1 ⟨rfl, rfl⟩
      rw [HP.out]
      go_wp2_with fail
      refine HN.out.mono ?_
      rintro e w1 ⟨rfl, rfl⟩
      generalize numS (s.drop (i + 2)) = N at *
      by_cases hn : N < 0
      · have HR := Lib.hid (HO.out.trans (if_pos hn))
        go_wp2
        go_ret3
        exact ndRet_none HR.out
      · have HR := Lib.hid (HO.out.trans (if_neg hn))
        have hn2 : 0 ≤ N := by omega
        clear hn
        go_wp2
        go_ret3
        exact ndRet_some HR.out (by omega)
    | false =>
      have HO : Hid (oneS (s.drop i) = if numS (s.drop (i + 1)) < 0 then none else some (18, [], numS (s.drop (i + 1)), 1 + (dgS (s.drop (i + 1))).length)) := Lib.hid (by
        rw [HDR.out, oneS_cons]
        simp only [HL.out, HC.out, true_and, show ¬ (singleK 94 ≠ 0) from by decide, if_false, show ¬ ((94 : UInt8) = 64) from by decide, if_true]
        cases hy : s[i + 1]? with
        | none =>
          have e : s.drop (i + 1) = [] := List.drop_eq_nil_of_le (List.getElem?_eq_none_iff.1 hy)
          rw [e]
          rfl
        | some y =>
          have hny : ¬ (y.letter = false ∧ y.c = 61) := by rw [plainS_some 61 hy] at hp; exact of_decide_eq_false hp
          rw [drop_get hy]
          simp only []
          rw [if_neg hny])
      have HP := Lib.hid hp
      have hbd := numS_bd (s.drop (i + 1))
      have HN := Lib.hid (numberS_any (.slice (some a) s.length cap) s (i + 1) w B H.out hs (by omega))
      clear hp
      go_enter Tryd.func60, Tryd.ntmps60
      go_wp2_with fail
      refine (plain_any (.slice (some a) s.length cap) s (i + 1) 61 w B H.out hs (by omega)).mono ?_
      rintro e w1 ⟨rfl, rfl⟩
      rw [HP.out]
      go_wp2_with fail
      refine HN.out.mono ?_
      rintro e w1 ⟨rfl, rfl⟩
      generalize numS (s.drop (i + 1)) = N at *
      by_cases hn : N < 0
      · have HR := Lib.hid (HO.out.trans (if_pos hn))
        go_wp2
        go_ret3
        exact ndRet_none HR.out
      · have HR := Lib.hid (HO.out.trans (if_neg hn))
        have hn2 : 0 ≤ N := by omega
        clear hn
        go_wp2
        go_ret3
        exact ndRet_some HR.out (by omega)
  · rw [hc] at c0
    have HO : Hid (oneS (s.drop i) = if numS (s.drop (i + 1)) < 0 then none else some (21, [], numS (s.drop (i + 1)), 1 + (dgS (s.drop (i + 1))).length)) := Lib.hid (by
      rw [HDR.out, oneS_cons]
      simp only [HL.out, hc, true_and, show ¬ (singleK 64 ≠ 0) from by decide, if_false, if_true])
    have hbd := numS_bd (s.drop (i + 1))
    have HN := Lib.hid (numberS_any (.slice (some a) s.length cap) s (i + 1) w B H.out hs (by omega))
    clear hc
    go_enter Tryd.func60, Tryd.ntmps60
    go_wp2_with fail
    refine HN.out.mono ?_
    rintro e w1 ⟨rfl, rfl⟩
    generalize numS (s.drop (i + 1)) = N at *
    by_cases hn : N < 0
    · have HR := Lib.hid (HO.out.trans (if_pos hn))
      go_wp2
      go_ret3
      exact ndRet_none HR.out
    · have HR := Lib.hid (HO.out.trans (if_neg hn))
      have hn2 : 0 ≤ N := by omega
      clear hn
      go_wp2
      go_ret3
      exact ndRet_some HR.out (by omega)
  · rw [hc] at c0
    have HO : Hid (oneS (s.drop i) = if numS (s.drop (i + 1)) < 0 ∧ 0 < (dgS (s.drop (i + 1))).length then none else some (20, [], numS (s.drop (i + 1)), 1 + (dgS (s.drop (i + 1))).length)) := Lib.hid (by
      rw [HDR.out, oneS_cons]
      simp only [HL.out, hc, true_and, show ¬ (singleK 126 ≠ 0) from by decide, if_false, show ¬ ((126 : UInt8) = 64) from by decide, show ¬ ((126 : UInt8) = 94) from by decide, if_true])
    have hbd := numS_bd (s.drop (i + 1))
    have HN := Lib.hid (numberS_any (.slice (some a) s.length cap) s (i + 1) w B H.out hs (by omega))
    clear hc
    go_enter Tryd.func60, Tryd.ntmps60
    go_wp2_with fail
    refine HN.out.mono ?_
    rintro e w1 ⟨rfl, rfl⟩
    generalize numS (s.drop (i + 1)) = N at *
    generalize (dgS (s.drop (i + 1))).length = L at *
    by_cases hn : N < 0
    · by_cases hL : 0 < L
      · have HR := Lib.hid (HO.out.trans (if_pos ⟨hn, hL⟩))
        go_wp2
        go_ret3
        exact ndRet_none HR.out
      · have HR := Lib.hid (HO.out.trans (if_neg (fun h => hL h.2)))
        have hL0 : L = 0 := by omega
        subst hL0
        go_wp2
        go_ret3
        exact ndRet_some HR.out (by omega)
    · have HR := Lib.hid (HO.out.trans (if_neg (fun h => hn h.1)))
      have hn2 : 0 ≤ N := by omega
      clear hn
      go_wp2
      go_ret3
      exact ndRet_some HR.out (by omega)
end Go.Proofs.YtcomdkejpaoneaaDoor
end
