/- Merged for a claim by shake.py: Zs Zt -/
import Derived.Test.YtcomdkejpaoneaaDoorKg3
import Derived.Test.YtcomdkejpaoneaaDoorKg5
import Derived.Test.YtcomdkejpaoneaaDoorKg7
import Derived.Test.YtcomdkejpaoneaaDoorKg8
section
namespace Go.Proofs.YtcomdkejpaoneaaDoor
open Go.RowKit
set_option maxRecDepth 100000
set_option maxHeartbeats 4000000
set_option linter.unusedSimpArgs false
set_option linter.unusedVariables false
def OneRet (r : Option (Int × List UInt8 × Int × Nat)) (i p : Nat) (w : World) (e : Ending) (w' : World) : Prop :=
  Below w.heap.size w w' ∧ match r with
    | none => ∃ (t : ByteArray) (n j : Int), e = .returned (.tuple #[.agg #[.int .i64 (-1), .string t, .int .i64 n, .int .i64 (p : Int), .int .i64 0], .int .i64 j])
    | some y => e = .returned (.tuple #[.agg #[.int .i64 y.1, .string (str y.2.1), .int .i64 y.2.2.1, .int .i64 (p : Int), .int .i64 0], .int .i64 ((i + y.2.2.2 : Nat) : Int)])
theorem oneRet_none {r : Option (Int × List UInt8 × Int × Nat)} {i p : Nat} {t : ByteArray} {n j : Int} {w w' : World} (h : r = none) (hb : Below w.heap.size w w') :
    OneRet r i p w (.returned (.tuple #[.agg #[.int .i64 (-1), .string t, .int .i64 n, .int .i64 (p : Int), .int .i64 0], .int .i64 j])) w' := by subst h; exact ⟨hb, t, n, j, rfl⟩
theorem oneRet_some {r : Option (Int × List UInt8 × Int × Nat)} {i p k : Nat} {kind n m : Int} {t : List UInt8} {T : ByteArray} {w w' : World} (h : r = some (kind, t, n, k)) (hT : T = str t) (hm : m = ((i + k : Nat) : Int)) (hb : Below w.heap.size w w') :
    OneRet r i p w (.returned (.tuple #[.agg #[.int .i64 kind, .string T, .int .i64 n, .int .i64 (p : Int), .int .i64 0], .int .i64 m])) w' := by subst h; subst hT; subst hm; exact ⟨hb, rfl⟩
theorem oneS_run (x : Sg) (r : List Sg) (h : x.letter = true ∨ (singleK x.c = 0 ∧ x.c ≠ 94 ∧ x.c ≠ 64 ∧ x.c ≠ 126 ∧ x.c ≠ 34)) : oneS (x :: r) = (rS (x :: r)).map fun ds => ((runOut ds).1, (runOut ds).2, 0, ds.length) := by
  rw [oneS_cons]
  rcases h with h | ⟨h0, h1, h2, h3, h4⟩
  · cases rS (x :: r) with
    | none => simp [h]
    | some ds =>
      simp only [h, Bool.true_eq_false, false_and, if_false, Option.map_some]
      unfold runOut
      split
      · rfl
      · split <;> rfl
  · cases rS (x :: r) with
    | none => simp [h0, h1, h2, h3, h4]
    | some ds =>
      simp only [h0, h1, h2, h3, h4, ne_eq, not_true_eq_false, and_false, if_false, Option.map_some]
      unfold runOut
      split
      · rfl
      · split <;> rfl
theorem singleK_pos {c : UInt8} (h : singleK c ≠ 0) : 8 ≤ singleK c ∧ singleK c ≤ 17 := by
  have := all_bytes' (p := fun c => decide (singleK c ≠ 0 → 8 ≤ singleK c ∧ singleK c ≤ 17)) (by decide +kernel) c
  exact of_decide_eq_true this h
theorem oneS_text {l : List Sg} {x : Sg} {r : List Sg} {k n : Int} {t : List UInt8} {m : Nat} (hd : l = x :: r) (hl : x.letter = false) (hs : singleK x.c = 0) (hc : x.c = 94 ∨ x.c = 64 ∨ x.c = 126) (h : oneS l = some (k, t, n, m)) : t = [] := by
  subst hd
  rw [oneS_cons] at h
  rcases hc with hc | hc | hc
  · simp only [hl, hc, true_and, show ¬ (singleK 94 ≠ 0) from by decide, if_false, show ¬ ((94 : UInt8) = 64) from by decide, if_true] at h
    split at h
    · cases h
    · split at h
      · split at h
        · cases h
        · injection h with h; simp only [Prod.mk.injEq] at h; exact h.2.1.symm
      · split at h
        · cases h
        · injection h with h; simp only [Prod.mk.injEq] at h; exact h.2.1.symm
  · simp only [hl, hc, true_and, show ¬ (singleK 64 ≠ 0) from by decide, if_false, if_true] at h
    split at h
    · cases h
    · injection h with h; simp only [Prod.mk.injEq] at h; exact h.2.1.symm
  · simp only [hl, hc, true_and, show ¬ (singleK 126 ≠ 0) from by decide, if_false, show ¬ ((126 : UInt8) = 64) from by decide, show ¬ ((126 : UInt8) = 94) from by decide, if_true] at h
    split at h
    · cases h
    · injection h with h; simp only [Prod.mk.injEq] at h; exact h.2.1.symm
structure OneB (w : World) (k t n p e : Value) (wx : World) : Prop where
  b0 : Blk5 wx w.heap.size (.int .i64 0) (.string ⟨#[]⟩) (.int .i64 0) (.int .i64 0) (.int .i64 0)
  b1 : Blk5 wx (w.heap.size + 1) k t n p e
  bel : Below w.heap.size w wx
theorem OneB.belowW {w : World} {k t n p e : Value} {wx wy : World} (h : OneB w k t n p e wx) (hb : Below wx.heap.size wx wy) : OneB w k t n p e wy :=
  ⟨h.b0.below hb h.b0.lt, h.b1.below hb h.b1.lt, h.bel.trans (hb.mono (by have := h.b0.lt; omega))⟩
theorem one_any (sv : Value) (s : List Sg) (i : Nat) (x : Sg) (w : World) (h : RdL sgShape w w.heap.size sv s) (hs : s.length ≤ 10000000) (hx : s[i]? = some x) :
    Calls Tryd.prog 41 #[sv, .int .i64 (i : Int)] w (OneRet (oneS (s.drop i)) i x.place w) := by
  obtain ⟨A, cap, rfl, h1, h2⟩ := h.open_
  have H := Lib.hid h
  have hlt : i < s.length := (List.getElem?_eq_some_iff.1 hx).1
  obtain ⟨a, rfl, hab, c0, c1, c2, c3⟩ := at_sg h hx
  have HDR := Lib.hid (drop_get hx)
  have HX := Lib.hid hx
  have hxl := u8_lt x.c
  have hpl : (x.place : Int) = (x.place : Int) := rfl
  have HB0 : Hid (OneB w (.int .i64 (-1)) (.string ⟨#[]⟩) (.int .i64 0) (.int .i64 (x.place : Int)) (.int .i64 0) ((w.alloc (.cells #[.int .i64 0, .string ⟨#[]⟩, .int .i64 0, .int .i64 0, .int .i64 0] 49)).alloc (.cells #[.int .i64 (-1), .string ⟨#[]⟩, .int .i64 0, .int .i64 (x.place : Int), .int .i64 0] 49))) :=
    Lib.hid ⟨(Blk5.new w _ _ _ _ _).below ((Below.refl _ _).alloc (Nat.le_refl _) _) (by rw [World.size_alloc]; omega), by have h := Blk5.new (w.alloc (.cells #[.int .i64 0, .string ⟨#[]⟩, .int .i64 0, .int .i64 0, .int .i64 0] 49)) (.int .i64 (-1)) (.string ⟨#[]⟩) (.int .i64 0) (.int .i64 (x.place : Int)) (.int .i64 0); rw [World.size_alloc] at h; exact h,
      ((Below.refl _ _).alloc (Nat.le_refl _) _).alloc (by rw [World.size_alloc]; omega) _⟩
  clear h hx hpl
  by_cases hlet : x.letter = true
  · have HRUN : Hid (oneS (s.drop i) = (rS (s.drop i)).map fun ds => ((runOut ds).1, (runOut ds).2, 0, ds.length)) := Lib.hid (by
      rw [HDR.out]; exact oneS_run x _ (.inl hlet))
    rw [hlet] at c1
    clear hlet
    go_enter Tryd.func41, Tryd.ntmps41
    go_wp2_with fail
    refine (runS_any (.slice (some a) s.length cap) s i _ w.heap.size HB0.out.bel.size (H.out.below HB0.out.bel) hs hlt).mono ?_
    rintro e wr ⟨hbr, hm⟩
    have HBr := Lib.hid (HB0.out.belowW hbr)
    obtain ⟨⟨d0, d1, d2, d3, d4⟩, f0, f1, f2, f3, f4⟩ := HBr.out.b1.facts
    obtain ⟨⟨g0, g1, g2, g3, g4⟩, z0, z1, z2, z3, z4⟩ := HBr.out.b0.facts
    clear hbr
    cases hr : rS (s.drop i) with
    | none =>
      rw [hr] at hm
      obtain ⟨j, rfl⟩ := hm
      have HN : Hid (oneS (s.drop i) = none) := Lib.hid (HRUN.out.trans (by rw [hr]; rfl))
      clear hr
      go_wp2
      refine (bodyPost_ret (v := .tuple #[.agg #[.int .i64 (-1), .string ⟨#[]⟩, .int .i64 0, .int .i64 (x.place : Int), .int .i64 0], .int .i64 j]) ?_ rfl ?_)
      · simp [results, Tryd.results41, go_sem, lxVal, d0, d1, d2, d3, d4, f0, f1, f2, f3, f4, g0, g1, g2, g3, g4, z0, z1, z2, z3, z4]
      · refine oneRet_none HN.out ?_
        repeat (first | with_reducible refine Below.drew ?_ | with_reducible refine Below.setCell ?_ (by simp) _)
        first | exact HBr.out.bel | exact ((Below.refl _ _).alloc (Nat.le_refl _) _).alloc (by rw [World.size_alloc]; omega) _
    | some ds =>
      rw [hr] at hm
      subst hm
      have HN : Hid (oneS (s.drop i) = some ((runOut ds).1, (runOut ds).2, 0, ds.length)) := Lib.hid (HRUN.out.trans (by rw [hr]; rfl))
      generalize (runOut ds).1 = RK at *
      generalize (runOut ds).2 = RT at *
      generalize ds.length = RL at *
      clear hr
      go_wp2
      refine (bodyPost_ret (v := .tuple #[.agg #[.int .i64 RK, .string (str RT), .int .i64 0, .int .i64 (x.place : Int), .int .i64 0], .int .i64 ((i + RL : Nat) : Int)]) ?_ rfl ?_)
      · simp [results, Tryd.results41, go_sem, lxVal, d0, d1, d2, d3, d4, f0, f1, f2, f3, f4, g0, g1, g2, g3, g4, z0, z1, z2, z3, z4]
      · refine oneRet_some (k := RL) HN.out rfl rfl ?_
        repeat (first | with_reducible refine Below.drew ?_ | with_reducible refine Below.setCell ?_ (by simp) _)
        first | exact HBr.out.bel | exact ((Below.refl _ _).alloc (Nat.le_refl _) _).alloc (by rw [World.size_alloc]; omega) _
  · have hlf : x.letter = false := by simpa using hlet
    rw [hlf] at c1
    have HLF := Lib.hid hlf
    have HS := Lib.hid (rsingle_any x.c)
    clear hlet hlf
    by_cases hsk : singleK x.c = 0
    · have HSK := Lib.hid hsk
      rw [if_pos hsk] at HS
      clear hsk
      have e94 := byte_beq x.c 94
      have e64 := byte_beq x.c 64
      have e126 := byte_beq x.c 126
      have e34 := byte_beq x.c 34
      simp only [show ((94 : UInt8).toNat : Int) = 94 from rfl, show ((64 : UInt8).toNat : Int) = 64 from rfl, show ((126 : UInt8).toNat : Int) = 126 from rfl, show ((34 : UInt8).toNat : Int) = 34 from rfl] at e94 e64 e126 e34
      by_cases hnd : x.c = 94 ∨ x.c = 64 ∨ x.c = 126
      · have HND := Lib.hid hnd
        have hcs : ((x.c == 94) = true) ∨ ((x.c == 94) = false ∧ (x.c == 64) = true) ∨ ((x.c == 94) = false ∧ (x.c == 64) = false ∧ (x.c == 126) = true) := by
          rcases hnd with h | h | h <;> (rw [h]; decide)
        clear hnd
        rcases hcs with h94 | ⟨h94, h64⟩ | ⟨h94, h64, h126⟩
        · rw [h94] at e94
          clear h94
          go_enter Tryd.func41, Tryd.ntmps41
          go_wp2_with fail
          refine (HS.out _).mono ?_
          rintro e wq ⟨rfl, rfl⟩
          go_wp2_with fail
          refine (numbered_any (.slice (some a) s.length cap) s i x _ w.heap.size (H.out.below HB0.out.bel) hs HX.out HLF.out HSK.out HND.out).mono ?_
          rintro e wr ⟨rfl, hm⟩
          have HBr := HB0
          obtain ⟨⟨d0, d1, d2, d3, d4⟩, f0, f1, f2, f3, f4⟩ := HBr.out.b1.facts
          obtain ⟨⟨g0, g1, g2, g3, g4⟩, z0, z1, z2, z3, z4⟩ := HBr.out.b0.facts
          have hwz : w.heap.size + 1 < ((w.alloc (.cells #[.int .i64 0, .string ⟨#[]⟩, .int .i64 0, .int .i64 0, .int .i64 0] 49)).alloc (.cells #[.int .i64 (-1), .string ⟨#[]⟩, .int .i64 0, .int .i64 (x.place : Int), .int .i64 0] 49)).heap.size := HB0.out.b1.lt
          cases hr : oneS (s.drop i) with
          | none =>
            rw [hr] at hm
            obtain ⟨j, rfl⟩ := hm
            have HRR := Lib.hid hr
            clear hr
            go_wp2
            refine (bodyPost_ret (v := .tuple #[.agg #[.int .i64 (-1), .string ⟨#[]⟩, .int .i64 0, .int .i64 (x.place : Int), .int .i64 0], .int .i64 j]) ?_ rfl ?_)
            · simp [results, Tryd.results41, go_sem, lxVal, d0, d1, d2, d3, d4, f0, f1, f2, f3, f4, g0, g1, g2, g3, g4, z0, z1, z2, z3, z4]
            · refine oneRet_none HRR.out ?_
              repeat (first | with_reducible refine Below.drew ?_ | with_reducible refine Below.setCell ?_ (by simp) _)
              first | exact HBr.out.bel | exact ((Below.refl _ _).alloc (Nat.le_refl _) _).alloc (by rw [World.size_alloc]; omega) _
          | some y =>
            rw [hr] at hm
            obtain ⟨k1, t1, n1, l1⟩ := y
            have hm2 : e = .returned (.tuple #[.int .i64 k1, .int .i64 n1, .int .i64 ((i + l1 : Nat) : Int)]) := hm
            subst hm2
            have HT1 : Hid (t1 = []) := Lib.hid (oneS_text HDR.out HLF.out HSK.out HND.out hr)
            have HRR := Lib.hid hr
            clear hr hm
            go_wp2
            refine (bodyPost_ret (v := .tuple #[.agg #[.int .i64 k1, .string ⟨#[]⟩, .int .i64 n1, .int .i64 (x.place : Int), .int .i64 0], .int .i64 ((i + l1 : Nat) : Int)]) ?_ rfl ?_)
            · simp [results, Tryd.results41, go_sem, lxVal, d0, d1, d2, d3, d4, f0, f1, f2, f3, f4, g0, g1, g2, g3, g4, z0, z1, z2, z3, z4]
            · refine oneRet_some (k := l1) (t := t1) HRR.out (by rw [HT1.out]; rfl) rfl ?_
              repeat (first | with_reducible refine Below.drew ?_ | with_reducible refine Below.setCell ?_ (by simp) _)
              first | exact HBr.out.bel | exact ((Below.refl _ _).alloc (Nat.le_refl _) _).alloc (by rw [World.size_alloc]; omega) _
        · rw [h94] at e94; rw [h64] at e64
          clear h94 h64
          go_enter Tryd.func41, Tryd.ntmps41
          go_wp2_with fail
          refine (HS.out _).mono ?_
          rintro e wq ⟨rfl, rfl⟩
          go_wp2_with fail
          refine (numbered_any (.slice (some a) s.length cap) s i x _ w.heap.size (H.out.below HB0.out.bel) hs HX.out HLF.out HSK.out HND.out).mono ?_
          rintro e wr ⟨rfl, hm⟩
          have HBr := HB0
          obtain ⟨⟨d0, d1, d2, d3, d4⟩, f0, f1, f2, f3, f4⟩ := HBr.out.b1.facts
          obtain ⟨⟨g0, g1, g2, g3, g4⟩, z0, z1, z2, z3, z4⟩ := HBr.out.b0.facts
          have hwz : w.heap.size + 1 < ((w.alloc (.cells #[.int .i64 0, .string ⟨#[]⟩, .int .i64 0, .int .i64 0, .int .i64 0] 49)).alloc (.cells #[.int .i64 (-1), .string ⟨#[]⟩, .int .i64 0, .int .i64 (x.place : Int), .int .i64 0] 49)).heap.size := HB0.out.b1.lt
          cases hr : oneS (s.drop i) with
          | none =>
            rw [hr] at hm
            obtain ⟨j, rfl⟩ := hm
            have HRR := Lib.hid hr
            clear hr
            go_wp2
            refine (bodyPost_ret (v := .tuple #[.agg #[.int .i64 (-1), .string ⟨#[]⟩, .int .i64 0, .int .i64 (x.place : Int), .int .i64 0], .int .i64 j]) ?_ rfl ?_)
            · simp [results, Tryd.results41, go_sem, lxVal, d0, d1, d2, d3, d4, f0, f1, f2, f3, f4, g0, g1, g2, g3, g4, z0, z1, z2, z3, z4]
            · refine oneRet_none HRR.out ?_
              repeat (first | with_reducible refine Below.drew ?_ | with_reducible refine Below.setCell ?_ (by simp) _)
              first | exact HBr.out.bel | exact ((Below.refl _ _).alloc (Nat.le_refl _) _).alloc (by rw [World.size_alloc]; omega) _
          | some y =>
            rw [hr] at hm
            obtain ⟨k1, t1, n1, l1⟩ := y
            have hm2 : e = .returned (.tuple #[.int .i64 k1, .int .i64 n1, .int .i64 ((i + l1 : Nat) : Int)]) := hm
            subst hm2
            have HT1 : Hid (t1 = []) := Lib.hid (oneS_text HDR.out HLF.out HSK.out HND.out hr)
            have HRR := Lib.hid hr
            clear hr hm
            go_wp2
            refine (bodyPost_ret (v := .tuple #[.agg #[.int .i64 k1, .string ⟨#[]⟩, .int .i64 n1, .int .i64 (x.place : Int), .int .i64 0], .int .i64 ((i + l1 : Nat) : Int)]) ?_ rfl ?_)
            · simp [results, Tryd.results41, go_sem, lxVal, d0, d1, d2, d3, d4, f0, f1, f2, f3, f4, g0, g1, g2, g3, g4, z0, z1, z2, z3, z4]
            · refine oneRet_some (k := l1) (t := t1) HRR.out (by rw [HT1.out]; rfl) rfl ?_
              repeat (first | with_reducible refine Below.drew ?_ | with_reducible refine Below.setCell ?_ (by simp) _)
              first | exact HBr.out.bel | exact ((Below.refl _ _).alloc (Nat.le_refl _) _).alloc (by rw [World.size_alloc]; omega) _
        · rw [h94] at e94; rw [h64] at e64; rw [h126] at e126
          clear h94 h64 h126
          go_enter Tryd.func41, Tryd.ntmps41
          go_wp2_with fail
          refine (HS.out _).mono ?_
          rintro e wq ⟨rfl, rfl⟩
          go_wp2_with fail
          refine (numbered_any (.slice (some a) s.length cap) s i x _ w.heap.size (H.out.below HB0.out.bel) hs HX.out HLF.out HSK.out HND.out).mono ?_
          rintro e wr ⟨rfl, hm⟩
          have HBr := HB0
          obtain ⟨⟨d0, d1, d2, d3, d4⟩, f0, f1, f2, f3, f4⟩ := HBr.out.b1.facts
          obtain ⟨⟨g0, g1, g2, g3, g4⟩, z0, z1, z2, z3, z4⟩ := HBr.out.b0.facts
          have hwz : w.heap.size + 1 < ((w.alloc (.cells #[.int .i64 0, .string ⟨#[]⟩, .int .i64 0, .int .i64 0, .int .i64 0] 49)).alloc (.cells #[.int .i64 (-1), .string ⟨#[]⟩, .int .i64 0, .int .i64 (x.place : Int), .int .i64 0] 49)).heap.size := HB0.out.b1.lt
          cases hr : oneS (s.drop i) with
          | none =>
            rw [hr] at hm
            obtain ⟨j, rfl⟩ := hm
            have HRR := Lib.hid hr
            clear hr
            go_wp2
            refine (bodyPost_ret (v := .tuple #[.agg #[.int .i64 (-1), .string ⟨#[]⟩, .int .i64 0, .int .i64 (x.place : Int), .int .i64 0], .int .i64 j]) ?_ rfl ?_)
            · simp [results, Tryd.results41, go_sem, lxVal, d0, d1, d2, d3, d4, f0, f1, f2, f3, f4, g0, g1, g2, g3, g4, z0, z1, z2, z3, z4]
            · refine oneRet_none HRR.out ?_
              repeat (first | with_reducible refine Below.drew ?_ | with_reducible refine Below.setCell ?_ (by simp) _)
              first | exact HBr.out.bel | exact ((Below.refl _ _).alloc (Nat.le_refl _) _).alloc (by rw [World.size_alloc]; omega) _
          | some y =>
            rw [hr] at hm
            obtain ⟨k1, t1, n1, l1⟩ := y
            have hm2 : e = .returned (.tuple #[.int .i64 k1, .int .i64 n1, .int .i64 ((i + l1 : Nat) : Int)]) := hm
            subst hm2
            have HT1 : Hid (t1 = []) := Lib.hid (oneS_text HDR.out HLF.out HSK.out HND.out hr)
            have HRR := Lib.hid hr
            clear hr hm
            go_wp2
            refine (bodyPost_ret (v := .tuple #[.agg #[.int .i64 k1, .string ⟨#[]⟩, .int .i64 n1, .int .i64 (x.place : Int), .int .i64 0], .int .i64 ((i + l1 : Nat) : Int)]) ?_ rfl ?_)
            · simp [results, Tryd.results41, go_sem, lxVal, d0, d1, d2, d3, d4, f0, f1, f2, f3, f4, g0, g1, g2, g3, g4, z0, z1, z2, z3, z4]
            · refine oneRet_some (k := l1) (t := t1) HRR.out (by rw [HT1.out]; rfl) rfl ?_
              repeat (first | with_reducible refine Below.drew ?_ | with_reducible refine Below.setCell ?_ (by simp) _)
              first | exact HBr.out.bel | exact ((Below.refl _ _).alloc (Nat.le_refl _) _).alloc (by rw [World.size_alloc]; omega) _
      · by_cases h34 : x.c = 34
        · have HQ34 : Hid (oneS (s.drop i) = match qS (s.drop (i + 1)) with | none => none | some y => some (3, y.1, 0, 1 + y.2)) := Lib.hid (by
            rw [HDR.out, oneS_cons]
            simp only [HLF.out, h34, true_and, show ¬ (singleK 34 ≠ 0) from by decide, if_false, show ¬ ((34 : UInt8) = 64) from by decide, show ¬ ((34 : UInt8) = 94) from by decide, show ¬ ((34 : UInt8) = 126) from by decide, if_true]
            cases qS (s.drop (i + 1)) <;> rfl)
          have h94 : (x.c == 94) = false := by rw [h34]; decide
          have h64 : (x.c == 64) = false := by rw [h34]; decide
          have h126 : (x.c == 126) = false := by rw [h34]; decide
          have h34' : (x.c == 34) = true := by rw [h34]; decide
          rw [h94] at e94; rw [h64] at e64; rw [h126] at e126; rw [h34'] at e34
          clear hnd h34 h94 h64 h126 h34'
          go_enter Tryd.func41, Tryd.ntmps41
          go_wp2_with fail
          refine (HS.out _).mono ?_
          rintro e wq ⟨rfl, rfl⟩
          go_wp2_with fail
          refine (quotedS_any (.slice (some a) s.length cap) s (i + 1) _ w.heap.size HB0.out.bel.size (H.out.below HB0.out.bel) hs (by omega)).mono ?_
          rintro e wr ⟨hbr, hm⟩
          have HBr := Lib.hid (HB0.out.belowW hbr)
          obtain ⟨⟨d0, d1, d2, d3, d4⟩, f0, f1, f2, f3, f4⟩ := HBr.out.b1.facts
          obtain ⟨⟨g0, g1, g2, g3, g4⟩, z0, z1, z2, z3, z4⟩ := HBr.out.b0.facts
          clear hbr
          cases hr : qS (s.drop (i + 1)) with
          | none =>
            rw [hr] at hm
            subst hm
            have HN := Lib.hid (HQ34.out.trans (by rw [hr]))
            clear hr
            go_wp2
            refine (bodyPost_ret (v := .tuple #[.agg #[.int .i64 (-1), .string ⟨#[]⟩, .int .i64 0, .int .i64 (x.place : Int), .int .i64 0], .int .i64 (-1)]) ?_ rfl ?_)
            · simp [results, Tryd.results41, go_sem, lxVal, d0, d1, d2, d3, d4, f0, f1, f2, f3, f4, g0, g1, g2, g3, g4, z0, z1, z2, z3, z4]
            · refine oneRet_none HN.out ?_
              repeat (first | with_reducible refine Below.drew ?_ | with_reducible refine Below.setCell ?_ (by simp) _)
              first | exact HBr.out.bel | exact ((Below.refl _ _).alloc (Nat.le_refl _) _).alloc (by rw [World.size_alloc]; omega) _
          | some y =>
            rw [hr] at hm
            subst hm
            have HN := Lib.hid (HQ34.out.trans (by rw [hr]))
            obtain ⟨qt, qn⟩ := y
            simp only [] at *
            clear hr
            go_wp2
            refine (bodyPost_ret (v := .tuple #[.agg #[.int .i64 3, .string (str qt), .int .i64 0, .int .i64 (x.place : Int), .int .i64 0], .int .i64 ((i + 1 + qn : Nat) : Int)]) ?_ rfl ?_)
            · simp [results, Tryd.results41, go_sem, lxVal, d0, d1, d2, d3, d4, f0, f1, f2, f3, f4, g0, g1, g2, g3, g4, z0, z1, z2, z3, z4]
            · refine oneRet_some (k := 1 + qn) HN.out rfl (by omega) ?_
              repeat (first | with_reducible refine Below.drew ?_ | with_reducible refine Below.setCell ?_ (by simp) _)
              first | exact HBr.out.bel | exact ((Below.refl _ _).alloc (Nat.le_refl _) _).alloc (by rw [World.size_alloc]; omega) _
        · have HRUN : Hid (oneS (s.drop i) = (rS (s.drop i)).map fun ds => ((runOut ds).1, (runOut ds).2, 0, ds.length)) := Lib.hid (by
            rw [HDR.out]; exact oneS_run x _ (.inr ⟨HSK.out, fun h => hnd (.inl h), fun h => hnd (.inr (.inl h)), fun h => hnd (.inr (.inr h)), h34⟩))
          have h94 : (x.c == 94) = false := beq_eq_false_iff_ne.2 (fun h => hnd (.inl h))
          have h64 : (x.c == 64) = false := beq_eq_false_iff_ne.2 (fun h => hnd (.inr (.inl h)))
          have h126 : (x.c == 126) = false := beq_eq_false_iff_ne.2 (fun h => hnd (.inr (.inr h)))
          have h34' : (x.c == 34) = false := beq_eq_false_iff_ne.2 h34
          rw [h94] at e94; rw [h64] at e64; rw [h126] at e126; rw [h34'] at e34
          clear hnd h34 h94 h64 h126 h34'
          go_enter Tryd.func41, Tryd.ntmps41
          go_wp2_with fail
          refine (HS.out _).mono ?_
          rintro e wq ⟨rfl, rfl⟩
          go_wp2_with fail
          refine (runS_any (.slice (some a) s.length cap) s i _ w.heap.size HB0.out.bel.size (H.out.below HB0.out.bel) hs hlt).mono ?_
          rintro e wr ⟨hbr, hm⟩
          have HBr := Lib.hid (HB0.out.belowW hbr)
          obtain ⟨⟨d0, d1, d2, d3, d4⟩, f0, f1, f2, f3, f4⟩ := HBr.out.b1.facts
          obtain ⟨⟨g0, g1, g2, g3, g4⟩, z0, z1, z2, z3, z4⟩ := HBr.out.b0.facts
          clear hbr
          cases hr : rS (s.drop i) with
          | none =>
            rw [hr] at hm
            obtain ⟨j, rfl⟩ := hm
            have HN : Hid (oneS (s.drop i) = none) := Lib.hid (HRUN.out.trans (by rw [hr]; rfl))
            clear hr
            go_wp2
            refine (bodyPost_ret (v := .tuple #[.agg #[.int .i64 (-1), .string ⟨#[]⟩, .int .i64 0, .int .i64 (x.place : Int), .int .i64 0], .int .i64 j]) ?_ rfl ?_)
            · simp [results, Tryd.results41, go_sem, lxVal, d0, d1, d2, d3, d4, f0, f1, f2, f3, f4, g0, g1, g2, g3, g4, z0, z1, z2, z3, z4]
            · refine oneRet_none HN.out ?_
              repeat (first | with_reducible refine Below.drew ?_ | with_reducible refine Below.setCell ?_ (by simp) _)
              first | exact HBr.out.bel | exact ((Below.refl _ _).alloc (Nat.le_refl _) _).alloc (by rw [World.size_alloc]; omega) _
          | some ds =>
            rw [hr] at hm
            subst hm
            have HN : Hid (oneS (s.drop i) = some ((runOut ds).1, (runOut ds).2, 0, ds.length)) := Lib.hid (HRUN.out.trans (by rw [hr]; rfl))
            generalize (runOut ds).1 = RK at *
            generalize (runOut ds).2 = RT at *
            generalize ds.length = RL at *
            clear hr
            go_wp2
            refine (bodyPost_ret (v := .tuple #[.agg #[.int .i64 RK, .string (str RT), .int .i64 0, .int .i64 (x.place : Int), .int .i64 0], .int .i64 ((i + RL : Nat) : Int)]) ?_ rfl ?_)
            · simp [results, Tryd.results41, go_sem, lxVal, d0, d1, d2, d3, d4, f0, f1, f2, f3, f4, g0, g1, g2, g3, g4, z0, z1, z2, z3, z4]
            · refine oneRet_some (k := RL) HN.out rfl rfl ?_
              repeat (first | with_reducible refine Below.drew ?_ | with_reducible refine Below.setCell ?_ (by simp) _)
              first | exact HBr.out.bel | exact ((Below.refl _ _).alloc (Nat.le_refl _) _).alloc (by rw [World.size_alloc]; omega) _
    · rw [if_neg hsk] at HS
      have HN : Hid (oneS (s.drop i) = some (singleK x.c, [], 0, 1)) := Lib.hid (by rw [HDR.out, oneS_cons, if_pos ⟨HLF.out, hsk⟩])
      have hk8 := singleK_pos hsk
      clear hsk
      generalize singleK x.c = K at *
      have HBr := HB0
      obtain ⟨⟨d0, d1, d2, d3, d4⟩, f0, f1, f2, f3, f4⟩ := HBr.out.b1.facts
      obtain ⟨⟨g0, g1, g2, g3, g4⟩, z0, z1, z2, z3, z4⟩ := HBr.out.b0.facts
      have hwz : w.heap.size + 1 < ((w.alloc (.cells #[.int .i64 0, .string ⟨#[]⟩, .int .i64 0, .int .i64 0, .int .i64 0] 49)).alloc (.cells #[.int .i64 (-1), .string ⟨#[]⟩, .int .i64 0, .int .i64 (x.place : Int), .int .i64 0] 49)).heap.size := HB0.out.b1.lt
      go_enter Tryd.func41, Tryd.ntmps41
      go_wp2_with fail
      refine (HS.out _).mono ?_
      rintro e wq ⟨rfl, rfl⟩
      go_wp2_with fail
      refine (HS.out _).mono ?_
      rintro e wq ⟨rfl, rfl⟩
      go_wp2
      refine (bodyPost_ret (v := .tuple #[.agg #[.int .i64 K, .string ⟨#[]⟩, .int .i64 0, .int .i64 (x.place : Int), .int .i64 0], .int .i64 ((i : Int) + 1)]) ?_ rfl ?_)
      · simp [results, Tryd.results41, go_sem, lxVal, d0, d1, d2, d3, d4, f0, f1, f2, f3, f4, g0, g1, g2, g3, g4, z0, z1, z2, z3, z4]
      · refine oneRet_some (k := 1) HN.out rfl (by omega) ?_
        repeat (first | with_reducible refine Below.drew ?_ | with_reducible refine Below.setCell ?_ (by simp) _)
        first | exact HBr.out.bel | exact ((Below.refl _ _).alloc (Nat.le_refl _) _).alloc (by rw [World.size_alloc]; omega) _
end Go.Proofs.YtcomdkejpaoneaaDoor
end
section
namespace Go.Proofs.YtcomdkejpaoneaaDoor
open Go.RowKit
set_option maxRecDepth 100000
set_option maxHeartbeats 4000000
set_option linter.unusedSimpArgs false
set_option linter.unusedVariables false
theorem sg_ends : ∀ (t : List UInt8) (q k : Nat) (x : Sg), (signsFrom t q)[k]? = some x → ∃ n, n ≤ t.length ∧ (signsFrom t q).drop (k + 1) = signsFrom (t.drop n) (q + n) ∧ x.place + x.size = q + n
  | [], q, k, x, h => by simp [signsFrom] at h
  | [c], q, k, x, h => by
    have e : signsFrom [c] q = [⟨c, false, q, 1⟩] := rfl
    rw [e] at h
    cases k with
    | zero => cases h; exact ⟨1, Nat.le_refl _, rfl, rfl⟩
    | succ k => simp at h
  | c :: d :: t, q, k, x, h => by
    by_cases h92 : c = 92
    · subst h92
      rw [sg_es] at h ⊢
      cases k with
      | zero => cases h; exact ⟨2, by simp, rfl, rfl⟩
      | succ k =>
        rw [List.getElem?_cons_succ] at h
        obtain ⟨n, h1, h2, h3⟩ := sg_ends t (q + 2) k x h
        refine ⟨n + 2, by simp; omega, ?_, by omega⟩
        rw [List.drop_succ_cons, h2, List.drop_succ_cons, List.drop_succ_cons]
        congr 1; omega
    · rw [sg_ne _ _ h92] at h ⊢
      cases k with
      | zero => cases h; exact ⟨1, by simp, rfl, rfl⟩
      | succ k =>
        rw [List.getElem?_cons_succ] at h
        obtain ⟨n, h1, h2, h3⟩ := sg_ends (d :: t) (q + 1) k x h
        refine ⟨n + 1, by simp at h1 ⊢; omega, ?_, by omega⟩
        rw [List.drop_succ_cons, h2, List.drop_succ_cons]
        congr 1; omega
theorem sg_nil {t : List UInt8} {q : Nat} (h : signsFrom t q = []) : t = [] := by
  match t, h with
  | [], _ => rfl
  | [c], h => exact absurd h (by simp [signsFrom])
  | c :: d :: t, h =>
    by_cases h92 : c = 92
    · subst h92; rw [sg_es] at h; cases h
    · rw [sg_ne _ _ h92] at h; cases h
theorem sg_head {t : List UInt8} {q : Nat} {x : Sg} {r : List Sg} (h : signsFrom t q = x :: r) : x.place = q ∧ 1 ≤ t.length := by
  match t, h with
  | [], h => exact absurd h (by simp [signsFrom])
  | [c], h => cases h; exact ⟨rfl, Nat.le_refl _⟩
  | c :: d :: t, h =>
    by_cases h92 : c = 92
    · subst h92; rw [sg_es] at h; cases h; exact ⟨rfl, by simp⟩
    · rw [sg_ne _ _ h92] at h; cases h; exact ⟨rfl, by simp⟩
theorem sg_same {t : List UInt8} {q n m : Nat} (hn : n ≤ t.length) (hm : m ≤ t.length) (h : signsFrom (t.drop n) (q + n) = signsFrom (t.drop m) (q + m)) : n = m := by
  cases e : signsFrom (t.drop m) (q + m) with
  | nil =>
    have h1 := sg_nil e
    have h2 := sg_nil (h.trans e)
    rw [List.drop_eq_nil_iff] at h1 h2
    omega
  | cons x r =>
    have h1 := (sg_head e).1
    have h2 := (sg_head (h.trans e)).1
    omega
theorem tok_kind0 {l : List UInt8} {k : Tk} (h : tokOf l = some k) : 0 ≤ k.kind := by
  have hk : ∀ l, 0 ≤ kwd l := by
    intro l
    unfold kwd
    repeat' split
    all_goals decide
  have hr : ∀ l k, runTk l = some k → 0 ≤ k.kind := by
    intro l k h
    unfold runTk at h
    obtain ⟨r, hr, rfl⟩ := Option.map_eq_some_iff.1 h
    split
    · show (0 : Int) ≤ 2; omega
    · exact hk _
  have hn : ∀ (kind : Int) (u : List UInt8) (m : Nat) (k : Tk), 0 ≤ kind → numTk kind u m = some k → 0 ≤ k.kind := by
    intro kind u m k h0 h
    unfold numTk at h
    split at h
    · cases h; exact h0
    · cases h
  cases l with
  | nil => cases h
  | cons c t =>
    rw [tokOf] at h
    split at h
    · rename_i hs
      cases h
      have := singleK_pos hs
      show 0 ≤ singleK c
      omega
    · repeat' split at h
      all_goals first
        | exact hr _ _ h
        | exact hn _ _ _ _ (by decide) h
        | (cases h; show (0 : Int) ≤ 20; omega)
        | (obtain ⟨y, hy, rfl⟩ := Option.map_eq_some_iff.1 h; show (0 : Int) ≤ 3; omega)
theorem qS_len : ∀ (l : List Sg) (y : List UInt8 × Nat), qS l = some y → y.2 ≤ l.length
  | [], y, h => by cases h
  | x :: r, y, h => by
    rw [qS] at h
    split at h
    · cases h; simp
    · split at h
      · cases h
      · obtain ⟨z, hz, rfl⟩ := Option.map_eq_some_iff.1 h
        have := qS_len r z hz
        simp only [List.length_cons]; omega
theorem rS_len : ∀ (l : List Sg) (ds : List Sg), rS l = some ds → ds.length ≤ l.length
  | [], ds, h => by cases h; exact Nat.le_refl _
  | x :: r, ds, h => by
    rw [rS] at h
    split at h
    · split at h
      · cases h
      · obtain ⟨z, hz, rfl⟩ := Option.map_eq_some_iff.1 h
        have := rS_len r z hz
        simp only [List.length_cons]; omega
    · cases h; simp
theorem dgS_le (l : List Sg) : (dgS l).length ≤ l.length := (List.takeWhile_prefix _).length_le
theorem oneS_len {l : List Sg} {kind n : Int} {t : List UInt8} {k : Nat} (h : oneS l = some (kind, t, n, k)) : k ≤ l.length := by
  cases l with
  | nil => cases h
  | cons x r =>
    have hd := dgS_le r
    rw [oneS_cons] at h
    rw [List.length_cons]
    split at h
    · cases h; omega
    · split at h
      · split at h
        · cases h
        · cases h; omega
      · split at h
        · cases r with
          | nil => cases h
          | cons y r2 =>
            have hd2 := dgS_le r2
            rw [List.length_cons] at hd ⊢
            simp only [] at h
            split at h
            · split at h
              · cases h
              · cases h; omega
            · split at h
              · cases h
              · cases h; omega
        · split at h
          · split at h
            · cases h
            · cases h; omega
          · split at h
            · cases hq : qS r with
              | none => rw [hq] at h; cases h
              | some y =>
                rw [hq] at h
                have := qS_len _ _ hq
                cases h; omega
            · cases hq : rS (x :: r) with
              | none => rw [hq] at h; cases h
              | some ds =>
                rw [hq] at h
                have := rS_len _ _ hq
                rw [List.length_cons] at this
                simp only [] at h
                split at h
                · cases h; omega
                · split at h
                  · cases h; omega
                  · cases h; omega
structure SgPos (s : ByteArray) (i p : Nat) : Prop where
  le : p ≤ s.size
  eq : (signs s.data.toList).drop i = signsFrom (s.data.toList.drop p) p
section
variable {s : ByteArray} {i p : Nat} {x : Sg}
theorem SgPos.lt (h : SgPos s i p) (hi : i < (signs s.data.toList).length) : p < s.size := by
  have h1 := h.eq
  rw [List.drop_eq_getElem_cons hi] at h1
  have h2 := (sg_head h1.symm).2
  rw [List.length_drop, ← ba_size] at h2
  omega
theorem SgPos.stop (h : SgPos s i p) (hi : ¬ i < (signs s.data.toList).length) : ¬ p < s.size := by
  have h1 := h.eq
  rw [List.drop_eq_nil_of_le (by omega)] at h1
  have h2 := sg_nil h1.symm
  rw [List.drop_eq_nil_iff, ← ba_size] at h2
  omega
theorem SgPos.place (h : SgPos s i p) (hx : (signs s.data.toList)[i]? = some x) : x.place = p := by
  obtain ⟨hi, rfl⟩ := List.getElem?_eq_some_iff.1 hx
  have h1 := h.eq
  rw [List.drop_eq_getElem_cons hi] at h1
  exact (sg_head h1.symm).1
theorem SgPos.blank (h : SgPos s i p) (hp : p < s.size) (hc : cls s[p] = 1) (hx : (signs s.data.toList)[i]? = some x) : x.letter = false ∧ x.c = s[p] ∧ SgPos s (i + 1) (p + 1) := by
  obtain ⟨hi, rfl⟩ := List.getElem?_eq_some_iff.1 hx
  have h92 : s[p] ≠ 92 := by intro e; rw [e] at hc; exact absurd hc (by decide)
  have h1 := h.eq
  rw [List.drop_eq_getElem_cons hi, dropB s hp, sg_ne _ _ h92] at h1
  injection h1 with h1 h2
  refine ⟨by rw [h1], by rw [h1], by omega, h2⟩
theorem SgPos.notBlank (h : SgPos s i p) (hp : p < s.size) (hc : cls s[p] ≠ 1) (hx : (signs s.data.toList)[i]? = some x) : x.letter = true ∨ (x.letter = false ∧ cls x.c ≠ 1) := by
  obtain ⟨hi, rfl⟩ := List.getElem?_eq_some_iff.1 hx
  have h1 := h.eq
  rw [List.drop_eq_getElem_cons hi, dropB s hp] at h1
  generalize s.data.toList.drop (p + 1) = t at h1
  by_cases h92 : s[p] = 92
  · rw [h92] at h1
    cases t with
    | nil => injection h1 with h1 h2; rw [h1]; exact .inr ⟨rfl, show cls 92 ≠ 1 from by decide⟩
    | cons d t => rw [sg_es] at h1; injection h1 with h1 h2; rw [h1]; exact .inl rfl
  · rw [sg_ne _ _ h92] at h1
    injection h1 with h1 h2
    rw [h1]; exact .inr ⟨rfl, hc⟩
theorem SgPos.none (h : SgPos s i p) (hp : p < s.size) (hc : cls s[p] ≠ 1) (ho : oneS ((signs s.data.toList).drop i) = none) : sTok s p = none := by
  rw [h.eq, dropB s hp] at ho
  have h1 := oneS_eq s[p] (s.data.toList.drop (p + 1)) p hc
  unfold sTok
  rw [dropB s hp]
  cases ht : tokOf (s[p] :: s.data.toList.drop (p + 1)) with
  | none => rfl
  | some tk =>
    rw [ht] at h1
    obtain ⟨k, h2, h3, h4⟩ := h1
    rw [h2] at ho; cases ho
theorem SgPos.tok (h : SgPos s i p) (hp : p < s.size) (hc : cls s[p] ≠ 1) {kind n : Int} {t : List UInt8} {k : Nat} (ho : oneS ((signs s.data.toList).drop i) = some (kind, t, n, k)) :
    ∃ (m e : Nat) (y : Sg), i + k = m + 1 ∧ i ≤ m ∧ (signs s.data.toList)[m]? = some y ∧ y.place + y.size = e ∧ p < e ∧ sTok s p = some ⟨kind, t, n, p, e⟩ ∧ 0 ≤ kind ∧ SgPos s (m + 1) e := by
  have hE := h.eq
  rw [h.eq, dropB s hp] at ho
  have h1 := oneS_eq s[p] (s.data.toList.drop (p + 1)) p hc
  cases ht : tokOf (s[p] :: s.data.toList.drop (p + 1)) with
  | none => rw [ht] at h1; rw [h1] at ho; cases ho
  | some tk =>
    rw [ht] at h1
    obtain ⟨k', h2, h3, h4⟩ := h1
    rw [h2] at ho
    injection ho with ho
    simp only [Prod.mk.injEq] at ho
    obtain ⟨rfl, rfl, rfl, rfl⟩ := ho
    have hl := tok_len ht (fun c hh => by cases hh; exact hc)
    rw [← dropB s hp, List.length_drop, ← ba_size] at hl
    have hst : sTok s p = some ⟨tk.kind, tk.text, tk.n, p, p + tk.len⟩ := by
      unfold sTok; rw [dropB s hp, ht]; rfl
    rw [← dropB s hp] at h4
    -- the last sign
    have hk := oneS_len h2
    rw [← dropB s hp] at hk
    obtain ⟨j, rfl⟩ : ∃ j, k' = j + 1 := ⟨k' - 1, by omega⟩
    obtain ⟨y, hy⟩ : ∃ y, (signsFrom (s.data.toList.drop p) p)[j]? = some y := ⟨_, List.getElem?_eq_getElem (by omega)⟩
    obtain ⟨n, g1, g2, g3⟩ := sg_ends _ _ _ _ hy
    rw [h4] at g2
    have hnm := sg_same (by rw [List.length_drop, ← ba_size]; omega) g1 g2
    subst hnm
    refine ⟨i + j, p + tk.len, y, by omega, by omega, ?_, g3, by omega, hst, tok_kind0 ht, by omega, ?_⟩
    · rw [← hE, List.getElem?_drop] at hy; exact hy
    · rw [Nat.add_assoc, ← List.drop_drop, hE, h4, List.drop_drop]
end
end Go.Proofs.YtcomdkejpaoneaaDoor
end
