/- The reference's scan: one. -/
import Derived.Test.YtlgcofinmpckkaaDoorZo
import Derived.Test.YtlgcofinmpckkaaDoorZr
import Derived.Test.YtlgcofinmpckkaaDoorSq
namespace Go.Proofs.YtlgcofinmpckkaaDoor
open Go.RowKit
set_option maxRecDepth 100000
set_option maxHeartbeats 4000000
set_option linter.unusedSimpArgs false
set_option linter.unusedVariables false

/-- What one answers: a token at its place and the sign behind it; below 0: a fault. -/
def OneRet (r : Option (Int × List UInt8 × Int × Nat)) (i p : Nat) (w : World) (e : Ending) (w' : World) : Prop :=
  Below w.heap.size w w' ∧ match r with
    | none => ∃ (t : ByteArray) (n j : Int), e = .returned (.tuple #[.agg #[.int .i64 (-1), .string t, .int .i64 n, .int .i64 (p : Int), .int .i64 0], .int .i64 j])
    | some y => e = .returned (.tuple #[.agg #[.int .i64 y.1, .string (str y.2.1), .int .i64 y.2.2.1, .int .i64 (p : Int), .int .i64 0], .int .i64 ((i + y.2.2.2 : Nat) : Int)])
theorem oneRet_none {r : Option (Int × List UInt8 × Int × Nat)} {i p : Nat} {t : ByteArray} {n j : Int} {w w' : World} (h : r = none) (hb : Below w.heap.size w w') :
    OneRet r i p w (.returned (.tuple #[.agg #[.int .i64 (-1), .string t, .int .i64 n, .int .i64 (p : Int), .int .i64 0], .int .i64 j])) w' := by subst h; exact ⟨hb, t, n, j, rfl⟩
theorem oneRet_some {r : Option (Int × List UInt8 × Int × Nat)} {i p k : Nat} {kind n m : Int} {t : List UInt8} {T : ByteArray} {w w' : World} (h : r = some (kind, t, n, k)) (hT : T = str t) (hm : m = ((i + k : Nat) : Int)) (hb : Below w.heap.size w w') :
    OneRet r i p w (.returned (.tuple #[.agg #[.int .i64 kind, .string T, .int .i64 n, .int .i64 (p : Int), .int .i64 0], .int .i64 m])) w' := by subst h; subst hT; subst hm; exact ⟨hb, rfl⟩
theorem oneS_run (x : Sg) (r : List Sg) (h : x.letter = true ∨ (singleK x.c = 0 ∧ x.c ≠ 94 ∧ x.c ≠ 64 ∧ x.c ≠ 126 ∧ x.c ≠ 34)) : oneS (x :: r) = (rS (x :: r)).map fun ds => ((runOut ds).1, (runOut ds).2, 0, ds.length) := by
  rw [oneS_cons]
  rcases h with h | ⟨h0, h1, h2, h3, h4⟩
  · cases rS (x :: r) with
    | none => simp [h]
    | some ds =>
      simp only [h, Bool.true_eq_false, false_and, if_false, Option.map_some]
      unfold runOut
      split
      · rfl
      · split <;> rfl
  · cases rS (x :: r) with
    | none => simp [h0, h1, h2, h3, h4]
    | some ds =>
      simp only [h0, h1, h2, h3, h4, ne_eq, not_true_eq_false, and_false, if_false, Option.map_some]
      unfold runOut
      split
      · rfl
      · split <;> rfl
theorem singleK_pos {c : UInt8} (h : singleK c ≠ 0) : 8 ≤ singleK c ∧ singleK c ≤ 17 := by
  have := all_bytes' (p := fun c => decide (singleK c ≠ 0 → 8 ≤ singleK c ∧ singleK c ≤ 17)) (by decide +kernel) c
  exact of_decide_eq_true this h
theorem oneS_text {l : List Sg} {x : Sg} {r : List Sg} {k n : Int} {t : List UInt8} {m : Nat} (hd : l = x :: r) (hl : x.letter = false) (hs : singleK x.c = 0) (hc : x.c = 94 ∨ x.c = 64 ∨ x.c = 126) (h : oneS l = some (k, t, n, m)) : t = [] := by
  subst hd
  rw [oneS_cons] at h
  rcases hc with hc | hc | hc
  · simp only [hl, hc, true_and, show ¬ (singleK 94 ≠ 0) from by decide, if_false, show ¬ ((94 : UInt8) = 64) from by decide, if_true] at h
    split at h
    · cases h
    · split at h
      · split at h
        · cases h
        · injection h with h; simp only [Prod.mk.injEq] at h; exact h.2.1.symm
      · split at h
        · cases h
        · injection h with h; simp only [Prod.mk.injEq] at h; exact h.2.1.symm
  · simp only [hl, hc, true_and, show ¬ (singleK 64 ≠ 0) from by decide, if_false, if_true] at h
    split at h
    · cases h
    · injection h with h; simp only [Prod.mk.injEq] at h; exact h.2.1.symm
  · simp only [hl, hc, true_and, show ¬ (singleK 126 ≠ 0) from by decide, if_false, show ¬ ((126 : UInt8) = 64) from by decide, show ¬ ((126 : UInt8) = 94) from by decide, if_true] at h
    split at h
    · cases h
    · injection h with h; simp only [Prod.mk.injEq] at h; exact h.2.1.symm
/-- The two blocks that one makes: its result and its token. -/
structure OneB (w : World) (k t n p e : Value) (wx : World) : Prop where
  b0 : Blk5 wx w.heap.size (.int .i64 0) (.string ⟨#[]⟩) (.int .i64 0) (.int .i64 0) (.int .i64 0)
  b1 : Blk5 wx (w.heap.size + 1) k t n p e
  bel : Below w.heap.size w wx
theorem OneB.belowW {w : World} {k t n p e : Value} {wx wy : World} (h : OneB w k t n p e wx) (hb : Below wx.heap.size wx wy) : OneB w k t n p e wy :=
  ⟨h.b0.below hb h.b0.lt, h.b1.below hb h.b1.lt, h.bel.trans (hb.mono (by have := h.b0.lt; omega))⟩
theorem one_any (sv : Value) (s : List Sg) (i : Nat) (x : Sg) (w : World) (h : RdL sgShape w w.heap.size sv s) (hs : s.length ≤ 10000000) (hx : s[i]? = some x) :
    Calls Tryd.prog 32 #[sv, .int .i64 (i : Int)] w (OneRet (oneS (s.drop i)) i x.place w) := by
  obtain ⟨A, cap, rfl, h1, h2⟩ := h.open_
  have H := Lib.hid h
  have hlt : i < s.length := (List.getElem?_eq_some_iff.1 hx).1
  obtain ⟨a, rfl, hab, c0, c1, c2, c3⟩ := at_sg h hx
  have HDR := Lib.hid (drop_get hx)
  have HX := Lib.hid hx
  have hxl := u8_lt x.c
  have hpl : (x.place : Int) = (x.place : Int) := rfl
  have HB0 : Hid (OneB w (.int .i64 (-1)) (.string ⟨#[]⟩) (.int .i64 0) (.int .i64 (x.place : Int)) (.int .i64 0) ((w.alloc (.cells #[.int .i64 0, .string ⟨#[]⟩, .int .i64 0, .int .i64 0, .int .i64 0] 35)).alloc (.cells #[.int .i64 (-1), .string ⟨#[]⟩, .int .i64 0, .int .i64 (x.place : Int), .int .i64 0] 35))) :=
    Lib.hid ⟨(Blk5.new w _ _ _ _ _).below ((Below.refl _ _).alloc (Nat.le_refl _) _) (by rw [World.size_alloc]; omega), by have h := Blk5.new (w.alloc (.cells #[.int .i64 0, .string ⟨#[]⟩, .int .i64 0, .int .i64 0, .int .i64 0] 35)) (.int .i64 (-1)) (.string ⟨#[]⟩) (.int .i64 0) (.int .i64 (x.place : Int)) (.int .i64 0); rw [World.size_alloc] at h; exact h,
      ((Below.refl _ _).alloc (Nat.le_refl _) _).alloc (by rw [World.size_alloc]; omega) _⟩
  clear h hx hpl
  by_cases hlet : x.letter = true
  · have HRUN : Hid (oneS (s.drop i) = (rS (s.drop i)).map fun ds => ((runOut ds).1, (runOut ds).2, 0, ds.length)) := Lib.hid (by
      rw [HDR.out]; exact oneS_run x _ (.inl hlet))
    rw [hlet] at c1
    clear hlet
    go_enter Tryd.func32, Tryd.ntmps32
    go_wp2_with fail
    refine (runS_any (.slice (some a) s.length cap) s i _ w.heap.size HB0.out.bel.size (H.out.below HB0.out.bel) hs hlt).mono ?_
    rintro e wr ⟨hbr, hm⟩
    have HBr := Lib.hid (HB0.out.belowW hbr)
    obtain ⟨⟨d0, d1, d2, d3, d4⟩, f0, f1, f2, f3, f4⟩ := HBr.out.b1.facts
    obtain ⟨⟨g0, g1, g2, g3, g4⟩, z0, z1, z2, z3, z4⟩ := HBr.out.b0.facts
    clear hbr
    cases hr : rS (s.drop i) with
    | none =>
      rw [hr] at hm
      obtain ⟨j, rfl⟩ := hm
      have HN : Hid (oneS (s.drop i) = none) := Lib.hid (HRUN.out.trans (by rw [hr]; rfl))
      clear hr
      go_wp2
      refine (bodyPost_ret (v := .tuple #[.agg #[.int .i64 (-1), .string ⟨#[]⟩, .int .i64 0, .int .i64 (x.place : Int), .int .i64 0], .int .i64 j]) ?_ rfl ?_)
      · simp [results, Tryd.results32, go_sem, lxVal, d0, d1, d2, d3, d4, f0, f1, f2, f3, f4, g0, g1, g2, g3, g4, z0, z1, z2, z3, z4]
      · refine oneRet_none HN.out ?_
        repeat (first | with_reducible refine Below.drew ?_ | with_reducible refine Below.setCell ?_ (by simp) _)
        first | exact HBr.out.bel | exact ((Below.refl _ _).alloc (Nat.le_refl _) _).alloc (by rw [World.size_alloc]; omega) _
    | some ds =>
      rw [hr] at hm
      subst hm
      have HN : Hid (oneS (s.drop i) = some ((runOut ds).1, (runOut ds).2, 0, ds.length)) := Lib.hid (HRUN.out.trans (by rw [hr]; rfl))
      generalize (runOut ds).1 = RK at *
      generalize (runOut ds).2 = RT at *
      generalize ds.length = RL at *
      clear hr
      go_wp2
      refine (bodyPost_ret (v := .tuple #[.agg #[.int .i64 RK, .string (str RT), .int .i64 0, .int .i64 (x.place : Int), .int .i64 0], .int .i64 ((i + RL : Nat) : Int)]) ?_ rfl ?_)
      · simp [results, Tryd.results32, go_sem, lxVal, d0, d1, d2, d3, d4, f0, f1, f2, f3, f4, g0, g1, g2, g3, g4, z0, z1, z2, z3, z4]
      · refine oneRet_some (k := RL) HN.out rfl rfl ?_
        repeat (first | with_reducible refine Below.drew ?_ | with_reducible refine Below.setCell ?_ (by simp) _)
        first | exact HBr.out.bel | exact ((Below.refl _ _).alloc (Nat.le_refl _) _).alloc (by rw [World.size_alloc]; omega) _
  · have hlf : x.letter = false := by simpa using hlet
    rw [hlf] at c1
    have HLF := Lib.hid hlf
    have HS := Lib.hid (rsingle_any x.c)
    clear hlet hlf
    by_cases hsk : singleK x.c = 0
    · have HSK := Lib.hid hsk
      rw [if_pos hsk] at HS
      clear hsk
      have e94 := byte_beq x.c 94
      have e64 := byte_beq x.c 64
      have e126 := byte_beq x.c 126
      have e34 := byte_beq x.c 34
      simp only [show ((94 : UInt8).toNat : Int) = 94 from rfl, show ((64 : UInt8).toNat : Int) = 64 from rfl, show ((126 : UInt8).toNat : Int) = 126 from rfl, show ((34 : UInt8).toNat : Int) = 34 from rfl] at e94 e64 e126 e34
      by_cases hnd : x.c = 94 ∨ x.c = 64 ∨ x.c = 126
      · have HND := Lib.hid hnd
        have hcs : ((x.c == 94) = true) ∨ ((x.c == 94) = false ∧ (x.c == 64) = true) ∨ ((x.c == 94) = false ∧ (x.c == 64) = false ∧ (x.c == 126) = true) := by
          rcases hnd with h | h | h <;> (rw [h]; decide)
        clear hnd
        rcases hcs with h94 | ⟨h94, h64⟩ | ⟨h94, h64, h126⟩
        · rw [h94] at e94
          clear h94
          go_enter Tryd.func32, Tryd.ntmps32
          go_wp2_with fail
          refine (HS.out _).mono ?_
          rintro e wq ⟨rfl, rfl⟩
          go_wp2_with fail
          refine (numbered_any (.slice (some a) s.length cap) s i x _ w.heap.size (H.out.below HB0.out.bel) hs HX.out HLF.out HSK.out HND.out).mono ?_
          rintro e wr ⟨rfl, hm⟩
          have HBr := HB0
          obtain ⟨⟨d0, d1, d2, d3, d4⟩, f0, f1, f2, f3, f4⟩ := HBr.out.b1.facts
          obtain ⟨⟨g0, g1, g2, g3, g4⟩, z0, z1, z2, z3, z4⟩ := HBr.out.b0.facts
          have hwz : w.heap.size + 1 < ((w.alloc (.cells #[.int .i64 0, .string ⟨#[]⟩, .int .i64 0, .int .i64 0, .int .i64 0] 35)).alloc (.cells #[.int .i64 (-1), .string ⟨#[]⟩, .int .i64 0, .int .i64 (x.place : Int), .int .i64 0] 35)).heap.size := HB0.out.b1.lt
          cases hr : oneS (s.drop i) with
          | none =>
            rw [hr] at hm
            obtain ⟨j, rfl⟩ := hm
            have HRR := Lib.hid hr
            clear hr
            go_wp2
            refine (bodyPost_ret (v := .tuple #[.agg #[.int .i64 (-1), .string ⟨#[]⟩, .int .i64 0, .int .i64 (x.place : Int), .int .i64 0], .int .i64 j]) ?_ rfl ?_)
            · simp [results, Tryd.results32, go_sem, lxVal, d0, d1, d2, d3, d4, f0, f1, f2, f3, f4, g0, g1, g2, g3, g4, z0, z1, z2, z3, z4]
            · refine oneRet_none HRR.out ?_
              repeat (first | with_reducible refine Below.drew ?_ | with_reducible refine Below.setCell ?_ (by simp) _)
              first | exact HBr.out.bel | exact ((Below.refl _ _).alloc (Nat.le_refl _) _).alloc (by rw [World.size_alloc]; omega) _
          | some y =>
            rw [hr] at hm
            obtain ⟨k1, t1, n1, l1⟩ := y
            have hm2 : e = .returned (.tuple #[.int .i64 k1, .int .i64 n1, .int .i64 ((i + l1 : Nat) : Int)]) := hm
            subst hm2
            have HT1 : Hid (t1 = []) := Lib.hid (oneS_text HDR.out HLF.out HSK.out HND.out hr)
            have HRR := Lib.hid hr
            clear hr hm
            go_wp2
            refine (bodyPost_ret (v := .tuple #[.agg #[.int .i64 k1, .string ⟨#[]⟩, .int .i64 n1, .int .i64 (x.place : Int), .int .i64 0], .int .i64 ((i + l1 : Nat) : Int)]) ?_ rfl ?_)
            · simp [results, Tryd.results32, go_sem, lxVal, d0, d1, d2, d3, d4, f0, f1, f2, f3, f4, g0, g1, g2, g3, g4, z0, z1, z2, z3, z4]
            · refine oneRet_some (k := l1) (t := t1) HRR.out (by rw [HT1.out]; rfl) rfl ?_
              repeat (first | with_reducible refine Below.drew ?_ | with_reducible refine Below.setCell ?_ (by simp) _)
              first | exact HBr.out.bel | exact ((Below.refl _ _).alloc (Nat.le_refl _) _).alloc (by rw [World.size_alloc]; omega) _
        · rw [h94] at e94; rw [h64] at e64
          clear h94 h64
          go_enter Tryd.func32, Tryd.ntmps32
          go_wp2_with fail
          refine (HS.out _).mono ?_
          rintro e wq ⟨rfl, rfl⟩
          go_wp2_with fail
          refine (numbered_any (.slice (some a) s.length cap) s i x _ w.heap.size (H.out.below HB0.out.bel) hs HX.out HLF.out HSK.out HND.out).mono ?_
          rintro e wr ⟨rfl, hm⟩
          have HBr := HB0
          obtain ⟨⟨d0, d1, d2, d3, d4⟩, f0, f1, f2, f3, f4⟩ := HBr.out.b1.facts
          obtain ⟨⟨g0, g1, g2, g3, g4⟩, z0, z1, z2, z3, z4⟩ := HBr.out.b0.facts
          have hwz : w.heap.size + 1 < ((w.alloc (.cells #[.int .i64 0, .string ⟨#[]⟩, .int .i64 0, .int .i64 0, .int .i64 0] 35)).alloc (.cells #[.int .i64 (-1), .string ⟨#[]⟩, .int .i64 0, .int .i64 (x.place : Int), .int .i64 0] 35)).heap.size := HB0.out.b1.lt
          cases hr : oneS (s.drop i) with
          | none =>
            rw [hr] at hm
            obtain ⟨j, rfl⟩ := hm
            have HRR := Lib.hid hr
            clear hr
            go_wp2
            refine (bodyPost_ret (v := .tuple #[.agg #[.int .i64 (-1), .string ⟨#[]⟩, .int .i64 0, .int .i64 (x.place : Int), .int .i64 0], .int .i64 j]) ?_ rfl ?_)
            · simp [results, Tryd.results32, go_sem, lxVal, d0, d1, d2, d3, d4, f0, f1, f2, f3, f4, g0, g1, g2, g3, g4, z0, z1, z2, z3, z4]
            · refine oneRet_none HRR.out ?_
              repeat (first | with_reducible refine Below.drew ?_ | with_reducible refine Below.setCell ?_ (by simp) _)
              first | exact HBr.out.bel | exact ((Below.refl _ _).alloc (Nat.le_refl _) _).alloc (by rw [World.size_alloc]; omega) _
          | some y =>
            rw [hr] at hm
            obtain ⟨k1, t1, n1, l1⟩ := y
            have hm2 : e = .returned (.tuple #[.int .i64 k1, .int .i64 n1, .int .i64 ((i + l1 : Nat) : Int)]) := hm
            subst hm2
            have HT1 : Hid (t1 = []) := Lib.hid (oneS_text HDR.out HLF.out HSK.out HND.out hr)
            have HRR := Lib.hid hr
            clear hr hm
            go_wp2
            refine (bodyPost_ret (v := .tuple #[.agg #[.int .i64 k1, .string ⟨#[]⟩, .int .i64 n1, .int .i64 (x.place : Int), .int .i64 0], .int .i64 ((i + l1 : Nat) : Int)]) ?_ rfl ?_)
            · simp [results, Tryd.results32, go_sem, lxVal, d0, d1, d2, d3, d4, f0, f1, f2, f3, f4, g0, g1, g2, g3, g4, z0, z1, z2, z3, z4]
            · refine oneRet_some (k := l1) (t := t1) HRR.out (by rw [HT1.out]; rfl) rfl ?_
              repeat (first | with_reducible refine Below.drew ?_ | with_reducible refine Below.setCell ?_ (by simp) _)
              first | exact HBr.out.bel | exact ((Below.refl _ _).alloc (Nat.le_refl _) _).alloc (by rw [World.size_alloc]; omega) _
        · rw [h94] at e94; rw [h64] at e64; rw [h126] at e126
          clear h94 h64 h126
          go_enter Tryd.func32, Tryd.ntmps32
          go_wp2_with fail
          refine (HS.out _).mono ?_
          rintro e wq ⟨rfl, rfl⟩
          go_wp2_with fail
          refine (numbered_any (.slice (some a) s.length cap) s i x _ w.heap.size (H.out.below HB0.out.bel) hs HX.out HLF.out HSK.out HND.out).mono ?_
          rintro e wr ⟨rfl, hm⟩
          have HBr := HB0
          obtain ⟨⟨d0, d1, d2, d3, d4⟩, f0, f1, f2, f3, f4⟩ := HBr.out.b1.facts
          obtain ⟨⟨g0, g1, g2, g3, g4⟩, z0, z1, z2, z3, z4⟩ := HBr.out.b0.facts
          have hwz : w.heap.size + 1 < ((w.alloc (.cells #[.int .i64 0, .string ⟨#[]⟩, .int .i64 0, .int .i64 0, .int .i64 0] 35)).alloc (.cells #[.int .i64 (-1), .string ⟨#[]⟩, .int .i64 0, .int .i64 (x.place : Int), .int .i64 0] 35)).heap.size := HB0.out.b1.lt
          cases hr : oneS (s.drop i) with
          | none =>
            rw [hr] at hm
            obtain ⟨j, rfl⟩ := hm
            have HRR := Lib.hid hr
            clear hr
            go_wp2
            refine (bodyPost_ret (v := .tuple #[.agg #[.int .i64 (-1), .string ⟨#[]⟩, .int .i64 0, .int .i64 (x.place : Int), .int .i64 0], .int .i64 j]) ?_ rfl ?_)
            · simp [results, Tryd.results32, go_sem, lxVal, d0, d1, d2, d3, d4, f0, f1, f2, f3, f4, g0, g1, g2, g3, g4, z0, z1, z2, z3, z4]
            · refine oneRet_none HRR.out ?_
              repeat (first | with_reducible refine Below.drew ?_ | with_reducible refine Below.setCell ?_ (by simp) _)
              first | exact HBr.out.bel | exact ((Below.refl _ _).alloc (Nat.le_refl _) _).alloc (by rw [World.size_alloc]; omega) _
          | some y =>
            rw [hr] at hm
            obtain ⟨k1, t1, n1, l1⟩ := y
            have hm2 : e = .returned (.tuple #[.int .i64 k1, .int .i64 n1, .int .i64 ((i + l1 : Nat) : Int)]) := hm
            subst hm2
            have HT1 : Hid (t1 = []) := Lib.hid (oneS_text HDR.out HLF.out HSK.out HND.out hr)
            have HRR := Lib.hid hr
            clear hr hm
            go_wp2
            refine (bodyPost_ret (v := .tuple #[.agg #[.int .i64 k1, .string ⟨#[]⟩, .int .i64 n1, .int .i64 (x.place : Int), .int .i64 0], .int .i64 ((i + l1 : Nat) : Int)]) ?_ rfl ?_)
            · simp [results, Tryd.results32, go_sem, lxVal, d0, d1, d2, d3, d4, f0, f1, f2, f3, f4, g0, g1, g2, g3, g4, z0, z1, z2, z3, z4]
            · refine oneRet_some (k := l1) (t := t1) HRR.out (by rw [HT1.out]; rfl) rfl ?_
              repeat (first | with_reducible refine Below.drew ?_ | with_reducible refine Below.setCell ?_ (by simp) _)
              first | exact HBr.out.bel | exact ((Below.refl _ _).alloc (Nat.le_refl _) _).alloc (by rw [World.size_alloc]; omega) _
      · by_cases h34 : x.c = 34
        · have HQ34 : Hid (oneS (s.drop i) = match qS (s.drop (i + 1)) with | none => none | some y => some (3, y.1, 0, 1 + y.2)) := Lib.hid (by
            rw [HDR.out, oneS_cons]
            simp only [HLF.out, h34, true_and, show ¬ (singleK 34 ≠ 0) from by decide, if_false, show ¬ ((34 : UInt8) = 64) from by decide, show ¬ ((34 : UInt8) = 94) from by decide, show ¬ ((34 : UInt8) = 126) from by decide, if_true]
            cases qS (s.drop (i + 1)) <;> rfl)
          have h94 : (x.c == 94) = false := by rw [h34]; decide
          have h64 : (x.c == 64) = false := by rw [h34]; decide
          have h126 : (x.c == 126) = false := by rw [h34]; decide
          have h34' : (x.c == 34) = true := by rw [h34]; decide
          rw [h94] at e94; rw [h64] at e64; rw [h126] at e126; rw [h34'] at e34
          clear hnd h34 h94 h64 h126 h34'
          go_enter Tryd.func32, Tryd.ntmps32
          go_wp2_with fail
          refine (HS.out _).mono ?_
          rintro e wq ⟨rfl, rfl⟩
          go_wp2_with fail
          refine (quotedS_any (.slice (some a) s.length cap) s (i + 1) _ w.heap.size HB0.out.bel.size (H.out.below HB0.out.bel) hs (by omega)).mono ?_
          rintro e wr ⟨hbr, hm⟩
          have HBr := Lib.hid (HB0.out.belowW hbr)
          obtain ⟨⟨d0, d1, d2, d3, d4⟩, f0, f1, f2, f3, f4⟩ := HBr.out.b1.facts
          obtain ⟨⟨g0, g1, g2, g3, g4⟩, z0, z1, z2, z3, z4⟩ := HBr.out.b0.facts
          clear hbr
          cases hr : qS (s.drop (i + 1)) with
          | none =>
            rw [hr] at hm
            subst hm
            have HN := Lib.hid (HQ34.out.trans (by rw [hr]))
            clear hr
            go_wp2
            refine (bodyPost_ret (v := .tuple #[.agg #[.int .i64 (-1), .string ⟨#[]⟩, .int .i64 0, .int .i64 (x.place : Int), .int .i64 0], .int .i64 (-1)]) ?_ rfl ?_)
            · simp [results, Tryd.results32, go_sem, lxVal, d0, d1, d2, d3, d4, f0, f1, f2, f3, f4, g0, g1, g2, g3, g4, z0, z1, z2, z3, z4]
            · refine oneRet_none HN.out ?_
              repeat (first | with_reducible refine Below.drew ?_ | with_reducible refine Below.setCell ?_ (by simp) _)
              first | exact HBr.out.bel | exact ((Below.refl _ _).alloc (Nat.le_refl _) _).alloc (by rw [World.size_alloc]; omega) _
          | some y =>
            rw [hr] at hm
            subst hm
            have HN := Lib.hid (HQ34.out.trans (by rw [hr]))
            obtain ⟨qt, qn⟩ := y
            simp only [] at *
            clear hr
            go_wp2
            refine (bodyPost_ret (v := .tuple #[.agg #[.int .i64 3, .string (str qt), .int .i64 0, .int .i64 (x.place : Int), .int .i64 0], .int .i64 ((i + 1 + qn : Nat) : Int)]) ?_ rfl ?_)
            · simp [results, Tryd.results32, go_sem, lxVal, d0, d1, d2, d3, d4, f0, f1, f2, f3, f4, g0, g1, g2, g3, g4, z0, z1, z2, z3, z4]
            · refine oneRet_some (k := 1 + qn) HN.out rfl (by omega) ?_
              repeat (first | with_reducible refine Below.drew ?_ | with_reducible refine Below.setCell ?_ (by simp) _)
              first | exact HBr.out.bel | exact ((Below.refl _ _).alloc (Nat.le_refl _) _).alloc (by rw [World.size_alloc]; omega) _
        · have HRUN : Hid (oneS (s.drop i) = (rS (s.drop i)).map fun ds => ((runOut ds).1, (runOut ds).2, 0, ds.length)) := Lib.hid (by
            rw [HDR.out]; exact oneS_run x _ (.inr ⟨HSK.out, fun h => hnd (.inl h), fun h => hnd (.inr (.inl h)), fun h => hnd (.inr (.inr h)), h34⟩))
          have h94 : (x.c == 94) = false := beq_eq_false_iff_ne.2 (fun h => hnd (.inl h))
          have h64 : (x.c == 64) = false := beq_eq_false_iff_ne.2 (fun h => hnd (.inr (.inl h)))
          have h126 : (x.c == 126) = false := beq_eq_false_iff_ne.2 (fun h => hnd (.inr (.inr h)))
          have h34' : (x.c == 34) = false := beq_eq_false_iff_ne.2 h34
          rw [h94] at e94; rw [h64] at e64; rw [h126] at e126; rw [h34'] at e34
          clear hnd h34 h94 h64 h126 h34'
          go_enter Tryd.func32, Tryd.ntmps32
          go_wp2_with fail
          refine (HS.out _).mono ?_
          rintro e wq ⟨rfl, rfl⟩
          go_wp2_with fail
          refine (runS_any (.slice (some a) s.length cap) s i _ w.heap.size HB0.out.bel.size (H.out.below HB0.out.bel) hs hlt).mono ?_
          rintro e wr ⟨hbr, hm⟩
          have HBr := Lib.hid (HB0.out.belowW hbr)
          obtain ⟨⟨d0, d1, d2, d3, d4⟩, f0, f1, f2, f3, f4⟩ := HBr.out.b1.facts
          obtain ⟨⟨g0, g1, g2, g3, g4⟩, z0, z1, z2, z3, z4⟩ := HBr.out.b0.facts
          clear hbr
          cases hr : rS (s.drop i) with
          | none =>
            rw [hr] at hm
            obtain ⟨j, rfl⟩ := hm
            have HN : Hid (oneS (s.drop i) = none) := Lib.hid (HRUN.out.trans (by rw [hr]; rfl))
            clear hr
            go_wp2
            refine (bodyPost_ret (v := .tuple #[.agg #[.int .i64 (-1), .string ⟨#[]⟩, .int .i64 0, .int .i64 (x.place : Int), .int .i64 0], .int .i64 j]) ?_ rfl ?_)
            · simp [results, Tryd.results32, go_sem, lxVal, d0, d1, d2, d3, d4, f0, f1, f2, f3, f4, g0, g1, g2, g3, g4, z0, z1, z2, z3, z4]
            · refine oneRet_none HN.out ?_
              repeat (first | with_reducible refine Below.drew ?_ | with_reducible refine Below.setCell ?_ (by simp) _)
              first | exact HBr.out.bel | exact ((Below.refl _ _).alloc (Nat.le_refl _) _).alloc (by rw [World.size_alloc]; omega) _
          | some ds =>
            rw [hr] at hm
            subst hm
            have HN : Hid (oneS (s.drop i) = some ((runOut ds).1, (runOut ds).2, 0, ds.length)) := Lib.hid (HRUN.out.trans (by rw [hr]; rfl))
            generalize (runOut ds).1 = RK at *
            generalize (runOut ds).2 = RT at *
            generalize ds.length = RL at *
            clear hr
            go_wp2
            refine (bodyPost_ret (v := .tuple #[.agg #[.int .i64 RK, .string (str RT), .int .i64 0, .int .i64 (x.place : Int), .int .i64 0], .int .i64 ((i + RL : Nat) : Int)]) ?_ rfl ?_)
            · simp [results, Tryd.results32, go_sem, lxVal, d0, d1, d2, d3, d4, f0, f1, f2, f3, f4, g0, g1, g2, g3, g4, z0, z1, z2, z3, z4]
            · refine oneRet_some (k := RL) HN.out rfl rfl ?_
              repeat (first | with_reducible refine Below.drew ?_ | with_reducible refine Below.setCell ?_ (by simp) _)
              first | exact HBr.out.bel | exact ((Below.refl _ _).alloc (Nat.le_refl _) _).alloc (by rw [World.size_alloc]; omega) _
    · rw [if_neg hsk] at HS
      have HN : Hid (oneS (s.drop i) = some (singleK x.c, [], 0, 1)) := Lib.hid (by rw [HDR.out, oneS_cons, if_pos ⟨HLF.out, hsk⟩])
      have hk8 := singleK_pos hsk
      clear hsk
      generalize singleK x.c = K at *
      have HBr := HB0
      obtain ⟨⟨d0, d1, d2, d3, d4⟩, f0, f1, f2, f3, f4⟩ := HBr.out.b1.facts
      obtain ⟨⟨g0, g1, g2, g3, g4⟩, z0, z1, z2, z3, z4⟩ := HBr.out.b0.facts
      have hwz : w.heap.size + 1 < ((w.alloc (.cells #[.int .i64 0, .string ⟨#[]⟩, .int .i64 0, .int .i64 0, .int .i64 0] 35)).alloc (.cells #[.int .i64 (-1), .string ⟨#[]⟩, .int .i64 0, .int .i64 (x.place : Int), .int .i64 0] 35)).heap.size := HB0.out.b1.lt
      go_enter Tryd.func32, Tryd.ntmps32
      go_wp2_with fail
      refine (HS.out _).mono ?_
      rintro e wq ⟨rfl, rfl⟩
      go_wp2_with fail
      refine (HS.out _).mono ?_
      rintro e wq ⟨rfl, rfl⟩
      go_wp2
      refine (bodyPost_ret (v := .tuple #[.agg #[.int .i64 K, .string ⟨#[]⟩, .int .i64 0, .int .i64 (x.place : Int), .int .i64 0], .int .i64 ((i : Int) + 1)]) ?_ rfl ?_)
      · simp [results, Tryd.results32, go_sem, lxVal, d0, d1, d2, d3, d4, f0, f1, f2, f3, f4, g0, g1, g2, g3, g4, z0, z1, z2, z3, z4]
      · refine oneRet_some (k := 1) HN.out rfl (by omega) ?_
        repeat (first | with_reducible refine Below.drew ?_ | with_reducible refine Below.setCell ?_ (by simp) _)
        first | exact HBr.out.bel | exact ((Below.refl _ _).alloc (Nat.le_refl _) _).alloc (by rw [World.size_alloc]; omega) _
end Go.Proofs.YtlgcofinmpckkaaDoor
