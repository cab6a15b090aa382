/- Merged for a claim by shake.py: Zr -/
import Derived.Test.YtcomdkejpaoneaaDoorKg3
import Derived.Test.YtcomdkejpaoneaaDoorKg7
section
namespace Go.Proofs.YtcomdkejpaoneaaDoor
open Go.RowKit
set_option maxRecDepth 100000
set_option maxHeartbeats 4000000
set_option linter.unusedSimpArgs false
set_option linter.unusedVariables false
theorem rS_cons (x : Sg) (r : List Sg) : rS (x :: r) = if goesOn x = true then (if x.letter = false ∧ x.c = 92 then none else (rS r).map fun y => x :: y) else some [] := rfl
def runOut (ds : List Sg) : Int × List UInt8 := if kwS ds ≠ 1 then (kwS ds, []) else if ds.any wildSg = true then (2, canOf ds) else (1, ds.map (·.c))
def RrRet (r : Option (List Sg)) (i : Nat) (w : World) (e : Ending) (w' : World) : Prop :=
  Below w.heap.size w w' ∧ match r with
    | none => ∃ j : Int, e = .returned (.tuple #[.int .i64 (-1), .string ⟨#[]⟩, .int .i64 j])
    | some ds => e = .returned (.tuple #[.int .i64 (runOut ds).1, .string (str (runOut ds).2), .int .i64 ((i + ds.length : Nat) : Int)])
theorem rrRet_none {r : Option (List Sg)} {i : Nat} {j : Int} {w w' : World} (h : r = none) (hb : Below w.heap.size w w') : RrRet r i w (.returned (.tuple #[.int .i64 (-1), .string ⟨#[]⟩, .int .i64 j])) w' := by subst h; exact ⟨hb, j, rfl⟩
theorem rrRet_some {r : Option (List Sg)} {i : Nat} {ds : List Sg} {k n : Int} {T : ByteArray} {w w' : World} (h : r = some ds) (hk : k = (runOut ds).1) (hT : T = str (runOut ds).2) (hn : n = ((i + ds.length : Nat) : Int)) (hb : Below w.heap.size w w') : RrRet r i w (.returned (.tuple #[.int .i64 k, .string T, .int .i64 n])) w' := by
  subst h; subst hk; subst hT; subst hn; exact ⟨hb, rfl⟩
def Ru1 (s : List Sg) (i : Nat) (w : World) (iv tv : Value) (wr : World) : Prop :=
  ∃ (j : Nat) (pre : List Sg), i + j ≤ s.length ∧ pre = (s.drop i).take j ∧ pre.length = j ∧ iv = .int .i64 ((i + j : Nat) : Int) ∧ tv = .bool (pre.any wildSg) ∧ rS (s.drop i) = (rS (s.drop (i + j))).map (fun y => pre ++ y) ∧ Below w.heap.size w wr
theorem kwS_nonneg (l : List Sg) : 0 ≤ kwS l := by
  unfold kwS
  split
  · decide
  · unfold kwd
    repeat' split
    all_goals decide
def outB (pre : List Sg) (k : Nat) : List UInt8 := if pre.any wildSg = true then canOf (pre.take k) else (pre.take k).map (·.c)
theorem outB_len (pre : List Sg) (k : Nat) : (outB pre k).length ≤ 2 * k := by
  unfold outB
  split
  · have := canOf_length (pre.take k)
    rw [List.length_take] at this
    omega
  · rw [List.length_map, List.length_take]; omega
theorem outB_succ {pre : List Sg} {k : Nat} (hk : k < pre.length) : outB pre (k + 1) = outB pre k ++ (if pre.any wildSg = true then canSg pre[k] else [pre[k].c]) := by
  unfold outB
  rw [List.take_succ_eq_append_getElem hk]
  split
  · rw [canOf_snoc]
  · rw [List.map_append]; rfl
def Ru2 (pre : List Sg) (w : World) (bv iv : Value) (wr : World) : Prop :=
  ∃ k : Nat, k ≤ pre.length ∧ iv = .int .i64 (k : Int) ∧ OwnB wr w.heap.size bv (outB pre k) ∧ Below w.heap.size w wr
theorem RdL.subS {w : World} {B : Nat} {a : Addr} {n cap : Nat} {l : List Sg} (h : RdL sgShape w B (.slice (some a) n cap) l) (i j : Nat) (hij : i + j ≤ l.length) :
    RdL sgShape w B (.slice (some (a.add (i * 4))) j (cap - i)) ((l.drop i).take j) := by
  obtain ⟨A', cap', e, h1, h2, h3, h4⟩ := h
  injection e with e1 e2 e3
  subst e1; subst e3
  have hlen : ((l.drop i).take j).length = j := by rw [List.length_take, List.length_drop]; omega
  refine ⟨some (a.add (i * 4)), cap - i, by rw [hlen], by rw [hlen]; omega, by omega, fun hn => ?_, fun h => by cases h⟩
  obtain ⟨a', e, hb, hc⟩ := h3 (by rw [hlen] at hn; omega)
  cases e
  refine ⟨a.add (i * 4), rfl, by rw [block_of_add]; exact hb, fun z u hz => ?_⟩
  rw [add_of_add]
  refine hc _ u ?_
  have e1 : l = l.take i ++ ((l.drop i).take j ++ (l.drop i).drop j) := by rw [List.take_append_drop, List.take_append_drop]
  have e2 : (sgShape.cells (l.take i)).length = i * 4 := by rw [Shape.cells_length sgOk, List.length_take, Nat.min_eq_left (by omega)]; rfl
  have hz2 : z < (sgShape.cells ((l.drop i).take j)).length := (List.getElem?_eq_some_iff.1 hz).1
  rw [e1, Shape.cells_append, Shape.cells_append, List.getElem?_append_right (by omega), e2, Nat.add_sub_cancel_left, List.getElem?_append_left hz2]
  exact hz
theorem take_get {s : List Sg} {i j : Nat} {x : Sg} (hx : s[i + j]? = some x) : (s.drop i).take (j + 1) = (s.drop i).take j ++ [x] := by
  obtain ⟨h3, rfl⟩ := List.getElem?_eq_some_iff.1 hx
  have hl : j < (s.drop i).length := by rw [List.length_drop]; omega
  rw [List.take_succ_eq_append_getElem hl, List.getElem_drop]
theorem runS_any (sv : Value) (s : List Sg) (i : Nat) (w : World) (B : Nat) (hB : B ≤ w.heap.size) (h : RdL sgShape w B sv s) (hs : s.length ≤ 10000000) (hi : i < s.length) :
    Calls Tryd.prog 62 #[sv, .int .i64 (i : Int)] w (RrRet (rS (s.drop i)) i w) := by
  obtain ⟨A, cap, rfl, h1, h2⟩ := h.open_
  unfold maxLen at h2
  have H := Lib.hid h
  obtain ⟨a0, rfl⟩ : ∃ a, A = some a := by
    obtain ⟨a, e, _⟩ := at_sg h (List.getElem?_eq_getElem hi)
    exact ⟨a, e⟩
  clear h
  go_enter Tryd.func62, Tryd.ntmps62
  go_wp2
  go_loopw [1, 8] (fun iv tv wr => Ru1 s i w iv tv wr) (fun iv _ _ => s.length - (intOf iv).toNat)
  case atStart => exact ⟨0, [], by omega, rfl, rfl, rfl, rfl, by simp, Below.refl _ _⟩
  case round =>
    obtain ⟨j, pre, hj, hpre, hpl, rfl, rfl, hrs, hbl⟩ := hrel
    have HP := Lib.hid hpre
    have HPL := Lib.hid hpl
    have HRS := Lib.hid hrs
    have HB := Lib.hid hbl
    have hsz : w.heap.size ≤ wr.heap.size := hbl.size
    have HR := Lib.hid (H.out.belowW hB hbl)
    clear hpre hpl hrs hbl
    have hstop : rS (s.drop (i + j)) = some [] → rS (s.drop i) = some pre := fun h => by rw [HRS.out, h]; simp
    have HST := Lib.hid hstop
    clear hstop
    cases hx : s[i + j]? with
    | none =>
      have hge : s.length ≤ i + j := List.getElem?_eq_none_iff.1 hx
      have HDS := Lib.hid (HST.out (by rw [List.drop_eq_nil_of_le hge]; rfl))
      clear hx
      have HS1 := Lib.hid (RdL.subS (H.out.belowW hB HB.out) i j hj)
      rw [← HP.out] at HS1
      have hszW : w.heap.size ≤ wr.heap.size := HB.out.size
      have hplz : pre.length ≤ 10000000 := by have := HPL.out; omega
      go_wp2_with fail
      refine (keywordS_any (.slice (some (a0.add (i * 4))) j (cap - i)) pre wr B (Nat.le_trans hB hszW) HS1.out hplz).mono ?_
      rintro e wk ⟨hbk, he⟩
      have HBk := Lib.hid (HB.out.trans (hbk.mono hszW))
      have HSk := Lib.hid (HS1.out.belowW (Nat.le_trans hB hszW) hbk)
      have hszk : w.heap.size ≤ wk.heap.size := HBk.out.size
      clear hbk
      by_cases hk : kwS pre = 1
      · rw [if_pos hk] at he
        subst he
        have HK := Lib.hid hk
        clear hk
        have HRO : Hid (runOut pre = if pre.any wildSg = true then (2, canOf pre) else (1, pre.map (·.c))) := Lib.hid (by unfold runOut; rw [if_neg (fun h => h HK.out)])
        have HOB0 : Hid (outB pre 0 = []) := Lib.hid (by unfold outB; split <;> rfl)
        cases hst : pre.any wildSg with
        | false =>
          rw [hst] at HRO
          have HST2 := Lib.hid hst
          clear hst
          go_wp2
          simp only [Nat.add_sub_cancel_left]
          go_loopw [10, 81] (fun bv iv wr2 => Ru2 pre w bv iv wr2) (fun _ iv _ => pre.length - (intOf iv).toNat)
          case atStart => exact ⟨0, Nat.zero_le _, rfl, by rw [HOB0.out]; exact OwnB.lit0 wk (B := w.heap.size) hszk, HBk.out.alloc hszk _⟩
          case round =>
            obtain ⟨k, hkl, rfl, ho, hbl2⟩ := hrel
            have HO := Lib.hid ho
            have HB2 := Lib.hid hbl2
            have hsz2 : w.heap.size ≤ wr.heap.size := hbl2.size
            have HS2 := Lib.hid (RdL.subS (H.out.belowW hB hbl2) i j hj)
            rw [← HP.out] at HS2
            obtain ⟨bA, bn, bc, rfl⟩ := ownB_formZ ho
            have hol : (outB pre k).length ≤ 20000000 := by have := outB_len pre k; omega
            clear ho hbl2
            by_cases hlt2 : k < pre.length
            · have hkj : k < j := by have := HPL.out; omega
              obtain ⟨a2, ea2, hb2, d0, d1, d2, d3⟩ := at_sg HS2.out (List.getElem?_eq_getElem hlt2)
              cases ea2
              have hab2 : ((a0.add (i * 4)).add (k * 4)).block < wr.heap.size := by omega
              have HNX := Lib.hid (outB_succ hlt2)
              rw [HST2.out] at HNX
              generalize pre[k] = y at *
              have hyl := u8_lt y.c
              have hwa : Below wr.heap.size wr (wr.alloc (.cells #[.int .u8 y.c.toNat, .bool y.letter, .int .i64 (y.place : Int), .int .i64 (y.size : Int)] 81)) := (Below.refl _ _).alloc (Nat.le_refl _) _
              have HOa := Lib.hid (HO.out.below hwa)
              have HBa := Lib.hid (HB2.out.trans (hwa.mono hsz2))
              have HNE := Lib.hid (HO.out.ne_new (Nat.le_refl wr.heap.size))
              have hsa : w.heap.size ≤ wr.heap.size + 1 := by omega
              clear hwa
              go_wp2_with (at_builtin; refine OwnB.appendAt HOa.out _ _ rfl _ _ rfl rfl rfl ?_ ?_ ?_ ?_ ?_ ?_)
              all_goals first | omega | exact (World.size_alloc ..).symm | (rw [World.size_alloc]; omega) | skip
              intro v5 w5 ho5 hb5 hk5
              have HO5 := Lib.hid ho5
              have HB5 := Lib.hid hb5
              have hfb5 := (hk5.cell (b := wr.heap.size) (o := 0) (by rw [World.size_alloc]; omega) HNE.out).trans (World.cell?_alloc_new wr _ _ 0)
              simp only [List.getElem?_toArray, List.getElem?_cons_zero] at hfb5
              clear ho5 hb5 hk5
              go_wp2
              go_roundw
              case measure => simp [intOf]; omega
              case rel => exact ⟨k + 1, by omega, by go_num, by rw [HNX.out, if_neg (by decide)]; have h := HO5.out; simpa using h, HBa.out.trans HB5.out⟩
            · have HEND : Hid (outB pre k = if pre.any wildSg = true then canOf pre else pre.map (·.c)) := Lib.hid (by unfold outB; rw [List.take_of_length_le (by omega)])
              rw [HST2.out] at HEND
              have hjk : j ≤ k := by have := HPL.out; omega
              have hcv := HO.out.drew.conv
              go_wp2
              go_region
              go_wp2
              go_ret3
              exact rrRet_some HDS.out (by rw [HRO.out]; rfl) (by rw [HRO.out, HEND.out]; rfl) (by rw [HPL.out]; go_num) HB2.out.drew
        | true =>
          rw [hst] at HRO
          have HST2 := Lib.hid hst
          clear hst
          go_wp2
          simp only [Nat.add_sub_cancel_left]
          go_loopw [10, 81] (fun bv iv wr2 => Ru2 pre w bv iv wr2) (fun _ iv _ => pre.length - (intOf iv).toNat)
          case atStart => exact ⟨0, Nat.zero_le _, rfl, by rw [HOB0.out]; exact OwnB.lit0 wk (B := w.heap.size) hszk, HBk.out.alloc hszk _⟩
          case round =>
            obtain ⟨k, hkl, rfl, ho, hbl2⟩ := hrel
            have HO := Lib.hid ho
            have HB2 := Lib.hid hbl2
            have hsz2 : w.heap.size ≤ wr.heap.size := hbl2.size
            have HS2 := Lib.hid (RdL.subS (H.out.belowW hB hbl2) i j hj)
            rw [← HP.out] at HS2
            obtain ⟨bA, bn, bc, rfl⟩ := ownB_formZ ho
            have hol : (outB pre k).length ≤ 20000000 := by have := outB_len pre k; omega
            clear ho hbl2
            by_cases hlt2 : k < pre.length
            · have hkj : k < j := by have := HPL.out; omega
              obtain ⟨a2, ea2, hb2, d0, d1, d2, d3⟩ := at_sg HS2.out (List.getElem?_eq_getElem hlt2)
              cases ea2
              have hab2 : ((a0.add (i * 4)).add (k * 4)).block < wr.heap.size := by omega
              have HNX := Lib.hid (outB_succ hlt2)
              rw [HST2.out] at HNX
              generalize pre[k] = y at *
              have hyl := u8_lt y.c
              have hwa : Below wr.heap.size wr (wr.alloc (.cells #[.int .u8 y.c.toNat, .bool y.letter, .int .i64 (y.place : Int), .int .i64 (y.size : Int)] 81)) := (Below.refl _ _).alloc (Nat.le_refl _) _
              have HOa := Lib.hid (HO.out.below hwa)
              have HBa := Lib.hid (HB2.out.trans (hwa.mono hsz2))
              have HNE := Lib.hid (HO.out.ne_new (Nat.le_refl wr.heap.size))
              have hsa : w.heap.size ≤ wr.heap.size + 1 := by omega
              clear hwa
              cases hyt : y.letter with
              | false =>
                rw [hyt] at d1 HOa HBa
                have HYT := Lib.hid hyt
                clear hyt
                go_wp2_with (at_builtin; refine OwnB.appendAt HOa.out _ _ rfl _ _ rfl rfl rfl ?_ ?_ ?_ ?_ ?_ ?_)
                all_goals first | omega | exact (World.size_alloc ..).symm | (rw [World.size_alloc]; omega) | skip
                intro v5 w5 ho5 hb5 hk5
                have HO5 := Lib.hid ho5
                have HB5 := Lib.hid hb5
                have hfb5 := (hk5.cell (b := wr.heap.size) (o := 0) (by rw [World.size_alloc]; omega) HNE.out).trans (World.cell?_alloc_new wr _ _ 0)
                simp only [List.getElem?_toArray, List.getElem?_cons_zero] at hfb5
                clear ho5 hb5 hk5
                go_wp2
                go_roundw
                case measure => simp [intOf]; omega
                case rel => exact ⟨k + 1, by omega, by go_num, by rw [HNX.out, if_true, show canSg y = [y.c] from by unfold canSg; rw [if_neg (fun h => by rw [HYT.out] at h; exact absurd h.1 (by decide))]]; have h := HO5.out; simpa using h, HBa.out.trans HB5.out⟩
              | true =>
                rw [hyt] at d1 HOa HBa
                have HYT := Lib.hid hyt
                clear hyt
                go_wp2_with fail
                refine (wild_any y.c _).mono ?_
                rintro e wq ⟨rfl, rfl⟩
                by_cases hc3 : cls y.c = 3
                · rw [decide_eq_true hc3]
                  have HC := Lib.hid (show canSg y = [92, y.c] from by unfold canSg; rw [if_pos ⟨HYT.out, .inl hc3⟩])
                  clear hc3
                  go_wp2_with (at_builtin; refine OwnB.appendAt HOa.out _ _ rfl _ _ rfl rfl rfl ?_ ?_ ?_ ?_ ?_ ?_)
                  all_goals first | omega | exact (World.size_alloc ..).symm | (rw [World.size_alloc]; omega) | skip
                  intro v5 w5 ho5 hb5 hk5
                  have HO5 := Lib.hid ho5
                  have HB5 := Lib.hid hb5
                  have hfb5 := (hk5.cell (b := wr.heap.size) (o := 0) (by rw [World.size_alloc]; omega) HNE.out).trans (World.cell?_alloc_new wr _ _ 0)
                  simp only [List.getElem?_toArray, List.getElem?_cons_zero] at hfb5
                  clear ho5 hb5 hk5
                  have hs5 : w.heap.size ≤ w5.heap.size := (HBa.out.trans HB5.out).size
                  go_wp2_with (at_builtin; refine OwnB.appendAt HO5.out _ _ rfl _ _ rfl rfl rfl ?_ ?_ ?_ hs5 ?_ ?_)
                  all_goals first | omega | exact (World.size_alloc ..).symm | (simp only [List.length_append, List.length_singleton]; omega) | skip
                  intro v6 w6 ho6 hb6 hk6
                  have HO6 := Lib.hid ho6
                  have HB6 := Lib.hid hb6
                  clear ho6 hb6 hk6
                  go_wp2
                  go_roundw
                  case measure => simp [intOf]; omega
                  case rel => exact ⟨k + 1, by omega, by go_num, by rw [HNX.out, if_true, HC.out]; have h := HO6.out; simpa using h, HBa.out.trans (HB5.out.trans HB6.out)⟩
                · rw [decide_eq_false hc3]
                  by_cases hc92 : y.c = 92
                  · have hq92 : ((y.c.toNat : Int) == 92) = true := by rw [hc92]; rfl
                    have HC := Lib.hid (show canSg y = [92, y.c] from by unfold canSg; rw [if_pos ⟨HYT.out, .inr hc92⟩])
                    clear hc3 hc92
                    go_wp2_with (at_builtin; refine OwnB.appendAt HOa.out _ _ rfl _ _ rfl rfl rfl ?_ ?_ ?_ ?_ ?_ ?_)
                    all_goals first | omega | exact (World.size_alloc ..).symm | (rw [World.size_alloc]; omega) | skip
                    intro v5 w5 ho5 hb5 hk5
                    have HO5 := Lib.hid ho5
                    have HB5 := Lib.hid hb5
                    have hfb5 := (hk5.cell (b := wr.heap.size) (o := 0) (by rw [World.size_alloc]; omega) HNE.out).trans (World.cell?_alloc_new wr _ _ 0)
                    simp only [List.getElem?_toArray, List.getElem?_cons_zero] at hfb5
                    clear ho5 hb5 hk5
                    have hs5 : w.heap.size ≤ w5.heap.size := (HBa.out.trans HB5.out).size
                    go_wp2_with (at_builtin; refine OwnB.appendAt HO5.out _ _ rfl _ _ rfl rfl rfl ?_ ?_ ?_ hs5 ?_ ?_)
                    all_goals first | omega | exact (World.size_alloc ..).symm | (simp only [List.length_append, List.length_singleton]; omega) | skip
                    intro v6 w6 ho6 hb6 hk6
                    have HO6 := Lib.hid ho6
                    have HB6 := Lib.hid hb6
                    clear ho6 hb6 hk6
                    go_wp2
                    go_roundw
                    case measure => simp [intOf]; omega
                    case rel => exact ⟨k + 1, by omega, by go_num, by rw [HNX.out, if_true, HC.out]; have h := HO6.out; simpa using h, HBa.out.trans (HB5.out.trans HB6.out)⟩
                  · have hq92 : ((y.c.toNat : Int) == 92) = false := by
                      rw [beq_eq_false_iff_ne]; intro h
                      exact hc92 (UInt8.toNat_inj.1 (show y.c.toNat = 92 by omega))
                    have HC := Lib.hid (show canSg y = [y.c] from by unfold canSg; rw [if_neg (fun h => h.2.elim hc3 hc92)])
                    clear hc3 hc92
                    go_wp2_with (at_builtin; refine OwnB.appendAt HOa.out _ _ rfl _ _ rfl rfl rfl ?_ ?_ ?_ ?_ ?_ ?_)
                    all_goals first | omega | exact (World.size_alloc ..).symm | (rw [World.size_alloc]; omega) | skip
                    intro v5 w5 ho5 hb5 hk5
                    have HO5 := Lib.hid ho5
                    have HB5 := Lib.hid hb5
                    have hfb5 := (hk5.cell (b := wr.heap.size) (o := 0) (by rw [World.size_alloc]; omega) HNE.out).trans (World.cell?_alloc_new wr _ _ 0)
                    simp only [List.getElem?_toArray, List.getElem?_cons_zero] at hfb5
                    clear ho5 hb5 hk5
                    go_wp2
                    go_roundw
                    case measure => simp [intOf]; omega
                    case rel => exact ⟨k + 1, by omega, by go_num, by rw [HNX.out, if_true, HC.out]; have h := HO5.out; simpa using h, HBa.out.trans HB5.out⟩
            · have HEND : Hid (outB pre k = if pre.any wildSg = true then canOf pre else pre.map (·.c)) := Lib.hid (by unfold outB; rw [List.take_of_length_le (by omega)])
              rw [HST2.out] at HEND
              have hjk : j ≤ k := by have := HPL.out; omega
              have hcv := HO.out.drew.conv
              go_wp2
              go_region
              go_wp2
              go_ret3
              exact rrRet_some HDS.out (by rw [HRO.out]; rfl) (by rw [HRO.out, HEND.out]; rfl) (by rw [HPL.out]; go_num) HB2.out.drew
      · rw [if_neg hk] at he
        subst he
        have hk0 : 0 ≤ kwS pre := kwS_nonneg pre
        have HRO : Hid (runOut pre = (kwS pre, [])) := Lib.hid (by unfold runOut; rw [if_pos hk])
        clear hk
        go_wp2
        go_ret3
        exact rrRet_some HDS.out (by rw [HRO.out]) (by rw [HRO.out]; rfl) (by rw [HPL.out]; go_num) HBk.out
    | some x =>
      have hlt : i + j < s.length := (List.getElem?_eq_some_iff.1 hx).1
      obtain ⟨a, ea, hb, c0, c1, c2, c3⟩ := at_sg HR.out hx
      cases ea
      have HDR := Lib.hid (drop_get hx)
      have HTG := Lib.hid (take_get hx)
      have HP92 := Lib.hid (plainS_some 92 hx)
      have hxl := u8_lt x.c
      have hpw : (pre ++ [x]).any wildSg = (pre.any wildSg || wildSg x) := by rw [List.any_append]; simp
      have HPW := Lib.hid hpw
      have hab : (a0.add ((i + j) * 4)).block < wr.heap.size := by omega
      clear hx hpw
      have hnext : goesOn x = true → ¬ (x.letter = false ∧ x.c = 92) → rS (s.drop i) = (rS (s.drop (i + (j + 1)))).map (fun y => (pre ++ [x]) ++ y) := by
        intro hg h92
        rw [HRS.out, HDR.out, rS_cons, if_pos hg, if_neg h92, Option.map_map]
        congr 1
        funext y
        simp
      have HNEXT := Lib.hid hnext
      clear hnext
      cases hlet : x.letter with
      | true =>
        rw [hlet] at c1
        have HLET := Lib.hid hlet
        have HN2 := Lib.hid (HNEXT.out (by unfold goesOn; rw [hlet]; rfl) (fun h => by rw [hlet] at h; exact absurd h.1 (by decide)))
        have HWS : Hid (wildSg x = false) := Lib.hid (by unfold wildSg; rw [hlet]; rfl)
        clear hlet
        go_wp2_with fail
        refine (plain_any (.slice (some a0) s.length cap) s (i + j) 92 wr B HR.out hs (by omega)).mono ?_
        rintro e w1 ⟨rfl, rfl⟩
        rw [HP92.out, decide_eq_false (fun h => by rw [HLET.out] at h; exact absurd h.1 (by decide))]
        cases hst : pre.any wildSg with
        | true =>
          have HST := Lib.hid hst
          go_wp2
          go_roundw
          case measure => simp [intOf]; omega
          case rel => exact ⟨j + 1, pre ++ [x], by omega, by rw [HTG.out, ← HP.out], by rw [List.length_append, HPL.out]; rfl, by go_num, by rw [HPW.out, HST.out]; rfl, HN2.out, HB.out⟩
        | false =>
          have HST := Lib.hid hst
          go_wp2
          go_roundw
          case measure => simp [intOf]; omega
          case rel => exact ⟨j + 1, pre ++ [x], by omega, by rw [HTG.out, ← HP.out], by rw [List.length_append, HPL.out]; rfl, by go_num, by rw [HPW.out, HST.out, HWS.out]; rfl, HN2.out, HB.out⟩
      | false =>
        rw [hlet] at c1
        have HLET := Lib.hid hlet
        by_cases hc1 : cls x.c = 1
        · have HDS := Lib.hid (HST.out (by rw [HDR.out, rS_cons, if_neg (by unfold goesOn; rw [hlet, hc1]; decide)]))
          have HC1 := Lib.hid hc1
          clear hlet hc1
          go_wp2_with fail
          refine (blank_any x.c wr).mono ?_
          rintro e w1 ⟨rfl, rfl⟩
          rw [decide_eq_true HC1.out]
          have HS1 := Lib.hid (RdL.subS (H.out.belowW hB HB.out) i j hj)
          rw [← HP.out] at HS1
          have hszW : w.heap.size ≤ wr.heap.size := HB.out.size
          have hplz : pre.length ≤ 10000000 := by have := HPL.out; omega
          go_wp2_with fail
          refine (keywordS_any (.slice (some (a0.add (i * 4))) j (cap - i)) pre wr B (Nat.le_trans hB hszW) HS1.out hplz).mono ?_
          rintro e wk ⟨hbk, he⟩
          have HBk := Lib.hid (HB.out.trans (hbk.mono hszW))
          have HSk := Lib.hid (HS1.out.belowW (Nat.le_trans hB hszW) hbk)
          have hszk : w.heap.size ≤ wk.heap.size := HBk.out.size
          clear hbk
          by_cases hk : kwS pre = 1
          · rw [if_pos hk] at he
            subst he
            have HK := Lib.hid hk
            clear hk
            have HRO : Hid (runOut pre = if pre.any wildSg = true then (2, canOf pre) else (1, pre.map (·.c))) := Lib.hid (by unfold runOut; rw [if_neg (fun h => h HK.out)])
            have HOB0 : Hid (outB pre 0 = []) := Lib.hid (by unfold outB; split <;> rfl)
            cases hst : pre.any wildSg with
            | false =>
              rw [hst] at HRO
              have HST2 := Lib.hid hst
              clear hst
              go_wp2
              simp only [Nat.add_sub_cancel_left]
              go_loopw [10, 81] (fun bv iv wr2 => Ru2 pre w bv iv wr2) (fun _ iv _ => pre.length - (intOf iv).toNat)
              case atStart => exact ⟨0, Nat.zero_le _, rfl, by rw [HOB0.out]; exact OwnB.lit0 wk (B := w.heap.size) hszk, HBk.out.alloc hszk _⟩
              case round =>
                obtain ⟨k, hkl, rfl, ho, hbl2⟩ := hrel
                have HO := Lib.hid ho
                have HB2 := Lib.hid hbl2
                have hsz2 : w.heap.size ≤ wr.heap.size := hbl2.size
                have HS2 := Lib.hid (RdL.subS (H.out.belowW hB hbl2) i j hj)
                rw [← HP.out] at HS2
                obtain ⟨bA, bn, bc, rfl⟩ := ownB_formZ ho
                have hol : (outB pre k).length ≤ 20000000 := by have := outB_len pre k; omega
                clear ho hbl2
                by_cases hlt2 : k < pre.length
                · have hkj : k < j := by have := HPL.out; omega
                  obtain ⟨a2, ea2, hb2, d0, d1, d2, d3⟩ := at_sg HS2.out (List.getElem?_eq_getElem hlt2)
                  cases ea2
                  have hab2 : ((a0.add (i * 4)).add (k * 4)).block < wr.heap.size := by omega
                  have HNX := Lib.hid (outB_succ hlt2)
                  rw [HST2.out] at HNX
                  generalize pre[k] = y at *
                  have hyl := u8_lt y.c
                  have hwa : Below wr.heap.size wr (wr.alloc (.cells #[.int .u8 y.c.toNat, .bool y.letter, .int .i64 (y.place : Int), .int .i64 (y.size : Int)] 81)) := (Below.refl _ _).alloc (Nat.le_refl _) _
                  have HOa := Lib.hid (HO.out.below hwa)
                  have HBa := Lib.hid (HB2.out.trans (hwa.mono hsz2))
                  have HNE := Lib.hid (HO.out.ne_new (Nat.le_refl wr.heap.size))
                  have hsa : w.heap.size ≤ wr.heap.size + 1 := by omega
                  clear hwa
                  go_wp2_with (at_builtin; refine OwnB.appendAt HOa.out _ _ rfl _ _ rfl rfl rfl ?_ ?_ ?_ ?_ ?_ ?_)
                  all_goals first | omega | exact (World.size_alloc ..).symm | (rw [World.size_alloc]; omega) | skip
                  intro v5 w5 ho5 hb5 hk5
                  have HO5 := Lib.hid ho5
                  have HB5 := Lib.hid hb5
                  have hfb5 := (hk5.cell (b := wr.heap.size) (o := 0) (by rw [World.size_alloc]; omega) HNE.out).trans (World.cell?_alloc_new wr _ _ 0)
                  simp only [List.getElem?_toArray, List.getElem?_cons_zero] at hfb5
                  clear ho5 hb5 hk5
                  go_wp2
                  go_roundw
                  case measure => simp [intOf]; omega
                  case rel => exact ⟨k + 1, by omega, by go_num, by rw [HNX.out, if_neg (by decide)]; have h := HO5.out; simpa using h, HBa.out.trans HB5.out⟩
                · have HEND : Hid (outB pre k = if pre.any wildSg = true then canOf pre else pre.map (·.c)) := Lib.hid (by unfold outB; rw [List.take_of_length_le (by omega)])
                  rw [HST2.out] at HEND
                  have hjk : j ≤ k := by have := HPL.out; omega
                  have hcv := HO.out.drew.conv
                  go_wp2
                  go_region
                  go_wp2
                  go_ret3
                  exact rrRet_some HDS.out (by rw [HRO.out]; rfl) (by rw [HRO.out, HEND.out]; rfl) (by rw [HPL.out]; go_num) HB2.out.drew
            | true =>
              rw [hst] at HRO
              have HST2 := Lib.hid hst
              clear hst
              go_wp2
              simp only [Nat.add_sub_cancel_left]
              go_loopw [10, 81] (fun bv iv wr2 => Ru2 pre w bv iv wr2) (fun _ iv _ => pre.length - (intOf iv).toNat)
              case atStart => exact ⟨0, Nat.zero_le _, rfl, by rw [HOB0.out]; exact OwnB.lit0 wk (B := w.heap.size) hszk, HBk.out.alloc hszk _⟩
              case round =>
                obtain ⟨k, hkl, rfl, ho, hbl2⟩ := hrel
                have HO := Lib.hid ho
                have HB2 := Lib.hid hbl2
                have hsz2 : w.heap.size ≤ wr.heap.size := hbl2.size
                have HS2 := Lib.hid (RdL.subS (H.out.belowW hB hbl2) i j hj)
                rw [← HP.out] at HS2
                obtain ⟨bA, bn, bc, rfl⟩ := ownB_formZ ho
                have hol : (outB pre k).length ≤ 20000000 := by have := outB_len pre k; omega
                clear ho hbl2
                by_cases hlt2 : k < pre.length
                · have hkj : k < j := by have := HPL.out; omega
                  obtain ⟨a2, ea2, hb2, d0, d1, d2, d3⟩ := at_sg HS2.out (List.getElem?_eq_getElem hlt2)
                  cases ea2
                  have hab2 : ((a0.add (i * 4)).add (k * 4)).block < wr.heap.size := by omega
                  have HNX := Lib.hid (outB_succ hlt2)
                  rw [HST2.out] at HNX
                  generalize pre[k] = y at *
                  have hyl := u8_lt y.c
                  have hwa : Below wr.heap.size wr (wr.alloc (.cells #[.int .u8 y.c.toNat, .bool y.letter, .int .i64 (y.place : Int), .int .i64 (y.size : Int)] 81)) := (Below.refl _ _).alloc (Nat.le_refl _) _
                  have HOa := Lib.hid (HO.out.below hwa)
                  have HBa := Lib.hid (HB2.out.trans (hwa.mono hsz2))
                  have HNE := Lib.hid (HO.out.ne_new (Nat.le_refl wr.heap.size))
                  have hsa : w.heap.size ≤ wr.heap.size + 1 := by omega
                  clear hwa
                  cases hyt : y.letter with
                  | false =>
                    rw [hyt] at d1 HOa HBa
                    have HYT := Lib.hid hyt
                    clear hyt
                    go_wp2_with (at_builtin; refine OwnB.appendAt HOa.out _ _ rfl _ _ rfl rfl rfl ?_ ?_ ?_ ?_ ?_ ?_)
                    all_goals first | omega | exact (World.size_alloc ..).symm | (rw [World.size_alloc]; omega) | skip
                    intro v5 w5 ho5 hb5 hk5
                    have HO5 := Lib.hid ho5
                    have HB5 := Lib.hid hb5
                    have hfb5 := (hk5.cell (b := wr.heap.size) (o := 0) (by rw [World.size_alloc]; omega) HNE.out).trans (World.cell?_alloc_new wr _ _ 0)
                    simp only [List.getElem?_toArray, List.getElem?_cons_zero] at hfb5
                    clear ho5 hb5 hk5
                    go_wp2
                    go_roundw
                    case measure => simp [intOf]; omega
                    case rel => exact ⟨k + 1, by omega, by go_num, by rw [HNX.out, if_true, show canSg y = [y.c] from by unfold canSg; rw [if_neg (fun h => by rw [HYT.out] at h; exact absurd h.1 (by decide))]]; have h := HO5.out; simpa using h, HBa.out.trans HB5.out⟩
                  | true =>
                    rw [hyt] at d1 HOa HBa
                    have HYT := Lib.hid hyt
                    clear hyt
                    go_wp2_with fail
                    refine (wild_any y.c _).mono ?_
                    rintro e wq ⟨rfl, rfl⟩
                    by_cases hc3 : cls y.c = 3
                    · rw [decide_eq_true hc3]
                      have HC := Lib.hid (show canSg y = [92, y.c] from by unfold canSg; rw [if_pos ⟨HYT.out, .inl hc3⟩])
                      clear hc3
                      go_wp2_with (at_builtin; refine OwnB.appendAt HOa.out _ _ rfl _ _ rfl rfl rfl ?_ ?_ ?_ ?_ ?_ ?_)
                      all_goals first | omega | exact (World.size_alloc ..).symm | (rw [World.size_alloc]; omega) | skip
                      intro v5 w5 ho5 hb5 hk5
                      have HO5 := Lib.hid ho5
                      have HB5 := Lib.hid hb5
                      have hfb5 := (hk5.cell (b := wr.heap.size) (o := 0) (by rw [World.size_alloc]; omega) HNE.out).trans (World.cell?_alloc_new wr _ _ 0)
                      simp only [List.getElem?_toArray, List.getElem?_cons_zero] at hfb5
                      clear ho5 hb5 hk5
                      have hs5 : w.heap.size ≤ w5.heap.size := (HBa.out.trans HB5.out).size
                      go_wp2_with (at_builtin; refine OwnB.appendAt HO5.out _ _ rfl _ _ rfl rfl rfl ?_ ?_ ?_ hs5 ?_ ?_)
                      all_goals first | omega | exact (World.size_alloc ..).symm | (simp only [List.length_append, List.length_singleton]; omega) | skip
                      intro v6 w6 ho6 hb6 hk6
                      have HO6 := Lib.hid ho6
                      have HB6 := Lib.hid hb6
                      clear ho6 hb6 hk6
                      go_wp2
                      go_roundw
                      case measure => simp [intOf]; omega
                      case rel => exact ⟨k + 1, by omega, by go_num, by rw [HNX.out, if_true, HC.out]; have h := HO6.out; simpa using h, HBa.out.trans (HB5.out.trans HB6.out)⟩
                    · rw [decide_eq_false hc3]
                      by_cases hc92 : y.c = 92
                      · have hq92 : ((y.c.toNat : Int) == 92) = true := by rw [hc92]; rfl
                        have HC := Lib.hid (show canSg y = [92, y.c] from by unfold canSg; rw [if_pos ⟨HYT.out, .inr hc92⟩])
                        clear hc3 hc92
                        go_wp2_with (at_builtin; refine OwnB.appendAt HOa.out _ _ rfl _ _ rfl rfl rfl ?_ ?_ ?_ ?_ ?_ ?_)
                        all_goals first | omega | exact (World.size_alloc ..).symm | (rw [World.size_alloc]; omega) | skip
                        intro v5 w5 ho5 hb5 hk5
                        have HO5 := Lib.hid ho5
                        have HB5 := Lib.hid hb5
                        have hfb5 := (hk5.cell (b := wr.heap.size) (o := 0) (by rw [World.size_alloc]; omega) HNE.out).trans (World.cell?_alloc_new wr _ _ 0)
                        simp only [List.getElem?_toArray, List.getElem?_cons_zero] at hfb5
                        clear ho5 hb5 hk5
                        have hs5 : w.heap.size ≤ w5.heap.size := (HBa.out.trans HB5.out).size
                        go_wp2_with (at_builtin; refine OwnB.appendAt HO5.out _ _ rfl _ _ rfl rfl rfl ?_ ?_ ?_ hs5 ?_ ?_)
                        all_goals first | omega | exact (World.size_alloc ..).symm | (simp only [List.length_append, List.length_singleton]; omega) | skip
                        intro v6 w6 ho6 hb6 hk6
                        have HO6 := Lib.hid ho6
                        have HB6 := Lib.hid hb6
                        clear ho6 hb6 hk6
                        go_wp2
                        go_roundw
                        case measure => simp [intOf]; omega
                        case rel => exact ⟨k + 1, by omega, by go_num, by rw [HNX.out, if_true, HC.out]; have h := HO6.out; simpa using h, HBa.out.trans (HB5.out.trans HB6.out)⟩
                      · have hq92 : ((y.c.toNat : Int) == 92) = false := by
                          rw [beq_eq_false_iff_ne]; intro h
                          exact hc92 (UInt8.toNat_inj.1 (show y.c.toNat = 92 by omega))
                        have HC := Lib.hid (show canSg y = [y.c] from by unfold canSg; rw [if_neg (fun h => h.2.elim hc3 hc92)])
                        clear hc3 hc92
                        go_wp2_with (at_builtin; refine OwnB.appendAt HOa.out _ _ rfl _ _ rfl rfl rfl ?_ ?_ ?_ ?_ ?_ ?_)
                        all_goals first | omega | exact (World.size_alloc ..).symm | (rw [World.size_alloc]; omega) | skip
                        intro v5 w5 ho5 hb5 hk5
                        have HO5 := Lib.hid ho5
                        have HB5 := Lib.hid hb5
                        have hfb5 := (hk5.cell (b := wr.heap.size) (o := 0) (by rw [World.size_alloc]; omega) HNE.out).trans (World.cell?_alloc_new wr _ _ 0)
                        simp only [List.getElem?_toArray, List.getElem?_cons_zero] at hfb5
                        clear ho5 hb5 hk5
                        go_wp2
                        go_roundw
                        case measure => simp [intOf]; omega
                        case rel => exact ⟨k + 1, by omega, by go_num, by rw [HNX.out, if_true, HC.out]; have h := HO5.out; simpa using h, HBa.out.trans HB5.out⟩
                · have HEND : Hid (outB pre k = if pre.any wildSg = true then canOf pre else pre.map (·.c)) := Lib.hid (by unfold outB; rw [List.take_of_length_le (by omega)])
                  rw [HST2.out] at HEND
                  have hjk : j ≤ k := by have := HPL.out; omega
                  have hcv := HO.out.drew.conv
                  go_wp2
                  go_region
                  go_wp2
                  go_ret3
                  exact rrRet_some HDS.out (by rw [HRO.out]; rfl) (by rw [HRO.out, HEND.out]; rfl) (by rw [HPL.out]; go_num) HB2.out.drew
          · rw [if_neg hk] at he
            subst he
            have hk0 : 0 ≤ kwS pre := kwS_nonneg pre
            have HRO : Hid (runOut pre = (kwS pre, [])) := Lib.hid (by unfold runOut; rw [if_pos hk])
            clear hk
            go_wp2
            go_ret3
            exact rrRet_some HDS.out (by rw [HRO.out]) (by rw [HRO.out]; rfl) (by rw [HPL.out]; go_num) HBk.out
        · by_cases hc2 : cls x.c = 2
          · have HDS := Lib.hid (HST.out (by rw [HDR.out, rS_cons, if_neg (by unfold goesOn; rw [hlet, hc2]; decide)]))
            have HC1 := Lib.hid hc1
            have HC2 := Lib.hid hc2
            clear hlet hc1 hc2
            go_wp2_with fail
            refine (blank_any x.c wr).mono ?_
            rintro e w1 ⟨rfl, rfl⟩
            rw [decide_eq_false HC1.out]
            go_wp2_with fail
            refine (mark_any x.c wr).mono ?_
            rintro e wm ⟨rfl, hbm⟩
            have HBm := Lib.hid (HB.out.trans (hbm.mono hsz))
            clear hbm
            rw [decide_eq_true HC2.out]
            have HS1 := Lib.hid (RdL.subS (H.out.belowW hB HBm.out) i j hj)
            rw [← HP.out] at HS1
            have hszW : w.heap.size ≤ wm.heap.size := HBm.out.size
            have hplz : pre.length ≤ 10000000 := by have := HPL.out; omega
            go_wp2_with fail
            refine (keywordS_any (.slice (some (a0.add (i * 4))) j (cap - i)) pre wm B (Nat.le_trans hB hszW) HS1.out hplz).mono ?_
            rintro e wk ⟨hbk, he⟩
            have HBk := Lib.hid (HBm.out.trans (hbk.mono hszW))
            have HSk := Lib.hid (HS1.out.belowW (Nat.le_trans hB hszW) hbk)
            have hszk : w.heap.size ≤ wk.heap.size := HBk.out.size
            clear hbk
            by_cases hk : kwS pre = 1
            · rw [if_pos hk] at he
              subst he
              have HK := Lib.hid hk
              clear hk
              have HRO : Hid (runOut pre = if pre.any wildSg = true then (2, canOf pre) else (1, pre.map (·.c))) := Lib.hid (by unfold runOut; rw [if_neg (fun h => h HK.out)])
              have HOB0 : Hid (outB pre 0 = []) := Lib.hid (by unfold outB; split <;> rfl)
              cases hst : pre.any wildSg with
              | false =>
                rw [hst] at HRO
                have HST2 := Lib.hid hst
                clear hst
                go_wp2
                simp only [Nat.add_sub_cancel_left]
                go_loopw [10, 81] (fun bv iv wr2 => Ru2 pre w bv iv wr2) (fun _ iv _ => pre.length - (intOf iv).toNat)
                case atStart => exact ⟨0, Nat.zero_le _, rfl, by rw [HOB0.out]; exact OwnB.lit0 wk (B := w.heap.size) hszk, HBk.out.alloc hszk _⟩
                case round =>
                  obtain ⟨k, hkl, rfl, ho, hbl2⟩ := hrel
                  have HO := Lib.hid ho
                  have HB2 := Lib.hid hbl2
                  have hsz2 : w.heap.size ≤ wr.heap.size := hbl2.size
                  have HS2 := Lib.hid (RdL.subS (H.out.belowW hB hbl2) i j hj)
                  rw [← HP.out] at HS2
                  obtain ⟨bA, bn, bc, rfl⟩ := ownB_formZ ho
                  have hol : (outB pre k).length ≤ 20000000 := by have := outB_len pre k; omega
                  clear ho hbl2
                  by_cases hlt2 : k < pre.length
                  · have hkj : k < j := by have := HPL.out; omega
                    obtain ⟨a2, ea2, hb2, d0, d1, d2, d3⟩ := at_sg HS2.out (List.getElem?_eq_getElem hlt2)
                    cases ea2
                    have hab2 : ((a0.add (i * 4)).add (k * 4)).block < wr.heap.size := by omega
                    have HNX := Lib.hid (outB_succ hlt2)
                    rw [HST2.out] at HNX
                    generalize pre[k] = y at *
                    have hyl := u8_lt y.c
                    have hwa : Below wr.heap.size wr (wr.alloc (.cells #[.int .u8 y.c.toNat, .bool y.letter, .int .i64 (y.place : Int), .int .i64 (y.size : Int)] 81)) := (Below.refl _ _).alloc (Nat.le_refl _) _
                    have HOa := Lib.hid (HO.out.below hwa)
                    have HBa := Lib.hid (HB2.out.trans (hwa.mono hsz2))
                    have HNE := Lib.hid (HO.out.ne_new (Nat.le_refl wr.heap.size))
                    have hsa : w.heap.size ≤ wr.heap.size + 1 := by omega
                    clear hwa
                    go_wp2_with (at_builtin; refine OwnB.appendAt HOa.out _ _ rfl _ _ rfl rfl rfl ?_ ?_ ?_ ?_ ?_ ?_)
                    all_goals first | omega | exact (World.size_alloc ..).symm | (rw [World.size_alloc]; omega) | skip
                    intro v5 w5 ho5 hb5 hk5
                    have HO5 := Lib.hid ho5
                    have HB5 := Lib.hid hb5
                    have hfb5 := (hk5.cell (b := wr.heap.size) (o := 0) (by rw [World.size_alloc]; omega) HNE.out).trans (World.cell?_alloc_new wr _ _ 0)
                    simp only [List.getElem?_toArray, List.getElem?_cons_zero] at hfb5
                    clear ho5 hb5 hk5
                    go_wp2
                    go_roundw
                    case measure => simp [intOf]; omega
                    case rel => exact ⟨k + 1, by omega, by go_num, by rw [HNX.out, if_neg (by decide)]; have h := HO5.out; simpa using h, HBa.out.trans HB5.out⟩
                  · have HEND : Hid (outB pre k = if pre.any wildSg = true then canOf pre else pre.map (·.c)) := Lib.hid (by unfold outB; rw [List.take_of_length_le (by omega)])
                    rw [HST2.out] at HEND
                    have hjk : j ≤ k := by have := HPL.out; omega
                    have hcv := HO.out.drew.conv
                    go_wp2
                    go_region
                    go_wp2
                    go_ret3
                    exact rrRet_some HDS.out (by rw [HRO.out]; rfl) (by rw [HRO.out, HEND.out]; rfl) (by rw [HPL.out]; go_num) HB2.out.drew
              | true =>
                rw [hst] at HRO
                have HST2 := Lib.hid hst
                clear hst
                go_wp2
                simp only [Nat.add_sub_cancel_left]
                go_loopw [10, 81] (fun bv iv wr2 => Ru2 pre w bv iv wr2) (fun _ iv _ => pre.length - (intOf iv).toNat)
                case atStart => exact ⟨0, Nat.zero_le _, rfl, by rw [HOB0.out]; exact OwnB.lit0 wk (B := w.heap.size) hszk, HBk.out.alloc hszk _⟩
                case round =>
                  obtain ⟨k, hkl, rfl, ho, hbl2⟩ := hrel
                  have HO := Lib.hid ho
                  have HB2 := Lib.hid hbl2
                  have hsz2 : w.heap.size ≤ wr.heap.size := hbl2.size
                  have HS2 := Lib.hid (RdL.subS (H.out.belowW hB hbl2) i j hj)
                  rw [← HP.out] at HS2
                  obtain ⟨bA, bn, bc, rfl⟩ := ownB_formZ ho
                  have hol : (outB pre k).length ≤ 20000000 := by have := outB_len pre k; omega
                  clear ho hbl2
                  by_cases hlt2 : k < pre.length
                  · have hkj : k < j := by have := HPL.out; omega
                    obtain ⟨a2, ea2, hb2, d0, d1, d2, d3⟩ := at_sg HS2.out (List.getElem?_eq_getElem hlt2)
                    cases ea2
                    have hab2 : ((a0.add (i * 4)).add (k * 4)).block < wr.heap.size := by omega
                    have HNX := Lib.hid (outB_succ hlt2)
                    rw [HST2.out] at HNX
                    generalize pre[k] = y at *
                    have hyl := u8_lt y.c
                    have hwa : Below wr.heap.size wr (wr.alloc (.cells #[.int .u8 y.c.toNat, .bool y.letter, .int .i64 (y.place : Int), .int .i64 (y.size : Int)] 81)) := (Below.refl _ _).alloc (Nat.le_refl _) _
                    have HOa := Lib.hid (HO.out.below hwa)
                    have HBa := Lib.hid (HB2.out.trans (hwa.mono hsz2))
                    have HNE := Lib.hid (HO.out.ne_new (Nat.le_refl wr.heap.size))
                    have hsa : w.heap.size ≤ wr.heap.size + 1 := by omega
                    clear hwa
                    cases hyt : y.letter with
                    | false =>
                      rw [hyt] at d1 HOa HBa
                      have HYT := Lib.hid hyt
                      clear hyt
                      go_wp2_with (at_builtin; refine OwnB.appendAt HOa.out _ _ rfl _ _ rfl rfl rfl ?_ ?_ ?_ ?_ ?_ ?_)
                      all_goals first | omega | exact (World.size_alloc ..).symm | (rw [World.size_alloc]; omega) | skip
                      intro v5 w5 ho5 hb5 hk5
                      have HO5 := Lib.hid ho5
                      have HB5 := Lib.hid hb5
                      have hfb5 := (hk5.cell (b := wr.heap.size) (o := 0) (by rw [World.size_alloc]; omega) HNE.out).trans (World.cell?_alloc_new wr _ _ 0)
                      simp only [List.getElem?_toArray, List.getElem?_cons_zero] at hfb5
                      clear ho5 hb5 hk5
                      go_wp2
                      go_roundw
                      case measure => simp [intOf]; omega
                      case rel => exact ⟨k + 1, by omega, by go_num, by rw [HNX.out, if_true, show canSg y = [y.c] from by unfold canSg; rw [if_neg (fun h => by rw [HYT.out] at h; exact absurd h.1 (by decide))]]; have h := HO5.out; simpa using h, HBa.out.trans HB5.out⟩
                    | true =>
                      rw [hyt] at d1 HOa HBa
                      have HYT := Lib.hid hyt
                      clear hyt
                      go_wp2_with fail
                      refine (wild_any y.c _).mono ?_
                      rintro e wq ⟨rfl, rfl⟩
                      by_cases hc3 : cls y.c = 3
                      · rw [decide_eq_true hc3]
                        have HC := Lib.hid (show canSg y = [92, y.c] from by unfold canSg; rw [if_pos ⟨HYT.out, .inl hc3⟩])
                        clear hc3
                        go_wp2_with (at_builtin; refine OwnB.appendAt HOa.out _ _ rfl _ _ rfl rfl rfl ?_ ?_ ?_ ?_ ?_ ?_)
                        all_goals first | omega | exact (World.size_alloc ..).symm | (rw [World.size_alloc]; omega) | skip
                        intro v5 w5 ho5 hb5 hk5
                        have HO5 := Lib.hid ho5
                        have HB5 := Lib.hid hb5
                        have hfb5 := (hk5.cell (b := wr.heap.size) (o := 0) (by rw [World.size_alloc]; omega) HNE.out).trans (World.cell?_alloc_new wr _ _ 0)
                        simp only [List.getElem?_toArray, List.getElem?_cons_zero] at hfb5
                        clear ho5 hb5 hk5
                        have hs5 : w.heap.size ≤ w5.heap.size := (HBa.out.trans HB5.out).size
                        go_wp2_with (at_builtin; refine OwnB.appendAt HO5.out _ _ rfl _ _ rfl rfl rfl ?_ ?_ ?_ hs5 ?_ ?_)
                        all_goals first | omega | exact (World.size_alloc ..).symm | (simp only [List.length_append, List.length_singleton]; omega) | skip
                        intro v6 w6 ho6 hb6 hk6
                        have HO6 := Lib.hid ho6
                        have HB6 := Lib.hid hb6
                        clear ho6 hb6 hk6
                        go_wp2
                        go_roundw
                        case measure => simp [intOf]; omega
                        case rel => exact ⟨k + 1, by omega, by go_num, by rw [HNX.out, if_true, HC.out]; have h := HO6.out; simpa using h, HBa.out.trans (HB5.out.trans HB6.out)⟩
                      · rw [decide_eq_false hc3]
                        by_cases hc92 : y.c = 92
                        · have hq92 : ((y.c.toNat : Int) == 92) = true := by rw [hc92]; rfl
                          have HC := Lib.hid (show canSg y = [92, y.c] from by unfold canSg; rw [if_pos ⟨HYT.out, .inr hc92⟩])
                          clear hc3 hc92
                          go_wp2_with (at_builtin; refine OwnB.appendAt HOa.out _ _ rfl _ _ rfl rfl rfl ?_ ?_ ?_ ?_ ?_ ?_)
                          all_goals first | omega | exact (World.size_alloc ..).symm | (rw [World.size_alloc]; omega) | skip
                          intro v5 w5 ho5 hb5 hk5
                          have HO5 := Lib.hid ho5
                          have HB5 := Lib.hid hb5
                          have hfb5 := (hk5.cell (b := wr.heap.size) (o := 0) (by rw [World.size_alloc]; omega) HNE.out).trans (World.cell?_alloc_new wr _ _ 0)
                          simp only [List.getElem?_toArray, List.getElem?_cons_zero] at hfb5
                          clear ho5 hb5 hk5
                          have hs5 : w.heap.size ≤ w5.heap.size := (HBa.out.trans HB5.out).size
                          go_wp2_with (at_builtin; refine OwnB.appendAt HO5.out _ _ rfl _ _ rfl rfl rfl ?_ ?_ ?_ hs5 ?_ ?_)
                          all_goals first | omega | exact (World.size_alloc ..).symm | (simp only [List.length_append, List.length_singleton]; omega) | skip
                          intro v6 w6 ho6 hb6 hk6
                          have HO6 := Lib.hid ho6
                          have HB6 := Lib.hid hb6
                          clear ho6 hb6 hk6
                          go_wp2
                          go_roundw
                          case measure => simp [intOf]; omega
                          case rel => exact ⟨k + 1, by omega, by go_num, by rw [HNX.out, if_true, HC.out]; have h := HO6.out; simpa using h, HBa.out.trans (HB5.out.trans HB6.out)⟩
                        · have hq92 : ((y.c.toNat : Int) == 92) = false := by
                            rw [beq_eq_false_iff_ne]; intro h
                            exact hc92 (UInt8.toNat_inj.1 (show y.c.toNat = 92 by omega))
                          have HC := Lib.hid (show canSg y = [y.c] from by unfold canSg; rw [if_neg (fun h => h.2.elim hc3 hc92)])
                          clear hc3 hc92
                          go_wp2_with (at_builtin; refine OwnB.appendAt HOa.out _ _ rfl _ _ rfl rfl rfl ?_ ?_ ?_ ?_ ?_ ?_)
                          all_goals first | omega | exact (World.size_alloc ..).symm | (rw [World.size_alloc]; omega) | skip
                          intro v5 w5 ho5 hb5 hk5
                          have HO5 := Lib.hid ho5
                          have HB5 := Lib.hid hb5
                          have hfb5 := (hk5.cell (b := wr.heap.size) (o := 0) (by rw [World.size_alloc]; omega) HNE.out).trans (World.cell?_alloc_new wr _ _ 0)
                          simp only [List.getElem?_toArray, List.getElem?_cons_zero] at hfb5
                          clear ho5 hb5 hk5
                          go_wp2
                          go_roundw
                          case measure => simp [intOf]; omega
                          case rel => exact ⟨k + 1, by omega, by go_num, by rw [HNX.out, if_true, HC.out]; have h := HO5.out; simpa using h, HBa.out.trans HB5.out⟩
                  · have HEND : Hid (outB pre k = if pre.any wildSg = true then canOf pre else pre.map (·.c)) := Lib.hid (by unfold outB; rw [List.take_of_length_le (by omega)])
                    rw [HST2.out] at HEND
                    have hjk : j ≤ k := by have := HPL.out; omega
                    have hcv := HO.out.drew.conv
                    go_wp2
                    go_region
                    go_wp2
                    go_ret3
                    exact rrRet_some HDS.out (by rw [HRO.out]; rfl) (by rw [HRO.out, HEND.out]; rfl) (by rw [HPL.out]; go_num) HB2.out.drew
            · rw [if_neg hk] at he
              subst he
              have hk0 : 0 ≤ kwS pre := kwS_nonneg pre
              have HRO : Hid (runOut pre = (kwS pre, [])) := Lib.hid (by unfold runOut; rw [if_pos hk])
              clear hk
              go_wp2
              go_ret3
              exact rrRet_some HDS.out (by rw [HRO.out]) (by rw [HRO.out]; rfl) (by rw [HPL.out]; go_num) HBk.out
          · have HG : Hid (goesOn x = true) := Lib.hid (by unfold goesOn; simp [hc1, hc2])
            have HC1 := Lib.hid hc1
            have HC2 := Lib.hid hc2
            clear hlet hc1 hc2
            go_wp2_with fail
            refine (blank_any x.c wr).mono ?_
            rintro e w1 ⟨rfl, rfl⟩
            rw [decide_eq_false HC1.out]
            go_wp2_with fail
            refine (mark_any x.c wr).mono ?_
            rintro e wm ⟨rfl, hbm⟩
            have HBm := Lib.hid (HB.out.trans (hbm.mono hsz))
            clear hbm
            rw [decide_eq_false HC2.out]
            have HRm := Lib.hid (H.out.belowW hB HBm.out)
            obtain ⟨a9, ea9, hb9, f0, f1, f2, f3⟩ := at_sg HRm.out (show s[i + j]? = some x from by have h := HDR.out; rw [← List.head?_drop, h]; rfl)
            cases ea9
            rw [HLET.out] at f1
            have habm : (a0.add ((i + j) * 4)).block < wm.heap.size := by have := HBm.out.size; omega
            go_wp2_with fail
            refine (plain_any (.slice (some a0) s.length cap) s (i + j) 92 wm B HRm.out hs (by omega)).mono ?_
            rintro e w1 ⟨rfl, rfl⟩
            rw [HP92.out]
            by_cases h92 : x.letter = false ∧ x.c = 92
            · have HN : Hid (rS (s.drop i) = none) := Lib.hid (by rw [HRS.out, HDR.out, rS_cons, if_pos HG.out, if_pos h92]; rfl)
              rw [decide_eq_true h92]
              clear h92
              go_wp2
              go_ret3
              exact rrRet_none HN.out HBm.out
            · have HN2 := Lib.hid (HNEXT.out HG.out h92)
              rw [decide_eq_false h92]
              clear h92
              cases hst : pre.any wildSg with
              | true =>
                have HST := Lib.hid hst
                go_wp2
                go_roundw
                case measure => simp [intOf]; omega
                case rel => exact ⟨j + 1, pre ++ [x], by omega, by rw [HTG.out, ← HP.out], by rw [List.length_append, HPL.out]; rfl, by go_num, by rw [HPW.out, HST.out]; rfl, HN2.out, HBm.out⟩
              | false =>
                have HST := Lib.hid hst
                have HWS : Hid (wildSg x = decide (cls x.c = 3)) := Lib.hid (by unfold wildSg; rw [HLET.out]; rfl)
                go_wp2_with fail
                refine (wild_any x.c wm).mono ?_
                rintro e w1 ⟨rfl, rfl⟩
                rw [← HWS.out]
                go_wp2
                go_roundw
                case measure => simp [intOf]; omega
                case rel => exact ⟨j + 1, pre ++ [x], by omega, by rw [HTG.out, ← HP.out], by rw [List.length_append, HPL.out]; rfl, by go_num, by rw [HPW.out, HST.out]; rfl, HN2.out, HBm.out⟩
end Go.Proofs.YtcomdkejpaoneaaDoor
end
