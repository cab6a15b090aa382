/- Merged for a claim: Kl Oi Po Tw -/
import Derived.Test.YtmdpfikalekmlaaGreatDoorKo4
import Derived.Test.YtmdpfikalekmlaaGreatDoorKo3
import Derived.Test.YtmdpfikalekmlaaGreatDoorBulk
import Derived.Test.YtmdpfikalekmlaaGreatDoorIf
import Derived.Test.YtmdpfikalekmlaaGreatDoorKo2
import Derived.Test.YtmdpfikalekmlaaGreatDoorOb
import Derived.Test.YtmdpfikalekmlaaGreatDoorLd
import Derived.Test.YtmdpfikalekmlaaGreatDoorTj
import Derived.Test.YtmdpfikalekmlaaGreatDoorRq
section
/- Layer 20, plainly: a line in the order in which the program looks at it. -/
namespace Go.Proofs.YtmdpfikalekmlaaGreatDoor
open Go.RowKit
set_option maxRecDepth 100000
set_option linter.unusedSimpArgs false
set_option linter.unusedVariables false

def nearG (ws : List (List UInt8)) : Option Nr := match ws with
  | [] => none
  | v :: vs => match wholeL 9223372036854775808 v, pPairs vs with
    | some k, some l => some ⟨(k : Int), l.map (·.1), l.map (·.2)⟩
    | _, _ => none
def lineG (st : Rs) (s w0 : List UInt8) (ws : List (List UInt8)) : Option Rs :=
  if st.part = 0 then (if w0 = wdA then (intsL ws).map fun l => { st with avgs := l, part := 1 } else none)
  else if w0 = wdC ∧ 1 < ws.length ∧ st.part ≤ 2 then (pCurR (s.drop 7)).map fun c => { st with curs := st.curs ++ [c], part := 2 }
  else if w0 = wdN ∧ 0 < ws.length ∧ st.part ≤ 3 then (nearG ws).map fun n => { st with nears := st.nears ++ [n], part := 3 }
  else if s = wdE ∧ st.part < 4 then some { st with all := true, part := 4 }
  else if w0 = wdD ∧ 0 < ws.length ∧ st.part < 5 then (intsL ws).map fun l => { st with drive := l, part := 5 }
  else (pInsR w0 ws).map fun x => { st with code := st.code ++ [x], part := 6 }
theorem pNums_eq {w s w0 : List UInt8} {ws : List (List UInt8)} (h : splitS 32 s = w0 :: ws) : pNums w s = if w0 = w then intsL ws else none := by
  unfold pNums; rw [h]
theorem pCur_eq {s w0 : List UInt8} {ws : List (List UInt8)} (h : splitS 32 s = w0 :: ws) : pCur s = if w0 = wdC ∧ 1 < ws.length then pCurR (s.drop 7) else none := by
  unfold pCur
  rw [h]
  simp only [List.head?_cons, Option.some.injEq, List.length_cons]
  by_cases h1 : w0 = wdC ∧ 1 < ws.length
  · rw [if_pos h1, if_pos ⟨h1.1, by omega⟩]
  · rw [if_neg h1, if_neg (fun h2 => h1 ⟨h2.1, by omega⟩)]
theorem pNear_eq {s w0 : List UInt8} {ws : List (List UInt8)} (h : splitS 32 s = w0 :: ws) : pNear s = if w0 = wdN then nearG ws else none := by
  unfold pNear
  rw [h]
  by_cases h1 : w0 = wdN
  · subst h1
    rw [if_pos rfl]
    cases ws <;> rfl
  · rw [if_neg h1]
    split
    · rename_i h2
      injection h2 with h2 _
      exact absurd h2 h1
    · rfl
theorem pInsR_no {w0 : List UInt8} {ws : List (List UInt8)} (h : w0 = wdA ∨ w0 = wdC ∨ w0 = wdN ∨ w0 = wdE ∨ w0 = wdD) : pInsR w0 ws = none := by
  unfold pInsR
  have : opIdx w0 = none := by
    rcases h with rfl | rfl | rfl | rfl | rfl <;> rfl
  rw [this]
theorem intsL_length {ws : List (List UInt8)} {l : List Int} (h : intsL ws = some l) : l.length = ws.length := by
  obtain ⟨rfl, _⟩ := (intsL_iff ws l).1 h
  rw [List.length_map]
theorem split_every {w0 : List UInt8} {ws : List (List UInt8)} (h : splitS 32 wdE = w0 :: ws) : w0 = wdE ∧ ws = [] := by
  have e : splitS 32 wdE = [wdE] := by decide
  rw [e] at h
  injection h with h1 h2
  exact ⟨h1.symm, h2.symm⟩
theorem lineR_lineG {st : Rs} {s w0 : List UInt8} {ws : List (List UInt8)} (h : splitS 32 s = w0 :: ws) : lineR st s = lineG st s w0 ws := by
  unfold lineR lineG
  by_cases h0 : st.part = 0
  · rw [if_pos h0, if_pos h0, pNums_eq h]
    by_cases ha : w0 = wdA
    · rw [if_pos ha, if_pos ha]
    · rw [if_neg ha, if_neg ha]; rfl
  rw [if_neg h0, if_neg h0, pCur_eq h, pNear_eq h, pNums_eq h, pIns_pInsR h]
  by_cases hc : w0 = wdC ∧ 1 < ws.length ∧ st.part ≤ 2
  · rw [if_pos hc, if_pos hc.2.2, if_pos ⟨hc.1, hc.2.1⟩]
    cases pCurR (s.drop 7) with
    | some c => rfl
    | none =>
      have e1 : w0 ≠ wdN := by rw [hc.1]; decide
      have e2 : w0 ≠ wdD := by rw [hc.1]; decide
      have e3 : ¬ (s = wdE ∧ st.part < 4) := fun h2 => by
        rw [h2.1] at h
        have := (split_every h).1
        rw [hc.1] at this
        exact absurd this (by decide)
      simp only [if_neg e1, if_neg e2, ite_self, if_neg e3, pInsR_no (Or.inr (Or.inl hc.1)), Option.map_none]
  rw [if_neg hc]
  have hcn : (if st.part ≤ 2 then if w0 = wdC ∧ 1 < ws.length then pCurR (s.drop 7) else none else none) = none := by
    by_cases h2 : st.part ≤ 2
    · rw [if_pos h2, if_neg (fun h3 => hc ⟨h3.1, h3.2, h2⟩)]
    · rw [if_neg h2]
  rw [hcn]
  simp only []
  by_cases hn : w0 = wdN ∧ 0 < ws.length ∧ st.part ≤ 3
  · rw [if_pos hn, if_pos hn.2.2, if_pos hn.1]
    cases nearG ws with
    | some c => rfl
    | none =>
      have e2 : w0 ≠ wdD := by rw [hn.1]; decide
      have e3 : ¬ (s = wdE ∧ st.part < 4) := fun h2 => by
        rw [h2.1] at h
        have := (split_every h).1
        rw [hn.1] at this
        exact absurd this (by decide)
      simp only [if_neg e2, ite_self, if_neg e3, pInsR_no (Or.inr (Or.inr (Or.inl hn.1))), Option.map_none]
  rw [if_neg hn]
  have hnn : (if st.part ≤ 3 then if w0 = wdN then nearG ws else none else none) = none := by
    by_cases h2 : st.part ≤ 3
    · rw [if_pos h2]
      by_cases h3 : w0 = wdN
      · rw [if_pos h3]
        cases ws with
        | nil => rfl
        | cons v vs => exact absurd ⟨h3, by simp, h2⟩ hn
      · rw [if_neg h3]
    · rw [if_neg h2]
  rw [hnn]
  simp only []
  by_cases he : s = wdE ∧ st.part < 4
  · rw [if_pos he, if_pos he]
  rw [if_neg he, if_neg he]
  by_cases hd : w0 = wdD ∧ 0 < ws.length ∧ st.part < 5
  · rw [if_pos hd, if_pos hd.2.2, if_pos hd.1]
    cases hi : intsL ws with
    | some l =>
      have hl := intsL_length hi
      cases l with
      | nil => have := hd.2.1; simp at hl; omega
      | cons x l => rfl
    | none => simp only [pInsR_no (Or.inr (Or.inr (Or.inr (Or.inr hd.1)))), Option.map_none]
  rw [if_neg hd]
  have hdn : ∀ (r : Option Rs), (match (if st.part < 5 then (if w0 = wdD then intsL ws else none) else none) with
      | some (x :: l) => some { st with drive := x :: l, part := 5 }
      | _ => r) = r := by
    intro r
    by_cases h2 : st.part < 5
    · rw [if_pos h2]
      by_cases h3 : w0 = wdD
      · rw [if_pos h3]
        cases ws with
        | nil => rfl
        | cons v vs => exact absurd ⟨h3, by simp, h2⟩ hd
      · rw [if_neg h3]
    · rw [if_neg h2]
  exact hdn _
theorem split_len {s w0 : List UInt8} {ws : List (List UInt8)} (h : splitS 32 s = w0 :: ws) : (ws ≠ [] → w0.length + 1 ≤ s.length) ∧ w0.length ≤ s.length ∧ (∀ x ∈ ws, x.length ≤ s.length) ∧ ws.length ≤ s.length := by
  have e := unlS_splitS 32 s
  rw [h, unlS_cons] at e
  have hl := congrArg List.length e
  simp only [List.length_append, List.length_cons, List.length_nil] at hl
  have hc : (splitS 32 s).length = s.count 32 + 1 := splitS_length 32 s
  rw [h, List.length_cons] at hc
  have hcs : s.count 32 ≤ s.length := List.count_le_length
  have hm : ∀ (l : List (List UInt8)), (∀ x ∈ l, x.length + 1 ≤ (unlS 32 l).length) := by
    intro l
    induction l with
    | nil => intro x hx; cases hx
    | cons y l ih =>
      intro x hx
      rw [unlS_cons, List.length_append, List.length_cons]
      rcases List.mem_cons.1 hx with rfl | hx
      · omega
      · have := ih x hx; omega
  refine ⟨fun hne => ?_, by omega, fun x hx => by have := hm ws x hx; omega, by omega⟩
  cases ws with
  | nil => exact absurd rfl hne
  | cons y r => have := hm (y :: r) y List.mem_cons_self; omega
end Go.Proofs.YtmdpfikalekmlaaGreatDoor
/- Layer 20: the reader's line. -/
namespace Go.Proofs.YtmdpfikalekmlaaGreatDoor
open Go.RowKit Go.Maps
set_option maxRecDepth 100000
set_option maxHeartbeats 4000000
set_option linter.unusedSimpArgs false
set_option linter.unusedVariables false

theorem strB_beq (l m : List UInt8) : ((str l).toList == m) = decide (l = m) := by
  rw [ba_toList, str_data]
  by_cases h : l = m
  · subst h; simp
  · rw [decide_eq_false h]; simpa using h
theorem strB_yes {l m : List UInt8} (h : l = m) : ((str l).toList == m) = true := by rw [strB_beq]; exact decide_eq_true h
theorem strB_no {l m : List UInt8} (h : ¬ l = m) : ((str l).toList == m) = false := by rw [strB_beq]; exact decide_eq_false h
theorem PuEnv.keep {w w' : World} {B rb : Nat} (h : PuEnv w) (hk : RKeep B rb w w') (hg : 32 < rb) (hrb : rb < B) : PuEnv w' :=
  h.below hg (hk.below (E := rb) (by omega) (Nat.le_refl _))
theorem TabEnv.keep {w w' : World} {B rb : Nat} (h : TabEnv w) (hk : RKeep B rb w w') (hg : 17 < rb) (hrb : rb < B) : TabEnv w' := by
  have hb : Below rb w w' := hk.below (E := rb) (by omega) (Nat.le_refl _)
  exact ⟨fun i hi => (hb.cell (p := ⟨17, 2 * i, none⟩) hg).trans (h.name i hi), fun i hi => (hb.cell (p := ⟨17, 2 * i + 1, none⟩) hg).trans (h.args i hi)⟩
theorem RdL.offSet {α : Type} {S : Shape α} {w : World} {C rb i : Nat} {A : Option Addr} {n c : Nat} {l : List α} (h : RdL S w C (.slice A n c) l) (hA : ∀ a, A = some a → a.block ≠ rb) (u : Value) : RdL S (w.setCell ⟨rb, i, none⟩ u) C (.slice A n c) l :=
  (RKeep.set_ C rb i w u).rd h (Nat.le_refl _) (fun a n' c' e => hA a (by injection e))
theorem RKeep.cellF {B rb : Nat} {w w' : World} (h : RKeep B rb w w') {b o : Nat} (hb : b < B) (hne : ¬ b = rb) : w'.cell? ⟨b, o, none⟩ = w.cell? ⟨b, o, none⟩ := by
  simp [World.cell?, h.kept b hb hne]
theorem setOff (w : World) (rb i b o : Nat) (u : Value) (hne : ¬ b = rb) : (w.setCell ⟨rb, i, none⟩ u).cell? ⟨b, o, none⟩ = w.cell? ⟨b, o, none⟩ :=
  (RKeep.set_ (b + 1) rb i w u).cellF (Nat.lt_succ_self _) hne
theorem str_drop7 (s : List UInt8) : (str s).extract 7 (str s).size = str (s.drop 7) := by
  rw [← str_drop, str_data]
theorem LnRet.trans {B rb mb : Nat} {w w1 : World} {r : Option Rs} {e : Ending} {w' : World} (h : RKeep B rb w w1) (h2 : LnRet B rb mb w1 r e w') : LnRet B rb mb w r e w' := ⟨h.trans h2.1, h2.2⟩
theorem lineG_0 {st : Rs} {s w0 : List UInt8} {ws : List (List UInt8)} (h0 : st.part = 0) : lineG st s w0 ws = if w0 = wdA then (intsL ws).map fun l => { st with avgs := l, part := 1 } else none := by unfold lineG; rw [if_pos h0]
theorem rline_any (s : List UInt8) (w : World) (B rb mb : Nat) (x : RdrV) (st : Rs) (h : RdrAt w B rb mb x st) (hn1 : st.curs.length ≤ 1000000000) (hn2 : st.nears.length ≤ 1000000000) (hn3 : st.code.length ≤ 1000000000) (hs : s.length ≤ 1000000000) (hE : PuEnv w) (hT : TabEnv w) (hg1 : 32 < rb) (hg2 : 17 < rb) :
    Calls Tryz.prog 19 #[.pointer (some ⟨rb, 0, none⟩), .string (str s)] w (LnRet B rb mb w (lineR st s)) := by
  obtain ⟨w0, ws, hsp⟩ : ∃ w0 ws, splitS 32 s = w0 :: ws := by
    cases h : splitS 32 s with
    | nil => exact absurd h (splitS_ne _ _)
    | cons a b => exact ⟨a, b, rfl⟩
  rw [lineR_lineG hsp]
  obtain ⟨l1, l2, l3, l4⟩ := split_len hsp
  have hsplit := split1_any (str s) 32 w (by rw [str_size]; omega)
  have hrd := spRd 32 (str s) w (by rw [str_size]; omega)
  have hrow : spRow 32 (str s) = (((w0 :: ws).map str).map Value.string).toArray := by unfold spRow; rw [str_data, hsp]
  unfold SpRet at hsplit
  rw [str_data, hsp] at hsplit hrd
  have hR1 := h.alloc (.cells (spRow 32 (str s)) 9)
  have hE1 := hE.belowW ((Below.refl w.heap.size w).alloc (Nat.le_refl _) (.cells (spRow 32 (str s)) 9))
  have hT1 := hT.below ((Below.refl w.heap.size w).alloc (Nat.le_refl _) (.cells (spRow 32 (str s)) 9))
  have HK1 := Lib.hid (RKeep.of (rb := rb) ((Below.refl B w).alloc h.hB (.cells (spRow 32 (str s)) 9)))
  have hz1 : w.heap.size < (w.alloc (.cells (spRow 32 (str s)) 9)).heap.size := by rw [World.size_alloc]; exact Nat.lt_succ_self _
  have c0 : (w.alloc (.cells (spRow 32 (str s)) 9)).cell? ⟨w.heap.size, 0, none⟩ = some (.string (str w0)) := by
    rw [World.cell?_alloc_new, hrow]; rfl
  have hrbs : rb < w.heap.size := h.blk.lt
  clear hrow h hE hT
  generalize w.alloc (.cells (spRow 32 (str s)) 9) = w1 at *
  have HR1 := Lib.hid hR1; have HE1 := Lib.hid hE1; have HT1 := Lib.hid hT1; have HW1 := Lib.hid hrd
  have r7 : w1.cell? ⟨rb, 7, none⟩ = some (.int .i64 (st.part : Int)) := hR1.blk.cell 7
  have z7 : w1.frozen? ⟨rb, 7, none⟩ = false := hR1.blk.frozen 7
  have hne : ¬ w.heap.size = rb := by omega
  have hne2 : ¬ rb = w.heap.size := by omega
  have HSZ := Lib.hid l3
  have HRB := Lib.hid hR1.hrb
  have hB1 := hR1.hB
  clear hR1 hE1 hT1 hrd l3
  by_cases hp : st.part = 0
  · rw [lineG_0 hp]
    generalize hRR : (if w0 = wdA then (intsL ws).map (fun l => { st with avgs := l, part := 1 }) else none) = R
    have HRR := Lib.hid hRR
    clear hRR
    have hpi : (st.part : Int) = 0 := by omega
    clear hp
    cases ws with
    | nil =>
      have HTL := Lib.hid (show RdL strS w1 (w.heap.size + 1) (.slice (some ⟨w.heap.size, 0, none⟩) 0 0) (([] : List (List UInt8)).map str) from RdL.tail1 HW1.out)
      have HR2 := Lib.hid (show RdrAt (w1.setCell ⟨rb, 7, none⟩ (.int .i64 1)) B rb mb x { st with part := 1 } from HR1.out.setPart 1)
      have HS2 := Lib.hid (RKeep.set_ B rb 7 w1 (.int .i64 1))
      have HK2 := Lib.hid (HK1.out.trans HS2.out)
      have HE2 := Lib.hid (HE1.out.keep HS2.out hg1 HRB.out)
      have HT2 := Lib.hid (HT1.out.keep HS2.out hg2 HRB.out)
      have hz2 : (w1.setCell ⟨rb, 7, none⟩ (.int .i64 1)).heap.size = w1.heap.size := set_size _ _ _
      have HC2 := Lib.hid (show w.heap.size + 1 ≤ (w1.setCell ⟨rb, 7, none⟩ (.int .i64 1)).heap.size by omega)
      have HB2 := Lib.hid (HR2.out.hB)
      clear hz2
      have hin := ints_any _ _ _ [] (w1.setCell ⟨rb, 7, none⟩ (.int .i64 1)) (w.heap.size + 1) (HTL.out.offSet (i := 7) (by intro a ha; injection ha with ha; subst ha; exact hne) (.int .i64 1)) HC2.out (fun x hx => Nat.le_trans (HSZ.out x hx) hs) (by omega) HE2.out
      obtain ⟨l, hi⟩ : ∃ l, intsL [] = some l := ⟨[], rfl⟩
      have HI := Lib.hid hi
      rw [hi] at hin
      clear hi
      by_cases ha : w0 = wdA
      · have e1 := strB_yes ha
        have HA := Lib.hid ha
        clear ha
        unfold wdA at e1
        go_enter Tryz.func19, Tryz.ntmps19
        go_wp2_with fail
        refine hsplit.mono ?_
        rintro e w1 ⟨rfl, rfl⟩
        go_wp2_with fail
        refine hin.mono ?_
        rintro e w3 ⟨⟨v3, rfl, ho3⟩, hb3⟩
        obtain ⟨A3, n3, c3, rfl⟩ := ho3.form3
        have HR3 := Lib.hid (HR2.out.below hb3)
        have HR4 := Lib.hid (HR3.out.setAvgs (ho3.more HB2.out) (HR2.out.far ho3 (Nat.le_refl _)))
        have HK3 := Lib.hid ((HK2.out.trans (RKeep.ofW HB2.out hb3)).trans (RKeep.set_ B rb 0 w3 (.slice A3 n3 c3)))
        have r0 : w3.cell? ⟨rb, 0, none⟩ = some x.av := HR3.out.blk.cell 0
        have z0 : w3.frozen? ⟨rb, 0, none⟩ = false := HR3.out.blk.frozen 0
        have c3' : w3.cell? ⟨w.heap.size, 0, none⟩ = some (.string (str w0)) := (hb3.cell (p := ⟨w.heap.size, 0, none⟩) (Nat.lt_of_lt_of_le (Nat.lt_succ_self _) HC2.out)).trans ((setOff w1 rb 7 _ 0 _ hne).trans c0)
        clear hb3 hin ho3
        go_wp2
        go_ret
        exact LnRet.good HK3.out (by rw [← HRR.out, if_pos HA.out, HI.out]; rfl) rfl HR4.out
      · have e1 := strB_no ha
        have HA := Lib.hid ha
        clear ha
        unfold wdA at e1
        go_enter Tryz.func19, Tryz.ntmps19
        go_wp2_with fail
        refine hsplit.mono ?_
        rintro e w1 ⟨rfl, rfl⟩
        go_wp2_with fail
        refine hin.mono ?_
        rintro e w3 ⟨⟨v3, rfl, ho3⟩, hb3⟩
        obtain ⟨A3, n3, c3, rfl⟩ := ho3.form3
        have HR3 := Lib.hid (HR2.out.below hb3)
        have HR4 := Lib.hid (HR3.out.setAvgs (ho3.more HB2.out) (HR2.out.far ho3 (Nat.le_refl _)))
        have HK3 := Lib.hid ((HK2.out.trans (RKeep.ofW HB2.out hb3)).trans (RKeep.set_ B rb 0 w3 (.slice A3 n3 c3)))
        have r0 : w3.cell? ⟨rb, 0, none⟩ = some x.av := HR3.out.blk.cell 0
        have z0 : w3.frozen? ⟨rb, 0, none⟩ = false := HR3.out.blk.frozen 0
        have c3' : w3.cell? ⟨w.heap.size, 0, none⟩ = some (.string (str w0)) := (hb3.cell (p := ⟨w.heap.size, 0, none⟩) (Nat.lt_of_lt_of_le (Nat.lt_succ_self _) HC2.out)).trans ((setOff w1 rb 7 _ 0 _ hne).trans c0)
        clear hb3 hin ho3
        go_wp2
        go_ret
        exact LnRet.bad HK3.out (by rw [← HRR.out, if_neg HA.out]) rfl
    | cons v vs =>
      have HTL := Lib.hid (show RdL strS w1 (w.heap.size + 1) (.slice (some ⟨w.heap.size, 1, none⟩) (vs.length + 1) (vs.length + 1)) ((v :: vs).map str) from by
        have h := RdL.tail2 HW1.out
        rw [List.length_map] at h
        exact h)
      have hnz : ¬ vs.length + 1 = 0 := by omega
      have HR2 := Lib.hid (show RdrAt (w1.setCell ⟨rb, 7, none⟩ (.int .i64 1)) B rb mb x { st with part := 1 } from HR1.out.setPart 1)
      have HS2 := Lib.hid (RKeep.set_ B rb 7 w1 (.int .i64 1))
      have HK2 := Lib.hid (HK1.out.trans HS2.out)
      have HE2 := Lib.hid (HE1.out.keep HS2.out hg1 HRB.out)
      have HT2 := Lib.hid (HT1.out.keep HS2.out hg2 HRB.out)
      have hz2 : (w1.setCell ⟨rb, 7, none⟩ (.int .i64 1)).heap.size = w1.heap.size := set_size _ _ _
      have HC2 := Lib.hid (show w.heap.size + 1 ≤ (w1.setCell ⟨rb, 7, none⟩ (.int .i64 1)).heap.size by omega)
      have HB2 := Lib.hid (HR2.out.hB)
      clear hz2
      have hin := ints_any _ _ _ (v :: vs) (w1.setCell ⟨rb, 7, none⟩ (.int .i64 1)) (w.heap.size + 1) (HTL.out.offSet (i := 7) (by intro a ha; injection ha with ha; subst ha; exact hne) (.int .i64 1)) HC2.out (fun x hx => Nat.le_trans (HSZ.out x hx) hs) (by omega) HE2.out
      cases hi : intsL (v :: vs) with
      | none =>
        have HI := Lib.hid hi
        rw [hi] at hin
        clear hi
        go_enter Tryz.func19, Tryz.ntmps19
        go_wp2_with fail
        refine hsplit.mono ?_
        rintro e w1 ⟨rfl, rfl⟩
        go_wp2_with fail
        refine hin.mono ?_
        rintro e w3 ⟨rfl, hb3⟩
        have HR3 := Lib.hid (HR2.out.below hb3)
        have HK3 := Lib.hid ((HK2.out.trans (RKeep.ofW HB2.out hb3)).trans (RKeep.set_ B rb 0 w3 (.slice none 0 0)))
        have r0 : w3.cell? ⟨rb, 0, none⟩ = some x.av := HR3.out.blk.cell 0
        have z0 : w3.frozen? ⟨rb, 0, none⟩ = false := HR3.out.blk.frozen 0
        clear hb3 hin
        go_wp2
        go_ret
        exact LnRet.bad HK3.out (by rw [← HRR.out, HI.out]; split <;> rfl) rfl
      | some l =>
        have HI := Lib.hid hi
        rw [hi] at hin
        clear hi
        by_cases ha : w0 = wdA
        · have e1 := strB_yes ha
          have HA := Lib.hid ha
          clear ha
          unfold wdA at e1
          go_enter Tryz.func19, Tryz.ntmps19
          go_wp2_with fail
          refine hsplit.mono ?_
          rintro e w1 ⟨rfl, rfl⟩
          go_wp2_with fail
          refine hin.mono ?_
          rintro e w3 ⟨⟨v3, rfl, ho3⟩, hb3⟩
          obtain ⟨A3, n3, c3, rfl⟩ := ho3.form3
          have HR3 := Lib.hid (HR2.out.below hb3)
          have HR4 := Lib.hid (HR3.out.setAvgs (ho3.more HB2.out) (HR2.out.far ho3 (Nat.le_refl _)))
          have HK3 := Lib.hid ((HK2.out.trans (RKeep.ofW HB2.out hb3)).trans (RKeep.set_ B rb 0 w3 (.slice A3 n3 c3)))
          have r0 : w3.cell? ⟨rb, 0, none⟩ = some x.av := HR3.out.blk.cell 0
          have z0 : w3.frozen? ⟨rb, 0, none⟩ = false := HR3.out.blk.frozen 0
          have c3' : w3.cell? ⟨w.heap.size, 0, none⟩ = some (.string (str w0)) := (hb3.cell (p := ⟨w.heap.size, 0, none⟩) (Nat.lt_of_lt_of_le (Nat.lt_succ_self _) HC2.out)).trans ((setOff w1 rb 7 _ 0 _ hne).trans c0)
          clear hb3 hin ho3
          go_wp2
          go_ret
          exact LnRet.good HK3.out (by rw [← HRR.out, if_pos HA.out, HI.out]; rfl) rfl HR4.out
        · have e1 := strB_no ha
          have HA := Lib.hid ha
          clear ha
          unfold wdA at e1
          go_enter Tryz.func19, Tryz.ntmps19
          go_wp2_with fail
          refine hsplit.mono ?_
          rintro e w1 ⟨rfl, rfl⟩
          go_wp2_with fail
          refine hin.mono ?_
          rintro e w3 ⟨⟨v3, rfl, ho3⟩, hb3⟩
          obtain ⟨A3, n3, c3, rfl⟩ := ho3.form3
          have HR3 := Lib.hid (HR2.out.below hb3)
          have HR4 := Lib.hid (HR3.out.setAvgs (ho3.more HB2.out) (HR2.out.far ho3 (Nat.le_refl _)))
          have HK3 := Lib.hid ((HK2.out.trans (RKeep.ofW HB2.out hb3)).trans (RKeep.set_ B rb 0 w3 (.slice A3 n3 c3)))
          have r0 : w3.cell? ⟨rb, 0, none⟩ = some x.av := HR3.out.blk.cell 0
          have z0 : w3.frozen? ⟨rb, 0, none⟩ = false := HR3.out.blk.frozen 0
          have c3' : w3.cell? ⟨w.heap.size, 0, none⟩ = some (.string (str w0)) := (hb3.cell (p := ⟨w.heap.size, 0, none⟩) (Nat.lt_of_lt_of_le (Nat.lt_succ_self _) HC2.out)).trans ((setOff w1 rb 7 _ 0 _ hne).trans c0)
          clear hb3 hin ho3
          go_wp2
          go_ret
          exact LnRet.bad HK3.out (by rw [← HRR.out, if_neg HA.out]) rfl
  · have hpi : ¬ (st.part : Int) = 0 := by omega
    have hpb : ((st.part : Int) == 0) = false := by simpa using hpi
    go_enter Tryz.func19, Tryz.ntmps19
    go_wp2_with fail
    refine hsplit.mono ?_
    rintro e w1 ⟨rfl, rfl⟩
    go_upto_region 8 with (fail)
    go_cut [37] (fun sv wy => sv = .bool (decide (w0 = wdC ∧ 1 < ws.length ∧ st.part ≤ 2)) ∧ w1 = wy)
    case first =>
      by_cases a1 : w0 = wdC
      · have e1 := strB_yes a1
        have HA1 := Lib.hid a1
        clear a1
        unfold wdC at e1
        by_cases a2 : 1 < ws.length
        · have e2 : (2 : Int) < (ws.length : Int) + 1 := by omega
          by_cases a3 : st.part ≤ 2
          · have e3 : (st.part : Int) ≤ 2 := by omega
            go_wp2
            go_meet
            exact ⟨by rw [decide_eq_true (p := w0 = wdC ∧ 1 < ws.length ∧ st.part ≤ 2) ⟨HA1.out, a2, a3⟩], rfl⟩
          · have e3 : (2 : Int) < (st.part : Int) := by omega
            go_wp2
            go_meet
            exact ⟨by rw [decide_eq_false (p := w0 = wdC ∧ 1 < ws.length ∧ st.part ≤ 2) (fun h => a3 h.2.2)]; first | rfl | exact congrArg Value.bool (decide_eq_false (by omega)), rfl⟩
        · have e2 : (ws.length : Int) + 1 ≤ 2 := by omega
          go_wp2
          go_meet
          exact ⟨by rw [decide_eq_false (p := w0 = wdC ∧ 1 < ws.length ∧ st.part ≤ 2) (fun h => a2 h.2.1)], rfl⟩
      · have e1 := strB_no a1
        have HA1 := Lib.hid a1
        clear a1
        unfold wdC at e1
        go_wp2
        go_meet
        exact ⟨by rw [decide_eq_false (p := w0 = wdC ∧ 1 < ws.length ∧ st.part ≤ 2) (fun h => HA1.out h.1)], rfl⟩
    case rest =>
      obtain ⟨rfl, rfl⟩ := hcut
      by_cases hA : w0 = wdC ∧ 1 < ws.length ∧ st.part ≤ 2
      · rw [decide_eq_true hA]
        have HG := Lib.hid (show lineG st s w0 ws = (pCurR (s.drop 7)).map fun c => { st with curs := st.curs ++ [c], part := 2 } from by unfold lineG; rw [if_neg hp, if_pos hA])
        have hs7 : 7 ≤ (str s).size := by
          have h1 := l1 (by intro e; have := hA.2.1; rw [e] at this; simp at this)
          rw [hA.1] at h1
          rw [str_size]
          exact h1
        clear hA
        have HR2 := Lib.hid (show RdrAt (w1.setCell ⟨rb, 7, none⟩ (.int .i64 2)) B rb mb x { st with part := 2 } from HR1.out.setPart 2)
        have HS2 := Lib.hid (RKeep.set_ B rb 7 w1 (.int .i64 2))
        have HK2 := Lib.hid (HK1.out.trans HS2.out)
        have HE2 := Lib.hid (HE1.out.keep HS2.out hg1 HRB.out)
        have HT2 := Lib.hid (HT1.out.keep HS2.out hg2 HRB.out)
        have hz2 : (w1.setCell ⟨rb, 7, none⟩ (.int .i64 2)).heap.size = w1.heap.size := set_size _ _ _
        have HC2 := Lib.hid (show w.heap.size + 1 ≤ (w1.setCell ⟨rb, 7, none⟩ (.int .i64 2)).heap.size by omega)
        have HB2 := Lib.hid (HR2.out.hB)
        clear hz2
        have hsz7 : ((str s).extract 7 (str s).size).size ≤ 1000000000 := by rw [ByteArray.size_extract, str_size]; omega
        have hcall := cursor_any ((str s).extract 7 (str s).size) (w1.setCell ⟨rb, 7, none⟩ (.int .i64 2)) B rb mb x _ HR2.out hn1 hsz7 HE2.out
        rw [drop_data, str_data] at hcall
        clear hsz7
        go_wp2_with fail
        refine hcall.mono ?_
        intro e w3 hL
        have HL := Lib.hid (LnRet.trans HK2.out hL)
        rcases hr : pCurR (s.drop 7) with _ | c
        · rw [hr] at hL
          obtain ⟨-, rfl⟩ := hL
          have HRS := Lib.hid hr
          clear hr hcall
          go_wp2
          go_ret
          exact LnRet.bad HL.out.1 (by rw [HG.out, HRS.out]; rfl) rfl
        · rw [hr] at hL
          obtain ⟨-, rfl, x', hx'⟩ := hL
          have HX := Lib.hid hx'
          have HRS := Lib.hid hr
          clear hr hcall hx'
          go_wp2
          go_ret
          exact LnRet.good HL.out.1 (by rw [HG.out, HRS.out]; rfl) rfl HX.out
      · rw [decide_eq_false hA]
        go_upto_region 11 with (fail)
        go_cut [58] (fun sv wy => sv = .bool (decide (w0 = wdN ∧ 0 < ws.length ∧ st.part ≤ 3)) ∧ w1 = wy)
        case first =>
          by_cases a1 : w0 = wdN
          · have e1 := strB_yes a1
            have HA1 := Lib.hid a1
            clear a1
            unfold wdN at e1
            by_cases a2 : 0 < ws.length
            · have e2 : (1 : Int) < (ws.length : Int) + 1 := by omega
              by_cases a3 : st.part ≤ 3
              · have e3 : (st.part : Int) ≤ 3 := by omega
                go_wp2
                go_meet
                exact ⟨by rw [decide_eq_true (p := w0 = wdN ∧ 0 < ws.length ∧ st.part ≤ 3) ⟨HA1.out, a2, a3⟩], rfl⟩
              · have e3 : (3 : Int) < (st.part : Int) := by omega
                go_wp2
                go_meet
                exact ⟨by rw [decide_eq_false (p := w0 = wdN ∧ 0 < ws.length ∧ st.part ≤ 3) (fun h => a3 h.2.2)]; first | rfl | exact congrArg Value.bool (decide_eq_false (by omega)), rfl⟩
            · have e2 : (ws.length : Int) + 1 ≤ 1 := by omega
              go_wp2
              go_meet
              exact ⟨by rw [decide_eq_false (p := w0 = wdN ∧ 0 < ws.length ∧ st.part ≤ 3) (fun h => a2 h.2.1)], rfl⟩
          · have e1 := strB_no a1
            have HA1 := Lib.hid a1
            clear a1
            unfold wdN at e1
            go_wp2
            go_meet
            exact ⟨by rw [decide_eq_false (p := w0 = wdN ∧ 0 < ws.length ∧ st.part ≤ 3) (fun h => HA1.out h.1)], rfl⟩
        case rest =>
          obtain ⟨rfl, rfl⟩ := hcut
          by_cases hB : w0 = wdN ∧ 0 < ws.length ∧ st.part ≤ 3
          · rw [decide_eq_true hB]
            have HG := Lib.hid (show lineG st s w0 ws = (nearG ws).map fun n => { st with nears := st.nears ++ [n], part := 3 } from by unfold lineG; rw [if_neg hp, if_neg hA, if_pos hB])
            obtain ⟨v, vs, rfl⟩ : ∃ v vs, ws = v :: vs := by
              cases ws with
              | nil => exact absurd hB.2.1 (by simp)
              | cons v vs => exact ⟨v, vs, rfl⟩
            clear hB hA
            have HTL := Lib.hid (show RdL strS w1 (w.heap.size + 1) (.slice (some ⟨w.heap.size, 1, none⟩) (vs.length + 1) (vs.length + 1)) ((v :: vs).map str) from by
              have h := RdL.tail2 HW1.out
              rw [List.length_map] at h
              exact h)
            have hnz : ¬ vs.length + 1 = 0 := by omega
            have HR2 := Lib.hid (show RdrAt (w1.setCell ⟨rb, 7, none⟩ (.int .i64 3)) B rb mb x { st with part := 3 } from HR1.out.setPart 3)
            have HS2 := Lib.hid (RKeep.set_ B rb 7 w1 (.int .i64 3))
            have HK2 := Lib.hid (HK1.out.trans HS2.out)
            have HE2 := Lib.hid (HE1.out.keep HS2.out hg1 HRB.out)
            have HT2 := Lib.hid (HT1.out.keep HS2.out hg2 HRB.out)
            have hz2 : (w1.setCell ⟨rb, 7, none⟩ (.int .i64 3)).heap.size = w1.heap.size := set_size _ _ _
            have HC2 := Lib.hid (show w.heap.size + 1 ≤ (w1.setCell ⟨rb, 7, none⟩ (.int .i64 3)).heap.size by omega)
            have HB2 := Lib.hid (HR2.out.hB)
            clear hz2
            have hlv : vs.length ≤ 1000000001 := by simp only [List.length_cons] at l4; omega
            have hcall := near_any _ _ _ v vs (w1.setCell ⟨rb, 7, none⟩ (.int .i64 3)) (w.heap.size + 1) B rb mb (HTL.out.offSet (i := 7) (by intro a ha; injection ha with ha; subst ha; exact hne) (.int .i64 3)) HC2.out x _ HR2.out hn2 (Nat.le_trans (HSZ.out v List.mem_cons_self) hs) (fun y hy => Nat.le_trans (HSZ.out y (List.mem_cons_of_mem _ hy)) hs) hlv HE2.out
            clear hlv
            go_wp2_with fail
            refine hcall.mono ?_
            intro e w3 hL
            have HL := Lib.hid (LnRet.trans HK2.out hL)
            rcases hr : pNearR v vs with _ | c
            · rw [hr] at hL
              obtain ⟨-, rfl⟩ := hL
              have HRS := Lib.hid (show nearG (v :: vs) = none from hr)
              clear hr hcall
              go_wp2
              go_ret
              exact LnRet.bad HL.out.1 (by rw [HG.out, HRS.out]; rfl) rfl
            · rw [hr] at hL
              obtain ⟨-, rfl, x', hx'⟩ := hL
              have HX := Lib.hid hx'
              have HRS := Lib.hid (show nearG (v :: vs) = some c from hr)
              clear hr hcall hx'
              go_wp2
              go_ret
              exact LnRet.good HL.out.1 (by rw [HG.out, HRS.out]; rfl) rfl HX.out
          · rw [decide_eq_false hB]
            go_upto_region 14 with (fail)
            go_cut [79] (fun sv wy => sv = .bool (decide (s = wdE ∧ st.part < 4)) ∧ w1 = wy)
            case first =>
              by_cases a1 : s = wdE
              · have e1 := strB_yes a1
                have HA1 := Lib.hid a1
                clear a1
                unfold wdE at e1
                by_cases a3 : st.part < 4
                · have e3 : (st.part : Int) < 4 := by omega
                  go_wp2
                  go_meet
                  exact ⟨by rw [decide_eq_true (p := s = wdE ∧ st.part < 4) ⟨HA1.out, a3⟩], rfl⟩
                · have e3 : (4 : Int) ≤ (st.part : Int) := by omega
                  go_wp2
                  go_meet
                  exact ⟨by rw [decide_eq_false (p := s = wdE ∧ st.part < 4) (fun h => a3 h.2)]; first | rfl | exact congrArg Value.bool (decide_eq_false (by omega)), rfl⟩
              · have e1 := strB_no a1
                have HA1 := Lib.hid a1
                clear a1
                unfold wdE at e1
                go_wp2
                go_meet
                exact ⟨by rw [decide_eq_false (p := s = wdE ∧ st.part < 4) (fun h => HA1.out h.1)], rfl⟩
            case rest =>
              obtain ⟨rfl, rfl⟩ := hcut
              by_cases hC : s = wdE ∧ st.part < 4
              · rw [decide_eq_true hC]
                have HG := Lib.hid (show lineG st s w0 ws = some { st with all := true, part := 4 } from by unfold lineG; rw [if_neg hp, if_neg hA, if_neg hB, if_pos hC])
                clear hA hB hC
                have HR2 := Lib.hid (show RdrAt (w1.setCell ⟨rb, 7, none⟩ (.int .i64 4)) B rb mb x { st with part := 4 } from HR1.out.setPart 4)
                have HS2 := Lib.hid (RKeep.set_ B rb 7 w1 (.int .i64 4))
                have HK2 := Lib.hid (HK1.out.trans HS2.out)
                have HE2 := Lib.hid (HE1.out.keep HS2.out hg1 HRB.out)
                have HT2 := Lib.hid (HT1.out.keep HS2.out hg2 HRB.out)
                have hz2 : (w1.setCell ⟨rb, 7, none⟩ (.int .i64 4)).heap.size = w1.heap.size := set_size _ _ _
                have HC2 := Lib.hid (show w.heap.size + 1 ≤ (w1.setCell ⟨rb, 7, none⟩ (.int .i64 4)).heap.size by omega)
                have HB2 := Lib.hid (HR2.out.hB)
                clear hz2
                have HR3 := Lib.hid HR2.out.setAll
                have HK3 := Lib.hid (HK2.out.trans (RKeep.set_ B rb 3 (w1.setCell ⟨rb, 7, none⟩ (.int .i64 4)) (.bool true)))
                have r3 : (w1.setCell ⟨rb, 7, none⟩ (.int .i64 4)).cell? ⟨rb, 3, none⟩ = some (.bool st.all) := HR2.out.blk.cell 3
                have z3 : (w1.setCell ⟨rb, 7, none⟩ (.int .i64 4)).frozen? ⟨rb, 3, none⟩ = false := HR2.out.blk.frozen 3
                have r3' : w1.cell? ⟨rb, 3, none⟩ = some (.bool st.all) := HR1.out.blk.cell 3
                have z3' : w1.frozen? ⟨rb, 3, none⟩ = false := HR1.out.blk.frozen 3
                go_wp2
                go_ret
                exact LnRet.good HK3.out HG.out rfl HR3.out
              · rw [decide_eq_false hC]
                go_upto_region 18 with (fail)
                go_cut [93] (fun sv wy => sv = .bool (decide (w0 = wdD ∧ 0 < ws.length ∧ st.part < 5)) ∧ w1 = wy)
                case first =>
                  by_cases a1 : w0 = wdD
                  · have e1 := strB_yes a1
                    have HA1 := Lib.hid a1
                    clear a1
                    unfold wdD at e1
                    by_cases a2 : 0 < ws.length
                    · have e2 : (1 : Int) < (ws.length : Int) + 1 := by omega
                      by_cases a3 : st.part < 5
                      · have e3 : (st.part : Int) < 5 := by omega
                        go_wp2
                        go_meet
                        exact ⟨by rw [decide_eq_true (p := w0 = wdD ∧ 0 < ws.length ∧ st.part < 5) ⟨HA1.out, a2, a3⟩], rfl⟩
                      · have e3 : (5 : Int) ≤ (st.part : Int) := by omega
                        go_wp2
                        go_meet
                        exact ⟨by rw [decide_eq_false (p := w0 = wdD ∧ 0 < ws.length ∧ st.part < 5) (fun h => a3 h.2.2)]; first | rfl | exact congrArg Value.bool (decide_eq_false (by omega)), rfl⟩
                    · have e2 : (ws.length : Int) + 1 ≤ 1 := by omega
                      go_wp2
                      go_meet
                      exact ⟨by rw [decide_eq_false (p := w0 = wdD ∧ 0 < ws.length ∧ st.part < 5) (fun h => a2 h.2.1)], rfl⟩
                  · have e1 := strB_no a1
                    have HA1 := Lib.hid a1
                    clear a1
                    unfold wdD at e1
                    go_wp2
                    go_meet
                    exact ⟨by rw [decide_eq_false (p := w0 = wdD ∧ 0 < ws.length ∧ st.part < 5) (fun h => HA1.out h.1)], rfl⟩
                case rest =>
                  obtain ⟨rfl, rfl⟩ := hcut
                  by_cases hD : w0 = wdD ∧ 0 < ws.length ∧ st.part < 5
                  · rw [decide_eq_true hD]
                    have HG := Lib.hid (show lineG st s w0 ws = (intsL ws).map fun l => { st with drive := l, part := 5 } from by unfold lineG; rw [if_neg hp, if_neg hA, if_neg hB, if_neg hC, if_pos hD])
                    obtain ⟨v, vs, rfl⟩ : ∃ v vs, ws = v :: vs := by
                      cases ws with
                      | nil => exact absurd hD.2.1 (by simp)
                      | cons v vs => exact ⟨v, vs, rfl⟩
                    clear hD hA hB hC
                    have HTL := Lib.hid (show RdL strS w1 (w.heap.size + 1) (.slice (some ⟨w.heap.size, 1, none⟩) (vs.length + 1) (vs.length + 1)) ((v :: vs).map str) from by
                      have h := RdL.tail2 HW1.out
                      rw [List.length_map] at h
                      exact h)
                    have hnz : ¬ vs.length + 1 = 0 := by omega
                    have HR2 := Lib.hid (show RdrAt (w1.setCell ⟨rb, 7, none⟩ (.int .i64 5)) B rb mb x { st with part := 5 } from HR1.out.setPart 5)
                    have HS2 := Lib.hid (RKeep.set_ B rb 7 w1 (.int .i64 5))
                    have HK2 := Lib.hid (HK1.out.trans HS2.out)
                    have HE2 := Lib.hid (HE1.out.keep HS2.out hg1 HRB.out)
                    have HT2 := Lib.hid (HT1.out.keep HS2.out hg2 HRB.out)
                    have hz2 : (w1.setCell ⟨rb, 7, none⟩ (.int .i64 5)).heap.size = w1.heap.size := set_size _ _ _
                    have HC2 := Lib.hid (show w.heap.size + 1 ≤ (w1.setCell ⟨rb, 7, none⟩ (.int .i64 5)).heap.size by omega)
                    have HB2 := Lib.hid (HR2.out.hB)
                    clear hz2
                    have hin := ints_any _ _ _ (v :: vs) (w1.setCell ⟨rb, 7, none⟩ (.int .i64 5)) (w.heap.size + 1) (HTL.out.offSet (i := 7) (by intro a ha; injection ha with ha; subst ha; exact hne) (.int .i64 5)) HC2.out (fun x hx => Nat.le_trans (HSZ.out x hx) hs) (by omega) HE2.out
                    cases hi : intsL (v :: vs) with
                    | none =>
                      have HI := Lib.hid hi
                      rw [hi] at hin
                      clear hi
                      go_wp2_with fail
                      refine hin.mono ?_
                      rintro e w3 ⟨rfl, hb3⟩
                      have HR3 := Lib.hid (HR2.out.below hb3)
                      have HK3 := Lib.hid ((HK2.out.trans (RKeep.ofW HB2.out hb3)).trans (RKeep.set_ B rb 4 w3 (.slice none 0 0)))
                      have r0 : w3.cell? ⟨rb, 4, none⟩ = some x.dv := HR3.out.blk.cell 4
                      have z0 : w3.frozen? ⟨rb, 4, none⟩ = false := HR3.out.blk.frozen 4
                      clear hb3 hin
                      go_wp2
                      go_ret
                      exact LnRet.bad HK3.out (by rw [HG.out, HI.out]; rfl) rfl
                    | some l =>
                      have HI := Lib.hid hi
                      rw [hi] at hin
                      clear hi
                      go_wp2_with fail
                      refine hin.mono ?_
                      rintro e w3 ⟨⟨v3, rfl, ho3⟩, hb3⟩
                      obtain ⟨A3, n3, c3, rfl⟩ := ho3.form3
                      have HR3 := Lib.hid (HR2.out.below hb3)
                      have HR4 := Lib.hid (HR3.out.setDrive (ho3.more HB2.out) (HR2.out.far ho3 (Nat.le_refl _)))
                      have HK3 := Lib.hid ((HK2.out.trans (RKeep.ofW HB2.out hb3)).trans (RKeep.set_ B rb 4 w3 (.slice A3 n3 c3)))
                      have r0 : w3.cell? ⟨rb, 4, none⟩ = some x.dv := HR3.out.blk.cell 4
                      have z0 : w3.frozen? ⟨rb, 4, none⟩ = false := HR3.out.blk.frozen 4
                      clear hb3 hin ho3
                      go_wp2
                      go_ret
                      exact LnRet.good HK3.out (by rw [HG.out, HI.out]; rfl) rfl HR4.out
                  · rw [decide_eq_false hD]
                    have HG := Lib.hid (show lineG st s w0 ws = (pInsR w0 ws).map fun c => { st with code := st.code ++ [c], part := 6 } from by unfold lineG; rw [if_neg hp, if_neg hA, if_neg hB, if_neg hC, if_neg hD])
                    clear hA hB hC hD
                    have HR2 := Lib.hid (show RdrAt (w1.setCell ⟨rb, 7, none⟩ (.int .i64 6)) B rb mb x { st with part := 6 } from HR1.out.setPart 6)
                    have HS2 := Lib.hid (RKeep.set_ B rb 7 w1 (.int .i64 6))
                    have HK2 := Lib.hid (HK1.out.trans HS2.out)
                    have HE2 := Lib.hid (HE1.out.keep HS2.out hg1 HRB.out)
                    have HT2 := Lib.hid (HT1.out.keep HS2.out hg2 HRB.out)
                    have hz2 : (w1.setCell ⟨rb, 7, none⟩ (.int .i64 6)).heap.size = w1.heap.size := set_size _ _ _
                    have HC2 := Lib.hid (show w.heap.size + 1 ≤ (w1.setCell ⟨rb, 7, none⟩ (.int .i64 6)).heap.size by omega)
                    have HB2 := Lib.hid (HR2.out.hB)
                    clear hz2
                    have hcall := instr_any _ _ _ w0 ws (w1.setCell ⟨rb, 7, none⟩ (.int .i64 6)) (w.heap.size + 1) B rb mb (HW1.out.offSet (i := 7) (by intro a ha; injection ha with ha; subst ha; exact hne) (.int .i64 6)) HC2.out x _ HR2.out hn3 (by omega) (fun y hy => Nat.le_trans (HSZ.out y hy) hs) (by omega) HE2.out HT2.out
                    go_wp2_with fail
                    refine hcall.mono ?_
                    intro e w3 hL
                    have HL := Lib.hid (LnRet.trans HK2.out hL)
                    rcases hr : pInsR w0 ws with _ | c
                    · rw [hr] at hL
                      obtain ⟨-, rfl⟩ := hL
                      have HRS := Lib.hid hr
                      clear hr hcall
                      go_wp2
                      go_ret
                      exact LnRet.bad HL.out.1 (by rw [HG.out, HRS.out]; rfl) rfl
                    · rw [hr] at hL
                      obtain ⟨-, rfl, x', hx'⟩ := hL
                      have HX := Lib.hid hx'
                      have HRS := Lib.hid hr
                      clear hr hcall hx'
                      go_wp2
                      go_ret
                      exact LnRet.good HL.out.1 (by rw [HG.out, HRS.out]; rfl) rfl HX.out
end Go.Proofs.YtmdpfikalekmlaaGreatDoor
end
section
/- Layer 20: instructions that come in. -/
namespace Go.Proofs.YtmdpfikalekmlaaGreatDoor
open Go.RowKit Go.ChangeShapes Go.WideShapes Go.Deep
set_option maxRecDepth 100000

theorem inOne : oneCellFields Tryz.prog (Tryz.prog.fieldsOf 43) = true := by kernel_rfl
theorem inCells : Tryz.prog.cellsOf 43 = (Tryz.prog.fieldsOf 43).size := by kernel_rfl
theorem inSize : (Tryz.prog.fieldsOf 43).size = 3 := by kernel_rfl
theorem inStruct : Tryz.prog.underlying 43 = some (.struct (Tryz.prog.fieldsOf 43)) := by kernel_rfl
theorem inTypes : ((Tryz.prog.fieldsOf 43).map (·.type)).toList = [3, 41, 41] := by kernel_rfl
theorem in_type (j : Nat) (t : TypeId) (h : [3, 41, 41][j]? = some t) : ∃ f, (Tryz.prog.fieldsOf 43)[j]? = some f ∧ f.type = t := by
  rw [← inTypes, Array.getElem?_toList, Array.getElem?_map] at h
  obtain ⟨f, h1, h2⟩ := Option.map_eq_some_iff.1 h
  exact ⟨f, h1, h2⟩
theorem u64_nat {n : Int} (h : (Lit.int .u64 n).wf = true) : ∃ k : Nat, n = (k : Int) ∧ k < 18446744073709551616 := by
  have h2 : 0 ≤ n ∧ n < 18446744073709551616 := by
    have := h
    simp [Lit.wf] at this
    have e1 : IntKind.u64.min = 0 := rfl
    have e2 : IntKind.u64.max = 18446744073709551615 := rfl
    omega
  exact ⟨n.toNat, by omega, by omega⟩
theorem open_instrs {H : Type} {enc : TypeId × Value → H} {W : World} {v : Value} {d : DataW H} {p : List MemPlace} (hv : Value.okWide Tryz.prog W .any 0 38 v) (h0 : DataW.Trod enc Tryz.prog W 0 (fun _ => true) true 38 v d p) :
    ∃ (l : List Ins), RdL insS W W.heap.size v l ∧ SmallIns l ∧ l.length ≤ Rows.uptoBulk d := by
  obtain ⟨fuel, h⟩ := h0
  have hlt := DataW.trod_lt fuel _ _ _ h
  rcases open_slice_fields Tryz.underlying38 inStruct inOne inCells h with ⟨hc, hx⟩ | ⟨a, len, cap, m, D, Pl, hc, _, hl, hm, hmm, hx, hf⟩
  · have := slice_of_ok Tryz.underlying38 hv hc
    subst this
    exact ⟨[], RdL.nil _ _ _, (fun _ h => absurd h List.not_mem_nil), by simp⟩
  · rw [if_pos rfl] at hmm
    obtain rfl : cap = m := hmm.symm
    have := slice_of_ok Tryz.underlying38 hv hc
    subst this
    simp only [Prod.mk.injEq] at hx
    obtain ⟨hd, hp⟩ := hx
    by_cases h0 : len = 0
    · subst h0
      exact ⟨[], ⟨some a, cap, rfl, hl, hm, fun h => (by simp at h), fun h => by cases h⟩, (fun _ h => absurd h List.not_mem_nil), by simp⟩
    have hblk : a.block < W.heap.size := hlt (.cell a.block a.off) (by
      show MemPlace.cell a.block a.off ∈ p
      rw [hp]
      simp only [List.mem_append]
      left
      have : 0 < cap * (Tryz.prog.fieldsOf 43).size := Nat.mul_pos (by omega) (by rw [inSize]; decide)
      simp only [MemPlace.row, List.mem_map, List.mem_range]
      exact ⟨0, this, rfl⟩)
    obtain ⟨l, h1, h2, h3⟩ := RdL.of_cells (S := insS) insSOk (w := W) (B := W.heap.size) (a := a) (len := len) (cap := cap) hblk hl hm (fun i f => f.a < 18446744073709551616 ∧ f.b < 18446744073709551616) (by
      intro i hi
      obtain ⟨ys, n, hD, _, hyl, hfl⟩ := hf i (by omega)
      rw [inSize] at hfl hyl
      obtain ⟨f0, g0, t0⟩ := in_type 0 _ rfl
      obtain ⟨f1, g1, t1⟩ := in_type 1 _ rfl
      obtain ⟨f2, g2, t2⟩ := in_type 2 _ rfl
      obtain ⟨v0, y0, c0, hy0, r0⟩ := hfl 0 f0 g0
      obtain ⟨v1, y1, c1, hy1, r1⟩ := hfl 1 f1 g1
      obtain ⟨v2, y2, c2, hy2, r2⟩ := hfl 2 f2 g2
      rw [t0] at r0; rw [t1] at r1; rw [t2] at r2
      obtain ⟨o, e0, rfl, ho⟩ := DataW.trod_int Tryz.underlying3 r0
      obtain ⟨x, e1, rfl, hx⟩ := DataW.trod_int Tryz.underlying41 r1
      obtain ⟨y, e2, rfl, hy⟩ := DataW.trod_int Tryz.underlying41 r2
      cases e0; cases e1; cases e2
      obtain ⟨xa, rfl, hxa⟩ := u64_nat hx
      obtain ⟨xb, rfl, hxb⟩ := u64_nat hy
      refine ⟨⟨o, xa, xb⟩, ⟨hxa, hxb⟩, fun j u hj hu => ?_⟩
      match j, hj, hu with
      | 0, _, hu => cases hu; exact c0
      | 1, _, hu => cases hu; exact c1
      | 2, _, hu => cases hu; exact c2)
    refine ⟨l, h2, ?_, ?_⟩
    · intro f hf
      obtain ⟨i, hi, rfl⟩ := List.getElem_of_mem hf
      exact h3 i hi
    · have e := bulk_len ((List.range len).map D)
      have := bulk_slice ((List.range len).map D) ((List.range (cap - len)).map fun j => D (len + j))
      rw [List.length_map, List.length_range] at e
      rw [hd]
      exact Nat.le_trans (show l.length ≤ Rows.uptoBulkAll ((List.range len).map D) + 1 by omega) this
end Go.Proofs.YtmdpfikalekmlaaGreatDoor
end
section
/- Layer 20: a program that comes in. -/
namespace Go.Proofs.YtmdpfikalekmlaaGreatDoor
open Go.RowKit Go.ChangeShapes Go.WideShapes Go.Deep
set_option maxRecDepth 100000

section
variable {H : Type} {enc : TypeId × Value → H} {W : World}
theorem open_cells1c {α : Type} {S : Shape α} (hS : S.Ok) (h1 : S.size = 1) (hC : Tryz.prog.cellsOf S.tE = 1) (Q : α → Prop)
    (hx : ∀ (n : Nat) (cs : List Value) (D : DataW H) (ps : List MemPlace), DataW.trod enc Tryz.prog W 0 (fun _ => true) true n S.tE cs = some (D, ps) → ∃ x c, cs = [c] ∧ S.enc x = [c] ∧ Q x)
    {fuel : Nat} {cs : List Value} {x : DataW H × List MemPlace} (h : DataW.trod enc Tryz.prog W 0 (fun _ => true) true fuel S.tS cs = some x) :
    ∃ A n c, ∃ (l : List α), cs = [.slice A n c] ∧ n = l.length ∧ RdL S W W.heap.size (.slice A n c) l ∧ l.length ≤ Rows.uptoBulk x.1 ∧ ∀ x ∈ l, Q x := by
  have hlt := DataW.trod_lt fuel _ _ _ h
  rcases open_slice hS.under h with ⟨hc, hx0⟩ | ⟨a, len, cap, m, n, D, Pl, hc, _, hl, hm, hmm, hx0, hf⟩
  · exact ⟨_, _, _, [], hc, rfl, RdL.nil _ _ _, Nat.zero_le _, fun _ h => absurd h List.not_mem_nil⟩
  · rw [if_pos rfl] at hmm
    obtain rfl : cap = m := hmm.symm
    subst hx0
    by_cases h0 : len = 0
    · subst h0
      exact ⟨_, _, _, [], hc, rfl, ⟨some a, cap, rfl, hl, hm, fun h => (by simp at h), fun h => by cases h⟩, Nat.zero_le _, fun _ h => absurd h List.not_mem_nil⟩
    have hblk : a.block < W.heap.size := hlt (.cell a.block a.off) (by
      simp only [List.mem_append]
      left
      simp only [MemPlace.row, List.mem_map, List.mem_range]
      exact ⟨0, by rw [hC]; omega, rfl⟩)
    obtain ⟨l, hl1, h2, h3⟩ := RdL.of_cells hS (w := W) (B := W.heap.size) (a := a) (len := len) (cap := cap) hblk hl hm (fun i x => Q x) (by
      intro i hi
      obtain ⟨cs', hcs, ht⟩ := hf i (by omega)
      obtain ⟨x, c, rfl, he, hq⟩ := hx _ _ _ _ ht
      refine ⟨x, hq, fun j u hj hu => ?_⟩
      rw [he] at hu
      rw [h1] at hj ⊢
      obtain rfl : j = 0 := by omega
      simp only [List.getElem?_cons_zero, Option.some.injEq] at hu
      subst hu
      rw [hC] at hcs
      have := cell_of_cells?_one hcs
      rw [Nat.mul_one] at this ⊢
      exact this)
    refine ⟨_, _, _, l, hc, hl1.symm, h2, ?_, ?_⟩
    · have e := bulk_len ((List.range len).map D)
      have := bulk_slice ((List.range len).map D) ((List.range (cap - len)).map fun j => D (len + j))
      rw [List.length_map, List.length_range] at e
      rw [hl1]
      exact Nat.le_trans (show len ≤ Rows.uptoBulkAll ((List.range len).map D) + 1 by omega) this
    · intro x hx
      obtain ⟨i, hi, rfl⟩ := List.getElem_of_mem hx
      exact h3 i hi
theorem wf_i64 {m : Int} (h : (Lit.int .i64 m).wf = true) : -9223372036854775808 ≤ m ∧ m ≤ 9223372036854775807 := by
  have e1 : IntKind.i64.min = -9223372036854775808 := rfl
  have e2 : IntKind.i64.max = 9223372036854775807 := rfl
  simp [Lit.wf] at h
  omega
theorem open_ints_c {fuel : Nat} {cs : List Value} {x : DataW H × List MemPlace} (h : DataW.trod enc Tryz.prog W 0 (fun _ => true) true fuel 23 cs = some x) :
    ∃ A n c, ∃ (l : List Int), cs = [.slice A n c] ∧ n = l.length ∧ RdL intS W W.heap.size (.slice A n c) l ∧ l.length ≤ Rows.uptoBulk x.1 ∧ SmallInts l :=
  open_cells1c (S := intS) intSOk rfl (by kernel_rfl) (fun m => -9223372036854775808 ≤ m ∧ m ≤ 9223372036854775807) (fun n cs D ps ht => by
    obtain ⟨m, hc, hd, hw⟩ := DataW.trod_int Tryz.underlying3 ht
    exact ⟨m, .int .i64 m, hc, rfl, wf_i64 hw⟩) h
theorem open_bytes_c {fuel : Nat} {cs : List Value} {x : DataW H × List MemPlace} (h : DataW.trod enc Tryz.prog W 0 (fun _ => true) true fuel 26 cs = some x) :
    ∃ A n c, ∃ (l : List UInt8), cs = [.slice A n c] ∧ n = l.length ∧ RdL byteS W W.heap.size (.slice A n c) l ∧ l.length ≤ Rows.uptoBulk x.1 := by
  obtain ⟨A, n, c, l, h1, h2, h3, h4, _⟩ := open_cells1c (S := byteS) byteOk rfl (by kernel_rfl) (fun _ => True) (fun n cs D ps ht => by
    obtain ⟨m, hc, hd, hw⟩ := DataW.trod_int Tryz.underlying5 ht
    have hw2 : (0 : Int) ≤ m ∧ m < 256 := by
      have e1 : IntKind.u8.min = 0 := by rfl
      have e2 : IntKind.u8.max = 255 := by rfl
      simp only [Lit.wf] at hw
      simp at hw
      omega
    refine ⟨UInt8.ofNat m.toNat, .int .u8 m, hc, ?_, trivial⟩
    show [Value.int .u8 ((UInt8.ofNat m.toNat).toNat : Int)] = [.int .u8 m]
    have : ((UInt8.ofNat m.toNat).toNat : Int) = m := by rw [UInt8.toNat_ofNat']; omega
    rw [this]) h
  exact ⟨A, n, c, l, h1, h2, h3, h4⟩
theorem sum_bulk {α : Type} (f : α → Nat) : ∀ (l : List α) (D : Nat → DataW H), (∀ i (hi : i < l.length), f l[i] ≤ Rows.uptoBulk (D i)) → (l.map f).sum ≤ Rows.uptoBulkAll ((List.range l.length).map D)
  | [], D, h => by simp
  | a :: l, D, h => by
    have ih := sum_bulk f l (fun i => D (i + 1)) (fun i hi => h (i + 1) (by simp only [List.length_cons]; omega))
    have h0 := h 0 (by simp)
    simp only [List.getElem_cons_zero] at h0
    rw [List.map_cons, List.sum_cons, List.length_cons, List.range_succ_eq_map, List.map_cons, Rows.uptoBulkAll, List.map_map]
    exact Nat.add_le_add h0 ih
theorem lfOne : oneCellFields Tryz.prog (Tryz.prog.fieldsOf 66) = true := by kernel_rfl
theorem lfCells : Tryz.prog.cellsOf 66 = (Tryz.prog.fieldsOf 66).size := by kernel_rfl
theorem lfSize : (Tryz.prog.fieldsOf 66).size = 2 := by kernel_rfl
theorem lfStruct : Tryz.prog.underlying 66 = some (.struct (Tryz.prog.fieldsOf 66)) := by kernel_rfl
theorem lfTypes : ((Tryz.prog.fieldsOf 66).map (·.type)).toList = [3, 9] := by kernel_rfl
theorem lf_type (j : Nat) (t : TypeId) (h : [3, 9][j]? = some t) : ∃ f, (Tryz.prog.fieldsOf 66)[j]? = some f ∧ f.type = t := by
  rw [← lfTypes, Array.getElem?_toList, Array.getElem?_map] at h
  obtain ⟨f, h1, h2⟩ := Option.map_eq_some_iff.1 h
  exact ⟨f, h1, h2⟩
theorem nrOne : oneCellFields Tryz.prog (Tryz.prog.fieldsOf 68) = true := by kernel_rfl
theorem nrCells : Tryz.prog.cellsOf 68 = (Tryz.prog.fieldsOf 68).size := by kernel_rfl
theorem nrSize : (Tryz.prog.fieldsOf 68).size = 3 := by kernel_rfl
theorem nrStruct : Tryz.prog.underlying 68 = some (.struct (Tryz.prog.fieldsOf 68)) := by kernel_rfl
theorem nrTypes : ((Tryz.prog.fieldsOf 68).map (·.type)).toList = [23, 23, 3] := by kernel_rfl
theorem nr_type (j : Nat) (t : TypeId) (h : [23, 23, 3][j]? = some t) : ∃ f, (Tryz.prog.fieldsOf 68)[j]? = some f ∧ f.type = t := by
  rw [← nrTypes, Array.getElem?_toList, Array.getElem?_map] at h
  obtain ⟨f, h1, h2⟩ := Option.map_eq_some_iff.1 h
  exact ⟨f, h1, h2⟩
theorem open_lf_c {fuel : Nat} {cs : List Value} {x : DataW H × List MemPlace} (h : DataW.trod enc Tryz.prog W 0 (fun _ => true) true fuel 24 cs = some x) :
    ∃ A n c, ∃ (l : List Lf), cs = [.slice A n c] ∧ n = l.length ∧ RdL lfS W W.heap.size (.slice A n c) l ∧ l.length ≤ Rows.uptoBulk x.1 ∧ (∀ f ∈ l, ((-9223372036854775808 ≤ f.field ∧ f.field ≤ 9223372036854775807) ∧ f.term.length ≤ (Rows.uptoBulk x.1))) ∧ (l.map fun f => f.term.length).sum ≤ Rows.uptoBulk x.1 := by
  have hlt := DataW.trod_lt fuel _ _ _ h
  rcases open_slice_fields Tryz.underlying24 lfStruct lfOne lfCells h with ⟨rfl, rfl⟩ | ⟨a, len, cap, m, D, Pl, rfl, _, hl, hm, hmm, rfl, hf⟩
  · exact ⟨_, _, _, [], rfl, rfl, RdL.nil _ _ _, Nat.zero_le _, fun _ h => absurd h List.not_mem_nil, Nat.zero_le _⟩
  · rw [if_pos rfl] at hmm
    obtain rfl : cap = m := hmm.symm
    by_cases h0 : len = 0
    · subst h0
      exact ⟨_, _, _, [], rfl, rfl, ⟨some a, cap, rfl, hl, hm, fun h => (by simp at h), fun h => by cases h⟩, Nat.zero_le _, fun _ h => absurd h List.not_mem_nil, Nat.zero_le _⟩
    have hblk : a.block < W.heap.size := hlt (.cell a.block a.off) (by
      simp only [List.mem_append]
      left
      have : 0 < cap * (Tryz.prog.fieldsOf 66).size := Nat.mul_pos (by omega) (by rw [lfSize]; decide)
      simp only [MemPlace.row, List.mem_map, List.mem_range]
      exact ⟨0, this, rfl⟩)
    obtain ⟨l, h1, h2, h3⟩ := RdL.of_cells (S := lfS) lfSOk (w := W) (B := W.heap.size) (a := a) (len := len) (cap := cap) hblk hl hm (fun i f => ((-9223372036854775808 ≤ f.field ∧ f.field ≤ 9223372036854775807) ∧ f.term.length ≤ (Rows.uptoBulk (D i)))) (by
      intro i hi
      obtain ⟨ys, n, hD, _, hyl, hfl⟩ := hf i (by omega)
      rw [lfSize] at hfl hyl
      obtain ⟨f0, g0, t0⟩ := lf_type 0 _ rfl
      obtain ⟨f1, g1, t1⟩ := lf_type 1 _ rfl
      obtain ⟨v0, y0, c0, hy0, r0⟩ := hfl 0 f0 g0
      obtain ⟨v1, y1, c1, hy1, r1⟩ := hfl 1 f1 g1
      rw [t0] at r0; rw [t1] at r1
      obtain ⟨k, e0, rfl, hk⟩ := DataW.trod_int Tryz.underlying3 r0
      obtain ⟨s, e1, rfl, hs⟩ := DataW.trod_string Tryz.underlying9 r1
      cases e0; cases e1
      refine ⟨⟨k, s.data.toList⟩, ⟨wf_i64 hk, ?_⟩, fun j u hj hu => ?_⟩
      · rw [hD, bulk_agg]
        have hmem : (.lit (.string s.data.toList) : DataW H) ∈ ys.map (·.1) := List.mem_map.2 ⟨_, List.mem_of_getElem? hy1, rfl⟩
        have := bulk_mem hmem
        rw [bulk_string] at this
        show s.data.toList.length ≤ _
        omega
      · match j, hj, hu with
        | 0, _, hu => cases hu; exact c0
        | 1, _, hu => cases hu; exact c1)
    refine ⟨_, _, _, l, rfl, h1.symm, h2, ?_, ?_, ?_⟩
    · have e := bulk_len ((List.range len).map D)
      have := bulk_slice ((List.range len).map D) ((List.range (cap - len)).map fun j => D (len + j))
      rw [List.length_map, List.length_range] at e
      exact Nat.le_trans (show l.length ≤ Rows.uptoBulkAll ((List.range len).map D) + 1 by omega) this
    · intro f hf
      obtain ⟨i, hi, rfl⟩ := List.getElem_of_mem hf
      have h4 := h3 i hi
      have h5 : Rows.uptoBulk (D i) ≤ Rows.uptoBulkAll ((List.range len).map D) := bulk_mem (List.mem_map.2 ⟨i, List.mem_range.2 (by omega), rfl⟩)
      have h6 := bulk_slice ((List.range len).map D) ((List.range (cap - len)).map fun j => D (len + j))
      have h7 : Rows.uptoBulk (D i) ≤ Rows.uptoBulk (.slice ((List.range len).map D) ((List.range (cap - len)).map fun j => D (len + j))) := by omega
      exact ⟨h4.1, Nat.le_trans h4.2 h7⟩
    · have e := sum_bulk (fun f : Lf => f.term.length) l D (fun i hi => (h3 i hi).2)
      have := bulk_slice ((List.range len).map D) ((List.range (cap - len)).map fun j => D (len + j))
      rw [h1] at e
      exact Nat.le_trans (show (l.map fun f => f.term.length).sum ≤ Rows.uptoBulkAll ((List.range len).map D) + 1 by omega) this
theorem open_nr_c {fuel : Nat} {cs : List Value} {x : DataW H × List MemPlace} (h : DataW.trod enc Tryz.prog W 0 (fun _ => true) true fuel 25 cs = some x) :
    ∃ A n c, ∃ (l : List NrV), cs = [.slice A n c] ∧ n = l.length ∧ RdL nrS W W.heap.size (.slice A n c) l ∧ l.length ≤ Rows.uptoBulk x.1 ∧ (∀ f ∈ l, ((RdL intS W W.heap.size (.slice f.ca f.n.cur.length f.cc) f.n.cur ∧ RdL intS W W.heap.size (.slice f.oa f.n.off.length f.oc) f.n.off) ∧ (-9223372036854775808 ≤ f.n.slop ∧ f.n.slop ≤ 9223372036854775807) ∧ (SmallInts f.n.cur ∧ f.n.cur.length ≤ (Rows.uptoBulk x.1)) ∧ SmallInts f.n.off ∧ f.n.off.length ≤ (Rows.uptoBulk x.1))) ∧ (l.map fun f => f.n.cur.length + f.n.off.length).sum ≤ Rows.uptoBulk x.1 := by
  have hlt := DataW.trod_lt fuel _ _ _ h
  rcases open_slice_fields Tryz.underlying25 nrStruct nrOne nrCells h with ⟨rfl, rfl⟩ | ⟨a, len, cap, m, D, Pl, rfl, _, hl, hm, hmm, rfl, hf⟩
  · exact ⟨_, _, _, [], rfl, rfl, RdL.nil _ _ _, Nat.zero_le _, fun _ h => absurd h List.not_mem_nil, Nat.zero_le _⟩
  · rw [if_pos rfl] at hmm
    obtain rfl : cap = m := hmm.symm
    by_cases h0 : len = 0
    · subst h0
      exact ⟨_, _, _, [], rfl, rfl, ⟨some a, cap, rfl, hl, hm, fun h => (by simp at h), fun h => by cases h⟩, Nat.zero_le _, fun _ h => absurd h List.not_mem_nil, Nat.zero_le _⟩
    have hblk : a.block < W.heap.size := hlt (.cell a.block a.off) (by
      simp only [List.mem_append]
      left
      have : 0 < cap * (Tryz.prog.fieldsOf 68).size := Nat.mul_pos (by omega) (by rw [nrSize]; decide)
      simp only [MemPlace.row, List.mem_map, List.mem_range]
      exact ⟨0, this, rfl⟩)
    obtain ⟨l, h1, h2, h3⟩ := RdL.of_cells (S := nrS) nrSOk (w := W) (B := W.heap.size) (a := a) (len := len) (cap := cap) hblk hl hm (fun i f => ((RdL intS W W.heap.size (.slice f.ca f.n.cur.length f.cc) f.n.cur ∧ RdL intS W W.heap.size (.slice f.oa f.n.off.length f.oc) f.n.off) ∧ (-9223372036854775808 ≤ f.n.slop ∧ f.n.slop ≤ 9223372036854775807) ∧ (SmallInts f.n.cur ∧ f.n.cur.length ≤ (Rows.uptoBulk (D i))) ∧ SmallInts f.n.off ∧ f.n.off.length ≤ (Rows.uptoBulk (D i)) ∧ f.n.cur.length + f.n.off.length ≤ Rows.uptoBulk (D i))) (by
      intro i hi
      obtain ⟨ys, n, hD, _, hyl, hfl⟩ := hf i (by omega)
      rw [nrSize] at hfl hyl
      obtain ⟨f0, g0, t0⟩ := nr_type 0 _ rfl
      obtain ⟨f1, g1, t1⟩ := nr_type 1 _ rfl
      obtain ⟨f2, g2, t2⟩ := nr_type 2 _ rfl
      obtain ⟨v0, y0, c0, hy0, r0⟩ := hfl 0 f0 g0
      obtain ⟨v1, y1, c1, hy1, r1⟩ := hfl 1 f1 g1
      obtain ⟨v2, y2, c2, hy2, r2⟩ := hfl 2 f2 g2
      rw [t0] at r0; rw [t1] at r1; rw [t2] at r2
      obtain ⟨A0, n0, k0, l0, e0, rfl, R0, b0, s0⟩ := open_ints_c r0
      obtain ⟨A1, n1, k1, l1, e1, rfl, R1, b1, s1⟩ := open_ints_c r1
      obtain ⟨k, e2, rfl, hk⟩ := DataW.trod_int Tryz.underlying3 r2
      cases e0; cases e1; cases e2
      have B0 := bulk_mem (List.mem_map.2 ⟨y0, List.mem_of_getElem? hy0, rfl⟩ : y0.1 ∈ ys.map (·.1))
      have B1 := bulk_mem (List.mem_map.2 ⟨y1, List.mem_of_getElem? hy1, rfl⟩ : y1.1 ∈ ys.map (·.1))
      refine ⟨⟨A0, k0, A1, k1, ⟨k, l0, l1⟩⟩, ⟨⟨R0, R1⟩, wf_i64 hk, ⟨s0, ?_⟩, s1, ?_, ?_⟩, fun j u hj hu => ?_⟩
      · rw [hD, bulk_agg]; show l0.length ≤ _; omega
      · rw [hD, bulk_agg]; show l1.length ≤ _; omega
      · rw [hD, bulk_agg]
        show l0.length + l1.length ≤ _
        match ys, hyl, hy0, hy1 with
        | [z0, z1, z2], _, hy0, hy1 =>
          simp only [List.getElem?_cons_zero, List.getElem?_cons_succ, Option.some.injEq] at hy0 hy1
          subst hy0 hy1
          simp only [List.map_cons, List.map_nil, Rows.uptoBulkAll]
          omega
      · match j, hj, hu with
        | 0, _, hu => cases hu; exact c0
        | 1, _, hu => cases hu; exact c1
        | 2, _, hu => cases hu; exact c2)
    refine ⟨_, _, _, l, rfl, h1.symm, h2, ?_, ?_, ?_⟩
    · have e := bulk_len ((List.range len).map D)
      have := bulk_slice ((List.range len).map D) ((List.range (cap - len)).map fun j => D (len + j))
      rw [List.length_map, List.length_range] at e
      exact Nat.le_trans (show l.length ≤ Rows.uptoBulkAll ((List.range len).map D) + 1 by omega) this
    · intro f hf
      obtain ⟨i, hi, rfl⟩ := List.getElem_of_mem hf
      have h4 := h3 i hi
      have h5 : Rows.uptoBulk (D i) ≤ Rows.uptoBulkAll ((List.range len).map D) := bulk_mem (List.mem_map.2 ⟨i, List.mem_range.2 (by omega), rfl⟩)
      have h6 := bulk_slice ((List.range len).map D) ((List.range (cap - len)).map fun j => D (len + j))
      have h7 : Rows.uptoBulk (D i) ≤ Rows.uptoBulk (.slice ((List.range len).map D) ((List.range (cap - len)).map fun j => D (len + j))) := by omega
      exact ⟨h4.1, h4.2.1, ⟨h4.2.2.1.1, Nat.le_trans h4.2.2.1.2 h7⟩, h4.2.2.2.1, Nat.le_trans h4.2.2.2.2.1 h7⟩
    · have e := sum_bulk (fun f : NrV => f.n.cur.length + f.n.off.length) l D (fun i hi => (h3 i hi).2.2.2.2.2)
      have := bulk_slice ((List.range len).map D) ((List.range (cap - len)).map fun j => D (len + j))
      rw [h1] at e
      exact Nat.le_trans (show (l.map fun f => f.n.cur.length + f.n.off.length).sum ≤ Rows.uptoBulkAll ((List.range len).map D) + 1 by omega) this
end
theorem pgOne : oneCellFields Tryz.prog (Tryz.prog.fieldsOf 28) = true := by kernel_rfl
theorem pgCells : Tryz.prog.cellsOf 28 = (Tryz.prog.fieldsOf 28).size := by kernel_rfl
theorem pgSize : (Tryz.prog.fieldsOf 28).size = 6 := by kernel_rfl
theorem pgStruct : Tryz.prog.underlying 28 = some (.struct (Tryz.prog.fieldsOf 28)) := by kernel_rfl
theorem pgTypes : ((Tryz.prog.fieldsOf 28).map (·.type)).toList = [23, 24, 25, 4, 23, 26] := by kernel_rfl
theorem pg_type (j : Nat) (t : TypeId) (h : [23, 24, 25, 4, 23, 26][j]? = some t) : ∃ f, (Tryz.prog.fieldsOf 28)[j]? = some f ∧ f.type = t := by
  rw [← pgTypes, Array.getElem?_toList, Array.getElem?_map] at h
  obtain ⟨f, h1, h2⟩ := Option.map_eq_some_iff.1 h
  exact ⟨f, h1, h2⟩
/-- The terms and the phrases of a program that comes in are not long together. -/
structure WtPg (p : Pg) : Prop where
  terms : (p.curs.map fun f => f.term.length).sum ≤ 1048576
  offs : (p.nears.map fun n => n.cur.length + n.off.length).sum ≤ 1048576
theorem open_progw {H : Type} {enc : TypeId × Value → H} {W : World} {v : Value} {d : DataW H} {p : List MemPlace} (hv : Value.okWide Tryz.prog W .any 0 28 v) (h : DataW.Trod enc Tryz.prog W 0 (fun _ => true) true 28 v d p) (hb : Rows.uptoBulk d ≤ 1048576) :
    ∃ (x : PgV) (q : Pg), v = x.val q ∧ PgR W W.heap.size x q ∧ SmallPg q ∧ WtPg q := by
  obtain ⟨cs, rfl, hsz⟩ := okWide_struct pgStruct hv
  rw [show Tryz.prog.cellsOf 28 = 6 from by kernel_rfl] at hsz
  obtain ⟨l0⟩ := cs
  match l0, hsz with
  | [c0, c1, c2, c3, c4, c5], _ =>
    obtain ⟨fuel, hf⟩ := h
    obtain ⟨ys, n, _, hx, hl, hyl, hfs⟩ := DataW.trod_struct pgStruct hf
    simp only [Prod.mk.injEq] at hx
    rw [pgSize] at hyl
    have key : ∀ (j : Nat) (t : TypeId) (c : Value), [23, 24, 25, 4, 23, 26][j]? = some t → [c0, c1, c2, c3, c4, c5][j]? = some c → ∃ y, DataW.trod enc Tryz.prog W 0 (fun _ => true) true n t [c] = some y ∧ Rows.uptoBulk y.1 ≤ 1048576 := by
      intro j t c ht hc
      obtain ⟨f, hfj, rfl⟩ := pg_type j t ht
      obtain ⟨ho, hk⟩ := hone_of pgOne j f hfj
      have h1 := hfs j f hfj
      rw [ho, hk] at h1
      have hjl : j < 6 := by have := (List.getElem?_eq_some_iff.1 hc).1; simpa using this
      have hone' : (((Value.agg ⟨[c0, c1, c2, c3, c4, c5]⟩).cells.toList).drop j).take 1 = [c] := by
        show ([c0, c1, c2, c3, c4, c5].drop j).take 1 = [c]
        obtain ⟨hj, he⟩ := List.getElem?_eq_some_iff.1 hc
        rw [List.drop_eq_getElem_cons hj, he]
        rfl
      rw [hone'] at h1
      have hys : ys[j]? = some (ys[j]'(by omega)) := List.getElem?_eq_getElem (by omega)
      refine ⟨_, h1.trans hys, ?_⟩
      have := bulk_mem (List.mem_map.2 ⟨ys[j]'(by omega), List.getElem_mem _, rfl⟩ : (ys[j]'(by omega)).1 ∈ ys.map (·.1))
      rw [hx.1, bulk_agg] at hb
      omega
    obtain ⟨y0, r0, b0⟩ := key 0 _ _ rfl rfl
    obtain ⟨y1, r1, b1⟩ := key 1 _ _ rfl rfl
    obtain ⟨y2, r2, b2⟩ := key 2 _ _ rfl rfl
    obtain ⟨y3, r3, b3⟩ := key 3 _ _ rfl rfl
    obtain ⟨y4, r4, b4⟩ := key 4 _ _ rfl rfl
    obtain ⟨y5, r5, b5⟩ := key 5 _ _ rfl rfl
    obtain ⟨A0, n0, k0, q0, e0, rfl, R0, u0, s0⟩ := open_ints_c r0
    obtain ⟨A1, n1, k1, q1, e1, rfl, R1, u1, s1, t1⟩ := open_lf_c r1
    obtain ⟨A2, n2, k2, q2, e2, rfl, R2, u2, s2, t2⟩ := open_nr_c r2
    obtain ⟨ba, e3, rfl⟩ := DataW.trod_bool Tryz.underlying4 r3
    obtain ⟨A4, n4, k4, q4, e4, rfl, R4, u4, s4⟩ := open_ints_c r4
    obtain ⟨A5, n5, k5, q5, e5, rfl, R5, u5⟩ := open_bytes_c r5
    cases e0; cases e1; cases e2; cases e3; cases e4; cases e5
    refine ⟨⟨.slice A0 q0.length k0, .slice A1 q1.length k1, .slice A2 q2.length k2, .slice A4 q4.length k4, .slice A5 q5.length k5, q2⟩, ⟨q0, q1, q2.map (·.n), ba, q4, q5⟩, rfl, ⟨R0, R1, R2, rfl, fun y hy => (s2 y hy).1, R4, R5⟩, ⟨⟨s0, Nat.le_trans u0 b0⟩, ⟨fun c hc => ⟨(s1 c hc).1, Nat.le_trans (s1 c hc).2 b1⟩, Nat.le_trans u1 b1⟩, ⟨fun m hm => ?_, ?_⟩, ⟨s4, Nat.le_trans u4 b4⟩, Nat.le_trans u5 b5⟩, ⟨Nat.le_trans t1 b1, ?_⟩⟩
    · obtain ⟨y, hy, rfl⟩ := List.mem_map.1 hm
      have := s2 y hy
      exact ⟨this.2.1, ⟨this.2.2.1.1, Nat.le_trans this.2.2.1.2 b2⟩, this.2.2.2.1, Nat.le_trans this.2.2.2.2 b2⟩
    · show (q2.map (·.n)).length ≤ _
      rw [List.length_map]; exact Nat.le_trans u2 b2
    · show (List.map (fun n : Nr => n.cur.length + n.off.length) (q2.map (·.n))).sum ≤ _
      rw [List.map_map]
      exact Nat.le_trans t2 b2
theorem open_prog {H : Type} {enc : TypeId × Value → H} {W : World} {v : Value} {d : DataW H} {p : List MemPlace} (hv : Value.okWide Tryz.prog W .any 0 28 v) (h : DataW.Trod enc Tryz.prog W 0 (fun _ => true) true 28 v d p) (hb : Rows.uptoBulk d ≤ 1048576) :
    ∃ (x : PgV) (q : Pg), v = x.val q ∧ PgR W W.heap.size x q ∧ SmallPg q := by
  obtain ⟨x, q, h1, h2, h3, -⟩ := open_progw hv h hb
  exact ⟨x, q, h1, h2, h3⟩
end Go.Proofs.YtmdpfikalekmlaaGreatDoor
end
section
/- Layer 20: how long a listing can be. -/
namespace Go.Proofs.YtmdpfikalekmlaaGreatDoor
open Go.RowKit
set_option maxRecDepth 100000
set_option linter.unusedSimpArgs false
set_option linter.unusedVariables false

theorem line1_len (wd : List UInt8) {f : Int} (h : f ≤ 9223372036854775807) : (lineL wd [f]).length ≤ wd.length + 21 := by
  have := lineL_len wd [f] (fun x hx => by obtain rfl := List.mem_singleton.1 hx; exact h)
  simpa using this
theorem zip_snoc {a b : List Int} {m : Nat} (ha : m < a.length) (hb : m < b.length) : (a.zip b).take (m + 1) = (a.zip b).take m ++ [(a[m], b[m])] := by
  have h : m < (a.zip b).length := by rw [List.length_zip]; omega
  rw [List.take_succ_eq_append_getElem h, List.getElem_zip]
theorem pairL_len {q : Int × Int} (h : q.1 ≤ 9223372036854775807 ∧ q.2 ≤ 9223372036854775807) : (pairL q).length ≤ 42 := by
  have h1 := numC_len q.1 h.1
  have h2 := numC_len q.2 h.2
  unfold pairL
  simp only [List.length_append, List.length_cons, List.length_nil]
  omega
theorem pairs_len (l : List (Int × Int)) (m : Nat) (h : ∀ q ∈ l, q.1 ≤ 9223372036854775807 ∧ q.2 ≤ 9223372036854775807) : ((l.take m).flatMap pairL).length ≤ 42 * m := by
  induction m with
  | zero => simp
  | succ m ih =>
    by_cases hm : m < l.length
    · rw [List.take_succ_eq_append_getElem hm, List.flatMap_append, List.length_append]
      have := pairL_len (h _ (List.getElem_mem hm))
      simp only [List.flatMap_cons, List.flatMap_nil, List.append_nil]
      omega
    · rw [List.take_of_length_le (by omega)] at ih ⊢
      omega
theorem nearL_len {n : Nr} (hs : n.slop ≤ 9223372036854775807) (h1 : ∀ x ∈ n.cur, x ≤ 9223372036854775807) (h2 : ∀ x ∈ n.off, x ≤ 9223372036854775807) (hl : n.cur.length ≤ 1048576) : (nearL n).length ≤ 44040217 := by
  unfold nearL
  rw [List.length_append]
  have g1 := line1_len [110, 101, 97, 114] hs
  have g2 := pairs_len (n.cur.zip n.off) (n.cur.zip n.off).length (fun q hq => by
    have := List.of_mem_zip hq
    exact ⟨h1 _ this.1, h2 _ this.2⟩)
  rw [List.take_of_length_le (Nat.le_refl _)] at g2
  have g3 : (n.cur.zip n.off).length ≤ n.cur.length := by rw [List.length_zip]; omega
  simp only [List.length_cons, List.length_nil] at g1
  omega
theorem curL_len {c : Lf} (hf : c.field ≤ 9223372036854775807) (ht : c.term.length ≤ 1048576) : (curL c).length ≤ 44040217 := by
  unfold curL
  have g1 := line1_len [99, 117, 114, 115, 111, 114] hf
  have g2 := quoL_len c.term
  simp only [List.length_append, List.length_cons, List.length_nil] at g1 ⊢
  omega
theorem opName_len (i : Nat) : (opName i).length ≤ 6 := by
  rcases Nat.lt_or_ge i 17 with h | h
  · have : ∀ j, j < 17 → (opName j).length ≤ 6 := by decide
    exact this i h
  · unfold opName
    rw [List.getD_eq_getElem?_getD, List.getElem?_eq_none (by rw [opTab_len]; exact h)]
    decide
theorem insL_len {x : Ins} (ha : x.a < 18446744073709551616) (hb : x.b < 18446744073709551616) : (insL x).length ≤ 48 := by
  unfold insL
  have g1 := opName_len x.op.toNat
  have g2 := dgt_len x.a ha
  have g3 := dgt_len x.b hb
  rw [List.length_append, List.length_append]
  split <;> split <;> simp only [List.length_cons, List.length_nil] <;> omega
theorem encI_ge (l : List Ins) : l.length ≤ (encI l).length := by
  induction l with
  | nil => simp
  | cons x l ih =>
    have e : encI (x :: l) = insB x ++ encI l := by simp [encI]
    rw [e, List.length_append, List.length_cons]
    have : 1 ≤ (insB x).length := by unfold insB; simp
    omega
theorem decI_len {m : List UInt8} {l : List Ins} (h : decI m = some l) : l.length ≤ m.length := by
  have := encI_ge l
  rw [(encI_decI h).2.2] at this
  exact this
theorem unl_le (L : Nat) (l : List (List UInt8)) (h : ∀ x ∈ l, x.length ≤ L) : (unl l).length ≤ (L + 1) * l.length := by
  induction l with
  | nil => simp [unl]
  | cons x l ih =>
    have e : unl (x :: l) = x ++ [10] ++ unl l := by simp [unl]
    rw [e, List.length_append, List.length_append, List.length_cons, List.length_cons, List.length_nil, Nat.mul_add]
    have g1 := h x List.mem_cons_self
    have g2 := ih (fun y hy => h y (List.mem_cons_of_mem _ hy))
    omega
theorem unl_append (a b : List (List UInt8)) : unl (a ++ b) = unl a ++ unl b := by simp [unl]
/-- A listing's length is an int's. -/
theorem text_small {p : Pg} {code : List Ins} (hs : SmallPg p) (h : decI p.code = some code) : (linesL p code).length ≤ 3145731 ∧ (unl (linesL p code)).length ≤ 138700000000000 := by
  have h1 := decI_len h
  have h2 := (encI_decI h).2.1
  have h3 := hs.code
  have h4 := hs.curs.2
  have h5 := hs.nears.2
  have hn : (linesL p code).length ≤ 3145731 := by
    unfold linesL headL
    simp only [List.length_append, List.length_map, List.length_cons, List.length_nil]
    split <;> split <;> simp only [List.length_cons, List.length_nil] <;> omega
  refine ⟨hn, ?_⟩
  have hx : ∀ x ∈ linesL p code, x.length ≤ 44040217 := by
    intro x hx
    unfold linesL headL at hx
    simp only [List.mem_append, List.mem_map, List.mem_singleton] at hx
    rcases hx with ((((rfl | ⟨c, hc, rfl⟩) | ⟨n, hn, rfl⟩) | hx) | hx) | ⟨i, hi, rfl⟩
    · have g := lineL_len [97, 118, 103, 115] p.avgs (fun y hy => (hs.avgs.1 y hy).2)
      have g2 := hs.avgs.2
      simp only [List.length_cons, List.length_nil] at g
      omega
    · have g := hs.curs.1 c hc
      exact curL_len g.1.2 g.2
    · have g := hs.nears.1 n hn
      exact nearL_len g.1.2 (fun y hy => (g.2.1.1 y hy).2) (fun y hy => (g.2.2.1 y hy).2) g.2.1.2
    · split at hx
      · obtain rfl := List.mem_singleton.1 hx; decide
      · cases hx
    · split at hx
      · obtain rfl := List.mem_singleton.1 hx
        have g := lineL_len [100, 114, 105, 118, 101] p.drive (fun y hy => (hs.drive.1 y hy).2)
        have g2 := hs.drive.2
        simp only [List.length_cons, List.length_nil] at g
        omega
      · cases hx
    · have g := h2 i hi
      have := insL_len g.1 g.2
      omega
  have := unl_le 44040217 _ hx
  have h6 : 44040218 * (linesL p code).length ≤ 44040218 * 3145731 := Nat.mul_le_mul_left _ hn
  omega
end Go.Proofs.YtmdpfikalekmlaaGreatDoor
/- Layer 20: how long the listing of a program that comes in can be; and how small a program is whose listing comes in. -/
namespace Go.Proofs.YtmdpfikalekmlaaGreatDoor
open Go.RowKit
set_option maxRecDepth 100000
set_option linter.unusedSimpArgs false
set_option linter.unusedVariables false

theorem unl_cons (x : List UInt8) (l : List (List UInt8)) : unl (x :: l) = x ++ [10] ++ unl l := by simp [unl]
theorem unl_map_le {α : Type} (f : α → List UInt8) (g : α → Nat) (c k : Nat) (l : List α) (h : ∀ x ∈ l, (f x).length ≤ c + k * g x) : (unl (l.map f)).length ≤ (c + 1) * l.length + k * (l.map g).sum := by
  induction l with
  | nil => simp [unl]
  | cons x l ih =>
    have h0 := h x List.mem_cons_self
    have h1 := ih (fun y hy => h y (List.mem_cons_of_mem _ hy))
    rw [List.map_cons, unl_cons, List.map_cons, List.sum_cons, List.length_append, List.length_append, List.length_cons, List.length_cons, List.length_nil, Nat.mul_add, Nat.mul_add]
    omega
theorem nearL_len2 {n : Nr} (hs : n.slop ≤ 9223372036854775807) (h1 : ∀ x ∈ n.cur, x ≤ 9223372036854775807) (h2 : ∀ x ∈ n.off, x ≤ 9223372036854775807) : (nearL n).length ≤ 40 + 42 * (n.cur.length + n.off.length) := by
  unfold nearL
  rw [List.length_append]
  have g1 := line1_len [110, 101, 97, 114] hs
  have g2 := pairs_len (n.cur.zip n.off) (n.cur.zip n.off).length (fun q hq => by
    have := List.of_mem_zip hq
    exact ⟨h1 _ this.1, h2 _ this.2⟩)
  rw [List.take_of_length_le (Nat.le_refl _)] at g2
  have g3 : (n.cur.zip n.off).length ≤ n.cur.length := by rw [List.length_zip]; omega
  simp only [List.length_cons, List.length_nil] at g1
  omega
theorem curL_len2 {c : Lf} (hf : c.field ≤ 9223372036854775807) : (curL c).length ≤ 40 + 3 * c.term.length := by
  unfold curL
  have g1 := line1_len [99, 117, 114, 115, 111, 114] hf
  have g2 := quoL_len c.term
  simp only [List.length_append, List.length_cons, List.length_nil] at g1 ⊢
  omega
/-- The listing of a program that comes in. -/
theorem text_wt {p : Pg} {s : List UInt8} (hs : SmallPg p) (hw : WtPg p) (h : textP p = some s) : s.length ≤ 1000000000 ∧ (splitS 10 s).length ≤ 20000000 := by
  obtain ⟨code, hd, hok, rfl⟩ := textP_get h
  have h1 := decI_len hd
  have h2 := (encI_decI hd).2.1
  have hc := hs.code
  have hn := (text_small hs hd).1
  refine ⟨?_, by rw [splitS_unl (linesL_ge p code), List.length_append, List.length_singleton]; omega⟩
  unfold linesL headL
  rw [unl_append, unl_append, unl_append, unl_append, unl_append]
  simp only [List.length_append]
  have a1 : (unl [lineL [97, 118, 103, 115] p.avgs]).length ≤ 5 + 21 * 1048576 := by
    have g := lineL_len [97, 118, 103, 115] p.avgs (fun y hy => (hs.avgs.1 y hy).2)
    have g2 := hs.avgs.2
    simp only [List.length_cons, List.length_nil] at g
    simp [unl]; omega
  have a2 := unl_map_le curL (fun c => c.term.length) 40 3 p.curs (fun c hc => curL_len2 (hs.curs.1 c hc).1.2)
  have a3 := unl_map_le nearL (fun n => n.cur.length + n.off.length) 40 42 p.nears (fun n hn => nearL_len2 (hs.nears.1 n hn).1.2 (fun y hy => ((hs.nears.1 n hn).2.1.1 y hy).2) (fun y hy => ((hs.nears.1 n hn).2.2.1 y hy).2))
  have a4 : (unl (if p.all = true then [[101, 118, 101, 114, 121]] else [])).length ≤ 6 := by split <;> simp [unl]
  have a5 : (unl (if p.drive ≠ [] then [lineL [100, 114, 105, 118, 101] p.drive] else [])).length ≤ 6 + 21 * 1048576 := by
    have g := lineL_len [100, 114, 105, 118, 101] p.drive (fun y hy => (hs.drive.1 y hy).2)
    have g2 := hs.drive.2
    simp only [List.length_cons, List.length_nil] at g
    split <;> simp [unl] <;> omega
  have a6 := unl_map_le insL (fun _ => 0) 48 0 code (fun i hi => by have := insL_len (h2 i hi).1 (h2 i hi).2; omega)
  have b1 := hw.terms
  have b2 := hw.offs
  have b3 := hs.curs.2
  have b4 := hs.nears.2
  omega
theorem text_len {p : Pg} {s : List UInt8} (hs : SmallPg p) (h : textP p = some s) : s.length ≤ 138700000000000 := by
  obtain ⟨code, hd, hok, rfl⟩ := textP_get h
  exact (text_small hs hd).2
theorem smallQ_of {p : Pg} (hs : SmallPg p) : SmallQ p := by
  refine ⟨fun x hx => ?_, fun c hc => ?_, fun n hn => ?_, fun x hx => ?_⟩
  · have := (hs.avgs.1 x hx).2; omega
  · have := (hs.curs.1 c hc).1.2; omega
  · have g := hs.nears.1 n hn
    exact ⟨by have := g.1.2; omega, fun x hx => by have := (g.2.1.1 x hx).2; omega, fun x hx => by have := (g.2.2.1 x hx).2; omega⟩
  · have := (hs.drive.1 x hx).2; omega
/-! A number's bytes are no more than its digits. -/
theorem dgt_mono (b : Nat) : ∀ a, a ≤ b → (dgt a).length ≤ (dgt b).length := by
  induction b using Nat.strongRecOn with
  | ind b ih =>
    intro a hab
    by_cases ha : a < 10
    · rw [dgt_small ha]
      have := dgt_ne b
      have := List.length_pos_iff.2 this
      simp only [List.length_singleton]; omega
    · have hb : ¬ b < 10 := by omega
      rw [dgt_big ha, dgt_big hb, List.length_append, List.length_append]
      have := ih (b / 10) (by omega) (a / 10) (Nat.div_le_div_right hab)
      simp only [List.length_singleton]; omega
theorem uv_dgt (v : Nat) : (uvL v).length ≤ (dgt v).length := by
  induction v using Nat.strongRecOn with
  | ind v ih =>
    by_cases h : v < 128
    · rw [uvL_small h]
      have := List.length_pos_iff.2 (dgt_ne v)
      simp only [List.length_singleton]; omega
    · rw [uvL_big h, List.length_cons, dgt_big (by omega), List.length_append, List.length_singleton]
      have h1 := ih (v / 128) (by omega)
      have h2 := dgt_mono (v / 10) (v / 128) (by omega)
      omega
theorem insB_le_insL {x : Ins} : (insB x).length ≤ (insL x).length + 1 := by
  have ha := uv_dgt x.a
  have hb := uv_dgt x.b
  unfold insB insL
  cases hn : argsN x.op with
  | none => simp
  | some n =>
    obtain ⟨-, -, h3, -⟩ := argsN_some hn
    rw [h3]
    simp only [List.length_cons, List.length_append]
    (repeat' split) <;> (first | (simp only [List.length_cons, List.length_nil]; omega) | omega)
theorem lineL_le (w : List UInt8) (l : List Int) : l.length ≤ (lineL w l).length := by
  unfold lineL
  rw [List.length_append]
  have : ∀ l : List Int, l.length ≤ (l.flatMap fun x => 32 :: numC x).length := by
    intro l
    induction l with
    | nil => simp
    | cons x l ih => simp only [List.flatMap_cons, List.length_append, List.length_cons]; omega
  have := this l
  omega
theorem unl_mem {l : List (List UInt8)} {x : List UInt8} (h : x ∈ l) : x.length + 1 ≤ (unl l).length := by
  induction l with
  | nil => cases h
  | cons y l ih =>
    rw [unl_cons, List.length_append, List.length_append, List.length_singleton]
    rcases List.mem_cons.1 h with rfl | h
    · omega
    · have := ih h; omega
theorem unl_ge (l : List (List UInt8)) : l.length ≤ (unl l).length := by
  induction l with
  | nil => simp
  | cons y l ih => rw [unl_cons, List.length_append, List.length_append, List.length_singleton, List.length_cons]; omega
theorem quoC_ge (t : List UInt8) : t.length ≤ (quoL t).length := by
  unfold quoL
  simp only [List.length_cons, List.length_append]
  have : ∀ l : List UInt8, l.length ≤ (l.flatMap quoC).length := by
    intro l
    induction l with
    | nil => simp
    | cons x l ih =>
      simp only [List.flatMap_cons, List.length_append, List.length_cons]
      have : 1 ≤ (quoC x).length := by unfold quoC; split <;> simp
      omega
  have := this t
  omega
theorem pairs_ge (l : List (Int × Int)) : l.length ≤ (l.flatMap pairL).length := by
  induction l with
  | nil => simp
  | cons x l ih =>
    simp only [List.flatMap_cons, List.length_append, List.length_cons]
    have : 1 ≤ (pairL x).length := by unfold pairL; simp only [List.length_append, List.length_cons]; omega
    omega
theorem enc_unl (code : List Ins) : (encI code).length ≤ (unl (code.map insL)).length := by
  induction code with
  | nil => simp [encI, unl]
  | cons x l ih =>
    rw [List.map_cons, unl_cons]
    have e : encI (x :: l) = insB x ++ encI l := by simp [encI]
    have := insB_le_insL (x := x)
    rw [e]
    simp only [List.length_append, List.length_cons, List.length_nil]
    omega
/-- A program whose listing comes in is small. -/
theorem small_read {t : List UInt8} {q : Pg} (h : readP t = .inl q) (ht : t.length ≤ 1048576) : SmallPg q := by
  obtain ⟨h1, h2⟩ := textP_readP h
  obtain ⟨code, hd, hok, rfl⟩ := textP_get h1
  obtain ⟨k1, k2, k3, k4⟩ := okP_and hok
  obtain ⟨s1, s2, s3, s4⟩ := h2
  have hcode := (encI_decI hd).2.2
  have mem : ∀ x ∈ linesL q code, x.length + 1 ≤ 1048576 := fun x hx => Nat.le_trans (unl_mem hx) ht
  have hlen := Nat.le_trans (unl_ge (linesL q code)) ht
  have hl2 : (linesL q code).length = (headL q).length + code.length := by unfold linesL; simp
  have hh : 1 + q.curs.length + q.nears.length ≤ (headL q).length := by unfold headL; simp only [List.length_append, List.length_map, List.length_cons, List.length_nil]; omega
  have inH : ∀ x ∈ headL q, x ∈ linesL q code := fun x hx => List.mem_append_left _ hx
  have m1 : lineL [97, 118, 103, 115] q.avgs ∈ linesL q code := inH _ (by unfold headL; simp)
  refine ⟨⟨fun x hx => ?_, ?_⟩, ⟨fun c hc => ⟨?_, ?_⟩, by omega⟩, ⟨fun n hn => ⟨?_, ⟨fun x hx => ?_, ?_⟩, fun x hx => ?_, ?_⟩, by omega⟩, ⟨fun x hx => ?_, ?_⟩, ?_⟩
  · have := neg_false k1 x hx; have := s1 x hx; omega
  · have g1 := lineL_le [97, 118, 103, 115] q.avgs
    have g2 := mem _ m1
    omega
  · have := k3 c hc; have := s2 c hc; omega
  · have g1 : curL c ∈ linesL q code := inH _ (by unfold headL; simp only [List.mem_append, List.mem_map]; exact .inl (.inl (.inl (.inr ⟨c, hc, rfl⟩))))
    have g2 := mem _ g1
    have g3 := quoC_ge c.term
    unfold curL at g2
    simp only [List.length_append] at g2
    omega
  · have := (okN_and (k4 n hn)).1; have := (s3 n hn).1; omega
  · have := neg_false (okN_and (k4 n hn)).2.1 x hx; have := (s3 n hn).2.1 x hx; omega
  · have g1 : nearL n ∈ linesL q code := inH _ (by unfold headL; simp only [List.mem_append, List.mem_map]; exact .inl (.inl (.inr ⟨n, hn, rfl⟩)))
    have g2 := mem _ g1
    have g3 := pairs_ge (n.cur.zip n.off)
    have g4 := (okN_and (k4 n hn)).2.2.2
    rw [List.length_zip, g4, Nat.min_self] at g3
    unfold nearL at g2
    simp only [List.length_append] at g2
    omega
  · have := neg_false (okN_and (k4 n hn)).2.2.1 x hx; have := (s3 n hn).2.2 x hx; omega
  · have g1 : nearL n ∈ linesL q code := inH _ (by unfold headL; simp only [List.mem_append, List.mem_map]; exact .inl (.inl (.inr ⟨n, hn, rfl⟩)))
    have g2 := mem _ g1
    have g3 := pairs_ge (n.cur.zip n.off)
    have g4 := (okN_and (k4 n hn)).2.2.2
    rw [List.length_zip, g4, Nat.min_self] at g3
    unfold nearL at g2
    simp only [List.length_append] at g2
    omega
  · have := neg_false k2 x hx; have := s4 x hx; omega
  · by_cases hd0 : q.drive = []
    · rw [hd0]; simp
    · have g1 : lineL [100, 114, 105, 118, 101] q.drive ∈ linesL q code := inH _ (by unfold headL; simp only [List.mem_append]; right; rw [if_pos hd0]; exact List.mem_singleton.2 rfl)
      have g2 := mem _ g1
      have g3 := lineL_le [100, 114, 105, 118, 101] q.drive
      omega
  · have g1 := enc_unl code
    have e : unl (linesL q code) = unl (headL q) ++ unl (code.map insL) := by unfold linesL; rw [unl_append]
    rw [e, List.length_append] at ht
    rw [← hcode]
    omega
end Go.Proofs.YtmdpfikalekmlaaGreatDoor
end
