/- Layer 20, plainly: a line in the order in which the program looks at it. -/
import Derived.Test.YtmdpfikalekmlaaGreatDoorIn
import Derived.Test.YtmdpfikalekmlaaGreatDoorSpl
import Derived.Test.YtmdpfikalekmlaaGreatDoorNe
namespace Go.Proofs.YtmdpfikalekmlaaGreatDoor
open Go.RowKit
set_option maxRecDepth 100000
set_option linter.unusedSimpArgs false
set_option linter.unusedVariables false

def nearG (ws : List (List UInt8)) : Option Nr := match ws with
  | [] => none
  | v :: vs => match wholeL 9223372036854775808 v, pPairs vs with
    | some k, some l => some ⟨(k : Int), l.map (·.1), l.map (·.2)⟩
    | _, _ => none
def lineG (st : Rs) (s w0 : List UInt8) (ws : List (List UInt8)) : Option Rs :=
  if st.part = 0 then (if w0 = wdA then (intsL ws).map fun l => { st with avgs := l, part := 1 } else none)
  else if w0 = wdC ∧ 1 < ws.length ∧ st.part ≤ 2 then (pCurR (s.drop 7)).map fun c => { st with curs := st.curs ++ [c], part := 2 }
  else if w0 = wdN ∧ 0 < ws.length ∧ st.part ≤ 3 then (nearG ws).map fun n => { st with nears := st.nears ++ [n], part := 3 }
  else if s = wdE ∧ st.part < 4 then some { st with all := true, part := 4 }
  else if w0 = wdD ∧ 0 < ws.length ∧ st.part < 5 then (intsL ws).map fun l => { st with drive := l, part := 5 }
  else (pInsR w0 ws).map fun x => { st with code := st.code ++ [x], part := 6 }
theorem pNums_eq {w s w0 : List UInt8} {ws : List (List UInt8)} (h : splitS 32 s = w0 :: ws) : pNums w s = if w0 = w then intsL ws else none := by
  unfold pNums; rw [h]
theorem pCur_eq {s w0 : List UInt8} {ws : List (List UInt8)} (h : splitS 32 s = w0 :: ws) : pCur s = if w0 = wdC ∧ 1 < ws.length then pCurR (s.drop 7) else none := by
  unfold pCur
  rw [h]
  simp only [List.head?_cons, Option.some.injEq, List.length_cons]
  by_cases h1 : w0 = wdC ∧ 1 < ws.length
  · rw [if_pos h1, if_pos ⟨h1.1, by omega⟩]
  · rw [if_neg h1, if_neg (fun h2 => h1 ⟨h2.1, by omega⟩)]
theorem pNear_eq {s w0 : List UInt8} {ws : List (List UInt8)} (h : splitS 32 s = w0 :: ws) : pNear s = if w0 = wdN then nearG ws else none := by
  unfold pNear
  rw [h]
  by_cases h1 : w0 = wdN
  · subst h1
    rw [if_pos rfl]
    cases ws <;> rfl
  · rw [if_neg h1]
    split
    · rename_i h2
      injection h2 with h2 _
      exact absurd h2 h1
    · rfl
theorem pInsR_no {w0 : List UInt8} {ws : List (List UInt8)} (h : w0 = wdA ∨ w0 = wdC ∨ w0 = wdN ∨ w0 = wdE ∨ w0 = wdD) : pInsR w0 ws = none := by
  unfold pInsR
  have : opIdx w0 = none := by
    rcases h with rfl | rfl | rfl | rfl | rfl <;> rfl
  rw [this]
theorem intsL_length {ws : List (List UInt8)} {l : List Int} (h : intsL ws = some l) : l.length = ws.length := by
  obtain ⟨rfl, _⟩ := (intsL_iff ws l).1 h
  rw [List.length_map]
theorem split_every {w0 : List UInt8} {ws : List (List UInt8)} (h : splitS 32 wdE = w0 :: ws) : w0 = wdE ∧ ws = [] := by
  have e : splitS 32 wdE = [wdE] := by decide
  rw [e] at h
  injection h with h1 h2
  exact ⟨h1.symm, h2.symm⟩
theorem lineR_lineG {st : Rs} {s w0 : List UInt8} {ws : List (List UInt8)} (h : splitS 32 s = w0 :: ws) : lineR st s = lineG st s w0 ws := by
  unfold lineR lineG
  by_cases h0 : st.part = 0
  · rw [if_pos h0, if_pos h0, pNums_eq h]
    by_cases ha : w0 = wdA
    · rw [if_pos ha, if_pos ha]
    · rw [if_neg ha, if_neg ha]; rfl
  rw [if_neg h0, if_neg h0, pCur_eq h, pNear_eq h, pNums_eq h, pIns_pInsR h]
  by_cases hc : w0 = wdC ∧ 1 < ws.length ∧ st.part ≤ 2
  · rw [if_pos hc, if_pos hc.2.2, if_pos ⟨hc.1, hc.2.1⟩]
    cases pCurR (s.drop 7) with
    | some c => rfl
    | none =>
      have e1 : w0 ≠ wdN := by rw [hc.1]; decide
      have e2 : w0 ≠ wdD := by rw [hc.1]; decide
      have e3 : ¬ (s = wdE ∧ st.part < 4) := fun h2 => by
        rw [h2.1] at h
        have := (split_every h).1
        rw [hc.1] at this
        exact absurd this (by decide)
      simp only [if_neg e1, if_neg e2, ite_self, if_neg e3, pInsR_no (Or.inr (Or.inl hc.1)), Option.map_none]
  rw [if_neg hc]
  have hcn : (if st.part ≤ 2 then if w0 = wdC ∧ 1 < ws.length then pCurR (s.drop 7) else none else none) = none := by
    by_cases h2 : st.part ≤ 2
    · rw [if_pos h2, if_neg (fun h3 => hc ⟨h3.1, h3.2, h2⟩)]
    · rw [if_neg h2]
  rw [hcn]
  simp only []
  by_cases hn : w0 = wdN ∧ 0 < ws.length ∧ st.part ≤ 3
  · rw [if_pos hn, if_pos hn.2.2, if_pos hn.1]
    cases nearG ws with
    | some c => rfl
    | none =>
      have e2 : w0 ≠ wdD := by rw [hn.1]; decide
      have e3 : ¬ (s = wdE ∧ st.part < 4) := fun h2 => by
        rw [h2.1] at h
        have := (split_every h).1
        rw [hn.1] at this
        exact absurd this (by decide)
      simp only [if_neg e2, ite_self, if_neg e3, pInsR_no (Or.inr (Or.inr (Or.inl hn.1))), Option.map_none]
  rw [if_neg hn]
  have hnn : (if st.part ≤ 3 then if w0 = wdN then nearG ws else none else none) = none := by
    by_cases h2 : st.part ≤ 3
    · rw [if_pos h2]
      by_cases h3 : w0 = wdN
      · rw [if_pos h3]
        cases ws with
        | nil => rfl
        | cons v vs => exact absurd ⟨h3, by simp, h2⟩ hn
      · rw [if_neg h3]
    · rw [if_neg h2]
  rw [hnn]
  simp only []
  by_cases he : s = wdE ∧ st.part < 4
  · rw [if_pos he, if_pos he]
  rw [if_neg he, if_neg he]
  by_cases hd : w0 = wdD ∧ 0 < ws.length ∧ st.part < 5
  · rw [if_pos hd, if_pos hd.2.2, if_pos hd.1]
    cases hi : intsL ws with
    | some l =>
      have hl := intsL_length hi
      cases l with
      | nil => have := hd.2.1; simp at hl; omega
      | cons x l => rfl
    | none => simp only [pInsR_no (Or.inr (Or.inr (Or.inr (Or.inr hd.1)))), Option.map_none]
  rw [if_neg hd]
  have hdn : ∀ (r : Option Rs), (match (if st.part < 5 then (if w0 = wdD then intsL ws else none) else none) with
      | some (x :: l) => some { st with drive := x :: l, part := 5 }
      | _ => r) = r := by
    intro r
    by_cases h2 : st.part < 5
    · rw [if_pos h2]
      by_cases h3 : w0 = wdD
      · rw [if_pos h3]
        cases ws with
        | nil => rfl
        | cons v vs => exact absurd ⟨h3, by simp, h2⟩ hd
      · rw [if_neg h3]
    · rw [if_neg h2]
  exact hdn _
theorem split_len {s w0 : List UInt8} {ws : List (List UInt8)} (h : splitS 32 s = w0 :: ws) : (ws ≠ [] → w0.length + 1 ≤ s.length) ∧ w0.length ≤ s.length ∧ (∀ x ∈ ws, x.length ≤ s.length) ∧ ws.length ≤ s.length := by
  have e := unlS_splitS 32 s
  rw [h, unlS_cons] at e
  have hl := congrArg List.length e
  simp only [List.length_append, List.length_cons, List.length_nil] at hl
  have hc : (splitS 32 s).length = s.count 32 + 1 := splitS_length 32 s
  rw [h, List.length_cons] at hc
  have hcs : s.count 32 ≤ s.length := List.count_le_length
  have hm : ∀ (l : List (List UInt8)), (∀ x ∈ l, x.length + 1 ≤ (unlS 32 l).length) := by
    intro l
    induction l with
    | nil => intro x hx; cases hx
    | cons y l ih =>
      intro x hx
      rw [unlS_cons, List.length_append, List.length_cons]
      rcases List.mem_cons.1 hx with rfl | hx
      · omega
      · have := ih x hx; omega
  refine ⟨fun hne => ?_, by omega, fun x hx => by have := hm ws x hx; omega, by omega⟩
  cases ws with
  | nil => exact absurd rfl hne
  | cons y r => have := hm (y :: r) y List.mem_cons_self; omega
end Go.Proofs.YtmdpfikalekmlaaGreatDoor
/- Layer 20: the reader's line. -/
namespace Go.Proofs.YtmdpfikalekmlaaGreatDoor
open Go.RowKit Go.Maps
set_option maxRecDepth 100000
set_option maxHeartbeats 4000000
set_option linter.unusedSimpArgs false
set_option linter.unusedVariables false

theorem strB_beq (l m : List UInt8) : ((str l).toList == m) = decide (l = m) := by
  rw [ba_toList, str_data]
  by_cases h : l = m
  · subst h; simp
  · rw [decide_eq_false h]; simpa using h
theorem strB_yes {l m : List UInt8} (h : l = m) : ((str l).toList == m) = true := by rw [strB_beq]; exact decide_eq_true h
theorem strB_no {l m : List UInt8} (h : ¬ l = m) : ((str l).toList == m) = false := by rw [strB_beq]; exact decide_eq_false h
theorem PuEnv.keep {w w' : World} {B rb : Nat} (h : PuEnv w) (hk : RKeep B rb w w') (hg : 32 < rb) (hrb : rb < B) : PuEnv w' :=
  h.below hg (hk.below (E := rb) (by omega) (Nat.le_refl _))
theorem TabEnv.keep {w w' : World} {B rb : Nat} (h : TabEnv w) (hk : RKeep B rb w w') (hg : 17 < rb) (hrb : rb < B) : TabEnv w' := by
  have hb : Below rb w w' := hk.below (E := rb) (by omega) (Nat.le_refl _)
  exact ⟨fun i hi => (hb.cell (p := ⟨17, 2 * i, none⟩) hg).trans (h.name i hi), fun i hi => (hb.cell (p := ⟨17, 2 * i + 1, none⟩) hg).trans (h.args i hi)⟩
theorem RdL.offSet {α : Type} {S : Shape α} {w : World} {C rb i : Nat} {A : Option Addr} {n c : Nat} {l : List α} (h : RdL S w C (.slice A n c) l) (hA : ∀ a, A = some a → a.block ≠ rb) (u : Value) : RdL S (w.setCell ⟨rb, i, none⟩ u) C (.slice A n c) l :=
  (RKeep.set_ C rb i w u).rd h (Nat.le_refl _) (fun a n' c' e => hA a (by injection e))
theorem RKeep.cellF {B rb : Nat} {w w' : World} (h : RKeep B rb w w') {b o : Nat} (hb : b < B) (hne : ¬ b = rb) : w'.cell? ⟨b, o, none⟩ = w.cell? ⟨b, o, none⟩ := by
  simp [World.cell?, h.kept b hb hne]
theorem setOff (w : World) (rb i b o : Nat) (u : Value) (hne : ¬ b = rb) : (w.setCell ⟨rb, i, none⟩ u).cell? ⟨b, o, none⟩ = w.cell? ⟨b, o, none⟩ :=
  (RKeep.set_ (b + 1) rb i w u).cellF (Nat.lt_succ_self _) hne
theorem str_drop7 (s : List UInt8) : (str s).extract 7 (str s).size = str (s.drop 7) := by
  rw [← str_drop, str_data]
theorem LnRet.trans {B rb mb : Nat} {w w1 : World} {r : Option Rs} {e : Ending} {w' : World} (h : RKeep B rb w w1) (h2 : LnRet B rb mb w1 r e w') : LnRet B rb mb w r e w' := ⟨h.trans h2.1, h2.2⟩
theorem lineG_0 {st : Rs} {s w0 : List UInt8} {ws : List (List UInt8)} (h0 : st.part = 0) : lineG st s w0 ws = if w0 = wdA then (intsL ws).map fun l => { st with avgs := l, part := 1 } else none := by unfold lineG; rw [if_pos h0]
theorem rline_any (s : List UInt8) (w : World) (B rb mb : Nat) (x : RdrV) (st : Rs) (h : RdrAt w B rb mb x st) (hn1 : st.curs.length ≤ 1000000000) (hn2 : st.nears.length ≤ 1000000000) (hn3 : st.code.length ≤ 1000000000) (hs : s.length ≤ 1000000000) (hE : PuEnv w) (hT : TabEnv w) (hg1 : 32 < rb) (hg2 : 17 < rb) :
    Calls Tryz.prog 19 #[.pointer (some ⟨rb, 0, none⟩), .string (str s)] w (LnRet B rb mb w (lineR st s)) := by
  obtain ⟨w0, ws, hsp⟩ : ∃ w0 ws, splitS 32 s = w0 :: ws := by
    cases h : splitS 32 s with
    | nil => exact absurd h (splitS_ne _ _)
    | cons a b => exact ⟨a, b, rfl⟩
  rw [lineR_lineG hsp]
  obtain ⟨l1, l2, l3, l4⟩ := split_len hsp
  have hsplit := split1_any (str s) 32 w (by rw [str_size]; omega)
  have hrd := spRd 32 (str s) w (by rw [str_size]; omega)
  have hrow : spRow 32 (str s) = (((w0 :: ws).map str).map Value.string).toArray := by unfold spRow; rw [str_data, hsp]
  unfold SpRet at hsplit
  rw [str_data, hsp] at hsplit hrd
  have hR1 := h.alloc (.cells (spRow 32 (str s)) 9)
  have hE1 := hE.belowW ((Below.refl w.heap.size w).alloc (Nat.le_refl _) (.cells (spRow 32 (str s)) 9))
  have hT1 := hT.below ((Below.refl w.heap.size w).alloc (Nat.le_refl _) (.cells (spRow 32 (str s)) 9))
  have HK1 := Lib.hid (RKeep.of (rb := rb) ((Below.refl B w).alloc h.hB (.cells (spRow 32 (str s)) 9)))
  have hz1 : w.heap.size < (w.alloc (.cells (spRow 32 (str s)) 9)).heap.size := by rw [World.size_alloc]; exact Nat.lt_succ_self _
  have c0 : (w.alloc (.cells (spRow 32 (str s)) 9)).cell? ⟨w.heap.size, 0, none⟩ = some (.string (str w0)) := by
    rw [World.cell?_alloc_new, hrow]; rfl
  have hrbs : rb < w.heap.size := h.blk.lt
  clear hrow h hE hT
  generalize w.alloc (.cells (spRow 32 (str s)) 9) = w1 at *
  have HR1 := Lib.hid hR1; have HE1 := Lib.hid hE1; have HT1 := Lib.hid hT1; have HW1 := Lib.hid hrd
  have r7 : w1.cell? ⟨rb, 7, none⟩ = some (.int .i64 (st.part : Int)) := hR1.blk.cell 7
  have z7 : w1.frozen? ⟨rb, 7, none⟩ = false := hR1.blk.frozen 7
  have hne : ¬ w.heap.size = rb := by omega
  have hne2 : ¬ rb = w.heap.size := by omega
  have HSZ := Lib.hid l3
  have HRB := Lib.hid hR1.hrb
  have hB1 := hR1.hB
  clear hR1 hE1 hT1 hrd l3
  by_cases hp : st.part = 0
  · rw [lineG_0 hp]
    generalize hRR : (if w0 = wdA then (intsL ws).map (fun l => { st with avgs := l, part := 1 }) else none) = R
    have HRR := Lib.hid hRR
    clear hRR
    have hpi : (st.part : Int) = 0 := by omega
    clear hp
    cases ws with
    | nil =>
      have HTL := Lib.hid (show RdL strS w1 (w.heap.size + 1) (.slice (some ⟨w.heap.size, 0, none⟩) 0 0) (([] : List (List UInt8)).map str) from RdL.tail1 HW1.out)
      have HR2 := Lib.hid (show RdrAt (w1.setCell ⟨rb, 7, none⟩ (.int .i64 1)) B rb mb x { st with part := 1 } from HR1.out.setPart 1)
      have HS2 := Lib.hid (RKeep.set_ B rb 7 w1 (.int .i64 1))
      have HK2 := Lib.hid (HK1.out.trans HS2.out)
      have HE2 := Lib.hid (HE1.out.keep HS2.out hg1 HRB.out)
      have HT2 := Lib.hid (HT1.out.keep HS2.out hg2 HRB.out)
      have hz2 : (w1.setCell ⟨rb, 7, none⟩ (.int .i64 1)).heap.size = w1.heap.size := set_size _ _ _
      have HC2 := Lib.hid (show w.heap.size + 1 ≤ (w1.setCell ⟨rb, 7, none⟩ (.int .i64 1)).heap.size by omega)
      have HB2 := Lib.hid (HR2.out.hB)
      clear hz2
      have hin := ints_any _ _ _ [] (w1.setCell ⟨rb, 7, none⟩ (.int .i64 1)) (w.heap.size + 1) (HTL.out.offSet (i := 7) (by intro a ha; injection ha with ha; subst ha; exact hne) (.int .i64 1)) HC2.out (fun x hx => Nat.le_trans (HSZ.out x hx) hs) (by omega) HE2.out
      obtain ⟨l, hi⟩ : ∃ l, intsL [] = some l := ⟨[], rfl⟩
      have HI := Lib.hid hi
      rw [hi] at hin
      clear hi
      by_cases ha : w0 = wdA
      · have e1 := strB_yes ha
        have HA := Lib.hid ha
        clear ha
        unfold wdA at e1
        go_enter Tryz.func19, Tryz.ntmps19
        go_wp2_with fail
        refine hsplit.mono ?_
        rintro e w1 ⟨rfl, rfl⟩
        go_wp2_with fail
        refine hin.mono ?_
        rintro e w3 ⟨⟨v3, rfl, ho3⟩, hb3⟩
        obtain ⟨A3, n3, c3, rfl⟩ := ho3.form
        have HR3 := Lib.hid (HR2.out.below hb3)
        have HR4 := Lib.hid (HR3.out.setAvgs (ho3.more HB2.out))
        have HK3 := Lib.hid ((HK2.out.trans (RKeep.ofW HB2.out hb3)).trans (RKeep.set_ B rb 0 w3 (.slice A3 n3 c3)))
        have r0 : w3.cell? ⟨rb, 0, none⟩ = some x.av := HR3.out.blk.cell 0
        have z0 : w3.frozen? ⟨rb, 0, none⟩ = false := HR3.out.blk.frozen 0
        have c3' : w3.cell? ⟨w.heap.size, 0, none⟩ = some (.string (str w0)) := (hb3.cell (p := ⟨w.heap.size, 0, none⟩) (Nat.lt_of_lt_of_le (Nat.lt_succ_self _) HC2.out)).trans ((setOff w1 rb 7 _ 0 _ hne).trans c0)
        clear hb3 hin ho3
        go_wp2
        go_ret
        exact LnRet.good HK3.out (by rw [← HRR.out, if_pos HA.out, HI.out]; rfl) rfl HR4.out
      · have e1 := strB_no ha
        have HA := Lib.hid ha
        clear ha
        unfold wdA at e1
        go_enter Tryz.func19, Tryz.ntmps19
        go_wp2_with fail
        refine hsplit.mono ?_
        rintro e w1 ⟨rfl, rfl⟩
        go_wp2_with fail
        refine hin.mono ?_
        rintro e w3 ⟨⟨v3, rfl, ho3⟩, hb3⟩
        obtain ⟨A3, n3, c3, rfl⟩ := ho3.form
        have HR3 := Lib.hid (HR2.out.below hb3)
        have HR4 := Lib.hid (HR3.out.setAvgs (ho3.more HB2.out))
        have HK3 := Lib.hid ((HK2.out.trans (RKeep.ofW HB2.out hb3)).trans (RKeep.set_ B rb 0 w3 (.slice A3 n3 c3)))
        have r0 : w3.cell? ⟨rb, 0, none⟩ = some x.av := HR3.out.blk.cell 0
        have z0 : w3.frozen? ⟨rb, 0, none⟩ = false := HR3.out.blk.frozen 0
        have c3' : w3.cell? ⟨w.heap.size, 0, none⟩ = some (.string (str w0)) := (hb3.cell (p := ⟨w.heap.size, 0, none⟩) (Nat.lt_of_lt_of_le (Nat.lt_succ_self _) HC2.out)).trans ((setOff w1 rb 7 _ 0 _ hne).trans c0)
        clear hb3 hin ho3
        go_wp2
        go_ret
        exact LnRet.bad HK3.out (by rw [← HRR.out, if_neg HA.out]) rfl
    | cons v vs =>
      have HTL := Lib.hid (show RdL strS w1 (w.heap.size + 1) (.slice (some ⟨w.heap.size, 1, none⟩) (vs.length + 1) (vs.length + 1)) ((v :: vs).map str) from by
        have h := RdL.tail2 HW1.out
        rw [List.length_map] at h
        exact h)
      have hnz : ¬ vs.length + 1 = 0 := by omega
      have HR2 := Lib.hid (show RdrAt (w1.setCell ⟨rb, 7, none⟩ (.int .i64 1)) B rb mb x { st with part := 1 } from HR1.out.setPart 1)
      have HS2 := Lib.hid (RKeep.set_ B rb 7 w1 (.int .i64 1))
      have HK2 := Lib.hid (HK1.out.trans HS2.out)
      have HE2 := Lib.hid (HE1.out.keep HS2.out hg1 HRB.out)
      have HT2 := Lib.hid (HT1.out.keep HS2.out hg2 HRB.out)
      have hz2 : (w1.setCell ⟨rb, 7, none⟩ (.int .i64 1)).heap.size = w1.heap.size := set_size _ _ _
      have HC2 := Lib.hid (show w.heap.size + 1 ≤ (w1.setCell ⟨rb, 7, none⟩ (.int .i64 1)).heap.size by omega)
      have HB2 := Lib.hid (HR2.out.hB)
      clear hz2
      have hin := ints_any _ _ _ (v :: vs) (w1.setCell ⟨rb, 7, none⟩ (.int .i64 1)) (w.heap.size + 1) (HTL.out.offSet (i := 7) (by intro a ha; injection ha with ha; subst ha; exact hne) (.int .i64 1)) HC2.out (fun x hx => Nat.le_trans (HSZ.out x hx) hs) (by omega) HE2.out
      cases hi : intsL (v :: vs) with
      | none =>
        have HI := Lib.hid hi
        rw [hi] at hin
        clear hi
        go_enter Tryz.func19, Tryz.ntmps19
        go_wp2_with fail
        refine hsplit.mono ?_
        rintro e w1 ⟨rfl, rfl⟩
        go_wp2_with fail
        refine hin.mono ?_
        rintro e w3 ⟨rfl, hb3⟩
        have HR3 := Lib.hid (HR2.out.below hb3)
        have HK3 := Lib.hid ((HK2.out.trans (RKeep.ofW HB2.out hb3)).trans (RKeep.set_ B rb 0 w3 (.slice none 0 0)))
        have r0 : w3.cell? ⟨rb, 0, none⟩ = some x.av := HR3.out.blk.cell 0
        have z0 : w3.frozen? ⟨rb, 0, none⟩ = false := HR3.out.blk.frozen 0
        clear hb3 hin
        go_wp2
        go_ret
        exact LnRet.bad HK3.out (by rw [← HRR.out, HI.out]; split <;> rfl) rfl
      | some l =>
        have HI := Lib.hid hi
        rw [hi] at hin
        clear hi
        by_cases ha : w0 = wdA
        · have e1 := strB_yes ha
          have HA := Lib.hid ha
          clear ha
          unfold wdA at e1
          go_enter Tryz.func19, Tryz.ntmps19
          go_wp2_with fail
          refine hsplit.mono ?_
          rintro e w1 ⟨rfl, rfl⟩
          go_wp2_with fail
          refine hin.mono ?_
          rintro e w3 ⟨⟨v3, rfl, ho3⟩, hb3⟩
          obtain ⟨A3, n3, c3, rfl⟩ := ho3.form
          have HR3 := Lib.hid (HR2.out.below hb3)
          have HR4 := Lib.hid (HR3.out.setAvgs (ho3.more HB2.out))
          have HK3 := Lib.hid ((HK2.out.trans (RKeep.ofW HB2.out hb3)).trans (RKeep.set_ B rb 0 w3 (.slice A3 n3 c3)))
          have r0 : w3.cell? ⟨rb, 0, none⟩ = some x.av := HR3.out.blk.cell 0
          have z0 : w3.frozen? ⟨rb, 0, none⟩ = false := HR3.out.blk.frozen 0
          have c3' : w3.cell? ⟨w.heap.size, 0, none⟩ = some (.string (str w0)) := (hb3.cell (p := ⟨w.heap.size, 0, none⟩) (Nat.lt_of_lt_of_le (Nat.lt_succ_self _) HC2.out)).trans ((setOff w1 rb 7 _ 0 _ hne).trans c0)
          clear hb3 hin ho3
          go_wp2
          go_ret
          exact LnRet.good HK3.out (by rw [← HRR.out, if_pos HA.out, HI.out]; rfl) rfl HR4.out
        · have e1 := strB_no ha
          have HA := Lib.hid ha
          clear ha
          unfold wdA at e1
          go_enter Tryz.func19, Tryz.ntmps19
          go_wp2_with fail
          refine hsplit.mono ?_
          rintro e w1 ⟨rfl, rfl⟩
          go_wp2_with fail
          refine hin.mono ?_
          rintro e w3 ⟨⟨v3, rfl, ho3⟩, hb3⟩
          obtain ⟨A3, n3, c3, rfl⟩ := ho3.form
          have HR3 := Lib.hid (HR2.out.below hb3)
          have HR4 := Lib.hid (HR3.out.setAvgs (ho3.more HB2.out))
          have HK3 := Lib.hid ((HK2.out.trans (RKeep.ofW HB2.out hb3)).trans (RKeep.set_ B rb 0 w3 (.slice A3 n3 c3)))
          have r0 : w3.cell? ⟨rb, 0, none⟩ = some x.av := HR3.out.blk.cell 0
          have z0 : w3.frozen? ⟨rb, 0, none⟩ = false := HR3.out.blk.frozen 0
          have c3' : w3.cell? ⟨w.heap.size, 0, none⟩ = some (.string (str w0)) := (hb3.cell (p := ⟨w.heap.size, 0, none⟩) (Nat.lt_of_lt_of_le (Nat.lt_succ_self _) HC2.out)).trans ((setOff w1 rb 7 _ 0 _ hne).trans c0)
          clear hb3 hin ho3
          go_wp2
          go_ret
          exact LnRet.bad HK3.out (by rw [← HRR.out, if_neg HA.out]) rfl
  · have hpi : ¬ (st.part : Int) = 0 := by omega
    have hpb : ((st.part : Int) == 0) = false := by simpa using hpi
    go_enter Tryz.func19, Tryz.ntmps19
    go_wp2_with fail
    refine hsplit.mono ?_
    rintro e w1 ⟨rfl, rfl⟩
    go_upto_region 8 with (fail)
    go_cut [37] (fun sv wy => sv = .bool (decide (w0 = wdC ∧ 1 < ws.length ∧ st.part ≤ 2)) ∧ w1 = wy)
    case first =>
      by_cases a1 : w0 = wdC
      · have e1 := strB_yes a1
        have HA1 := Lib.hid a1
        clear a1
        unfold wdC at e1
        by_cases a2 : 1 < ws.length
        · have e2 : (2 : Int) < (ws.length : Int) + 1 := by omega
          by_cases a3 : st.part ≤ 2
          · have e3 : (st.part : Int) ≤ 2 := by omega
            go_wp2
            go_meet
            exact ⟨by rw [decide_eq_true (p := w0 = wdC ∧ 1 < ws.length ∧ st.part ≤ 2) ⟨HA1.out, a2, a3⟩], rfl⟩
          · have e3 : (2 : Int) < (st.part : Int) := by omega
            go_wp2
            go_meet
            exact ⟨by rw [decide_eq_false (p := w0 = wdC ∧ 1 < ws.length ∧ st.part ≤ 2) (fun h => a3 h.2.2)]; first | rfl | exact congrArg Value.bool (decide_eq_false (by omega)), rfl⟩
        · have e2 : (ws.length : Int) + 1 ≤ 2 := by omega
          go_wp2
          go_meet
          exact ⟨by rw [decide_eq_false (p := w0 = wdC ∧ 1 < ws.length ∧ st.part ≤ 2) (fun h => a2 h.2.1)], rfl⟩
      · have e1 := strB_no a1
        have HA1 := Lib.hid a1
        clear a1
        unfold wdC at e1
        go_wp2
        go_meet
        exact ⟨by rw [decide_eq_false (p := w0 = wdC ∧ 1 < ws.length ∧ st.part ≤ 2) (fun h => HA1.out h.1)], rfl⟩
    case rest =>
      obtain ⟨rfl, rfl⟩ := hcut
      by_cases hA : w0 = wdC ∧ 1 < ws.length ∧ st.part ≤ 2
      · rw [decide_eq_true hA]
        have HG := Lib.hid (show lineG st s w0 ws = (pCurR (s.drop 7)).map fun c => { st with curs := st.curs ++ [c], part := 2 } from by unfold lineG; rw [if_neg hp, if_pos hA])
        have hs7 : 7 ≤ (str s).size := by
          have h1 := l1 (by intro e; have := hA.2.1; rw [e] at this; simp at this)
          rw [hA.1] at h1
          rw [str_size]
          exact h1
        clear hA
        have HR2 := Lib.hid (show RdrAt (w1.setCell ⟨rb, 7, none⟩ (.int .i64 2)) B rb mb x { st with part := 2 } from HR1.out.setPart 2)
        have HS2 := Lib.hid (RKeep.set_ B rb 7 w1 (.int .i64 2))
        have HK2 := Lib.hid (HK1.out.trans HS2.out)
        have HE2 := Lib.hid (HE1.out.keep HS2.out hg1 HRB.out)
        have HT2 := Lib.hid (HT1.out.keep HS2.out hg2 HRB.out)
        have hz2 : (w1.setCell ⟨rb, 7, none⟩ (.int .i64 2)).heap.size = w1.heap.size := set_size _ _ _
        have HC2 := Lib.hid (show w.heap.size + 1 ≤ (w1.setCell ⟨rb, 7, none⟩ (.int .i64 2)).heap.size by omega)
        have HB2 := Lib.hid (HR2.out.hB)
        clear hz2
        have hsz7 : ((str s).extract 7 (str s).size).size ≤ 1000000000 := by rw [ByteArray.size_extract, str_size]; omega
        have hcall := cursor_any ((str s).extract 7 (str s).size) (w1.setCell ⟨rb, 7, none⟩ (.int .i64 2)) B rb mb x _ HR2.out hn1 hsz7 HE2.out
        rw [drop_data, str_data] at hcall
        clear hsz7
        go_wp2_with fail
        refine hcall.mono ?_
        intro e w3 hL
        have HL := Lib.hid (LnRet.trans HK2.out hL)
        rcases hr : pCurR (s.drop 7) with _ | c
        · rw [hr] at hL
          obtain ⟨-, rfl⟩ := hL
          have HRS := Lib.hid hr
          clear hr hcall
          go_wp2
          go_ret
          exact LnRet.bad HL.out.1 (by rw [HG.out, HRS.out]; rfl) rfl
        · rw [hr] at hL
          obtain ⟨-, rfl, x', hx'⟩ := hL
          have HX := Lib.hid hx'
          have HRS := Lib.hid hr
          clear hr hcall hx'
          go_wp2
          go_ret
          exact LnRet.good HL.out.1 (by rw [HG.out, HRS.out]; rfl) rfl HX.out
      · rw [decide_eq_false hA]
        go_upto_region 11 with (fail)
        go_cut [58] (fun sv wy => sv = .bool (decide (w0 = wdN ∧ 0 < ws.length ∧ st.part ≤ 3)) ∧ w1 = wy)
        case first =>
          by_cases a1 : w0 = wdN
          · have e1 := strB_yes a1
            have HA1 := Lib.hid a1
            clear a1
            unfold wdN at e1
            by_cases a2 : 0 < ws.length
            · have e2 : (1 : Int) < (ws.length : Int) + 1 := by omega
              by_cases a3 : st.part ≤ 3
              · have e3 : (st.part : Int) ≤ 3 := by omega
                go_wp2
                go_meet
                exact ⟨by rw [decide_eq_true (p := w0 = wdN ∧ 0 < ws.length ∧ st.part ≤ 3) ⟨HA1.out, a2, a3⟩], rfl⟩
              · have e3 : (3 : Int) < (st.part : Int) := by omega
                go_wp2
                go_meet
                exact ⟨by rw [decide_eq_false (p := w0 = wdN ∧ 0 < ws.length ∧ st.part ≤ 3) (fun h => a3 h.2.2)]; first | rfl | exact congrArg Value.bool (decide_eq_false (by omega)), rfl⟩
            · have e2 : (ws.length : Int) + 1 ≤ 1 := by omega
              go_wp2
              go_meet
              exact ⟨by rw [decide_eq_false (p := w0 = wdN ∧ 0 < ws.length ∧ st.part ≤ 3) (fun h => a2 h.2.1)], rfl⟩
          · have e1 := strB_no a1
            have HA1 := Lib.hid a1
            clear a1
            unfold wdN at e1
            go_wp2
            go_meet
            exact ⟨by rw [decide_eq_false (p := w0 = wdN ∧ 0 < ws.length ∧ st.part ≤ 3) (fun h => HA1.out h.1)], rfl⟩
        case rest =>
          obtain ⟨rfl, rfl⟩ := hcut
          by_cases hB : w0 = wdN ∧ 0 < ws.length ∧ st.part ≤ 3
          · rw [decide_eq_true hB]
            have HG := Lib.hid (show lineG st s w0 ws = (nearG ws).map fun n => { st with nears := st.nears ++ [n], part := 3 } from by unfold lineG; rw [if_neg hp, if_neg hA, if_pos hB])
            obtain ⟨v, vs, rfl⟩ : ∃ v vs, ws = v :: vs := by
              cases ws with
              | nil => exact absurd hB.2.1 (by simp)
              | cons v vs => exact ⟨v, vs, rfl⟩
            clear hB hA
            have HTL := Lib.hid (show RdL strS w1 (w.heap.size + 1) (.slice (some ⟨w.heap.size, 1, none⟩) (vs.length + 1) (vs.length + 1)) ((v :: vs).map str) from by
              have h := RdL.tail2 HW1.out
              rw [List.length_map] at h
              exact h)
            have hnz : ¬ vs.length + 1 = 0 := by omega
            have HR2 := Lib.hid (show RdrAt (w1.setCell ⟨rb, 7, none⟩ (.int .i64 3)) B rb mb x { st with part := 3 } from HR1.out.setPart 3)
            have HS2 := Lib.hid (RKeep.set_ B rb 7 w1 (.int .i64 3))
            have HK2 := Lib.hid (HK1.out.trans HS2.out)
            have HE2 := Lib.hid (HE1.out.keep HS2.out hg1 HRB.out)
            have HT2 := Lib.hid (HT1.out.keep HS2.out hg2 HRB.out)
            have hz2 : (w1.setCell ⟨rb, 7, none⟩ (.int .i64 3)).heap.size = w1.heap.size := set_size _ _ _
            have HC2 := Lib.hid (show w.heap.size + 1 ≤ (w1.setCell ⟨rb, 7, none⟩ (.int .i64 3)).heap.size by omega)
            have HB2 := Lib.hid (HR2.out.hB)
            clear hz2
            have hlv : vs.length ≤ 1000000001 := by simp only [List.length_cons] at l4; omega
            have hcall := near_any _ _ _ v vs (w1.setCell ⟨rb, 7, none⟩ (.int .i64 3)) (w.heap.size + 1) B rb mb (HTL.out.offSet (i := 7) (by intro a ha; injection ha with ha; subst ha; exact hne) (.int .i64 3)) HC2.out x _ HR2.out hn2 (Nat.le_trans (HSZ.out v List.mem_cons_self) hs) (fun y hy => Nat.le_trans (HSZ.out y (List.mem_cons_of_mem _ hy)) hs) hlv HE2.out
            clear hlv
            go_wp2_with fail
            refine hcall.mono ?_
            intro e w3 hL
            have HL := Lib.hid (LnRet.trans HK2.out hL)
            rcases hr : pNearR v vs with _ | c
            · rw [hr] at hL
              obtain ⟨-, rfl⟩ := hL
              have HRS := Lib.hid (show nearG (v :: vs) = none from hr)
              clear hr hcall
              go_wp2
              go_ret
              exact LnRet.bad HL.out.1 (by rw [HG.out, HRS.out]; rfl) rfl
            · rw [hr] at hL
              obtain ⟨-, rfl, x', hx'⟩ := hL
              have HX := Lib.hid hx'
              have HRS := Lib.hid (show nearG (v :: vs) = some c from hr)
              clear hr hcall hx'
              go_wp2
              go_ret
              exact LnRet.good HL.out.1 (by rw [HG.out, HRS.out]; rfl) rfl HX.out
          · rw [decide_eq_false hB]
            go_upto_region 14 with (fail)
            go_cut [79] (fun sv wy => sv = .bool (decide (s = wdE ∧ st.part < 4)) ∧ w1 = wy)
            case first =>
              by_cases a1 : s = wdE
              · have e1 := strB_yes a1
                have HA1 := Lib.hid a1
                clear a1
                unfold wdE at e1
                by_cases a3 : st.part < 4
                · have e3 : (st.part : Int) < 4 := by omega
                  go_wp2
                  go_meet
                  exact ⟨by rw [decide_eq_true (p := s = wdE ∧ st.part < 4) ⟨HA1.out, a3⟩], rfl⟩
                · have e3 : (4 : Int) ≤ (st.part : Int) := by omega
                  go_wp2
                  go_meet
                  exact ⟨by rw [decide_eq_false (p := s = wdE ∧ st.part < 4) (fun h => a3 h.2)]; first | rfl | exact congrArg Value.bool (decide_eq_false (by omega)), rfl⟩
              · have e1 := strB_no a1
                have HA1 := Lib.hid a1
                clear a1
                unfold wdE at e1
                go_wp2
                go_meet
                exact ⟨by rw [decide_eq_false (p := s = wdE ∧ st.part < 4) (fun h => HA1.out h.1)], rfl⟩
            case rest =>
              obtain ⟨rfl, rfl⟩ := hcut
              by_cases hC : s = wdE ∧ st.part < 4
              · rw [decide_eq_true hC]
                have HG := Lib.hid (show lineG st s w0 ws = some { st with all := true, part := 4 } from by unfold lineG; rw [if_neg hp, if_neg hA, if_neg hB, if_pos hC])
                clear hA hB hC
                have HR2 := Lib.hid (show RdrAt (w1.setCell ⟨rb, 7, none⟩ (.int .i64 4)) B rb mb x { st with part := 4 } from HR1.out.setPart 4)
                have HS2 := Lib.hid (RKeep.set_ B rb 7 w1 (.int .i64 4))
                have HK2 := Lib.hid (HK1.out.trans HS2.out)
                have HE2 := Lib.hid (HE1.out.keep HS2.out hg1 HRB.out)
                have HT2 := Lib.hid (HT1.out.keep HS2.out hg2 HRB.out)
                have hz2 : (w1.setCell ⟨rb, 7, none⟩ (.int .i64 4)).heap.size = w1.heap.size := set_size _ _ _
                have HC2 := Lib.hid (show w.heap.size + 1 ≤ (w1.setCell ⟨rb, 7, none⟩ (.int .i64 4)).heap.size by omega)
                have HB2 := Lib.hid (HR2.out.hB)
                clear hz2
                have HR3 := Lib.hid HR2.out.setAll
                have HK3 := Lib.hid (HK2.out.trans (RKeep.set_ B rb 3 (w1.setCell ⟨rb, 7, none⟩ (.int .i64 4)) (.bool true)))
                have r3 : (w1.setCell ⟨rb, 7, none⟩ (.int .i64 4)).cell? ⟨rb, 3, none⟩ = some (.bool st.all) := HR2.out.blk.cell 3
                have z3 : (w1.setCell ⟨rb, 7, none⟩ (.int .i64 4)).frozen? ⟨rb, 3, none⟩ = false := HR2.out.blk.frozen 3
                have r3' : w1.cell? ⟨rb, 3, none⟩ = some (.bool st.all) := HR1.out.blk.cell 3
                have z3' : w1.frozen? ⟨rb, 3, none⟩ = false := HR1.out.blk.frozen 3
                go_wp2
                go_ret
                exact LnRet.good HK3.out HG.out rfl HR3.out
              · rw [decide_eq_false hC]
                go_upto_region 18 with (fail)
                go_cut [93] (fun sv wy => sv = .bool (decide (w0 = wdD ∧ 0 < ws.length ∧ st.part < 5)) ∧ w1 = wy)
                case first =>
                  by_cases a1 : w0 = wdD
                  · have e1 := strB_yes a1
                    have HA1 := Lib.hid a1
                    clear a1
                    unfold wdD at e1
                    by_cases a2 : 0 < ws.length
                    · have e2 : (1 : Int) < (ws.length : Int) + 1 := by omega
                      by_cases a3 : st.part < 5
                      · have e3 : (st.part : Int) < 5 := by omega
                        go_wp2
                        go_meet
                        exact ⟨by rw [decide_eq_true (p := w0 = wdD ∧ 0 < ws.length ∧ st.part < 5) ⟨HA1.out, a2, a3⟩], rfl⟩
                      · have e3 : (5 : Int) ≤ (st.part : Int) := by omega
                        go_wp2
                        go_meet
                        exact ⟨by rw [decide_eq_false (p := w0 = wdD ∧ 0 < ws.length ∧ st.part < 5) (fun h => a3 h.2.2)]; first | rfl | exact congrArg Value.bool (decide_eq_false (by omega)), rfl⟩
                    · have e2 : (ws.length : Int) + 1 ≤ 1 := by omega
                      go_wp2
                      go_meet
                      exact ⟨by rw [decide_eq_false (p := w0 = wdD ∧ 0 < ws.length ∧ st.part < 5) (fun h => a2 h.2.1)], rfl⟩
                  · have e1 := strB_no a1
                    have HA1 := Lib.hid a1
                    clear a1
                    unfold wdD at e1
                    go_wp2
                    go_meet
                    exact ⟨by rw [decide_eq_false (p := w0 = wdD ∧ 0 < ws.length ∧ st.part < 5) (fun h => HA1.out h.1)], rfl⟩
                case rest =>
                  obtain ⟨rfl, rfl⟩ := hcut
                  by_cases hD : w0 = wdD ∧ 0 < ws.length ∧ st.part < 5
                  · rw [decide_eq_true hD]
                    have HG := Lib.hid (show lineG st s w0 ws = (intsL ws).map fun l => { st with drive := l, part := 5 } from by unfold lineG; rw [if_neg hp, if_neg hA, if_neg hB, if_neg hC, if_pos hD])
                    obtain ⟨v, vs, rfl⟩ : ∃ v vs, ws = v :: vs := by
                      cases ws with
                      | nil => exact absurd hD.2.1 (by simp)
                      | cons v vs => exact ⟨v, vs, rfl⟩
                    clear hD hA hB hC
                    have HTL := Lib.hid (show RdL strS w1 (w.heap.size + 1) (.slice (some ⟨w.heap.size, 1, none⟩) (vs.length + 1) (vs.length + 1)) ((v :: vs).map str) from by
                      have h := RdL.tail2 HW1.out
                      rw [List.length_map] at h
                      exact h)
                    have hnz : ¬ vs.length + 1 = 0 := by omega
                    have HR2 := Lib.hid (show RdrAt (w1.setCell ⟨rb, 7, none⟩ (.int .i64 5)) B rb mb x { st with part := 5 } from HR1.out.setPart 5)
                    have HS2 := Lib.hid (RKeep.set_ B rb 7 w1 (.int .i64 5))
                    have HK2 := Lib.hid (HK1.out.trans HS2.out)
                    have HE2 := Lib.hid (HE1.out.keep HS2.out hg1 HRB.out)
                    have HT2 := Lib.hid (HT1.out.keep HS2.out hg2 HRB.out)
                    have hz2 : (w1.setCell ⟨rb, 7, none⟩ (.int .i64 5)).heap.size = w1.heap.size := set_size _ _ _
                    have HC2 := Lib.hid (show w.heap.size + 1 ≤ (w1.setCell ⟨rb, 7, none⟩ (.int .i64 5)).heap.size by omega)
                    have HB2 := Lib.hid (HR2.out.hB)
                    clear hz2
                    have hin := ints_any _ _ _ (v :: vs) (w1.setCell ⟨rb, 7, none⟩ (.int .i64 5)) (w.heap.size + 1) (HTL.out.offSet (i := 7) (by intro a ha; injection ha with ha; subst ha; exact hne) (.int .i64 5)) HC2.out (fun x hx => Nat.le_trans (HSZ.out x hx) hs) (by omega) HE2.out
                    cases hi : intsL (v :: vs) with
                    | none =>
                      have HI := Lib.hid hi
                      rw [hi] at hin
                      clear hi
                      go_wp2_with fail
                      refine hin.mono ?_
                      rintro e w3 ⟨rfl, hb3⟩
                      have HR3 := Lib.hid (HR2.out.below hb3)
                      have HK3 := Lib.hid ((HK2.out.trans (RKeep.ofW HB2.out hb3)).trans (RKeep.set_ B rb 4 w3 (.slice none 0 0)))
                      have r0 : w3.cell? ⟨rb, 4, none⟩ = some x.dv := HR3.out.blk.cell 4
                      have z0 : w3.frozen? ⟨rb, 4, none⟩ = false := HR3.out.blk.frozen 4
                      clear hb3 hin
                      go_wp2
                      go_ret
                      exact LnRet.bad HK3.out (by rw [HG.out, HI.out]; rfl) rfl
                    | some l =>
                      have HI := Lib.hid hi
                      rw [hi] at hin
                      clear hi
                      go_wp2_with fail
                      refine hin.mono ?_
                      rintro e w3 ⟨⟨v3, rfl, ho3⟩, hb3⟩
                      obtain ⟨A3, n3, c3, rfl⟩ := ho3.form
                      have HR3 := Lib.hid (HR2.out.below hb3)
                      have HR4 := Lib.hid (HR3.out.setDrive (ho3.more HB2.out))
                      have HK3 := Lib.hid ((HK2.out.trans (RKeep.ofW HB2.out hb3)).trans (RKeep.set_ B rb 4 w3 (.slice A3 n3 c3)))
                      have r0 : w3.cell? ⟨rb, 4, none⟩ = some x.dv := HR3.out.blk.cell 4
                      have z0 : w3.frozen? ⟨rb, 4, none⟩ = false := HR3.out.blk.frozen 4
                      clear hb3 hin ho3
                      go_wp2
                      go_ret
                      exact LnRet.good HK3.out (by rw [HG.out, HI.out]; rfl) rfl HR4.out
                  · rw [decide_eq_false hD]
                    have HG := Lib.hid (show lineG st s w0 ws = (pInsR w0 ws).map fun c => { st with code := st.code ++ [c], part := 6 } from by unfold lineG; rw [if_neg hp, if_neg hA, if_neg hB, if_neg hC, if_neg hD])
                    clear hA hB hC hD
                    have HR2 := Lib.hid (show RdrAt (w1.setCell ⟨rb, 7, none⟩ (.int .i64 6)) B rb mb x { st with part := 6 } from HR1.out.setPart 6)
                    have HS2 := Lib.hid (RKeep.set_ B rb 7 w1 (.int .i64 6))
                    have HK2 := Lib.hid (HK1.out.trans HS2.out)
                    have HE2 := Lib.hid (HE1.out.keep HS2.out hg1 HRB.out)
                    have HT2 := Lib.hid (HT1.out.keep HS2.out hg2 HRB.out)
                    have hz2 : (w1.setCell ⟨rb, 7, none⟩ (.int .i64 6)).heap.size = w1.heap.size := set_size _ _ _
                    have HC2 := Lib.hid (show w.heap.size + 1 ≤ (w1.setCell ⟨rb, 7, none⟩ (.int .i64 6)).heap.size by omega)
                    have HB2 := Lib.hid (HR2.out.hB)
                    clear hz2
                    have hcall := instr_any _ _ _ w0 ws (w1.setCell ⟨rb, 7, none⟩ (.int .i64 6)) (w.heap.size + 1) B rb mb (HW1.out.offSet (i := 7) (by intro a ha; injection ha with ha; subst ha; exact hne) (.int .i64 6)) HC2.out x _ HR2.out hn3 (by omega) (fun y hy => Nat.le_trans (HSZ.out y hy) hs) (by omega) HE2.out HT2.out
                    go_wp2_with fail
                    refine hcall.mono ?_
                    intro e w3 hL
                    have HL := Lib.hid (LnRet.trans HK2.out hL)
                    rcases hr : pInsR w0 ws with _ | c
                    · rw [hr] at hL
                      obtain ⟨-, rfl⟩ := hL
                      have HRS := Lib.hid hr
                      clear hr hcall
                      go_wp2
                      go_ret
                      exact LnRet.bad HL.out.1 (by rw [HG.out, HRS.out]; rfl) rfl
                    · rw [hr] at hL
                      obtain ⟨-, rfl, x', hx'⟩ := hL
                      have HX := Lib.hid hx'
                      have HRS := Lib.hid hr
                      clear hr hcall hx'
                      go_wp2
                      go_ret
                      exact LnRet.good HL.out.1 (by rw [HG.out, HRS.out]; rfl) rfl HX.out
end Go.Proofs.YtmdpfikalekmlaaGreatDoor
