/- Layer 20, plainly: one listing, one program. -/
import Derived.Test.YtmdpfikalekmlaaGreatDoorPm
import Derived.Test.YtmdpfikalekmlaaGreatDoorTh
namespace Go.Proofs.YtmdpfikalekmlaaGreatDoor
open Go.RowKit
set_option maxRecDepth 100000
set_option linter.unusedSimpArgs false
set_option linter.unusedVariables false

theorem sep_inj {s : UInt8} : ∀ {a a' b b' : List UInt8}, s ∉ a → s ∉ a' → a ++ s :: b = a' ++ s :: b' → a = a' ∧ b = b'
  | [], [], b, b', _, _, h => ⟨rfl, by simpa using h⟩
  | [], x :: a', b, b', _, h2, h => by
    simp only [List.nil_append, List.cons_append, List.cons.injEq] at h
    exact absurd (by rw [h.1]; exact List.mem_cons_self) h2
  | x :: a, [], b, b', h1, _, h => by
    simp only [List.nil_append, List.cons_append, List.cons.injEq] at h
    exact absurd (by rw [← h.1]; exact List.mem_cons_self) h1
  | x :: a, y :: a', b, b', h1, h2, h => by
    simp only [List.cons_append, List.cons.injEq] at h
    obtain ⟨e1, e2⟩ := sep_inj (fun h3 => h1 (List.mem_cons_of_mem _ h3)) (fun h3 => h2 (List.mem_cons_of_mem _ h3)) h.2
    exact ⟨by rw [h.1, e1], e2⟩
def unlS (s : UInt8) (l : List (List UInt8)) : List UInt8 := l.flatMap fun x => x ++ [s]
theorem unlS_cons (s : UInt8) (x : List UInt8) (l : List (List UInt8)) : unlS s (x :: l) = x ++ s :: unlS s l := by simp [unlS]
theorem unlS_inj {s : UInt8} {l l' : List (List UInt8)} (h : ∀ x ∈ l, s ∉ x) (h' : ∀ x ∈ l', s ∉ x) (e : unlS s l = unlS s l') : l = l' := by
  induction l generalizing l' with
  | nil =>
    cases l' with
    | nil => rfl
    | cons y l' => rw [unlS_cons] at e; simp [unlS] at e
  | cons x l ih =>
    cases l' with
    | nil => rw [unlS_cons] at e; simp [unlS] at e
    | cons y l' =>
      rw [unlS_cons, unlS_cons] at e
      obtain ⟨e1, e2⟩ := sep_inj (h x List.mem_cons_self) (h' y List.mem_cons_self) e
      rw [e1, ih (fun z hz => h z (List.mem_cons_of_mem _ hz)) (fun z hz => h' z (List.mem_cons_of_mem _ hz)) e2]
theorem flat_unlS {α : Type} (s : UInt8) (f : α → List UInt8) (l : List α) : (l.flatMap fun x => s :: f x) ++ [s] = s :: unlS s (l.map f) := by
  induction l with
  | nil => rfl
  | cons x l ih => rw [List.flatMap_cons, List.append_assoc, ih, List.map_cons, unlS_cons, List.cons_append]
theorem flat_inj {α : Type} {s : UInt8} {f : α → List UInt8} {l l' : List α} (h : ∀ x ∈ l, s ∉ f x) (h' : ∀ x ∈ l', s ∉ f x) (e : (l.flatMap fun x => s :: f x) = l'.flatMap fun x => s :: f x) : l.map f = l'.map f := by
  have e2 := congrArg (· ++ [s]) e
  simp only [flat_unlS] at e2
  injection e2 with _ e2
  refine unlS_inj ?_ ?_ e2
  · intro x hx; obtain ⟨y, hy, rfl⟩ := List.mem_map.1 hx; exact h y hy
  · intro x hx; obtain ⟨y, hy, rfl⟩ := List.mem_map.1 hx; exact h' y hy
/-- The value of digits. -/
def undgt (l : List UInt8) : Nat := l.foldl (fun v c => 10 * v + (c.toNat - 48)) 0
theorem dgt_small {n : Nat} (h : n < 10) : dgt n = [UInt8.ofNat (48 + n)] := by unfold dgt; rw [Lib.decDigits, dif_pos h]
theorem dgt_big {n : Nat} (h : ¬ n < 10) : dgt n = dgt (n / 10) ++ [UInt8.ofNat (48 + n % 10)] := by unfold dgt; rw [Lib.decDigits, dif_neg h]
theorem dig_nat {d : Nat} (h : d < 10) : (UInt8.ofNat (48 + d)).toNat = 48 + d := by rw [UInt8.toNat_ofNat']; exact Nat.mod_eq_of_lt (by omega)
theorem undgt_dgt (n : Nat) : undgt (dgt n) = n := by
  induction n using Nat.strongRecOn with
  | ind n ih =>
    by_cases h : n < 10
    · rw [dgt_small h]; unfold undgt; simp only [List.foldl_cons, List.foldl_nil]; rw [dig_nat h]; omega
    · rw [dgt_big h]
      have := ih (n / 10) (by omega)
      unfold undgt at this ⊢
      rw [List.foldl_append, this]
      simp only [List.foldl_cons, List.foldl_nil]
      rw [dig_nat (by omega)]; omega
theorem dgt_inj {n m : Nat} (h : dgt n = dgt m) : n = m := by rw [← undgt_dgt n, h, undgt_dgt]
theorem dgt_mem (n : Nat) : ∀ c ∈ dgt n, 48 ≤ c.toNat ∧ c.toNat ≤ 57 := by
  induction n using Nat.strongRecOn with
  | ind n ih =>
    intro c hc
    by_cases h : n < 10
    · rw [dgt_small h] at hc
      obtain rfl := List.mem_singleton.1 hc
      rw [dig_nat h]; omega
    · rw [dgt_big h] at hc
      rcases List.mem_append.1 hc with hc | hc
      · exact ih (n / 10) (by omega) c hc
      · obtain rfl := List.mem_singleton.1 hc
        rw [dig_nat (by omega)]; omega
theorem dgt_not {n : Nat} {s : UInt8} (h : s.toNat < 48 ∨ 57 < s.toNat) : s ∉ dgt n := fun hm => by have := dgt_mem n s hm; omega
theorem numC_inj {x y : Int} (hx : 0 ≤ x) (hy : 0 ≤ y) (h : numC x = numC y) : x = y := by have := dgt_inj h; omega
theorem numC_not {x : Int} {s : UInt8} (h : s.toNat < 48 ∨ 57 < s.toNat) : s ∉ numC x := dgt_not h
theorem map_inj {α β : Type} {f : α → β} : ∀ {l l' : List α}, (∀ x ∈ l, ∀ y ∈ l', f x = f y → x = y) → l.map f = l'.map f → l = l'
  | [], [], _, _ => rfl
  | [], _ :: _, _, h => by cases h
  | _ :: _, [], _, h => by cases h
  | x :: l, y :: l', h, e => by
    simp only [List.map_cons, List.cons.injEq] at e
    rw [h x List.mem_cons_self y List.mem_cons_self e.1, map_inj (fun a ha b hb => h a (List.mem_cons_of_mem _ ha) b (List.mem_cons_of_mem _ hb)) e.2]
theorem neg_all {l : List Int} (h : neg l = false) : ∀ x ∈ l, 0 ≤ x := neg_false h
theorem lineL_inj {w : List UInt8} {l l' : List Int} (h : neg l = false) (h' : neg l' = false) (e : lineL w l = lineL w l') : l = l' := by
  unfold lineL at e
  have e2 := List.append_cancel_left e
  exact map_inj (fun x hx y hy => numC_inj (neg_false h x hx) (neg_false h' y hy)) (flat_inj (fun x _ => numC_not (by decide)) (fun x _ => numC_not (by decide)) e2)
theorem hexC_cases (n : Nat) (h : n < 16) : (hexC n).toNat = (if n < 10 then 48 + n else 87 + n) := by
  unfold hexC; rw [UInt8.toNat_ofNat']; split <;> exact Nat.mod_eq_of_lt (by omega)
theorem hexC_inj {n m : Nat} (hn : n < 16) (hm : m < 16) (h : hexC n = hexC m) : n = m := by
  have h1 := hexC_cases n hn
  have h2 := hexC_cases m hm
  rw [h] at h1
  split at h1 <;> split at h2 <;> omega
theorem plainC_not92 {b : UInt8} (h : plainC b = true) : b ≠ 92 := by unfold plainC at h; simp at h; exact h.2
theorem quoF_inj : ∀ {a b : List UInt8}, a.flatMap quoC = b.flatMap quoC → a = b
  | [], [], _ => rfl
  | [], y :: b, h => by
    rw [List.flatMap_cons] at h; unfold quoC at h; split at h <;> simp at h
  | x :: a, [], h => by
    rw [List.flatMap_cons] at h; unfold quoC at h; split at h <;> simp at h
  | x :: a, y :: b, h => by
    rw [List.flatMap_cons, List.flatMap_cons] at h
    by_cases hx : plainC x = true
    · by_cases hy : plainC y = true
      · have e1 : quoC x = [x] := by unfold quoC; rw [if_pos hx]
        have e2 : quoC y = [y] := by unfold quoC; rw [if_pos hy]
        rw [e1, e2] at h
        simp only [List.cons_append, List.nil_append, List.cons.injEq] at h
        rw [h.1, quoF_inj h.2]
      · have e1 : quoC x = [x] := by unfold quoC; rw [if_pos hx]
        have e2 : quoC y = [92, hexC (y.toNat / 16), hexC (y.toNat % 16)] := by unfold quoC; rw [if_neg hy]
        rw [e1, e2] at h
        simp only [List.cons_append, List.nil_append, List.cons.injEq] at h
        exact absurd h.1 (plainC_not92 hx)
    · have e1 : quoC x = [92, hexC (x.toNat / 16), hexC (x.toNat % 16)] := by unfold quoC; rw [if_neg hx]
      by_cases hy : plainC y = true
      · have e2 : quoC y = [y] := by unfold quoC; rw [if_pos hy]
        rw [e1, e2] at h
        simp only [List.cons_append, List.nil_append, List.cons.injEq] at h
        exact absurd h.1.symm (plainC_not92 hy)
      · have e2 : quoC y = [92, hexC (y.toNat / 16), hexC (y.toNat % 16)] := by unfold quoC; rw [if_neg hy]
        rw [e1, e2] at h
        simp only [List.cons_append, List.nil_append, List.cons.injEq, true_and] at h
        have hx2 := x.toNat_lt
        have hy2 := y.toNat_lt
        have h1 := hexC_inj (by omega) (by omega) h.1
        have h2 := hexC_inj (by omega) (by omega) h.2.1
        have hxy : x = y := UInt8.toNat_inj.1 (by omega)
        rw [hxy, quoF_inj h.2.2]
theorem quoL_inj {a b : List UInt8} (h : quoL a = quoL b) : a = b := by
  unfold quoL at h
  injection h with _ h
  exact quoF_inj (List.append_cancel_right h)
theorem hexC_big {n : Nat} (h : n < 16) : 48 ≤ (hexC n).toNat := by rw [hexC_cases n h]; split <;> omega
theorem quoF_ge (t : List UInt8) : ∀ c ∈ t.flatMap quoC, 32 ≤ c.toNat := by
  intro c hc
  obtain ⟨b, hb, hc⟩ := List.mem_flatMap.1 hc
  unfold quoC at hc
  split at hc
  · rename_i h
    obtain rfl := List.mem_singleton.1 hc
    unfold plainC at h; simp at h; exact h.1.1.1
  · have := b.toNat_lt
    simp only [List.mem_cons, List.not_mem_nil, or_false] at hc
    rcases hc with rfl | rfl | rfl
    · decide
    · exact Nat.le_trans (by decide) (hexC_big (n := b.toNat / 16) (by omega))
    · exact Nat.le_trans (by decide) (hexC_big (n := b.toNat % 16) (by omega))
theorem quoL_ge (t : List UInt8) : ∀ c ∈ quoL t, 32 ≤ c.toNat := by
  intro c hc
  unfold quoL at hc
  rcases List.mem_cons.1 hc with rfl | hc
  · decide
  · rcases List.mem_append.1 hc with hc | hc
    · exact quoF_ge t c hc
    · obtain rfl := List.mem_singleton.1 hc; decide
theorem numC_ge (x : Int) : ∀ c ∈ numC x, 32 ≤ c.toNat := fun c hc => by have := dgt_mem _ c hc; omega
theorem lineL_ge {w : List UInt8} (hw : ∀ c ∈ w, 32 ≤ c.toNat) (l : List Int) : ∀ c ∈ lineL w l, 32 ≤ c.toNat := by
  intro c hc
  unfold lineL at hc
  rcases List.mem_append.1 hc with hc | hc
  · exact hw c hc
  · obtain ⟨x, _, hc⟩ := List.mem_flatMap.1 hc
    rcases List.mem_cons.1 hc with rfl | hc
    · decide
    · exact numC_ge x c hc
theorem curL_ge (c : Lf) : ∀ x ∈ curL c, 32 ≤ x.toNat := by
  intro x hx
  unfold curL at hx
  simp only [List.mem_append, List.mem_singleton] at hx
  rcases hx with (hx | rfl) | hx
  · exact lineL_ge (by decide) _ x hx
  · decide
  · exact quoL_ge _ x hx
theorem pairL_ge (p : Int × Int) : ∀ x ∈ pairL p, 32 ≤ x.toNat := by
  intro x hx
  unfold pairL at hx
  simp only [List.mem_append, List.mem_singleton] at hx
  rcases hx with ((rfl | hx) | rfl) | hx
  · decide
  · exact numC_ge _ x hx
  · decide
  · exact numC_ge _ x hx
theorem nearL_ge (n : Nr) : ∀ x ∈ nearL n, 32 ≤ x.toNat := by
  intro x hx
  unfold nearL at hx
  rcases List.mem_append.1 hx with hx | hx
  · exact lineL_ge (by decide) _ x hx
  · obtain ⟨p, _, hx⟩ := List.mem_flatMap.1 hx
    exact pairL_ge p x hx
theorem opName_ge (i : Nat) : ∀ x ∈ opName i, 33 ≤ x.toNat := by
  rcases Nat.lt_or_ge i 17 with h | h
  · have : ∀ j, j < 17 → ∀ x ∈ opName j, 33 ≤ x.toNat := by decide
    exact this i h
  · unfold opName
    rw [List.getD_eq_getElem?_getD, List.getElem?_eq_none (by rw [opTab_len]; exact h)]
    intro x hx; cases hx
theorem opt_ge (n : Nat) (P : Prop) [Decidable P] : ∀ x ∈ (if P then 32 :: dgt n else []), 32 ≤ x.toNat := by
  intro x hx
  split at hx
  · rcases List.mem_cons.1 hx with rfl | hx
    · decide
    · have := dgt_mem _ x hx; omega
  · cases hx
theorem insL_ge (i : Ins) : ∀ x ∈ insL i, 32 ≤ x.toNat := by
  intro x hx
  unfold insL at hx
  rcases List.mem_append.1 hx with hx | hx
  · rcases List.mem_append.1 hx with hx | hx
    · have := opName_ge _ x hx; omega
    · exact opt_ge _ _ x hx
  · exact opt_ge _ _ x hx
theorem linesL_ge (p : Pg) (code : List Ins) : ∀ l ∈ linesL p code, (10 : UInt8) ∉ l := by
  intro l hl hm
  have key : ∀ x ∈ l, 32 ≤ x.toNat := by
    unfold linesL headL at hl
    simp only [List.mem_append, List.mem_map, List.mem_singleton] at hl
    rcases hl with ((((rfl | ⟨c, _, rfl⟩) | ⟨n, _, rfl⟩) | hl) | hl) | ⟨i, _, rfl⟩
    · exact lineL_ge (by decide) _
    · exact curL_ge c
    · exact nearL_ge n
    · split at hl
      · obtain rfl := List.mem_singleton.1 hl; decide
      · cases hl
    · split at hl
      · obtain rfl := List.mem_singleton.1 hl; exact lineL_ge (by decide) _
      · cases hl
    · exact insL_ge i
  exact absurd (key 10 hm) (by decide)
theorem unl_unlS (l : List (List UInt8)) : unl l = unlS 10 l := rfl
/-- A line's first word. -/
def wordL (l : List UInt8) : List UInt8 := l.takeWhile fun c => decide (c ≠ 32)
theorem wordL_sep {w : List UInt8} (hw : ∀ c ∈ w, 33 ≤ c.toNat) (r : List UInt8) : wordL (w ++ 32 :: r) = w := by
  unfold wordL
  rw [List.takeWhile_append_of_pos (fun c hc => by have := hw c hc; simp; rintro rfl; exact absurd this (by decide))]
  simp
theorem wordL_end {w : List UInt8} (hw : ∀ c ∈ w, 33 ≤ c.toNat) : wordL w = w := by
  have := List.takeWhile_append_of_pos (p := fun c => decide (c ≠ (32 : UInt8))) (l₁ := w) (l₂ := []) (fun c hc => by have := hw c hc; simp; rintro rfl; exact absurd this (by decide))
  simpa [wordL] using this
theorem wordL_line {w : List UInt8} (hw : ∀ c ∈ w, 33 ≤ c.toNat) (l : List Int) : wordL (lineL w l) = w := by
  unfold lineL
  cases l with
  | nil => simpa using wordL_end hw
  | cons x l => rw [List.flatMap_cons, List.cons_append]; exact wordL_sep hw _
theorem wordL_cur (c : Lf) : wordL (curL c) = [99, 117, 114, 115, 111, 114] := by
  have : curL c = [99, 117, 114, 115, 111, 114] ++ 32 :: (numC c.field ++ [32] ++ quoL c.term) := by simp [curL, lineL]
  rw [this]; exact wordL_sep (by decide) _
theorem wordL_near (n : Nr) : wordL (nearL n) = [110, 101, 97, 114] := by
  have : nearL n = [110, 101, 97, 114] ++ 32 :: (numC n.slop ++ (n.cur.zip n.off).flatMap pairL) := by simp [nearL, lineL]
  rw [this]; exact wordL_sep (by decide) _
theorem opArgs_one {i : Nat} (h : 1 < opArgs i) : 0 < opArgs i := by omega
theorem wordL_ins (x : Ins) : wordL (insL x) = opName x.op.toNat := by
  unfold insL
  by_cases h : 0 < opArgs x.op.toNat
  · rw [if_pos h, List.append_assoc, List.cons_append]; exact wordL_sep (opName_ge _) _
  · rw [if_neg h, if_neg (fun h2 => h (opArgs_one h2)), List.append_nil, List.append_nil]; exact wordL_end (opName_ge _)
theorem insL_inj {x y : Ins} (hx : insOk x = true) (hy : insOk y = true) (h : insL x = insL y) : x = y := by
  obtain ⟨ox, ax, bx⟩ := x
  obtain ⟨oy, ay, yb⟩ := y
  have hw := congrArg wordL h
  rw [wordL_ins, wordL_ins] at hw
  unfold insOk at hx hy
  simp only [] at hx hy hw
  split at hx
  · cases hx
  · rename_i n hn
    split at hy
    · cases hy
    · rename_i m hm
      have hn' := argsN_some hn
      have hm' := argsN_some hm
      have hall : ∀ i, i < 17 → ∀ j, j < 17 → opName i = opName j → i = j := by decide
      have hij := hall ox.toNat (by omega) oy.toNat (by omega) hw
      obtain rfl : ox = oy := by omega
      obtain rfl : n = m := by have := hn.symm.trans hm; injection this
      unfold insL at h
      simp only [hn'.2.2.1] at h
      rw [List.append_assoc, List.append_assoc] at h
      have h2 := List.append_cancel_left h
      simp only [Bool.and_eq_true, Bool.or_eq_true, decide_eq_true_eq] at hx hy
      have h3 : n = 0 ∨ n = 1 ∨ n = 2 := by omega
      rcases h3 with rfl | rfl | rfl
      · have e1 : ax = 0 := by simpa using hx.1
        have e2 : bx = 0 := by simpa using hx.2
        have e3 : ay = 0 := by simpa using hy.1
        have e4 : yb = 0 := by simpa using hy.2
        rw [e1, e2, e3, e4]
      · have e2 : bx = 0 := by simpa using hx.2
        have e4 : yb = 0 := by simpa using hy.2
        have h4 : dgt ax = dgt ay := by simpa using h2
        rw [e2, e4, dgt_inj h4]
      · have h4 : dgt ax ++ 32 :: dgt bx = dgt ay ++ 32 :: dgt yb := by simpa using h2
        obtain ⟨e1, e2⟩ := sep_inj (dgt_not (by decide)) (dgt_not (by decide)) h4
        rw [dgt_inj e1, dgt_inj e2]
theorem curL_inj {x y : Lf} (hx : 0 ≤ x.field) (hy : 0 ≤ y.field) (h : curL x = curL y) : x = y := by
  have e : ∀ c : Lf, curL c = [99, 117, 114, 115, 111, 114, 32] ++ (numC c.field ++ 32 :: quoL c.term) := fun c => by simp [curL, lineL]
  rw [e, e] at h
  obtain ⟨e1, e2⟩ := sep_inj (numC_not (by decide)) (numC_not (by decide)) (List.append_cancel_left h)
  obtain ⟨fx, tx⟩ := x
  obtain ⟨fy, ty⟩ := y
  have h1 := numC_inj hx hy e1
  have h2 := quoL_inj e2
  simp only [] at h1 h2
  rw [h1, h2]
theorem zip_inj {a a' b b' : List Int} (h : a.length = b.length) (h' : a'.length = b'.length) (e : a.zip b = a'.zip b') : a = a' ∧ b = b' := by
  have e1 := congrArg (List.map Prod.fst) e
  have e2 := congrArg (List.map Prod.snd) e
  rw [List.map_fst_zip (by omega), List.map_fst_zip (by omega)] at e1
  rw [List.map_snd_zip (by omega), List.map_snd_zip (by omega)] at e2
  exact ⟨e1, e2⟩
theorem okN_and {n : Nr} (h : okN n = true) : 0 ≤ n.slop ∧ neg n.cur = false ∧ neg n.off = false ∧ n.cur.length = n.off.length := by
  unfold okN at h
  simp only [Bool.and_eq_true, Bool.not_eq_true', decide_eq_true_eq] at h
  exact ⟨h.1.1.1, h.1.1.2, h.1.2, h.2⟩
theorem nearL_inj {x y : Nr} (hx : okN x = true) (hy : okN y = true) (h : nearL x = nearL y) : x = y := by
  obtain ⟨h1, h2, h3, h4⟩ := okN_and hx
  obtain ⟨g1, g2, g3, g4⟩ := okN_and hy
  obtain ⟨sx, cx, ox⟩ := x
  obtain ⟨sy, cy, oy⟩ := y
  simp only [] at h1 h2 h3 h4 g1 g2 g3 g4
  have e : ∀ n : Nr, nearL n ++ [32] = [110, 101, 97, 114, 32] ++ (numC n.slop ++ 32 :: unlS 32 ((n.cur.zip n.off).map fun p => numC p.1 ++ 43 :: numC p.2)) := fun n => by
    have := flat_unlS 32 (fun p : Int × Int => numC p.1 ++ 43 :: numC p.2) (n.cur.zip n.off)
    rw [← this]
    have hp : (fun p : Int × Int => 32 :: (numC p.1 ++ 43 :: numC p.2)) = pairL := by funext p; simp [pairL]
    rw [hp]
    simp [nearL, lineL]
  have h5 := congrArg (· ++ [32]) h
  simp only [e] at h5
  obtain ⟨e1, e2⟩ := sep_inj (numC_not (by decide)) (numC_not (by decide)) (List.append_cancel_left h5)
  have hno : ∀ (l : List (Int × Int)), ∀ x ∈ l.map (fun p => numC p.1 ++ 43 :: numC p.2), (32 : UInt8) ∉ x := by
    intro l x hx hm
    obtain ⟨p, _, rfl⟩ := List.mem_map.1 hx
    rcases List.mem_append.1 hm with hm | hm
    · exact numC_not (by decide) hm
    · rcases List.mem_cons.1 hm with hm | hm
      · exact absurd hm (by decide)
      · exact numC_not (by decide) hm
  have e3 := unlS_inj (hno _) (hno _) e2
  have e4 : cx.zip ox = cy.zip oy := by
    refine map_inj ?_ e3
    rintro ⟨a, b⟩ hp ⟨a', b'⟩ hq hpq
    have m1 := List.of_mem_zip hp
    have m2 := List.of_mem_zip hq
    obtain ⟨k1, k2⟩ := sep_inj (numC_not (by decide)) (numC_not (by decide)) hpq
    rw [numC_inj (neg_false h2 _ m1.1) (neg_false g2 _ m2.1) k1, numC_inj (neg_false h3 _ m1.2) (neg_false g3 _ m2.2) k2]
  obtain ⟨k1, k2⟩ := zip_inj h4 g4 e4
  have k3 : sx = sy := numC_inj h1 g1 e1
  rw [k1, k2, k3]
theorem okP_and {p : Pg} (h : okP p = true) : neg p.avgs = false ∧ neg p.drive = false ∧ (∀ c ∈ p.curs, 0 ≤ c.field) ∧ ∀ n ∈ p.nears, okN n = true := by
  unfold okP at h
  simp only [Bool.and_eq_true, Bool.not_eq_true', List.all_eq_true, decide_eq_true_eq] at h
  exact ⟨h.1.1.1, h.1.1.2, h.1.2, h.2⟩
def ofWord (w : List UInt8) (l : List (List UInt8)) : List (List UInt8) := l.filter fun x => decide (wordL x = w)
theorem ofWord_append (w : List UInt8) (a b : List (List UInt8)) : ofWord w (a ++ b) = ofWord w a ++ ofWord w b := by simp [ofWord]
theorem ofWord_all {w : List UInt8} {l : List (List UInt8)} (h : ∀ x ∈ l, wordL x = w) : ofWord w l = l := by
  unfold ofWord; rw [List.filter_eq_self]; intro x hx; simp [h x hx]
theorem ofWord_none {w : List UInt8} {l : List (List UInt8)} (h : ∀ x ∈ l, wordL x ≠ w) : ofWord w l = [] := by
  unfold ofWord; rw [List.filter_eq_nil_iff]; intro x hx; simp [h x hx]
def wdA : List UInt8 := [97, 118, 103, 115]
def wdC : List UInt8 := [99, 117, 114, 115, 111, 114]
def wdN : List UInt8 := [110, 101, 97, 114]
def wdE : List UInt8 := [101, 118, 101, 114, 121]
def wdD : List UInt8 := [100, 114, 105, 118, 101]
theorem wordL_e (b : Bool) : ∀ x ∈ (if b = true then [[101, 118, 101, 114, 121]] else ([] : List (List UInt8))), wordL x = wdE := by
  intro x hx; split at hx
  · obtain rfl := List.mem_singleton.1 hx; rfl
  · cases hx
theorem wordL_d (l : List Int) : ∀ x ∈ (if l ≠ [] then [lineL [100, 114, 105, 118, 101] l] else ([] : List (List UInt8))), wordL x = wdD := by
  intro x hx; split at hx
  · obtain rfl := List.mem_singleton.1 hx; exact wordL_line (by decide) _
  · cases hx
theorem opName_not (i : Nat) : opName i ≠ wdA ∧ opName i ≠ wdC ∧ opName i ≠ wdN ∧ opName i ≠ wdE ∧ opName i ≠ wdD := by
  rcases Nat.lt_or_ge i 17 with h | h
  · have : ∀ j, j < 17 → opName j ≠ wdA ∧ opName j ≠ wdC ∧ opName j ≠ wdN ∧ opName j ≠ wdE ∧ opName j ≠ wdD := by decide
    exact this i h
  · unfold opName
    rw [List.getD_eq_getElem?_getD, List.getElem?_eq_none (by rw [opTab_len]; exact h)]
    decide
/-- The lines by their first words. -/
theorem lines_parts (p : Pg) (code : List Ins) :
    ofWord wdA (linesL p code) = [lineL wdA p.avgs] ∧ ofWord wdC (linesL p code) = p.curs.map curL ∧ ofWord wdN (linesL p code) = p.nears.map nearL ∧
    ofWord wdE (linesL p code) = (if p.all = true then [[101, 118, 101, 114, 121]] else []) ∧ ofWord wdD (linesL p code) = (if p.drive ≠ [] then [lineL [100, 114, 105, 118, 101] p.drive] else []) ∧
    linesL p code = headL p ++ code.map insL := by
  have a : ∀ x ∈ [lineL [97, 118, 103, 115] p.avgs], wordL x = wdA := by intro x hx; obtain rfl := List.mem_singleton.1 hx; exact wordL_line (by decide) _
  have c : ∀ x ∈ p.curs.map curL, wordL x = wdC := by intro x hx; obtain ⟨y, _, rfl⟩ := List.mem_map.1 hx; exact wordL_cur y
  have n : ∀ x ∈ p.nears.map nearL, wordL x = wdN := by intro x hx; obtain ⟨y, _, rfl⟩ := List.mem_map.1 hx; exact wordL_near y
  have e := wordL_e p.all
  have d := wordL_d p.drive
  have i : ∀ x ∈ code.map insL, ∃ y : Nat, wordL x = opName y := by intro x hx; obtain ⟨y, _, rfl⟩ := List.mem_map.1 hx; exact ⟨_, wordL_ins y⟩
  have no : ∀ {w w' : List UInt8} {l : List (List UInt8)}, (∀ x ∈ l, wordL x = w) → w ≠ w' → ∀ x ∈ l, wordL x ≠ w' := fun h hw x hx hx2 => hw ((h x hx).symm.trans hx2)
  refine ⟨?_, ?_, ?_, ?_, ?_, rfl⟩ <;> unfold linesL headL <;> simp only [ofWord_append]
  · rw [ofWord_all a, ofWord_none (no c (by decide)), ofWord_none (no n (by decide)), ofWord_none (no e (by decide)), ofWord_none (no d (by decide)), ofWord_none (fun x hx hx2 => by obtain ⟨y, hy⟩ := i x hx; exact (opName_not y).1 (hy.symm.trans hx2))]
    simp; rfl
  · rw [ofWord_none (no a (by decide)), ofWord_all c, ofWord_none (no n (by decide)), ofWord_none (no e (by decide)), ofWord_none (no d (by decide)), ofWord_none (fun x hx hx2 => by obtain ⟨y, hy⟩ := i x hx; exact (opName_not y).2.1 (hy.symm.trans hx2))]
    simp
  · rw [ofWord_none (no a (by decide)), ofWord_none (no c (by decide)), ofWord_all n, ofWord_none (no e (by decide)), ofWord_none (no d (by decide)), ofWord_none (fun x hx hx2 => by obtain ⟨y, hy⟩ := i x hx; exact (opName_not y).2.2.1 (hy.symm.trans hx2))]
    simp
  · rw [ofWord_none (no a (by decide)), ofWord_none (no c (by decide)), ofWord_none (no n (by decide)), ofWord_all e, ofWord_none (no d (by decide)), ofWord_none (fun x hx hx2 => by obtain ⟨y, hy⟩ := i x hx; exact (opName_not y).2.2.2.1 (hy.symm.trans hx2))]
    simp
  · rw [ofWord_none (no a (by decide)), ofWord_none (no c (by decide)), ofWord_none (no n (by decide)), ofWord_none (no e (by decide)), ofWord_all d, ofWord_none (fun x hx hx2 => by obtain ⟨y, hy⟩ := i x hx; exact (opName_not y).2.2.2.2 (hy.symm.trans hx2))]
    simp
theorem textP_get {p : Pg} {s : List UInt8} (h : textP p = some s) : ∃ code, decI p.code = some code ∧ okP p = true ∧ s = unl (linesL p code) := by
  unfold textP at h
  split at h
  · rename_i code hc
    split at h
    · rename_i ho
      injection h with h
      exact ⟨code, hc, ho, h.symm⟩
    · cases h
  · cases h
/-- One listing, one program. -/
theorem textP_inj {p q : Pg} {s : List UInt8} (hp : textP p = some s) (hq : textP q = some s) : p = q := by
  obtain ⟨cp, dp, op, ep⟩ := textP_get hp
  obtain ⟨cq, dq, oq, eq⟩ := textP_get hq
  have hl : linesL p cp = linesL q cq := unlS_inj (s := 10) (linesL_ge p cp) (linesL_ge q cq) (by rw [← unl_unlS, ← unl_unlS, ← ep, eq])
  obtain ⟨a1, a2, a3, a4, a5, a6⟩ := lines_parts p cp
  obtain ⟨b1, b2, b3, b4, b5, b6⟩ := lines_parts q cq
  obtain ⟨k1, k2, k3, k4⟩ := okP_and op
  obtain ⟨m1, m2, m3, m4⟩ := okP_and oq
  have e1 : p.avgs = q.avgs := by
    rw [hl, b1] at a1
    injection a1 with a1
    exact lineL_inj k1 m1 a1.symm
  have e2 : p.curs = q.curs := map_inj (fun x hx y hy => curL_inj (k3 x hx) (m3 y hy)) (by rw [← a2, ← b2, hl])
  have e3 : p.nears = q.nears := map_inj (fun x hx y hy => nearL_inj (k4 x hx) (m4 y hy)) (by rw [← a3, ← b3, hl])
  have e4 : p.all = q.all := by
    rw [hl, b4] at a4
    cases hpa : p.all <;> cases hqa : q.all <;> simp [hpa, hqa] at a4 ⊢
  have e5 : p.drive = q.drive := by
    rw [hl, b5] at a5
    by_cases hd : p.drive = []
    · by_cases hd' : q.drive = []
      · rw [hd, hd']
      · rw [if_pos hd', if_neg (by simp [hd])] at a5; cases a5
    · by_cases hd' : q.drive = []
      · rw [if_neg (by simp [hd']), if_pos hd] at a5; cases a5
      · rw [if_pos hd', if_pos hd] at a5
        injection a5 with a5
        exact lineL_inj k2 m2 a5.symm
  have e6 : headL p = headL q := by unfold headL; rw [e1, e2, e3, e4, e5]
  have e7 : cp = cq := by
    rw [a6, b6, e6] at hl
    refine map_inj (fun x hx y hy => insL_inj ?_ ?_) (List.append_cancel_left hl)
    · exact List.all_eq_true.1 (encI_decI dp).1 x hx
    · exact List.all_eq_true.1 (encI_decI dq).1 y hy
  have e8 : p.code = q.code := decI_inj dp (by rw [e7]; exact dq)
  obtain ⟨x1, x2, x3, x4, x5, x6⟩ := p
  obtain ⟨y1, y2, y3, y4, y5, y6⟩ := q
  simp only [] at e1 e2 e3 e4 e5 e8
  rw [e1, e2, e3, e4, e5, e8]
theorem textP_ne {p : Pg} {s : List UInt8} (h : textP p = some s) : s ≠ [] := by
  obtain ⟨code, _, _, rfl⟩ := textP_get h
  unfold linesL headL unl
  simp [lineL]
end Go.Proofs.YtmdpfikalekmlaaGreatDoor
