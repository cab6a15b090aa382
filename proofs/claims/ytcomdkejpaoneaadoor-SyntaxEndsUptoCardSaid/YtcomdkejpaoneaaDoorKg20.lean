/- Merged for a claim by shake.py: Hf Hg0 -/
import Derived.Test.YtcomdkejpaoneaaDoorKg19
section
namespace Go.Proofs.YtcomdkejpaoneaaDoor
open Go.RowKit
set_option maxRecDepth 100000
set_option maxHeartbeats 1000000
set_option linter.unusedSimpArgs false
set_option linter.unusedVariables false
theorem pc_len {row : List Lt} {i j : Nat} (hj : j ≤ row.length) : (pc row i j).length = j - i := by
  unfold pc; rw [List.length_take, List.length_drop]; omega
theorem pc_get {row : List Lt} {i j k : Nat} (hk : i + k < j) : (pc row i j)[k]? = row[i + k]? := by
  unfold pc
  rw [List.getElem?_take, if_pos (by omega), List.getElem?_drop]
theorem pc_take {row : List Lt} {i j k : Nat} (hk : i + k ≤ j) : (pc row i j).take k = pc row i (i + k) := by
  unfold pc
  rw [List.take_take, Nat.add_sub_cancel_left, Nat.min_eq_left (by omega)]
theorem pc_drop {row : List Lt} {i j k : Nat} : (pc row i j).drop k = pc row (i + k) j := by
  unfold pc
  rw [List.drop_take, List.drop_drop]
  congr 1
  omega
theorem pc_cons {row : List Lt} {i j : Nat} (hij : i < j) (hj : j ≤ row.length) : ∃ t, row[i]? = some t ∧ pc row i j = t :: pc row (i + 1) j := by
  have hi : i < row.length := by omega
  refine ⟨row[i], List.getElem?_eq_getElem hi, ?_⟩
  unfold pc
  rw [List.drop_eq_getElem_cons hi, show j - i = (j - (i + 1)) + 1 from by omega, List.take_succ_cons]
theorem pc_snoc {row : List Lt} {i j : Nat} (hij : i < j) (hj : j ≤ row.length) : ∃ t, row[j - 1]? = some t ∧ pc row i j = pc row i (j - 1) ++ [t] := by
  have hi : j - 1 < row.length := by omega
  refine ⟨row[j - 1], List.getElem?_eq_getElem hi, ?_⟩
  have h1 := List.take_append_drop (j - 1 - i) (pc row i j)
  rw [pc_take (by omega), pc_drop, show i + (j - 1 - i) = j - 1 from by omega] at h1
  rw [← h1]
  obtain ⟨t, ht, e⟩ := pc_cons (row := row) (i := j - 1) (j := j) (by omega) hj
  rw [List.getElem?_eq_getElem hi] at ht
  injection ht with ht
  rw [e, ht]
  have : pc row (j - 1 + 1) j = [] := by unfold pc; rw [show j - (j - 1 + 1) = 0 from by omega]; rfl
  rw [this]
def ptOf : Nat → Pt
  | 0 => .leaf | 1 => .group | 2 => .body | 3 => .atom | 4 => .piece | 5 => .unary | 6 => .maxes | 7 => .ands | 8 => .ors | 9 => .clause | _ => .list
def Shorter (row : List Lt) (n : Nat) (V : Nat → Nat → Nat → Nat) (s : Nat) : Prop := ∀ p a b, p < 11 → a < b → b ≤ n → b - a < s → IsW (ptOf p) (pc row a b) (V p a b)
section
variable {row : List Lt} {n i j : Nat} {V : Nat → Nat → Nat → Nat}
theorem isW_gr (hl : row.length = n + 1) (hij : i < j) (hj : j ≤ n) (hS : Shorter row n V (j - i)) : IsW .group (pc row i j) (grN row V i j) := by
  obtain ⟨o, ho, e⟩ := pc_cons (row := row) hij (by omega)
  rw [e]
  unfold grN
  rw [kd_at ho]
  by_cases h8 : o.kind = 8
  rotate_left
  · rw [if_neg h8]; exact isW_group_no h8
  rw [if_pos h8]
  have hlast : ∀ (A : List Lt) (c : Lt), pc row (i + 1) j = A ++ [c] → A ≠ [] → 3 ≤ j - i ∧ kd row (j - 1) = c.kind ∧ A = pc row (i + 1) (j - 1) := by
    intro A c hA hne
    have h1 := congrArg List.length hA
    rw [pc_len (by omega), List.length_append, List.length_singleton] at h1
    have h2 := List.length_pos_iff.2 hne
    obtain ⟨t, ht, e2⟩ := pc_snoc (row := row) (i := i + 1) (j := j) (by omega) (by omega)
    rw [e2] at hA
    have h3 := List.append_inj_right' hA rfl
    injection h3 with h3 _
    exact ⟨by omega, by rw [kd_at ht, h3], (List.append_inj_left' hA rfl).symm⟩
  have hlast2 : ∀ (A : List Lt) (c l : Lt), pc row (i + 1) j = A ++ [c, l] → A ≠ [] → 4 ≤ j - i ∧ kd row (j - 1) = l.kind ∧ kd row (j - 2) = c.kind ∧ A = pc row (i + 1) (j - 2) := by
    intro A c l hA hne
    rw [show A ++ [c, l] = (A ++ [c]) ++ [l] from by simp] at hA
    obtain ⟨h1, h2, h3⟩ := hlast (A ++ [c]) l hA (by simp)
    have h4 := congrArg List.length h3
    rw [pc_len (by omega), List.length_append, List.length_singleton] at h4
    have h5 := List.length_pos_iff.2 hne
    obtain ⟨t, ht, e2⟩ := pc_snoc (row := row) (i := i + 1) (j := j - 1) (by omega) (by omega)
    rw [e2] at h3
    have h6 := List.append_inj_right' h3 rfl
    injection h6 with h6 _
    refine ⟨by omega, h2, ?_, ?_⟩
    · rw [show j - 2 = j - 1 - 1 from by omega, kd_at ht, h6]
    · rw [show j - 2 = j - 1 - 1 from by omega]; exact List.append_inj_left' h3 rfl
  refine isW_group h8 ?_ ?_
  · by_cases h : 3 ≤ j - i ∧ kd row (j - 1) = 9
    · rw [if_pos h]
      obtain ⟨t, ht, e2⟩ := pc_snoc (row := row) (i := i + 1) (j := j) (by omega) (by omega)
      exact .inr ⟨_, t, e2, by rw [← kd_at ht]; exact h.2, hS 10 (i + 1) (j - 1) (by omega) (by omega) (by omega) (by omega)⟩
    · rw [if_neg h]
      refine .inl ⟨rfl, ?_⟩
      rintro ⟨A, c, hA, hc, hd⟩
      obtain ⟨h1, h2, _⟩ := hlast A c hA (dv_ne hd)
      exact h ⟨h1, by rw [h2]; exact hc⟩
  · by_cases h : 4 ≤ j - i ∧ kd row (j - 1) = 21 ∧ kd row (j - 2) = 9
    · rw [if_pos h]
      obtain ⟨t, ht, e2⟩ := pc_snoc (row := row) (i := i + 1) (j := j) (by omega) (by omega)
      obtain ⟨u, hu, e3⟩ := pc_snoc (row := row) (i := i + 1) (j := j - 1) (by omega) (by omega)
      rw [show j - 1 - 1 = j - 2 from by omega] at hu e3
      exact .inr ⟨_, u, t, by rw [e2, e3]; simp, by rw [← kd_at hu]; exact h.2.2, by rw [← kd_at ht]; exact h.2.1, hS 10 (i + 1) (j - 2) (by omega) (by omega) (by omega) (by omega)⟩
    · rw [if_neg h]
      refine .inl ⟨rfl, ?_⟩
      rintro ⟨A, c, l, hA, hc, hl21, hd⟩
      obtain ⟨h1, h2, h3, _⟩ := hlast2 A c l hA (dv_ne hd)
      exact h ⟨h1, by rw [h2]; exact hl21, by rw [h3]; exact hc⟩
theorem isW_at (hl : row.length = n + 1) (hij : i < j) (hj : j ≤ n) (hS : Shorter row n V (j - i)) (hb : IsW .body (pc row i j) (V 2 i j)) : IsW .atom (pc row i j) (atN row V i j) := by
  obtain ⟨w, hw, e⟩ := pc_cons (row := row) hij (by omega)
  unfold atN
  by_cases h2 : i + 1 < j
  rotate_left
  · have e1 : pc row (i + 1) j = [] := by unfold pc; rw [show j - (i + 1) = 0 from by omega]; rfl
    rw [if_neg (fun h => by omega), if_neg (fun h => by omega), Nat.add_zero]
    rw [e, e1] at hb ⊢
    exact isW_atom0 hb (fun t u r h => by injection h with _ h; cases h)
  obtain ⟨c, hc, e2⟩ := pc_cons (row := row) (i := i + 1) (j := j) h2 (by omega)
  rw [kd_at hw, kd_at hc, st_at hw]
  rw [e2] at e
  by_cases h14 : c.kind = 14
  rotate_left
  · rw [if_neg (fun h => h14 h.2.2), if_neg (fun h => h14 h.2.2.1), Nat.add_zero]
    rw [e] at hb ⊢
    exact isW_atom0 hb (fun t u r h => by injection h with _ h; injection h with h _; rw [← h]; exact h14)
  by_cases h1 : w.kind = 1
  · have hst : starT w = false := by unfold starT; rw [decide_eq_false (by omega), Bool.false_and]
    rw [if_neg (c := j - i = 3 ∧ _) (fun h => by rw [hst] at h; exact absurd h.2.1 (by decide)), Nat.add_zero]
    by_cases h3 : 3 ≤ j - i
    · rw [if_pos ⟨h3, h1, h14⟩]
      have hr := hS 2 (i + 1 + 1) j (by omega) (by omega) hj (by omega)
      rw [e] at hb ⊢
      exact isW_atom_field hb h14 h1 hr
    · rw [if_neg (fun h => h3 h.1)]
      have e3 : pc row (i + 1 + 1) j = [] := by unfold pc; rw [show j - (i + 1 + 1) = 0 from by omega]; rfl
      have hz : IsW .body (pc row (i + 1 + 1) j) 0 := by rw [e3]; exact .no fun h => dv_ne h rfl
      rw [e] at hb ⊢
      exact isW_atom_field hb h14 h1 hz
  · rw [if_neg (fun h => h1 h.2.1), Nat.add_zero]
    by_cases h3 : j - i = 3
    · obtain ⟨t, ht, e3⟩ := pc_cons (row := row) (i := i + 1 + 1) (j := j) (by omega) (by omega)
      have e4 : pc row (i + 1 + 1 + 1) j = [] := by unfold pc; rw [show j - (i + 1 + 1 + 1) = 0 from by omega]; rfl
      rw [e3, e4] at e
      rw [show i + 2 = i + 1 + 1 from rfl, st_at ht]
      by_cases hs : starT w = true ∧ starT t = true
      · rw [if_pos ⟨h3, hs.1, h14, hs.2⟩]
        rw [e] at hb ⊢
        exact isW_atom_all hb hs.1 h14 hs.2
      · rw [if_neg (fun h => hs ⟨h.2.1, h.2.2.2⟩), Nat.add_zero]
        rw [e] at hb ⊢
        exact isW_atom_no hb h14 h1 (fun ⟨t2, h, h5, h6⟩ => by injection h with h _; rw [← h] at h6; exact hs ⟨h5, h6⟩)
    · rw [if_neg (fun h => h3 h.1), Nat.add_zero]
      have hlen := pc_len (row := row) (i := i) (j := j) (by omega)
      rw [e] at hb ⊢
      refine isW_atom_no hb h14 h1 (fun ⟨t2, h, h5, h6⟩ => ?_)
      rw [e, h] at hlen
      simp at hlen; omega
def pcN (row : List Lt) (V : Nat → Nat → Nat → Nat) (i j : Nat) : Nat := V 3 i j + (if 2 ≤ j - i ∧ (kd row (j - 1) = 18 ∨ kd row (j - 1) = 19) then V 4 i (j - 1) else 0)
theorem isW_pcN (hl : row.length = n + 1) (hij : i < j) (hj : j ≤ n) (hS : Shorter row n V (j - i)) (hb : IsW .atom (pc row i j) (V 3 i j)) : IsW .piece (pc row i j) (pcN row V i j) := by
  obtain ⟨b, hb2, e⟩ := pc_snoc (row := row) hij (by omega)
  unfold pcN
  rw [kd_at hb2]
  by_cases hk : b.kind = 18 ∨ b.kind = 19
  rotate_left
  · rw [if_neg (fun h => hk h.2), Nat.add_zero]
    rw [e] at hb ⊢
    exact isW_piece0 hb (fun A c h => by
      have h3 := List.append_inj_right' h rfl
      injection h3 with h3 _
      rw [← h3]; omega)
  by_cases h2 : 2 ≤ j - i
  · rw [if_pos ⟨h2, hk⟩]
    have hr := hS 4 i (j - 1) (by omega) (by omega) (by omega) (by omega)
    rw [e] at hb ⊢
    exact isW_piece1 hb hk hr
  · rw [if_neg (fun h => h2 h.1)]
    have e3 : pc row i (j - 1) = [] := by unfold pc; rw [show j - 1 - i = 0 from by omega]; rfl
    have hz : IsW .piece (pc row i (j - 1)) 0 := by rw [e3]; exact .no fun h => dv_ne h rfl
    rw [e] at hb ⊢
    exact isW_piece1 hb hk hz
def unN (row : List Lt) (V : Nat → Nat → Nat → Nat) (i j x : Nat) : Nat := x + (if 2 ≤ j - i ∧ kd row i = 6 then V 5 (i + 1) j else 0)
theorem isW_unN (hl : row.length = n + 1) (hij : i < j) (hj : j ≤ n) (hS : Shorter row n V (j - i)) {x : Nat} (hb : IsW .piece (pc row i j) x) : IsW .unary (pc row i j) (unN row V i j x) := by
  obtain ⟨t, ht, e⟩ := pc_cons (row := row) hij (by omega)
  unfold unN
  rw [kd_at ht]
  by_cases hk : t.kind = 6
  rotate_left
  · rw [if_neg (fun h => hk h.2), Nat.add_zero]
    rw [e] at hb ⊢
    exact isW_unary0 hb hk
  by_cases h2 : 2 ≤ j - i
  · rw [if_pos ⟨h2, hk⟩]
    have hr := hS 5 (i + 1) j (by omega) (by omega) (by omega) (by omega)
    rw [e] at hb ⊢
    exact isW_unary1 hb hk hr
  · rw [if_neg (fun h => h2 h.1)]
    have e3 : pc row (i + 1) j = [] := by unfold pc; rw [show j - (i + 1) = 0 from by omega]; rfl
    have hz : IsW .unary (pc row (i + 1) j) 0 := by rw [e3]; exact .no fun h => dv_ne h rfl
    rw [e] at hb ⊢
    exact isW_unary1 hb hk hz
theorem isW_clN (hl : row.length = n + 1) (hij : i < j) (hj : j ≤ n) (hS : Shorter row n V (j - i)) (hb : IsW .ors (pc row i j) (V 8 i j)) : IsW .clause (pc row i j) (clN row V i j) := by
  obtain ⟨t, ht, e⟩ := pc_cons (row := row) hij (by omega)
  unfold clN
  rw [kd_at ht]
  by_cases hk : t.kind = 15 ∨ t.kind = 16
  rotate_left
  · rw [if_neg (fun h => hk h.2), Nat.add_zero]
    rw [e] at hb ⊢
    exact isW_clause0 hb (by omega)
  by_cases h2 : 2 ≤ j - i
  · rw [if_pos ⟨h2, hk⟩]
    have hr := hS 5 (i + 1) j (by omega) (by omega) (by omega) (by omega)
    rw [e] at hb ⊢
    exact isW_clause1 hb hk hr
  · rw [if_neg (fun h => h2 h.1)]
    have e3 : pc row (i + 1) j = [] := by unfold pc; rw [show j - (i + 1) = 0 from by omega]; rfl
    have hz : IsW .unary (pc row (i + 1) j) 0 := by rw [e3]; exact .no fun h => dv_ne h rfl
    rw [e] at hb ⊢
    exact isW_clause1 hb hk hz
theorem sumF_shift (f g : Nat → Nat) (a b n : Nat) (h : ∀ k, k < n → f (a + k) = g (b + k)) : sumF f a n = sumF g b n := by
  induction n with
  | zero => rfl
  | succ n ih => rw [sumF, sumF, ih fun k hk => h k (by omega), h n (by omega)]
theorem isW_chF {p q : Nat} {m : Int} (hp : p < 11) (hq : q < 11) (hc : ChOk (ptOf p) (ptOf q) m) (hl : row.length = n + 1) (hij : i < j) (hj : j ≤ n) (hS : Shorter row n V (j - i)) (hb : IsW (ptOf q) (pc row i j) (V q i j)) :
    IsW (ptOf p) (pc row i j) (V q i j + sumF (chF p q m row V i j) (i + 1) (j - 1 - (i + 1))) := by
  have hlen := pc_len (row := row) (i := i) (j := j) (by omega)
  have h := isW_chain hc (ts := pc row i j) hb (f := fun k => chF p q m row V i j (i + k)) (fun k hk1 hk2 => by
    rw [hlen] at hk2
    have hkr : i + k < row.length := by omega
    have ht : row[i + k]? = some row[i + k] := List.getElem?_eq_getElem hkr
    refine ⟨row[i + k], by rw [pc_get (by omega)]; exact ht, ?_⟩
    by_cases hk : row[i + k].kind = m
    · refine .inr ⟨hk, V p i (i + k), V q (i + k + 1) j, ?_, ?_, ?_⟩
      · rw [pc_take (by omega)]; exact hS p i (i + k) hp (by omega) (by omega) (by omega)
      · rw [pc_drop]; exact hS q (i + (k + 1)) j hq (by omega) hj (by omega)
      · show chF p q m row V i j (i + k) = _
        unfold chF
        rw [kd_at ht, if_pos hk]
    · refine .inl ⟨hk, ?_⟩
      show chF p q m row V i j (i + k) = 0
      unfold chF
      rw [kd_at ht, if_neg hk])
  rw [hlen] at h
  rw [show j - 1 - (i + 1) = j - i - 2 from by omega, ← sumF_shift (fun k => chF p q m row V i j (i + k)) (chF p q m row V i j) 1 (i + 1) (j - i - 2) (fun k _ => by show chF p q m row V i j (i + (1 + k)) = _; rw [Nat.add_assoc])]
  exact h
def lsF (V : Nat → Nat → Nat → Nat) (i j k : Nat) : Nat := V 10 i k * V 9 k j
theorem isW_lsN (hl : row.length = n + 1) (hij : i < j) (hj : j ≤ n) (hS : Shorter row n V (j - i)) (hb : IsW .clause (pc row i j) (V 9 i j)) :
    IsW .list (pc row i j) (V 9 i j + sumF (lsF V i j) (i + 1) (j - (i + 1))) := by
  have hlen := pc_len (row := row) (i := i) (j := j) (by omega)
  have h := isW_list (ts := pc row i j) hb (f := fun k => lsF V i j (i + k)) (fun k hk1 hk2 => by
    rw [hlen] at hk2
    refine ⟨V 10 i (i + k), V 9 (i + k) j, ?_, ?_, rfl⟩
    · rw [pc_take (by omega)]; exact hS 10 i (i + k) (by omega) (by omega) (by omega) (by omega)
    · rw [pc_drop]; exact hS 9 (i + k) j (by omega) (by omega) hj (by omega))
  rw [hlen] at h
  rw [show j - (i + 1) = j - i - 1 from by omega, ← sumF_shift (fun k => lsF V i j (i + k)) (lsF V i j) 1 (i + 1) (j - i - 1) (fun k _ => by show lsF V i j (i + (1 + k)) = _; rw [Nat.add_assoc])]
  exact h
end
end Go.Proofs.YtcomdkejpaoneaaDoor
end
section
namespace Go.Proofs.YtcomdkejpaoneaaDoor
open Go.RowKit
set_option maxRecDepth 100000
set_option maxHeartbeats 3000000
set_option linter.unusedSimpArgs false
set_option linter.unusedVariables false
def updV (V : Nat → Nat → Nat → Nat) (p i j x : Nat) : Nat → Nat → Nat → Nat := fun q a b => if q = p ∧ a = i ∧ b = j then x else V q a b
theorem updV_same (V : Nat → Nat → Nat → Nat) (p i j x : Nat) : updV V p i j x p i j = x := by unfold updV; rw [if_pos ⟨rfl, rfl, rfl⟩]
theorem updV_ne {V : Nat → Nat → Nat → Nat} {p i j x q a b : Nat} (h : ¬ (q = p ∧ a = i ∧ b = j)) : updV V p i j x q a b = V q a b := by unfold updV; rw [if_neg h]
section
variable {w : World} {B cb n cap : Nat} {A : Option Addr} {row : List Lt} {S : Nat → Addr} {K : Nat → Nat} {G : Nat → Nat → Addr} {V : Nat → Nat → Nat → Nat}
theorem ChAt.set_ (h : ChAt w B cb A cap row n S K G V) (p i j x : Nat) (hp : p < 11) (hi : i ≤ n) (hj : j ≤ n) : ChAt (w.setCell ((G p i).add j) (.int .i64 ((x : Nat) : Int))) B cb A cap row n S K G (updV V p i j x) := by
  have ea := h.addr p i j hp hi
  have hlt := h.lt p i hp hi
  rw [ea]
  have hcell : ∀ q : Addr, q.block ≠ (G p i).block → (w.setCell ⟨(G p i).block, j, none⟩ (.int .i64 ((x : Nat) : Int))).cell? q = w.cell? q := fun q hq => World.cell?_of_block (Below.heap_setCell w _ _ _ hq)
  refine ⟨⟨?_, ?_, h.row_.small⟩, h.len, h.base, ?_, ?_, ?_, h.plain, ?_, h.sep, h.ne⟩
  · rw [hcell _ (by show cb ≠ _; omega)]; exact h.row_.cell
  · exact h.row_.rd.below ((Below.refl B w).setCell (p := ⟨(G p i).block, j, none⟩) (by show B ≤ (G p i).block; have := h.base; omega) _)
  · intro q hq
    rw [hcell _ (by show cb ≠ _; omega)]; exact h.top q hq
  · intro q a hq ha
    rw [hcell _ (by rw [block_of_add]; exact h.sep q p i hq hp hi)]; exact h.mid q a hq ha
  · intro q a hq ha
    obtain ⟨cs, hb, hc⟩ := h.rows q a hq ha
    by_cases hqa : q = p ∧ a = i
    · obtain ⟨rfl, rfl⟩ := hqa
      refine ⟨_, hb.set_ j _, fun b hb2 => ?_⟩
      by_cases hbj : b = j
      · subst hbj
        rw [updV_same]
        have hl := (Array.getElem?_eq_some_iff.1 (hc b hb2)).1
        rw [Array.getElem?_setIfInBounds, if_pos rfl, if_pos hl]
      · rw [updV_ne (fun h => hbj h.2.2), Array.getElem?_setIfInBounds, if_neg (fun h => hbj h.symm)]
        exact hc b hb2
    · refine ⟨cs, hb.far (p := ⟨(G p i).block, j, none⟩) (h.ne q p a i hq hp ha hi (by omega)) _, fun b hb2 => ?_⟩
      rw [updV_ne (fun h => hqa ⟨h.1, h.2.1⟩)]
      exact hc b hb2
  · intro q a hq ha
    rw [show (w.setCell ⟨(G p i).block, j, none⟩ (.int .i64 ((x : Nat) : Int))).heap.size = w.heap.size from set_size _ _ _]
    exact h.lt q a hq ha
end
def FR (w0 : World) (B cb n cap : Nat) (A : Option Addr) (row : List Lt) (S : Nat → Addr) (K : Nat → Nat) (G : Nat → Nat → Addr) (V0 : Nat → Nat → Nat → Nat) (i j m : Nat) (W : World) : Prop :=
  ∃ V, ChAt W B cb A cap row n S K G V ∧ (∀ p a b, ¬ (a = i ∧ b = j) → V p a b = V0 p a b) ∧ (∀ p, p < m → IsW (ptOf p) (pc row i j) (V p i j)) ∧ (∀ p a b, V p a b ≤ 1) ∧ Below cb w0 W
section
variable {w0 W : World} {B cb n cap : Nat} {A : Option Addr} {row : List Lt} {S : Nat → Addr} {K : Nat → Nat} {G : Nat → Nat → Addr} {V0 V : Nat → Nat → Nat → Nat} {i j m x : Nat}
theorem Shorter.to (h : Shorter row n V0 (j - i)) (hV : ∀ p a b, ¬ (a = i ∧ b = j) → V p a b = V0 p a b) : Shorter row n V (j - i) := by
  intro p a b hp hab hb hlt
  rw [hV p a b (by omega)]
  exact h p a b hp hab hb hlt
theorem FR.mk' (h1 : ChAt W B cb A cap row n S K G V) (h2 : ∀ p a b, ¬ (a = i ∧ b = j) → V p a b = V0 p a b) (h3 : ∀ p, p < m → IsW (ptOf p) (pc row i j) (V p i j)) (h4 : ∀ p a b, V p a b ≤ 1) (h5 : Below cb w0 W) (hm : m < 11) (hi : i ≤ n) (hj : j ≤ n) (hx : IsW (ptOf m) (pc row i j) x) :
    FR w0 B cb n cap A row S K G V0 i j (m + 1) (W.setCell ((G m i).add j) (.int .i64 ((x : Nat) : Int))) := by
  refine ⟨updV V m i j x, h1.set_ m i j x hm hi hj, fun p a b h => ?_, fun p hp => ?_, fun p a b => ?_, ?_⟩
  · rw [updV_ne (fun h6 => h ⟨h6.2.1, h6.2.2⟩)]; exact h2 p a b h
  · by_cases hpm : p = m
    · subst hpm; rw [updV_same]; exact hx
    · rw [updV_ne (fun h6 => hpm h6.1)]; exact h3 p (by omega)
  · unfold updV
    split
    · exact hx.le
    · exact h4 p a b
  · exact h5.setCell (by rw [block_of_add]; have := (h1.lt m i hm hi).1; omega) _
theorem FR.drewN (h : FR w0 B cb n cap A row S K G V0 i j m W) (z : Nat) : FR w0 B cb n cap A row S K G V0 i j m (W.drewN z) := by
  obtain ⟨V, h1, h2, h3, h4, h5⟩ := h
  exact ⟨V, h1.drewN z, h2, h3, h4, below_drewN h5 z⟩
theorem FR.drew (h : FR w0 B cb n cap A row S K G V0 i j m W) : FR w0 B cb n cap A row S K G V0 i j m W.drew := h.drewN 1
end
theorem leaves_all {w : World} {B cb n cap : Nat} {A : Option Addr} {row : List Lt} {S : Nat → Addr} {K : Nat → Nat} {G : Nat → Nat → Addr} {V : Nat → Nat → Nat → Nat} (h : ChAt w B cb A cap row n S K G V) (i j : Nat) (hij : i < j) (hj : j ≤ n) :
    Calls Tryd.prog 63 #[.pointer (some ⟨cb, 0, none⟩), .int .i64 (i : Int), .int .i64 (j : Int)] w fun e w' => e = .returned (.int .i64 ((leafN (pc row i j) : Nat) : Int)) ∧ w' = w := by
  have hl := h.len
  have hsm := h.row_.small
  obtain ⟨s, rfl⟩ : ∃ s, j = i + s := ⟨j - i, by omega⟩
  have hlen := pc_len (row := row) (i := i) (j := i + s) (by omega)
  rw [Nat.add_sub_cancel_left] at hlen
  have hg : ∀ k, k < s → (pc row i (i + s))[k]? = row[i + k]? := fun k hk => pc_get (by omega)
  by_cases h1 : s = 1
  · subst h1
    obtain ⟨t, e⟩ := List.length_eq_one_iff.1 hlen
    rw [e] at hg ⊢
    have g0 := (hg 0 (by omega)).symm
    exact leaves_1 h.row_ i t g0
  by_cases h2 : s = 2
  · subst h2
    match hp : pc row i (i + 2), hlen, hg with
    | [t, u], _, hg => exact leaves_2 h.row_ i t u (hg 0 (by omega)).symm (hg 1 (by omega)).symm
  by_cases h5 : s = 5
  · subst h5
    match hp : pc row i (i + 5), hlen, hg with
    | [a, b, c, d, e_], _, hg => exact leaves_5 h.row_ i a b c d e_ (hg 0 (by omega)).symm (hg 1 (by omega)).symm (hg 2 (by omega)).symm (hg 3 (by omega)).symm (hg 4 (by omega)).symm
  · have h0 : leafN (pc row i (i + s)) = 0 := by
      match hp : pc row i (i + s), hlen with
      | [], _ => rfl
      | [_], hlen => exact absurd hlen.symm h1
      | [_, _], hlen => exact absurd hlen.symm h2
      | [_, _, _], _ => rfl
      | [_, _, _, _], _ => rfl
      | [_, _, _, _, _], hlen => exact absurd hlen.symm h5
      | _ :: _ :: _ :: _ :: _ :: _ :: _, _ => rfl
    rw [h0]
    exact leaves_0 cb i s (by omega) (by omega) h1 h2 h5
end Go.Proofs.YtcomdkejpaoneaaDoor
end
