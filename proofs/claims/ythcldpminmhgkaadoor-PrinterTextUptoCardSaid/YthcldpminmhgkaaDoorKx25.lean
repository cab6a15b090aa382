/- Merged for a claim by shake.py: Jy Ja Jb Je -/
import Derived.Test.YthcldpminmhgkaaDoorKxA
import Derived.Carry
import Derived.Deep.AppendLies
import Derived.Deep.RegionLaw
import Derived.Laws.CopyOwn
import Derived.Laws.MakeOwn
import Derived.Laws.OwnMore
import Derived.Lib.AppendStr
import Derived.OpenShut
import Derived.ShutString
import Derived.Test.YthcldpminmhgkaaDoorKx1
import Derived.Test.YthcldpminmhgkaaDoorKx2
import Derived.Test.YthcldpminmhgkaaDoorKx22
import Derived.Test.YthcldpminmhgkaaDoorKx23
import Derived.Test.YthcldpminmhgkaaDoorKx24
import Derived.Test.YthcldpminmhgkaaDoorKx3
import Derived.Test.YthcldpminmhgkaaDoorKx6
import Derived.Test.YthcldpminmhgkaaDoorKx7
import Derived.Test.YthcldpminmhgkaaDoorRows
set_option maxRecDepth 100000
set_option linter.unusedSimpArgs false
set_option linter.unusedVariables false
set_option maxHeartbeats 4000000
section
namespace Go.Proofs.YthcldpminmhgkaaDoor
theorem can_mk {kind : Int} {field text : List UInt8} {n : Int} {lo hi : Bd} {occ : List Int} {ks : List Nd} (h : ∀ k ∈ ks, CanN k) (h2 : ks.length = 1 → ¬ (kind = 10 ∨ kind = 11 ∨ kind = 12 ∨ (kind = 9 ∧ n = 0 ∧ occ[0]? = some 0))) : CanN (.mk kind field text n lo hi occ ks) := by
 unfold CanN
 have e : canonNs ks = ks := by
  rw [canonNs_map]
  have : ks.map canonN = ks.map id := List.map_congr_left h
  rw [this, List.map_id]
 rw [canonN, e]
 rcases canTop_cases kind field text n lo hi occ ks with ⟨c, hc, hk, _⟩ | ⟨_, e2⟩
 ·exact absurd hk (h2 (by rw [hc]; rfl))
 ·exact e2
def GC (t : Nd) : Prop := goodN t = true ∧ CanN t
theorem gc_leaf {kind n : Int} {f text : List UInt8} {lo hi : Bd} (h : ownN kind f text n lo hi [] 0 = true) : GC (.mk kind f text n lo hi [] []) :=
 ⟨by rw [goodN, Bool.and_eq_true]; exact ⟨h, rfl⟩, can_mk (fun k hk => by cases hk) (fun e => by cases e)⟩
theorem own_word {f s : List UInt8} (h : s ≠ []) : ownN 1 f s 0 bd0 bd0 [] 0 = true := by
 unfold ownN
 cases s with
 | nil => exact absurd rfl h
 | cons c t => rfl
theorem own_prefix {f s : List UInt8} (h : s ≠ []) : ownN 3 f s 0 bd0 bd0 [] 0 = true := by
 unfold ownN
 cases s with
 | nil => exact absurd rfl h
 | cons c t => rfl
theorem numB_mk {n : Int} (h : 0 ≤ n) (h2 : n ≤ 999999999) : numB n = true := numB_iff.2 ⟨h, h2⟩
theorem own_quo {f s : List UInt8} {n : Int} (h : 0 ≤ n) (h2 : n ≤ 999999999) : ownN 2 f s n bd0 bd0 [] 0 = true := by
 unfold ownN
 rw [if_neg (by decide), if_pos rfl, numB_mk h h2]; rfl
theorem own_fuzzy {f s : List UInt8} {n : Int} (h : s ≠ []) (hn : n = 1 ∨ n = 2) : ownN 5 f s n bd0 bd0 [] 0 = true := by
 unfold ownN
 rcases hn with rfl | rfl <;> (cases s with
  | nil => exact absurd rfl h
  | cons c t => rfl)
theorem own_wild {f s : List UInt8} (h : wildB s = true) : ownN 4 f s 0 bd0 bd0 [] 0 = true := by
 unfold ownN
 rw [if_neg (by decide), if_neg (by decide), if_pos rfl, h]; rfl
theorem side_ok (t : Lt) (i : Bool) : (sideN t i).ok = true := by
 unfold sideN
 split <;> rfl
theorem own_span {f : List UInt8} {lo hi : Bd} (h : lo.ok = true) (h2 : hi.ok = true) : ownN 6 f [] 0 lo hi [] 0 = true := by
 unfold ownN
 rw [if_neg (by decide), if_neg (by decide), if_neg (by decide), if_neg (by decide), if_pos rfl, h, h2]; rfl
theorem goodNs_of {l : List Nd} (h : ∀ t ∈ l, GC t) : goodNs l = true := (goodNs_all l).2 fun t ht => (h t ht).1
theorem gc_kids {kind n : Int} {ks : List Nd} (h : ∀ t ∈ ks, GC t) (hk : (kind = 10 ∨ kind = 11 ∨ kind = 12) ∧ n = 0 ∧ 2 ≤ ks.length ∨ (kind = 13 ∧ n = 0 ∧ ks.length = 1) ∨ ((kind = 14 ∨ kind = 15) ∧ 0 ≤ n ∧ n ≤ 999999999 ∧ ks.length = 1)) : GC (ndKids kind n ks) := by
 unfold ndKids
 refine ⟨?_, can_mk (fun t ht => (h t ht).2) (fun e => ?_)⟩
 ·rw [goodN, Bool.and_eq_true]
  refine ⟨?_, goodNs_of h⟩
  unfold ownN
  rcases hk with ⟨hk, rfl, hl⟩ | ⟨rfl, rfl, hl⟩ | ⟨hk, h1, h2, hl⟩
  ·rw [if_neg (by omega), if_neg (by omega), if_neg (by omega), if_neg (by omega), if_neg (by omega), if_neg (by omega), if_neg (by omega), if_neg (by omega), if_pos hk, decide_eq_true (show 0 < ks.length by omega)]; rfl
  ·rw [if_neg (by omega), if_neg (by omega), if_neg (by omega), if_neg (by omega), if_neg (by omega), if_neg (by omega), if_neg (by omega), if_neg (by omega), if_neg (by omega), if_pos rfl, hl]; rfl
  ·rw [if_neg (by omega), if_neg (by omega), if_neg (by omega), if_neg (by omega), if_neg (by omega), if_neg (by omega), if_neg (by omega), if_neg (by omega), if_neg (by omega), if_neg (by omega), if_pos hk, hl, numB_mk h1 h2]; rfl
 ·rcases hk with ⟨hk, rfl, hl⟩ | ⟨rfl, rfl, hl⟩ | ⟨hk, h1, h2, hl⟩ <;> omega
def OKs (l : List (Int × Nd)) : Prop := ∀ x ∈ l, GC x.2 ∧ 0 ≤ x.1 ∧ x.1 ≤ 2
theorem gc_list {n : Int} {l : List (Int × Nd)} (h : OKs l) (h0 : l ≠ []) (hn : 0 ≤ n) (hn2 : n ≤ 999999999) (h1 : n = 0 → l.length = 1 → ∀ x ∈ l, x.1 ≠ 0) : GC (ndList n l) := by
 unfold ndList
 refine ⟨?_, can_mk (fun t ht => ?_) (fun e => ?_)⟩
 ·rw [goodN, Bool.and_eq_true]
  refine ⟨?_, goodNs_of fun t ht => ?_⟩
  ·unfold ownN
   have ho : occB (l.map (·.1)) = true := by
    unfold occB
    rw [List.all_eq_true]
    intro o ho
    obtain ⟨x, hx, rfl⟩ := List.mem_map.1 ho
    have := (h x hx).2
    rw [Bool.and_eq_true, decide_eq_true_eq, decide_eq_true_eq]; exact this
   have hlen : 0 < l.length := List.length_pos_iff.2 h0
   rw [if_neg (by decide), if_neg (by decide), if_neg (by decide), if_neg (by decide), if_neg (by decide), if_neg (by decide), if_neg (by decide), if_pos rfl, numB_mk hn hn2, ho, List.length_map, List.length_map, decide_eq_true (rfl : l.length = l.length), decide_eq_true hlen]; rfl
  ·obtain ⟨x, hx, rfl⟩ := List.mem_map.1 ht
   exact (h x hx).1
 ·obtain ⟨x, hx, rfl⟩ := List.mem_map.1 ht
  exact (h x hx).1.2
 ·rintro (hh | hh | hh | ⟨_, hz, ho⟩)
  ·omega
  ·omega
  ·omega
  ·rw [List.length_map] at e
   obtain ⟨x, rfl⟩ := List.length_eq_one_iff.1 e
   have := h1 hz rfl x List.mem_cons_self
   simp at ho
   exact this ho
theorem bump_mono (t : Nd) {m k : Nat} (h : m ≤ k) : bump t m ≤ bump t k := by
 unfold bump
 split <;> split <;> omega
theorem bump_at {t : Nd} {m : Nat} (h : m ≤ levN t) : bump t m = nestN t := by unfold bump; rw [if_neg (by omega)]; rfl
theorem bump_le (t : Nd) (m : Nat) : bump t m ≤ nestN t + 1 := by unfold bump; split <;> omega
theorem nest_le_bump (t : Nd) (m : Nat) : nestN t ≤ bump t m := by unfold bump; omega
theorem nestNs_le {kind : Int} {N : Nat} : ∀ (l : List (Int × Nd)), (∀ x ∈ l, bump x.2 (barK kind x.1) ≤ N) → nestNs kind (l.map (·.1)) (l.map (·.2)) ≤ N
 | [], _ => by rw [List.map_nil, List.map_nil, nestNs]; exact Nat.zero_le _
 | x :: l, h => by
  rw [List.map_cons, List.map_cons, nestNs_cons]
  have h1 := h x List.mem_cons_self
  have h2 := nestNs_le l (fun y hy => h y (List.mem_cons_of_mem _ hy))
  simp only [List.headD_cons, List.tail_cons]
  omega
theorem nestNs_nil {kind : Int} {N m : Nat} (hb : ∀ o, barK kind o = m) : ∀ (l : List Nd) (occ : List Int), (∀ t ∈ l, bump t m ≤ N) → nestNs kind occ l ≤ N
 | [], occ, _ => by rw [nestNs]; exact Nat.zero_le _
 | x :: l, occ, h => by
  rw [nestNs_cons, hb]
  have h1 := h x List.mem_cons_self
  have h2 := nestNs_nil hb l occ.tail (fun y hy => h y (List.mem_cons_of_mem _ hy))
  omega
def Part (p : Pt) (n : Nat) (l : List (Int × Nd)) : Prop := match p with
 | .leaf | .group | .body | .atom => ∃ t, l = [(0, t)] ∧ GC t ∧ bump t 6 ≤ n
 | .piece => ∃ t, l = [(0, t)] ∧ GC t ∧ bump t 5 ≤ n
 | .unary => ∃ t, l = [(0, t)] ∧ GC t ∧ bump t 4 ≤ n
 | .maxes => l ≠ [] ∧ ∀ x ∈ l, x.1 = 0 ∧ GC x.2 ∧ bump x.2 4 ≤ n
 | .ands => l ≠ [] ∧ ∀ x ∈ l, x.1 = 0 ∧ GC x.2 ∧ bump x.2 3 ≤ n
 | .ors => l ≠ [] ∧ ∀ x ∈ l, x.1 = 0 ∧ GC x.2 ∧ bump x.2 2 ≤ n
 | .clause => ∃ o t, l = [(o, t)] ∧ GC t ∧ 0 ≤ o ∧ o ≤ 2 ∧ bump t (barK 9 o) ≤ n
 | .list => l ≠ [] ∧ ∀ x ∈ l, GC x.2 ∧ 0 ≤ x.1 ∧ x.1 ≤ 2 ∧ bump x.2 (barK 9 x.1) ≤ n
theorem leaf6 {kind n : Int} {f text : List UInt8} {lo hi : Bd} (hk : kind < 9) : bump (.mk kind f text n lo hi [] []) 6 ≤ 0 := by
 have e : levN (.mk kind f text n lo hi [] []) = 6 := by
  show levK kind n = 6
  unfold levK
  rw [if_neg (by omega), if_neg (by omega), if_neg (by omega), if_neg (by omega), if_neg (by omega), if_neg (by omega)]
 rw [bump_at (by rw [e]; exact Nat.le_refl _), nestN, nestNs]
 unfold deepK
 rw [if_neg (by omega)]
 exact Nat.le_refl _
theorem wrap_part {k : Int} {m m2 n : Nat} {l : List (Int × Nd)} (hk : k = 10 ∨ k = 11 ∨ k = 12) (hm : m2 ≤ m) (hb : ∀ o, barK k o = m) (hl : ∀ ks, levN (ndKids k 0 ks) = m2) (h0 : l ≠ []) (h : ∀ x ∈ l, x.1 = 0 ∧ GC x.2 ∧ bump x.2 m ≤ n) :
  ∃ t, wrapN k l = [(0, t)] ∧ GC t ∧ bump t m2 ≤ n := by
 by_cases h1 : l.length = 1
 ·obtain ⟨x, rfl⟩ := List.length_eq_one_iff.1 h1
  obtain ⟨hx, hg, hbn⟩ := h x List.mem_cons_self
  exact ⟨x.2, rfl, hg, Nat.le_trans (bump_mono _ hm) hbn⟩
 ·rw [wrap_many h1]
  have hlen : 0 < l.length := List.length_pos_iff.2 h0
  refine ⟨_, rfl, gc_kids (fun t ht => ?_) (.inl ⟨hk, rfl, by rw [List.length_map]; omega⟩), ?_⟩
  ·obtain ⟨x, hx, rfl⟩ := List.mem_map.1 ht
   exact (h x hx).2.1
  ·rw [bump_at (by rw [hl]; exact Nat.le_refl _)]
   unfold ndKids
   rw [nestN]
   have e : deepK k 0 = 0 := by unfold deepK; rw [if_neg (by omega)]
   rw [e]
   exact nestNs_nil hb _ _ (fun t ht => by
    obtain ⟨x, hx, rfl⟩ := List.mem_map.1 ht
    exact (h x hx).2.2)
theorem tree_part {n : Nat} {l : List (Int × Nd)} (h : Part .list n l) : GC (treeN l) ∧ nestN (treeN l) ≤ n := by
 obtain ⟨h0, h⟩ := h
 by_cases h1 : ∃ x, l = [(0, x)]
 ·obtain ⟨x, rfl⟩ := h1
  have hx := h (0, x) List.mem_cons_self
  exact ⟨hx.1, Nat.le_trans (nest_le_bump _ _) hx.2.2.2⟩
 ·have e : treeN l = ndList 0 l := by
   unfold treeN
   split
   ·rename_i x; exact absurd ⟨x, rfl⟩ h1
   ·rfl
  rw [e]
  refine ⟨gc_list (fun x hx => ⟨(h x hx).1, (h x hx).2.1, (h x hx).2.2.1⟩) h0 (by decide) (by decide) (fun _ hl x hx hz => ?_), ?_⟩
  ·obtain ⟨y, rfl⟩ := List.length_eq_one_iff.1 hl
   rw [List.mem_singleton] at hx
   subst hx
   obtain ⟨o, t⟩ := x
   simp only [] at hz
   subst hz
   exact h1 ⟨t, rfl⟩
  ·unfold ndList
   rw [nestN]
   exact nestNs_le l (fun x hx => (h x hx).2.2.2)
theorem D.part {p : Pt} {A : List Lt} {n : Nat} {v : Vl} (h : D p A n v) : (∀ t ∈ A, GTok t.kind t.text t.n) → ∀ f, Part p n (v f) := by
 induction h with
 | @word t ht =>
  intro hA f
  exact ⟨_, rfl, gc_leaf (own_word ((hA t List.mem_cons_self).1 ht)), leaf6 (by decide)⟩
 | @edits t u ht hu hn =>
  intro hA f
  refine ⟨_, rfl, gc_leaf (own_fuzzy ((hA t List.mem_cons_self).1 ht) ?_), leaf6 (by decide)⟩
  split <;> omega
 | @pat t ht =>
  intro hA f
  obtain ⟨bl, h1, h2, h3⟩ := (hA t List.mem_cons_self).2.1 ht
  obtain ⟨kd, tx, e, hk⟩ := patN_good h1 h3 f
  refine ⟨patN f t.text, rfl, ?_⟩
  rw [h2, e]
  rcases hk with ⟨rfl, rfl⟩ | ⟨rfl, h⟩ | ⟨rfl, h⟩
  ·exact ⟨gc_leaf rfl, leaf6 (by decide)⟩
  ·exact ⟨gc_leaf (own_prefix h), leaf6 (by decide)⟩
  ·exact ⟨gc_leaf (own_wild h), leaf6 (by decide)⟩
 | @quo t ht =>
  intro hA f
  exact ⟨_, rfl, gc_leaf (own_quo (by decide) (by decide)), leaf6 (by decide)⟩
 | @slop t u ht hu hn =>
  intro hA f
  exact ⟨_, rfl, gc_leaf (own_quo hn ((hA u (List.mem_cons_of_mem _ List.mem_cons_self)).2.2.2 hu)), leaf6 (by decide)⟩
 | @span a b c d e ha hb hc hd he =>
  intro hA f
  exact ⟨_, rfl, gc_leaf (own_span (side_ok _ _) (side_ok _ _)), leaf6 (by decide)⟩
 | @group o c A n v ho hD hc ih =>
  intro hA f
  have hp := tree_part (ih (fun t ht => hA t (List.mem_cons_of_mem _ (List.mem_append_left _ ht))) f)
  exact ⟨_, rfl, hp.1, Nat.le_trans (bump_le _ _) (Nat.succ_le_succ hp.2)⟩
 | @least o c l A n v ho hD hc hl ih =>
  intro hA f
  dsimp only
  have hi := ih (fun t ht => hA t (List.mem_cons_of_mem _ (List.mem_append_left _ ht))) f
  have hln := (hA l (List.mem_cons_of_mem _ (List.mem_append_right _ (List.mem_cons_of_mem _ List.mem_cons_self)))).2.2.1 (.inr (.inr hl))
  have hp := tree_part hi
  refine ⟨_, rfl, ?_⟩
  by_cases h0 : 0 < l.n
  ·rw [if_pos h0]
   refine ⟨gc_list (fun x hx => ⟨(hi.2 x hx).1, (hi.2 x hx).2.1, (hi.2 x hx).2.2.1⟩) hi.1 hln.1 hln.2 (fun e => by omega), ?_⟩
   have e : levN (ndList l.n (v f)) = 6 := by show levK 9 l.n = 6; unfold levK; rw [if_pos rfl, if_pos h0]
   rw [bump_at (by rw [e]; exact Nat.le_refl _)]
   unfold ndList
   rw [nestN]
   have h1 := nestNs_le (kind := 9) (v f) (fun x hx => (hi.2 x hx).2.2.2)
   have h2 : deepK 9 l.n ≤ 1 := by unfold deepK; split <;> omega
   omega
  ·rw [if_neg h0]
   exact ⟨hp.1, Nat.le_trans (bump_le _ _) (Nat.succ_le_succ hp.2)⟩
 | leafB _ ih => exact fun hA f => ih hA f
 | groupB _ ih => exact fun hA f => ih hA f
 | bodyA _ ih => exact fun hA f => ih hA f
 | @field w c A n v hw hc _ ih => exact fun hA f => ih (fun t ht => hA t (List.mem_cons_of_mem _ (List.mem_cons_of_mem _ ht))) w.text
 | all _ _ _ => exact fun hA f => ⟨_, rfl, gc_leaf rfl, leaf6 (by decide)⟩
 | atomP _ ih =>
  intro hA f
  obtain ⟨t, e, h1, h2⟩ := ih hA f
  exact ⟨t, e, h1, Nat.le_trans (bump_mono _ (by decide)) h2⟩
 | @sfx b A n v hD hb ih =>
  intro hA f
  dsimp only
  obtain ⟨t, e, h1, h2⟩ := ih (fun t ht => hA t (List.mem_append_left _ ht)) f
  have hbn := (hA b (List.mem_append_right _ List.mem_cons_self)).2.2.1 (by omega)
  refine ⟨_, rfl, ?_⟩
  rw [e]
  have hk : (if b.kind = 19 then (15 : Int) else 14) = 14 ∨ (if b.kind = 19 then (15 : Int) else 14) = 15 := by split <;> simp
  refine ⟨gc_kids (fun x hx => by rw [List.mem_singleton.1 hx]; exact h1) (.inr (.inr ⟨hk, hbn.1, hbn.2, rfl⟩)), ?_⟩
  have hlev : ∀ k, k = 14 ∨ k = 15 → levN (ndKids k b.n [t]) = 5 ∧ nestN (ndKids k b.n [t]) = bump t 5 + 1 := by
   rintro k (rfl | rfl)
   ·refine ⟨rfl, ?_⟩; unfold ndKids; rw [nestN, nestNs_cons, nestNs, Nat.max_zero]; rfl
   ·refine ⟨rfl, ?_⟩; unfold ndKids; rw [nestN, nestNs_cons, nestNs, Nat.max_zero]; rfl
  have hl := hlev _ hk
  show bump (ndKids _ b.n [t]) 5 ≤ _
  rw [bump_at (by rw [hl.1]; exact Nat.le_refl _), hl.2]
  exact Nat.succ_le_succ h2
 | pieceU _ ih =>
  intro hA f
  obtain ⟨t, e, h1, h2⟩ := ih hA f
  exact ⟨t, e, h1, Nat.le_trans (bump_mono _ (by decide)) h2⟩
 | @not t A n v ht hD ih =>
  intro hA f
  dsimp only
  obtain ⟨x, e, h1, h2⟩ := ih (fun t ht => hA t (List.mem_cons_of_mem _ ht)) f
  refine ⟨_, rfl, ?_⟩
  rw [e]
  refine ⟨gc_kids (fun y hy => by rw [List.mem_singleton.1 hy]; exact h1) (.inr (.inl ⟨rfl, rfl, rfl⟩)), ?_⟩
  have e2 : nestN (ndKids 13 0 [x]) = bump x 4 + 1 := by unfold ndKids; rw [nestN, nestNs_cons, nestNs, Nat.max_zero]; rfl
  show bump (ndKids 13 0 [x]) 4 ≤ _
  rw [bump_at (show 4 ≤ levN (ndKids 13 0 [x]) from Nat.le_refl _), e2]
  exact Nat.succ_le_succ h2
 | maxU _ ih =>
  intro hA f
  obtain ⟨t, e, h1, h2⟩ := ih hA f
  rw [e]
  refine ⟨by simp, fun x hx => ?_⟩
  rw [List.mem_singleton.1 hx]
  exact ⟨rfl, h1, h2⟩
 | @bar b A B n m v u hA' hb hB ih1 ih2 =>
  intro hA f
  obtain ⟨h1, h2⟩ := ih1 (fun t ht => hA t (List.mem_append_left _ ht)) f
  obtain ⟨t, e, h3, h4⟩ := ih2 (fun t ht => hA t (List.mem_append_right _ (List.mem_cons_of_mem _ ht))) f
  refine ⟨by simp [h1], fun x hx => ?_⟩
  rcases List.mem_append.1 hx with hx | hx
  ·have := h2 x hx
   exact ⟨this.1, this.2.1, by omega⟩
  ·rw [e] at hx
   rw [List.mem_singleton.1 hx]
   exact ⟨rfl, h3, by simp only []; omega⟩
 | andM _ ih =>
  intro hA f
  dsimp only
  obtain ⟨h1, h2⟩ := ih hA f
  obtain ⟨t, e, h3, h4⟩ := wrap_part (m2 := 3) (.inr (.inr rfl)) (by decide) barK12 (fun _ => rfl) h1 h2
  refine ⟨by rw [e]; simp, fun x hx => ?_⟩
  rw [e] at hx
  rw [List.mem_singleton.1 hx]
  exact ⟨rfl, h3, h4⟩
 | @and b A B n m v u hA' hb hB ih1 ih2 =>
  intro hA f
  dsimp only
  obtain ⟨h1, h2⟩ := ih1 (fun t ht => hA t (List.mem_append_left _ ht)) f
  obtain ⟨g1, g2⟩ := ih2 (fun t ht => hA t (List.mem_append_right _ (List.mem_cons_of_mem _ ht))) f
  obtain ⟨t, e, h3, h4⟩ := wrap_part (m2 := 3) (.inr (.inr rfl)) (by decide) barK12 (fun _ => rfl) g1 g2
  refine ⟨by simp [h1], fun x hx => ?_⟩
  rcases List.mem_append.1 hx with hx | hx
  ·have := h2 x hx
   exact ⟨this.1, this.2.1, by omega⟩
  ·rw [e] at hx
   rw [List.mem_singleton.1 hx]
   exact ⟨rfl, h3, by simp only []; omega⟩
 | orA _ ih =>
  intro hA f
  dsimp only
  obtain ⟨h1, h2⟩ := ih hA f
  obtain ⟨t, e, h3, h4⟩ := wrap_part (m2 := 2) (.inl rfl) (by decide) barK10 (fun _ => rfl) h1 h2
  refine ⟨by rw [e]; simp, fun x hx => ?_⟩
  rw [e] at hx
  rw [List.mem_singleton.1 hx]
  exact ⟨rfl, h3, h4⟩
 | @or b A B n m v u hA' hb hB ih1 ih2 =>
  intro hA f
  dsimp only
  obtain ⟨h1, h2⟩ := ih1 (fun t ht => hA t (List.mem_append_left _ ht)) f
  obtain ⟨g1, g2⟩ := ih2 (fun t ht => hA t (List.mem_append_right _ (List.mem_cons_of_mem _ ht))) f
  obtain ⟨t, e, h3, h4⟩ := wrap_part (m2 := 2) (.inl rfl) (by decide) barK10 (fun _ => rfl) g1 g2
  refine ⟨by simp [h1], fun x hx => ?_⟩
  rcases List.mem_append.1 hx with hx | hx
  ·have := h2 x hx
   exact ⟨this.1, this.2.1, by omega⟩
  ·rw [e] at hx
   rw [List.mem_singleton.1 hx]
   exact ⟨rfl, h3, by simp only []; omega⟩
 | clauseO _ ih =>
  intro hA f
  dsimp only
  obtain ⟨h1, h2⟩ := ih hA f
  obtain ⟨t, e, h3, h4⟩ := wrap_part (m2 := 1) (.inr (.inl rfl)) (by decide) barK11 (fun _ => rfl) h1 h2
  exact ⟨0, t, e, h3, by decide, by decide, h4⟩
 | @sign s A n v hs hD ih =>
  intro hA f
  dsimp only
  obtain ⟨t, e, h1, h2⟩ := ih (fun t ht => hA t (List.mem_cons_of_mem _ ht)) f
  have ho : (if s.kind = 15 then (1 : Int) else 2) = 1 ∨ (if s.kind = 15 then (1 : Int) else 2) = 2 := by split <;> simp
  have hb : barK 9 (if s.kind = 15 then (1 : Int) else 2) = 4 := by
   unfold barK
   rw [if_pos rfl, if_neg (by omega)]
  refine ⟨(if s.kind = 15 then 1 else 2 : Int), t, ?_, h1, ?_, ?_, ?_⟩
  ·rw [e]; rfl
  ·omega
  ·omega
  ·rw [hb]; exact h2
 | one _ ih =>
  intro hA f
  obtain ⟨o, t, e, h1, h2, h3, h4⟩ := ih hA f
  rw [e]
  refine ⟨by simp, fun x hx => ?_⟩
  rw [List.mem_singleton.1 hx]
  exact ⟨h1, h2, h3, h4⟩
 | @more A B n m v u hA' hB ih1 ih2 =>
  intro hA f
  obtain ⟨h1, h2⟩ := ih1 (fun t ht => hA t (List.mem_append_left _ ht)) f
  obtain ⟨o, t, e, h3, h4, h5, h6⟩ := ih2 (fun t ht => hA t (List.mem_append_right _ ht)) f
  refine ⟨by simp [h1], fun x hx => ?_⟩
  rcases List.mem_append.1 hx with hx | hx
  ·have := h2 x hx
   exact ⟨this.1, this.2.1, this.2.2.1, by omega⟩
  ·rw [e] at hx
   rw [List.mem_singleton.1 hx]
   exact ⟨h3, h4, h5, by simp only []; omega⟩
theorem Der.good {l : List UInt8} {n : Nat} {t : Nd} (h : Der l n t) : goodN t = true ∧ CanN t ∧ nestN t ≤ n := by
 obtain ⟨A, v, hT, hD, rfl⟩ := h
 have h1 := tree_part (hD.part (toks_gtok hT) [])
 exact ⟨h1.1.1, h1.1.2, h1.2⟩
end Go.Proofs.YthcldpminmhgkaaDoor
end
section
namespace Go.Proofs.YthcldpminmhgkaaDoor
open Go.RowKit
theorem bd_eqIn (a b : Bool) (t : List UInt8) (W : World) : (Op.equalIn 10000 23 (.agg #[.bool a, .bool b, .string (str t)]) (.agg #[.bool false, .bool false, .string ⟨#[]⟩])).run Tryd.prog W = .ok (Bd.nil ⟨a, b, t⟩) W := by
 rw [run_equalIn_agg W 9999 23 _ _ (show Tryd.prog.underlying 23 = some (.struct (Tryd.prog.fieldsOf 23)) from by kernel_rfl) (by kernel_rfl)]
 simp only [Program.fieldsOf, Tryd.underlying23]
 simp [Op.eqFields, go_sem, Tryd.underlying4, Tryd.underlying9]
 have ht : ((str t).toList = (⟨#[]⟩ : ByteArray).toList) ↔ t = [] := by
  rw [ByteArray.toList_eq, ByteArray.toList_eq]; simp [str]
 unfold Bd.nil
 cases a <;> cases b <;> cases t <;> simp_all [str, ByteArray.toList_eq]
theorem bd_nez (a b : Bool) (t : List UInt8) (W : World) : (binOp .neq 23 (.agg #[.bool a, .bool b, .string (str t)]) (.agg #[.bool false, .bool false, .string ⟨#[]⟩])).run Tryd.prog W = .ok (.bool (!Bd.nil ⟨a, b, t⟩)) W := by
 have h := bd_eqIn a b t W
 rw [run_neq_struct, h]; rfl
theorem bd_grd (a b : Bool) (t : ByteArray) (op : BinOp) (x y : Operand) (u : Array Value) (W : World) : (eqGuard op 23 x y (.agg #[.bool a, .bool b, .string t]) (.agg u)).run Tryd.prog W = .ok () W :=
 run_eqGuard_agg W op 23 x y _ _ (by kernel_rfl)
theorem str_toList (t : List UInt8) : (str t).toList = t := by rw [ByteArray.toList_eq]; rfl
def BoolRet (b : Bool) (w : World) (e : Ending) (w' : World) : Prop := e = .returned (.bool b) ∧ Below w.heap.size w w'
theorem ret_bool {a b : Bool} (h : a = b) : Ending.returned (.bool a) = .returned (.bool b) := by rw [h]
theorem bound_any (b : Bd) (w : World) : Calls Tryd.prog 52 #[.agg #[.bool b.open_, .bool b.in_, .string (str b.text)]] w fun e w' => e = .returned (.bool b.ok) ∧ w.alloc (.cells #[.bool b.open_, .bool b.in_, .string (str b.text)] 23) = w' := by
 obtain ⟨o, i, t⟩ := b
 simp only []
 cases o <;> cases i
 all_goals
  go_enter Tryd.func52, Tryd.ntmps52
  go_wp2
  all_goals
   go_ret
   exact ⟨ret_bool (by rw [Bool.eq_iff_iff]; simp_all [Bd.ok, str_toList]), rfl⟩
theorem byte_lit {c : UInt8} {k : Nat} (hk : k < 256) : (((c.toNat : Int) == (k : Int)) = decide (c = UInt8.ofNat k)) ∧ (((c.toNat : Int) != (k : Int)) = !decide (c = UInt8.ofNat k)) := by
 have h : ((c.toNat : Int) == (k : Int)) = decide (c = UInt8.ofNat k) := by
  rw [Bool.eq_iff_iff, beq_iff_eq, decide_eq_true_eq]
  constructor
  ·intro h
   have : c.toNat = k := by omega
   rw [← this, UInt8.ofNat_toNat]
  ·intro h
   rw [h, UInt8.toNat_ofNat']; omega
 exact ⟨h, by rw [bne, h]⟩
theorem drop_at {s : ByteArray} {i : Nat} (h : i < s.size) : s.data.toList.drop i = s[i] :: s.data.toList.drop (i + 1) := List.drop_eq_getElem_cons (by rw [← ba_size]; exact h)
theorem drop_end {s : ByteArray} {i : Nat} (h : ¬ i < s.size) : s.data.toList.drop i = [] := List.drop_eq_nil_of_le (by rw [← ba_size]; omega)
def WdRel (s : ByteArray) (mv lv iv : Value) : Prop := ∃ (i m : Nat) (last : Int), i ≤ s.size ∧ iv = .int .i64 (i : Int) ∧ mv = .int .i64 (m : Int) ∧ lv = .int .i64 last ∧ wildP (s.data.toList.drop i) i m last = wildP s.data.toList 0 0 (-1) ∧ m ≤ 2 * i ∧ -1 ≤ last ∧ last ≤ (i : Int)
theorem wildB_none {l : List UInt8} (h : wildP l 0 0 (-1) = none) : wildB l = false := by unfold wildB; rw [h]
theorem wildB_some {l : List UInt8} {m : Nat} {last : Int} (h : wildP l 0 0 (-1) = some (m, last)) : wildB l = (decide (1 < m) || (decide (m = 1) && decide (last ≠ (l.length : Int) - 1))) := by unfold wildB; rw [h]
theorem pwild_any (s : ByteArray) (w : World) (hs : s.size ≤ 900000000000) :
  Calls Tryd.prog 53 #[.string s] w fun e w' => e = .returned (.bool (wildB s.data.toList)) ∧ w = w' := by
 go_enter Tryd.func53, Tryd.ntmps53
 go_wp2
 go_loop [3, 4, 5] (fun mv lv iv => WdRel s mv lv iv) (fun _ _ iv => s.size - (intOf iv).toNat)
 case atStart => exact ⟨0, 0, -1, Nat.zero_le _, rfl, rfl, rfl, rfl, by omega, by omega, by omega⟩
 case round =>
  obtain ⟨i, m, last, hi, rfl, rfl, rfl, hW, hm, hl1, hl2⟩ := hrel
  have HW := LH hW; clear hW
  have hm0 : (0 : Int) ≤ (m : Int) := by omega
  have hm1 : (m : Int) ≤ 1800000000000 := by omega
  by_cases hlt : i < s.size
  ·have HD := LH (drop_at hlt)
   obtain ⟨c, hc⟩ : ∃ c, c = s[i] := ⟨_, rfl⟩
   rw [← hc] at HD
   have HC := LH hc
   by_cases h42 : c = 42
   ·have e1 : ((s[i].toNat : Int) == 42) = true := by rw [← hc, h42]; rfl
    have HX := LH (show wildP (s.data.toList.drop (i + 1)) (i + 1) (m + 1) i = wildP s.data.toList 0 0 (-1) from by
     rw [← HW.out, HD.out]; conv => rhs; rw [wildP.eq_def]
     simp only [if_pos h42])
    clear hc h42
    go_wp2
    go_round
    case rel => exact ⟨i + 1, m + 1, i, hlt, by go_num, by go_num, rfl, HX.out, by omega, by omega, by omega⟩
    case measure => simp [intOf]; omega
   by_cases h63 : c = 63
   ·have e1 : ((s[i].toNat : Int) == 42) = false := by rw [← hc, h63]; rfl
    have e2 : ((s[i].toNat : Int) == 63) = true := by rw [← hc, h63]; rfl
    have HX := LH (show wildP (s.data.toList.drop (i + 1)) (i + 1) (m + 2) last = wildP s.data.toList 0 0 (-1) from by
     rw [← HW.out, HD.out]; conv => rhs; rw [wildP.eq_def]
     simp only [if_neg h42, if_pos h63])
    clear hc h42 h63
    go_wp2
    go_round
    case rel => exact ⟨i + 1, m + 2, last, hlt, by go_num, by go_num, rfl, HX.out, by omega, by omega, by omega⟩
    case measure => simp [intOf]; omega
   have e1 : ((s[i].toNat : Int) == 42) = false := by rw [← hc]; exact ((byte_lit (c := c) (k := 42) (by decide)).1).trans (decide_eq_false h42)
   have e2 : ((s[i].toNat : Int) == 63) = false := by rw [← hc]; exact ((byte_lit (c := c) (k := 63) (by decide)).1).trans (decide_eq_false h63)
   by_cases h92 : c = 92
   ·have e3 : ((s[i].toNat : Int) == 92) = true := by rw [← hc, h92]; rfl
    by_cases hlt2 : i + 1 < s.size
    ·have HD2 := LH (drop_at hlt2)
     obtain ⟨d, hd⟩ : ∃ d, d = s[i + 1] := ⟨_, rfl⟩
     rw [← hd] at HD2
     have b1 : ((s[i + 1].toNat : Int) != 42) = !decide (d = 42) := by rw [← hd]; exact (byte_lit (c := d) (k := 42) (by decide)).2
     have b2 : ((s[i + 1].toNat : Int) != 63) = !decide (d = 63) := by rw [← hd]; exact (byte_lit (c := d) (k := 63) (by decide)).2
     have b3 : ((s[i + 1].toNat : Int) != 92) = !decide (d = 92) := by rw [← hd]; exact (byte_lit (c := d) (k := 92) (by decide)).2
     have hne : ((i : Int) + 1 == (s.size : Int)) = false := by rw [beq_eq_false_iff_ne]; omega
     have HWX := LH (show (if d = 42 ∨ d = 63 ∨ d = 92 then wildP (s.data.toList.drop (i + 2)) (i + 2) m last else none) = wildP s.data.toList 0 0 (-1) from by
      rw [← HW.out, HD.out, HD2.out]; conv => rhs; rw [wildP.eq_def]
      simp only [if_neg h42, if_neg h63, if_pos h92])
     by_cases hg : d = 42 ∨ d = 63 ∨ d = 92
     ·have HX := LH (show wildP (s.data.toList.drop (i + 2)) (i + 2) m last = wildP s.data.toList 0 0 (-1) from by
       have := HWX.out; rw [if_pos hg] at this; exact this)
      rcases hg with rfl | rfl | rfl
      all_goals
       clear hc hd h42 h63 h92
       simp only [decide_true, Bool.not_true, Bool.not_false] at b1 b2 b3
       first | (rw [show decide ((63 : UInt8) = 42) = false from rfl] at b1) | (rw [show decide ((92 : UInt8) = 42) = false from rfl] at b1; rw [show decide ((92 : UInt8) = 63) = false from rfl] at b2) | skip
       go_wp2
       go_round
       case rel => exact ⟨i + 2, m, last, by omega, by go_num, rfl, rfl, HX.out, by omega, by omega, by omega⟩
       case measure => simp [intOf]; omega
     ·have HN := LH (wildB_none (show wildP s.data.toList 0 0 (-1) = none from by have := HWX.out; rw [if_neg hg] at this; exact this.symm))
      rw [decide_eq_false (fun e => hg (.inl e))] at b1
      rw [decide_eq_false (fun e => hg (.inr (.inl e)))] at b2
      rw [decide_eq_false (fun e => hg (.inr (.inr e)))] at b3
      simp only [Bool.not_false] at b1 b2 b3
      clear hc hd h42 h63 h92 hg
      go_wp2
      go_ret
      exact ⟨ret_bool HN.out.symm, rfl⟩
    ·have hne : ((i : Int) + 1 == (s.size : Int)) = true := by rw [beq_iff_eq]; omega
     have HN := LH (wildB_none (show wildP s.data.toList 0 0 (-1) = none from by
      rw [← HW.out, HD.out, drop_end (by omega : ¬ i + 1 < s.size), wildP.eq_def]; simp only [if_neg h42, if_neg h63, if_pos h92]))
     clear hc h42 h63 h92
     go_wp2
     go_ret
     exact ⟨ret_bool HN.out.symm, rfl⟩
   ·have e3 : ((s[i].toNat : Int) == 92) = false := by rw [← hc]; exact ((byte_lit (c := c) (k := 92) (by decide)).1).trans (decide_eq_false h92)
    have HX := LH (show wildP (s.data.toList.drop (i + 1)) (i + 1) m last = wildP s.data.toList 0 0 (-1) from by
     rw [← HW.out, HD.out]; conv => rhs; rw [wildP.eq_def]
     simp only [if_neg h42, if_neg h63, if_neg h92])
    clear hc h42 h63 h92
    go_wp2
    go_round
    case rel => exact ⟨i + 1, m, last, hlt, by go_num, rfl, rfl, HX.out, by omega, by omega, by omega⟩
    case measure => simp [intOf]; omega
  ·have HB := LH (wildB_some (show wildP s.data.toList 0 0 (-1) = some (m, last) from by rw [← HW.out, drop_end hlt, wildP]))
   have hsz : s.data.toList.length = s.size := by rw [Array.length_toList]; rfl
   rw [hsz] at HB
   have HM := LH (⟨hm0, hm1⟩ : (0 : Int) ≤ (m : Int) ∧ (m : Int) ≤ 1800000000000)
   by_cases g1 : 1 < m
   ·have g2 : (1 : Int) < (m : Int) := by omega
    have HR := LH (show wildB s.data.toList = true from by rw [HB.out, decide_eq_true g1]; rfl)
    go_wp2
    go_ret
    exact ⟨ret_bool HR.out.symm, rfl⟩
   ·have g2 : ¬ (1 : Int) < (m : Int) := by omega
    by_cases g3 : m = 1
    ·have HR := LH (show wildB s.data.toList = decide (last ≠ (s.size : Int) - 1) from by rw [HB.out, decide_eq_false g1, decide_eq_true g3]; rfl)
     have g4 : ((m : Int) == 1) = true := by rw [g3]; rfl
     clear g3
     go_wp2
     go_ret
     exact ⟨ret_bool (by rw [HR.out, Bool.eq_iff_iff]; simp), rfl⟩
    ·have HR := LH (show wildB s.data.toList = false from by rw [HB.out, decide_eq_false g1, decide_eq_false g3]; rfl)
     have g4 : ((m : Int) == 1) = false := by rw [beq_eq_false_iff_ne]; omega
     clear g3
     go_wp2
     go_ret
     exact ⟨ret_bool HR.out.symm, rfl⟩
def askL : List Value := [
 .bool false, .bool false, .int .i64 0, .int .i64 0, .bool false, .bool false, .int .i64 0, .int .i64 0, .int .i64 0, .string ⟨#[]⟩,
 .bool true, .bool true, .int .i64 0, .int .i64 0, .bool false, .bool false, .int .i64 0, .int .i64 0, .int .i64 6, .string ⟨#[]⟩,
 .bool true, .bool true, .int .i64 0, .int .i64 999999999, .bool false, .bool false, .int .i64 0, .int .i64 0, .int .i64 6, .string ⟨#[]⟩,
 .bool true, .bool true, .int .i64 0, .int .i64 0, .bool false, .bool false, .int .i64 0, .int .i64 0, .int .i64 6, .string ⟨#[]⟩,
 .bool true, .bool true, .int .i64 0, .int .i64 0, .bool false, .bool false, .int .i64 0, .int .i64 0, .int .i64 6, .string ⟨#[]⟩,
 .bool true, .bool true, .int .i64 1, .int .i64 2, .bool false, .bool false, .int .i64 0, .int .i64 0, .int .i64 6, .string ⟨#[]⟩,
 .bool true, .bool false, .int .i64 0, .int .i64 0, .bool true, .bool false, .int .i64 0, .int .i64 0, .int .i64 6, .string ⟨#[]⟩,
 .bool true, .bool false, .int .i64 0, .int .i64 0, .bool false, .bool false, .int .i64 0, .int .i64 0, .int .i64 6, .string ⟨#[]⟩,
 .bool false, .bool false, .int .i64 0, .int .i64 0, .bool false, .bool false, .int .i64 0, .int .i64 0, .int .i64 6, .string ⟨#[]⟩,
 .bool false, .bool false, .int .i64 0, .int .i64 999999999, .bool false, .bool true, .int .i64 1, .int .i64 (-1), .int .i64 0, .string ⟨#[]⟩,
 .bool false, .bool false, .int .i64 0, .int .i64 0, .bool false, .bool false, .int .i64 1, .int .i64 (-1), .int .i64 2, .string ⟨#[32, 65, 78, 68, 32]⟩,
 .bool false, .bool false, .int .i64 0, .int .i64 0, .bool false, .bool false, .int .i64 1, .int .i64 (-1), .int .i64 1, .string ⟨#[32, 79, 82, 32]⟩,
 .bool false, .bool false, .int .i64 0, .int .i64 0, .bool false, .bool false, .int .i64 1, .int .i64 (-1), .int .i64 3, .string ⟨#[32, 124, 32]⟩,
 .bool false, .bool false, .int .i64 0, .int .i64 0, .bool false, .bool false, .int .i64 1, .int .i64 1, .int .i64 4, .string ⟨#[]⟩,
 .bool false, .bool false, .int .i64 0, .int .i64 999999999, .bool false, .bool false, .int .i64 1, .int .i64 1, .int .i64 5, .string ⟨#[94]⟩,
 .bool false, .bool false, .int .i64 0, .int .i64 999999999, .bool false, .bool false, .int .i64 1, .int .i64 1, .int .i64 5, .string ⟨#[94, 61]⟩]
def AskEnv (w : World) : Prop := (∀ j v, askL[j]? = some v → w.cell? ⟨17, j, none⟩ = some v) ∧ 17 < w.heap.size
theorem AskEnv.below {w w' : World} (h : AskEnv w) (hb : Below w.heap.size w w') : AskEnv w' :=
 ⟨fun j v hv => (hb.cell (p := ⟨17, j, none⟩) h.2).trans (h.1 j v hv), Nat.lt_of_lt_of_le h.2 hb.size⟩
theorem occ_bad {l : List Int} {k : Nat} (h : k < l.length) (hb : ¬ (0 ≤ l[k] ∧ l[k] ≤ 2)) : occB l = false := by
 rw [Bool.eq_false_iff]
 intro h2
 unfold occB at h2
 rw [List.all_eq_true] at h2
 have := h2 _ (List.getElem_mem h)
 rw [Bool.and_eq_true, decide_eq_true_eq, decide_eq_true_eq] at this
 exact hb this
theorem occ_good {l : List Int} (h : ∀ (j : Nat) (x : Int), l[j]? = some x → 0 ≤ x ∧ x ≤ 2) : occB l = true := by
 unfold occB
 rw [List.all_eq_true]
 intro x hx
 obtain ⟨j, hj⟩ := List.getElem?_of_mem hx
 have := h j x hj
 rw [Bool.and_eq_true, decide_eq_true_eq, decide_eq_true_eq]; exact this
theorem occ_cell {w : World} {F : Nat → Prop} {A : Option Addr} {n c : Nat} {l : List Int} (h : RdF folS w F ⟨A, n, c⟩ l) {k : Nat} (hk : k < l.length) : ∃ a, A = some a ∧ w.cell? (a.add k) = some (.int .i64 l[k]) := by
 obtain ⟨h1, h2, h3, h4, h5⟩ := h
 obtain ⟨a, e, _, hc⟩ := h4 (by omega)
 have h6 := hc (k * folS.size + 0) (.int .i64 l[k]) (by rw [Shape.cells_get folOk l k 0 hk folOk.pos]; rfl)
 have e7 : k * folS.size + 0 = k := by show k * 1 + 0 = k; omega
 rw [e7] at h6
 exact ⟨a, e, h6⟩
def OwnOk (kind : Int) : Prop := ∀ (n : Int) (field text : List UInt8) (lo hi : Bd) (occ : List Int) (oa ka : Option Addr) (oc kn kc : Nat) (w : World) (F : Nat → Prop), AskEnv w → RdF folS w F ⟨oa, occ.length, oc⟩ occ → text.length ≤ 900000000000 →
 Calls Tryd.prog 35 #[.agg #[.int .i64 kind, .string (str field), .string (str text), .int .i64 n, .bool lo.open_, .bool lo.in_, .string (str lo.text), .bool hi.open_, .bool hi.in_, .string (str hi.text), .slice oa occ.length oc, .slice ka kn kc]] w (BoolRet (ownN kind field text n lo hi occ kn) w)
theorem below2 (w : World) (o p : Obj) : Below w.heap.size w ((w.alloc o).alloc p) := ((Below.refl _ _).alloc (Nat.le_refl _) _).alloc (by rw [World.size_alloc]; omega) _
theorem below4 (w : World) (o p q r : Obj) : Below w.heap.size w ((((w.alloc o).alloc p).alloc q).alloc r) := (((below2 w o p).alloc (by rw [World.size_alloc, World.size_alloc]; omega) _)).alloc (by rw [World.size_alloc, World.size_alloc, World.size_alloc]; omega) _
theorem below3 (w : World) (o p q : Obj) : Below w.heap.size w (((w.alloc o).alloc p).alloc q) := (below2 w o p).alloc (by rw [World.size_alloc, World.size_alloc]; omega) _
theorem own_out {kind : Int} (h : kind < 1 ∨ 15 < kind) : OwnOk kind := by
 intro n field text lo hi occ oa ka oc kn kc w F hA hO ht
 have HN := LH (show ownN kind field text n lo hi occ kn = false from by
  unfold ownN
  rw [if_neg (by omega), if_neg (by omega), if_neg (by omega), if_neg (by omega), if_neg (by omega), if_neg (by omega), if_neg (by omega), if_neg (by omega), if_neg (by omega), if_neg (by omega), if_neg (by omega)])
 clear hA hO
 rcases h with h | h
 ·have h2 : decide (kind < 1) = true := decide_eq_true h
  go_enter Tryd.func35, Tryd.ntmps35
  go_wp2
  go_ret
  exact ⟨ret_bool HN.out.symm, (Below.refl _ _).alloc (Nat.le_refl _) _⟩
 ·have h2 : decide (kind < 1) = false := decide_eq_false (by omega)
  have h3 : decide (15 < kind) = true := decide_eq_true h
  go_enter Tryd.func35, Tryd.ntmps35
  go_wp2
  go_ret
  exact ⟨ret_bool HN.out.symm, (Below.refl _ _).alloc (Nat.le_refl _) _⟩
end Go.Proofs.YthcldpminmhgkaaDoor
end
