/- Merged for a claim by shake.py: Yb Yd Zh Mt Ua Ub -/
import Derived.Deep.RegionLaw
import Derived.Test.YtcomdkejpaoneaaDoorKe1
import Derived.Test.YtcomdkejpaoneaaDoorKe17
import Derived.Test.YtcomdkejpaoneaaDoorKe2
import Derived.Test.YtcomdkejpaoneaaDoorKe6
import Derived.Test.YtcomdkejpaoneaaDoorKe8
import Derived.Test.YtcomdkejpaoneaaDoorKe9
import Derived.Test.YtcomdkejpaoneaaDoorRows
section
namespace Go.Proofs.YtcomdkejpaoneaaDoor
set_option maxRecDepth 100000
set_option linter.unusedSimpArgs false
set_option linter.unusedVariables false
def Der (l : List UInt8) (n : Nat) (t : Nd) : Prop := ∃ (A : List Lt) (v : Vl), Toks l A ∧ D .list A n v ∧ t = treeN (v [])
theorem runI_of {l : List Lt} : ∀ {m m' : Mc} (i : Nat), runM m l = some m' → runI m i l = .inl m' := by
  induction l with
  | nil => intro m m' i h; rw [runM] at h; injection h with h; subst h; rfl
  | cons t r ih =>
    intro m m' i h
    rw [runM] at h
    rw [runI]
    cases hs : stepM m t with
    | none => rw [hs] at h; cases h
    | some m2 => rw [hs] at h; exact ih (i + 1) h
theorem Der.check {l : List UInt8} {n : Nat} {t : Nd} (h : Der l n t) : checkS l = .inl n := by
  obtain ⟨A, v, ⟨la, e, hs, he, hl⟩, hD, _⟩ := h
  have hD2 := hD.lk (la.map Lx.lt) (by rw [lk_lt]; exact hl)
  obtain ⟨m, hm, _, hn⟩ := hD2.run (e := e.lt) he
  unfold checkS
  rw [hs]
  simp only [List.map_append, List.map_cons, List.map_nil]
  rw [runI_of 0 hm]
  simp only [hn]
theorem der_mk {l : List UInt8} {A : List Lt} {n : Nat} {v : Vl} {t : Nd} (hT : Toks l A) (hD : D .list A n v) (ht : t = treeN (v [])) : Der l n t := ⟨A, v, hT, hD, ht⟩
theorem Der.toks {l : List UInt8} {n : Nat} {t : Nd} (h : Der l n t) : ∃ (la : List Lx) (A : List Lt) (e : Lt) (v : Vl), scanL l = (la, none) ∧ la.map Lx.lt = A ++ [e] ∧ e.kind = 0 ∧ D .list A n v ∧ t = treeN (v []) := by
  obtain ⟨A, v, ⟨la, e, hs, he, hl⟩, hD, ht⟩ := h
  exact ⟨la ++ [e], la.map Lx.lt, e.lt, v, hs, by simp, he, hD.lk _ (by rw [lk_lt]; exact hl), ht⟩
def one1 (g : List UInt8 → Nd) : Vl := fun f => [(0, g f)]
theorem D.single {A : List Lt} {n : Nat} {g : List UInt8 → Nd} (h : D .unary A n (one1 g)) : D .list A n (one1 g) := .one (.clauseO (.orA (.andM (.maxU h))))
def tkOpen : Lt := ⟨8, [], 0, 0, 0⟩
def tkClose : Lt := ⟨9, [], 0, 0, 0⟩
theorem D.paren {A : List Lt} {n : Nat} {v : Vl} (h : D .list A n v) : D .piece (tkOpen :: (A ++ [tkClose])) (n + 1) (one1 fun f => treeN (v f)) :=
  .atomP (.bodyA (.groupB (.group rfl h rfl)))
theorem stop41 : stopB 41 := ⟨.inr (by decide), by decide⟩
theorem stop32 : stopB 32 := ⟨.inl (by decide), by decide⟩
theorem blank32 : cls 32 = 1 := by decide
theorem toks_close {q : List UInt8} {B : List Lt} (h : Toks q B) : Toks (41 :: q) (tkClose :: B) := .single (by decide) (by decide) h
theorem toks_open {q : List UInt8} {B : List Lt} (h : Toks q B) : Toks (40 :: q) (tkOpen :: B) := .single (by decide) (by decide) h
theorem toks_paren {p q : List UInt8} {A B : List Lt} (h : Toks p A) (h2 : Toks q B) : Toks (40 :: (p ++ 41 :: q)) (tkOpen :: (A ++ tkClose :: B)) :=
  toks_open (.app stop41 h (toks_close h2))
theorem Der.paren {q : List UInt8} {n : Nat} {t : Nd} (h : Der q n t) : Der (40 :: (q ++ [41])) (n + 1) t := by
  obtain ⟨A, v, hT, hD, rfl⟩ := h
  exact ⟨_, _, toks_paren hT .nil, (D.pieceU hD.paren).single, rfl⟩
theorem Der.blank {p q : List UInt8} {n m : Nat} {x y : Nd} (h : Der p n x) (h2 : Der q m y) : ∃ t, Der (p ++ 32 :: q) (max n m) t := by
  obtain ⟨A, v, hT, hD, rfl⟩ := h
  obtain ⟨B, u, hT2, hD2, rfl⟩ := h2
  exact ⟨_, _, _, .app stop32 hT (.blank blank32 hT2), hD.list2 hD2, rfl⟩
def tkMark (k : Int) : Lt := ⟨k, [], 0, 0, 0⟩
theorem toks_or : Toks [79, 82] [tkMark 5] := ⟨[⟨5, [], 0, 0, 2⟩], ⟨0, [], 0, 2, 2⟩, by rfl, rfl, rfl⟩
theorem toks_and : Toks [65, 78, 68] [tkMark 4] := ⟨[⟨4, [], 0, 0, 3⟩], ⟨0, [], 0, 3, 3⟩, by rfl, rfl, rfl⟩
theorem toks_bar : Toks [124] [tkMark 17] := ⟨[⟨17, [], 0, 0, 1⟩], ⟨0, [], 0, 1, 1⟩, by rfl, rfl, rfl⟩
theorem toks_joined {p q mk : List UInt8} {A B M : List Lt} (hp : Toks p A) (hq : Toks q B) (hm : Toks mk M) :
    Toks (40 :: (p ++ 41 :: 32 :: (mk ++ 32 :: 40 :: (q ++ [41])))) (tkOpen :: (A ++ tkClose :: (M ++ (tkOpen :: (B ++ [tkClose]))))) :=
  toks_paren hp (.blank blank32 (.app stop32 hm (.blank blank32 (toks_paren hq .nil))))
theorem joined_app {A B : List Lt} {m : Lt} : tkOpen :: (A ++ tkClose :: ([m] ++ (tkOpen :: (B ++ [tkClose])))) = tkOpen :: (A ++ [tkClose]) ++ m :: (tkOpen :: (B ++ [tkClose])) := by simp
theorem Der.or {p q : List UInt8} {n m : Nat} {x y : Nd} (h : Der p n x) (h2 : Der q m y) : Der (40 :: (p ++ 41 :: 32 :: ([79, 82] ++ 32 :: 40 :: (q ++ [41])))) (max (n + 1) (m + 1)) (ndKids 11 0 [x, y]) := by
  obtain ⟨A, v, hT, hD, rfl⟩ := h
  obtain ⟨B, u, hT2, hD2, rfl⟩ := h2
  have ht := toks_joined hT hT2 toks_or
  rw [joined_app] at ht
  refine der_mk ht (.one (.clauseO (.or (b := tkMark 5) (.orA (.andM (.maxU (.pieceU hD.paren)))) rfl (.andM (.maxU (.pieceU hD2.paren)))))) rfl
theorem Der.and {p q : List UInt8} {n m : Nat} {x y : Nd} (h : Der p n x) (h2 : Der q m y) : Der (40 :: (p ++ 41 :: 32 :: ([65, 78, 68] ++ 32 :: 40 :: (q ++ [41])))) (max (n + 1) (m + 1)) (ndKids 10 0 [x, y]) := by
  obtain ⟨A, v, hT, hD, rfl⟩ := h
  obtain ⟨B, u, hT2, hD2, rfl⟩ := h2
  have ht := toks_joined hT hT2 toks_and
  rw [joined_app] at ht
  refine der_mk ht (.one (.clauseO (.orA (.and (b := tkMark 4) (.andM (.maxU (.pieceU hD.paren))) rfl (.maxU (.pieceU hD2.paren)))))) rfl
theorem Der.bar {p q : List UInt8} {n m : Nat} {x y : Nd} (h : Der p n x) (h2 : Der q m y) : Der (40 :: (p ++ 41 :: 32 :: ([124] ++ 32 :: 40 :: (q ++ [41])))) (max (n + 1) (m + 1)) (ndKids 12 0 [x, y]) := by
  obtain ⟨A, v, hT, hD, rfl⟩ := h
  obtain ⟨B, u, hT2, hD2, rfl⟩ := h2
  have ht := toks_joined hT hT2 toks_bar
  rw [joined_app] at ht
  refine der_mk ht (.one (.clauseO (.orA (.andM (.bar (b := tkMark 17) (.maxU (.pieceU hD.paren)) rfl (.pieceU hD2.paren)))))) rfl
def tkPlus : Lt := ⟨15, [], 0, 0, 0⟩
def tkMinus : Lt := ⟨16, [], 0, 0, 0⟩
theorem Der.signs {p q : List UInt8} {n m : Nat} {x y : Nd} (h : Der p n x) (h2 : Der q m y) : Der (43 :: 40 :: (p ++ 41 :: 32 :: 45 :: 40 :: (q ++ [41]))) (max (n + 1) (m + 1)) (ndList 0 [(1, x), (2, y)]) := by
  obtain ⟨A, v, hT, hD, rfl⟩ := h
  obtain ⟨B, u, hT2, hD2, rfl⟩ := h2
  have h1 : Toks (45 :: 40 :: (q ++ 41 :: [])) (tkMinus :: _) := .single (by decide) (by decide) (toks_paren hT2 .nil)
  have h2 : Toks (43 :: 40 :: (p ++ 41 :: 32 :: 45 :: 40 :: (q ++ 41 :: []))) (tkPlus :: _) := .single (by decide) (by decide) (toks_paren hT (.blank blank32 h1))
  have e : tkPlus :: tkOpen :: (A ++ tkClose :: tkMinus :: tkOpen :: (B ++ [tkClose])) = tkPlus :: (tkOpen :: (A ++ [tkClose])) ++ tkMinus :: (tkOpen :: (B ++ [tkClose])) := by simp
  rw [e] at h2
  exact der_mk h2 (.more (.one (.sign (s := tkPlus) (.inl rfl) (.pieceU hD.paren))) (.sign (s := tkMinus) (.inr rfl) (.pieceU hD2.paren))) rfl
end Go.Proofs.YtcomdkejpaoneaaDoor
end
section
namespace Go.Proofs.YtcomdkejpaoneaaDoor
set_option maxRecDepth 100000
set_option linter.unusedSimpArgs false
set_option linter.unusedVariables false
theorem eAt_pat (f : Bool) (c : UInt8) : (eAt f c).rn.pat = pe c := by
  unfold eAt
  split
  · rfl
  · rename_i h
    have h0 : cls c = 0 := Classical.byContradiction fun h' => h (.inl h')
    show [c] = pe c
    unfold pe
    rw [if_neg (by omega)]
theorem lAt_pat (f : Bool) (l : List UInt8) : (atRn (lAt f l)).pat = l.flatMap pe := by
  cases l with
  | nil => rfl
  | cons c t =>
    unfold lAt
    rw [atRn_cons]
    show (eAt f c).rn.pat ++ (atRn (t.map (eAt false))).pat = _
    rw [eAt_pat, List.flatMap_cons]
    congr 1
    induction t with
    | nil => rfl
    | cons d t ih =>
      rw [List.map_cons, atRn_cons]
      show (eAt false d).rn.pat ++ (atRn (t.map (eAt false))).pat = _
      rw [ih, eAt_pat, List.flatMap_cons]
theorem atRn_snoc_pat (l : List At) (a : At) : (atRn (l ++ [a])).pat = (atRn l).pat ++ a.rn.pat := by
  induction l with
  | nil => show a.rn.pat ++ [] = [] ++ a.rn.pat; simp
  | cons b l ih =>
    rw [List.cons_append, atRn_cons, atRn_cons]
    show b.rn.pat ++ (atRn (l ++ [a])).pat = b.rn.pat ++ (atRn l).pat ++ a.rn.pat
    rw [ih, List.append_assoc]
theorem patF_pe (f all : List UInt8) : ∀ (s letters : List UInt8), patF f all letters (s.flatMap pe ++ [42]) = ndLeaf 3 f (letters ++ s) 0
  | [], letters => by
    rw [List.flatMap_nil, List.nil_append, patF, if_pos rfl, List.append_nil]
  | c :: s, letters => by
    have ih := patF_pe f all s (letters ++ [c])
    rw [List.flatMap_cons]
    by_cases h : cls c = 3 ∨ cls c = 4
    · have hp : pe c = [92, c] := by unfold pe; rw [if_pos h]
      rw [hp]
      show patF f all letters (92 :: c :: (s.flatMap pe ++ [42])) = _
      rw [patF, if_neg (by decide), if_pos rfl, ih, List.append_assoc]; rfl
    · have hp : pe c = [c] := by unfold pe; rw [if_neg h]
      rw [hp]
      have h42 : c ≠ 42 := fun e => h (.inl (by rw [e]; decide))
      have h63 : c ≠ 63 := fun e => h (.inl (by rw [e]; decide))
      have h92 : c ≠ 92 := fun e => h (.inr (by rw [e]; decide))
      show patF f all letters (c :: (s.flatMap pe ++ [42])) = _
      cases hx : s.flatMap pe ++ [42] with
      | nil => simp at hx
      | cons d r =>
        rw [hx] at ih
        rw [patF, if_neg (by rw [not_or]; exact ⟨h63, h42⟩), if_neg h92, ih, List.append_assoc]; rfl
theorem pe_ne (s : List UInt8) (h : s ≠ []) : s.flatMap pe ++ [42] ≠ [42] := by
  cases s with
  | nil => exact absurd rfl h
  | cons c s =>
    intro e
    have := congrArg List.length e
    have h2 : 1 ≤ (pe c).length := by unfold pe; split <;> simp
    rw [List.flatMap_cons, List.length_append, List.length_append] at this
    simp only [List.length_singleton] at this; omega
theorem toks_prefix {s : List UInt8} (h : s ≠ []) : ∃ P, Toks (wordL s ++ [42]) [⟨2, P, 0, 0, 0⟩] ∧ ∀ f, patN f P = ndLeaf 3 f s 0 := by
  unfold wordL
  by_cases hk : kwd s ≠ 1
  · rw [if_pos hk]
    have hs : s = [65, 78, 68] ∨ s = [79, 82] ∨ s = [78, 79, 84] ∨ s = [84, 79] := by
      rcases kwd_1or s with h | h
      · exact absurd h hk
      · exact h
    rcases hs with rfl | rfl | rfl | rfl
    · exact ⟨[65, 78, 68, 42], ⟨[⟨2, [65, 78, 68, 42], 0, 0, 5⟩], ⟨0, [], 0, 5, 5⟩, by rfl, rfl, rfl⟩, fun f => rfl⟩
    · exact ⟨[79, 82, 42], ⟨[⟨2, [79, 82, 42], 0, 0, 4⟩], ⟨0, [], 0, 4, 4⟩, by rfl, rfl, rfl⟩, fun f => rfl⟩
    · exact ⟨[78, 79, 84, 42], ⟨[⟨2, [78, 79, 84, 42], 0, 0, 5⟩], ⟨0, [], 0, 5, 5⟩, by rfl, rfl, rfl⟩, fun f => rfl⟩
    · exact ⟨[84, 79, 42], ⟨[⟨2, [84, 79, 42], 0, 0, 4⟩], ⟨0, [], 0, 4, 4⟩, by rfl, rfl, rfl⟩, fun f => rfl⟩
  · rw [if_neg hk]
    have hb : lettersL true s ++ [42] = atB (lAt true s ++ [.wi 42]) := by rw [lettersL_at, atB_append]; rfl
    have hok : ∀ a ∈ lAt true s ++ [At.wi 42], a.ok := by
      intro a ha
      rcases List.mem_append.1 ha with ha | ha
      · exact lAt_ok true s a ha
      · rw [List.mem_singleton.1 ha]; show cls 42 = 3; decide
    have h1 : ∀ a, (lAt true s ++ [At.wi 42]).head? = some a → a.run1 := by
      cases s with
      | nil => exact absurd rfl h
      | cons c t =>
        intro a ha
        simp only [lAt, List.cons_append, List.head?_cons, Option.some.injEq] at ha
        rw [← ha]; exact eAt_run1 c
    have hs := scan_pat hok h1 (by simp [At.isWi])
    rw [atRn_snoc_pat, lAt_pat] at hs
    refine ⟨s.flatMap pe ++ [42], ?_, fun f => ?_⟩
    · rw [hb]
      exact Toks.one hs rfl
    · unfold patN
      rw [if_neg (pe_ne s h), patF_pe, List.nil_append]
def dgL : Nat → Nat → List UInt8 → List UInt8
  | 0, _, s => s
  | k + 1, n, s => if 9 < n then dgL k (n / 10) (UInt8.ofNat (48 + n / 10 % 10) :: s) else s
def dgN (n : Nat) : List UInt8 := dgL 4 n [UInt8.ofNat (48 + n % 10)]
theorem tok_tilde : ∀ n, n < 1024 → tokOf (126 :: dgN n) = some ⟨20, [], (n : Int), (dgN n).length + 1⟩ := by
  have h : ∀ n, n < 1024 → digs (dgN n) = dgN n ∧ ncap (dgN n) = n ∧ dgN n ≠ [] := by decide +kernel
  intro n hn
  obtain ⟨h1, h2, h3⟩ := h n hn
  have h4 : numOkB (dgN n) = true := by
    unfold numOkB
    rw [h1, h2]
    refine decide_eq_true ⟨List.length_pos_iff.2 h3, by omega⟩
  have h5 : singleK 126 = 0 := by decide
  rw [tokOf, h5, if_neg (by decide), if_neg (by decide), if_neg (by decide), if_pos rfl, h1, if_neg h3]
  unfold numTk
  rw [if_pos h4, h1, h2, Nat.add_comm]
theorem toks_tilde {n : Nat} (hn : n < 1024) : Toks (126 :: dgN n) [⟨20, [], (n : Int), 0, 0⟩] := by
  have h := tok_tilde n hn
  have hs := scan_one (l := 126 :: dgN n) h rfl (fun c t e => by injection e with e _; rw [← e]; decide)
  exact Toks.one hs rfl
theorem stop126 : stopB 126 := ⟨.inr (by decide), by decide⟩
theorem stop58 : stopB 58 := ⟨.inr (by decide), by decide⟩
theorem toks_word {s : List UInt8} (h : s ≠ []) : Toks (wordL s) [⟨1, s, 0, 0, 0⟩] := Toks.one (word_back h) rfl
theorem toks_quote (s : List UInt8) : Toks (quoteL s) [⟨3, s, 0, 0, 0⟩] := Toks.one (quote_back s) rfl
theorem toks_to : Toks [84, 79] [⟨7, [], 0, 0, 0⟩] := ⟨[⟨7, [], 0, 0, 2⟩], ⟨0, [], 0, 2, 2⟩, by rfl, rfl, rfl⟩
theorem toks_starend : Toks [42, 125] [⟨2, [42], 0, 0, 0⟩, ⟨13, [], 0, 0, 0⟩] := ⟨[⟨2, [42], 0, 0, 1⟩, ⟨13, [], 0, 1, 2⟩], ⟨0, [], 0, 2, 2⟩, by rfl, rfl, rfl⟩
theorem toks_star : Toks [42] [⟨2, [42], 0, 0, 0⟩] := ⟨[⟨2, [42], 0, 0, 1⟩], ⟨0, [], 0, 1, 1⟩, by rfl, rfl, rfl⟩
theorem toks_z : Toks [122] [⟨1, [122], 0, 0, 0⟩] := ⟨[⟨1, [122], 0, 0, 1⟩], ⟨0, [], 0, 1, 1⟩, by rfl, rfl, rfl⟩
theorem toks_other : Toks [111, 116, 104, 101, 114] [⟨1, [111, 116, 104, 101, 114], 0, 0, 0⟩] := ⟨[⟨1, [111, 116, 104, 101, 114], 0, 0, 5⟩], ⟨0, [], 0, 5, 5⟩, by rfl, rfl, rfl⟩
def LeafT (l : List UInt8) (g : List UInt8 → Nd) : Prop := ∃ T, Toks l T ∧ D .body T 0 (one1 g)
theorem leafT_word {s : List UInt8} (h : s ≠ []) : LeafT (wordL s) fun f => ndLeaf 1 f s 0 := ⟨_, toks_word h, .leafB (.word rfl)⟩
theorem leafT_edits {s : List UInt8} (h : s ≠ []) {n : Nat} (hn : n = 1 ∨ n = 2) : LeafT (wordL s ++ 126 :: dgN n) fun f => ndLeaf 5 f s n := by
  refine ⟨_, .app stop126 (toks_word h) (toks_tilde (by omega)), ?_⟩
  have := D.edits (t := ⟨1, s, 0, 0, 0⟩) (u := ⟨20, [], (n : Int), 0, 0⟩) rfl rfl (by show (n : Int) = -1 ∨ (n : Int) = 1 ∨ (n : Int) = 2; omega)
  have e : ¬ ((n : Int) < 0) := by omega
  simp only [if_neg e] at this
  exact .leafB this
theorem leafT_slop (s : List UInt8) {n : Nat} (hn : n < 1024) : LeafT (quoteL s ++ 126 :: dgN n) fun f => ndLeaf 2 f s n :=
  ⟨_, .app stop126 (toks_quote s) (toks_tilde hn), .leafB (.slop (t := ⟨3, s, 0, 0, 0⟩) (u := ⟨20, [], (n : Int), 0, 0⟩) rfl rfl (Int.natCast_nonneg n))⟩
theorem leafT_span {s : List UInt8} (h : s ≠ []) : LeafT (91 :: (wordL s ++ 32 :: ([84, 79] ++ 32 :: [42, 125]))) fun f => .mk 6 f [] 0 ⟨false, true, s⟩ ⟨true, false, []⟩ [] [] := by
  refine ⟨_, .single (k := 10) (by decide) (by decide) (.app stop32 (toks_word h) (.blank blank32 (.app stop32 toks_to (.blank blank32 toks_starend)))), .leafB ?_⟩
  exact .span (a := ⟨10, [], 0, 0, 0⟩) (b := ⟨1, s, 0, 0, 0⟩) (c := ⟨7, [], 0, 0, 0⟩) (d := ⟨2, [42], 0, 0, 0⟩) (e := ⟨13, [], 0, 0, 0⟩) (.inl rfl) rfl rfl rfl (.inr rfl)
theorem leafT_prefix {s : List UInt8} (h : s ≠ []) : LeafT (wordL s ++ [42]) fun f => ndLeaf 3 f s 0 := by
  obtain ⟨P, hT, hP⟩ := toks_prefix h
  refine ⟨_, hT, .leafB ?_⟩
  have := D.pat (t := ⟨2, P, 0, 0, 0⟩) rfl
  simp only [hP] at this
  exact this
theorem leafT_has : LeafT [42] fun f => ndLeaf 7 f [] 0 := ⟨_, toks_star, .leafB (.pat (t := ⟨2, [42], 0, 0, 0⟩) rfl)⟩
theorem toks_field {f l : List UInt8} {T : List Lt} (hf : f ≠ []) (h : Toks l T) : Toks (wordL f ++ 58 :: l) (⟨1, f, 0, 0, 0⟩ :: ⟨14, [], 0, 0, 0⟩ :: T) :=
  Toks.app stop58 (toks_word hf) (.single (by decide) (by decide) h)
theorem LeafT.alone {l : List UInt8} {g : List UInt8 → Nd} (h : LeafT l g) {f : List UInt8} (hf : f ≠ []) : Der (wordL f ++ 58 :: l) 0 (g f) := by
  obtain ⟨T, hT, hD⟩ := h
  have hD2 : D .unary _ 0 (one1 fun _ => g f) := .pieceU (.atomP (.field (w := ⟨1, f, 0, 0, 0⟩) (c := ⟨14, [], 0, 0, 0⟩) rfl rfl hD))
  exact der_mk (toks_field hf hT) hD2.single rfl
theorem LeafT.group {l : List UInt8} {g : List UInt8 → Nd} (h : LeafT l g) {f : List UInt8} (hf : f ≠ []) :
    Der (wordL f ++ 58 :: (40 :: (([122] ++ 32 :: (l ++ 32 :: ([111, 116, 104, 101, 114] ++ 58 :: l))) ++ [41]))) 1 (ndList 0 [(0, ndLeaf 1 f [122] 0), (0, g f), (0, g [111, 116, 104, 101, 114])]) := by
  obtain ⟨T, hT, hD⟩ := h
  have hT3 := Toks.app stop58 toks_other (Toks.single (k := 14) (by decide) (by decide) hT)
  have hT2 := Toks.app stop32 toks_z (.blank blank32 (.app stop32 hT (.blank blank32 hT3)))
  have hT1 := toks_field hf (toks_paren hT2 .nil)
  have d1 : D .unary [⟨1, [122], 0, 0, 0⟩] 0 (one1 fun f => ndLeaf 1 f [122] 0) := .pieceU (.atomP (.bodyA (.leafB (.word (t := ⟨1, [122], 0, 0, 0⟩) rfl))))
  have d2 : D .unary T 0 (one1 g) := .pieceU (.atomP (.bodyA hD))
  have d3 : D .unary (⟨1, [111, 116, 104, 101, 114], 0, 0, 0⟩ :: ⟨14, [], 0, 0, 0⟩ :: T) 0 (one1 fun _ => g [111, 116, 104, 101, 114]) := .pieceU (.atomP (.field (w := ⟨1, [111, 116, 104, 101, 114], 0, 0, 0⟩) (c := ⟨14, [], 0, 0, 0⟩) rfl rfl hD))
  have d4 := (d1.single.list2 d2.single).list2 d3.single
  have d5 : D .group (tkOpen :: (([⟨1, [122], 0, 0, 0⟩] ++ T ++ ⟨1, [111, 116, 104, 101, 114], 0, 0, 0⟩ :: ⟨14, [], 0, 0, 0⟩ :: T) ++ [tkClose])) 1 _ := .group rfl d4 rfl
  have d6 : D .unary _ 1 (one1 fun _ => ndList 0 [(0, ndLeaf 1 f [122] 0), (0, g f), (0, g [111, 116, 104, 101, 114])]) := .pieceU (.atomP (.field (w := ⟨1, f, 0, 0, 0⟩) (c := ⟨14, [], 0, 0, 0⟩) rfl rfl (.groupB d5)))
  have e : tkOpen :: (([⟨1, [122], 0, 0, 0⟩] ++ T ++ ⟨1, [111, 116, 104, 101, 114], 0, 0, 0⟩ :: ⟨14, [], 0, 0, 0⟩ :: T) ++ [tkClose]) = tkOpen :: (([⟨1, [122], 0, 0, 0⟩] ++ (T ++ ([⟨1, [111, 116, 104, 101, 114], 0, 0, 0⟩] ++ ⟨14, [], 0, 0, 0⟩ :: T))) ++ [tkClose]) := by simp
  rw [e] at d6
  exact der_mk hT1 d6.single rfl
end Go.Proofs.YtcomdkejpaoneaaDoor
end
section
namespace Go.Proofs.YtcomdkejpaoneaaDoor
open Go.RowKit
set_option maxRecDepth 100000
set_option maxHeartbeats 1000000
set_option linter.unusedSimpArgs false
set_option linter.unusedVariables false
def pw10 : Nat → Nat
  | 0 => 10
  | k + 1 => 10 * pw10 k
def DgRel (n : Nat) (w : World) (nv sv : Value) (wr : World) : Prop :=
  ∃ (k m : Nat) (s : ByteArray), m < 1024 ∧ m < pw10 k ∧ s.size ≤ 10 - k ∧ k ≤ 4 ∧ nv = .int .i64 (m : Int) ∧ sv = .string s ∧ dgN n = dgL k m s.data.toList ∧ Below w.heap.size w wr
theorem chr_dig (m : Nat) : (chr (48 + (m : Int) % 10)).data.toList = [UInt8.ofNat (48 + m % 10)] := by
  rw [chr_data]
  congr 2
theorem digits_any (n : Nat) (hn : n < 1024) (w : World) :
    Calls Tryd.prog 25 #[.int .i64 (n : Int)] w (StrRet (str (dgN n)) w) := by
  have hcv := fun (W : World) (x : Int) => conv_one (P := Tryd.prog) 94 5 5 Tryd.underlying94 Tryd.underlying5 9 Tryd.underlying9 W x
  have HP := Lib.hid (show dgN n = dgL 4 n (chr (48 + (n : Int) % 10)).data.toList from by rw [chr_dig]; rfl)
  have hcs := chr_size (48 + (n : Int) % 10)
  have hm1 : 0 ≤ (n : Int) % 10 ∧ (n : Int) % 10 ≤ 9 := by omega
  go_enter Tryd.func25, Tryd.ntmps25
  go_wp2
  go_loopw [0, 3] (fun nv sv wr => DgRel n w nv sv wr) (fun nv _ _ => (intOf nv).toNat)
  case atStart => exact ⟨4, n, chr (48 + (n : Int) % 10), hn, by unfold pw10 pw10 pw10 pw10 pw10; omega, by omega, Nat.le_refl _, rfl, rfl, HP.out, (Below.refl _ _).alloc (Nat.le_refl _) _⟩
  case round =>
    obtain ⟨k, m, s, hm, hk, hs, hk4, rfl, rfl, hd, hb⟩ := hrel
    have HD := Lib.hid hd; have HB := Lib.hid hb
    have hBr := hb.size
    clear hd hb HP hcs hm1
    by_cases hlt : 9 < m
    · cases k with
      | zero => unfold pw10 at hk; omega
      | succ k =>
        have e0 : ((m / 10 : Nat) : Int) = (m : Int) / 10 := by omega
        have HN := Lib.hid (show dgN n = dgL k (m / 10) ((chr (48 + (m : Int) / 10 % 10)) ++ s).data.toList from by
          rw [← e0, ba_append, chr_dig, HD.out, dgL, if_pos hlt]; rfl)
        have HK := Lib.hid (show m / 10 < pw10 k from by unfold pw10 at hk; omega)
        have HCS := Lib.hid (chr_size (48 + (m : Int) / 10 % 10))
        have hm1 : 0 ≤ (m : Int) / 10 % 10 ∧ (m : Int) / 10 % 10 ≤ 9 := by omega
        have hm2 : 0 ≤ (m : Int) / 10 ∧ (m : Int) / 10 ≤ 103 := by omega
        have hm3 : 0 ≤ (m : Int) ∧ (m : Int) ≤ 1023 := by omega
        have hszz : (chr (48 + (m : Int) / 10 % 10)).size + s.size ≤ 100 := by rw [HCS.out]; omega
        have hd1 : decide ((9 : Int) < (m : Int)) = true := decide_eq_true (by omega)
        have hd2 : decide (9 < m) = true := decide_eq_true hlt
        have HLT := Lib.hid hlt
        have E0 := Lib.hid e0
        clear e0
        clear hk
        go_wp2
        go_roundw
        case rel => exact ⟨k, m / 10, chr (48 + (m : Int) / 10 % 10) ++ s, by omega, HK.out, by rw [ba_append_size, HCS.out]; omega, by omega, by rw [E0.out], rfl, HN.out, HB.out.alloc hBr _⟩
        case measure => have := HLT.out; simp [intOf]; omega
    · have hd1 : decide ((9 : Int) < (m : Int)) = false := decide_eq_false (by omega)
      have hd2 : decide (9 < m) = false := decide_eq_false hlt
      have HF := Lib.hid (show s = str (dgN n) from ba_ext (by
        rw [str_data, HD.out]
        cases k with
        | zero => rfl
        | succ k => rw [dgL, if_neg hlt]))
      go_wp2
      go_ret
      exact ⟨congrArg (fun z => Ending.returned (.string z)) HF.out, HB.out⟩
end Go.Proofs.YtcomdkejpaoneaaDoor
end
section
namespace Go.Proofs.YtcomdkejpaoneaaDoor
open Go.RowKit
set_option maxRecDepth 100000
set_option maxHeartbeats 4000000
set_option linter.unusedSimpArgs false
set_option linter.unusedVariables false
def folS : Shape Int := { tS := 33, tE := 3, size := 1, bytes := 8, enc := fun x => [.int .i64 x], zero := .int .i64 0 }
theorem folOk : folS.Ok where
  under := Tryd.underlying33
  info := by kernel_rfl
  zs := rfl
  pos := by decide
  len := fun _ => rfl
  one := fun x u hu => by
    simp only [folS, List.mem_cons, List.not_mem_nil, or_false] at hu
    subst hu; rfl
  small := by decide
end Go.Proofs.YtcomdkejpaoneaaDoor
end
section
namespace Go.Proofs.YtcomdkejpaoneaaDoor
open Go.RowKit
set_option maxRecDepth 100000
set_option maxHeartbeats 1000000
set_option linter.unusedSimpArgs false
set_option linter.unusedVariables false
structure Sl where
  a : Option Addr
  n : Nat
  c : Nat
def Sl.v (s : Sl) : Value := .slice s.a s.n s.c
structure NV where
  kind : Int
  field : List UInt8
  text : List UInt8
  n : Int
  lo : Bd
  hi : Bd
  occ : Sl
  kids : Sl
def NV.cells (x : NV) : List Value := [.int .i64 x.kind, .string (str x.field), .string (str x.text), .int .i64 x.n, .bool x.lo.open_, .bool x.lo.in_, .string (str x.lo.text), .bool x.hi.open_, .bool x.hi.in_, .string (str x.hi.text), .slice x.occ.a x.occ.n x.occ.c, .slice x.kids.a x.kids.n x.kids.c]
def NV.val (x : NV) : Value := .agg #[.int .i64 x.kind, .string (str x.field), .string (str x.text), .int .i64 x.n, .bool x.lo.open_, .bool x.lo.in_, .string (str x.lo.text), .bool x.hi.open_, .bool x.hi.in_, .string (str x.hi.text), .slice x.occ.a x.occ.n x.occ.c, .slice x.kids.a x.kids.n x.kids.c]
def ndS : Shape NV := { tS := 34, tE := 36, size := 12, bytes := 144, enc := NV.cells, zero := .agg #[.int .i64 0, .string ⟨#[]⟩, .string ⟨#[]⟩, .int .i64 0, .bool false, .bool false, .string ⟨#[]⟩, .bool false, .bool false, .string ⟨#[]⟩, .slice none 0 0, .slice none 0 0] }
theorem ndOk : ndS.Ok where
  under := Tryd.underlying34
  info := by kernel_rfl
  zs := rfl
  pos := by decide
  len := fun _ => rfl
  one := fun x u hu => by
    simp only [ndS, NV.cells, List.mem_cons, List.not_mem_nil, or_false] at hu
    rcases hu with rfl | rfl | rfl | rfl | rfl | rfl | rfl | rfl | rfl | rfl | rfl | rfl <;> rfl
  small := by decide
def RdF {α : Type} (S : Shape α) (w : World) (F : Nat → Prop) (s : Sl) (l : List α) : Prop :=
  s.n = l.length ∧ s.n ≤ s.c ∧ s.c ≤ maxLen ∧ (0 < l.length → ∃ a, s.a = some a ∧ F a.block ∧ ∀ j u, (S.cells l)[j]? = some u → w.cell? (a.add j) = some u) ∧ (s.a = none → s.c = 0)
section
variable {α : Type} {S : Shape α} {w w' : World} {F G : Nat → Prop} {s : Sl} {l : List α}
theorem RdF.rd {B : Nat} (h : RdF S w F s l) (hF : ∀ b, F b → b < B) : RdL S w B (.slice s.a s.n s.c) l := by
  obtain ⟨h1, h2, h3, h4, h5⟩ := h
  rw [h1] at h2 ⊢
  refine ⟨s.a, s.c, rfl, h2, h3, fun hn => ?_, h5⟩
  obtain ⟨a, e, hb, hc⟩ := h4 hn
  exact ⟨a, e, hF _ hb, hc⟩
theorem RdF.mono (h : RdF S w F s l) (hFG : ∀ b, F b → G b) : RdF S w G s l := by
  obtain ⟨h1, h2, h3, h4, h5⟩ := h
  refine ⟨h1, h2, h3, fun hn => ?_, h5⟩
  obtain ⟨a, e, hb, hc⟩ := h4 hn
  exact ⟨a, e, hFG _ hb, hc⟩
theorem RdF.keep (h : RdF S w F s l) (hk : ∀ p : Addr, F p.block → p.block < w.heap.size → w'.cell? p = w.cell? p) : RdF S w' F s l := by
  obtain ⟨h1, h2, h3, h4, h5⟩ := h
  refine ⟨h1, h2, h3, fun hn => ?_, h5⟩
  obtain ⟨a, e, hb, hc⟩ := h4 hn
  refine ⟨a, e, hb, fun j u hu => ?_⟩
  have h6 := hc j u hu
  rw [hk _ (by rw [block_of_add]; exact hb) (World.block_lt_of_cell? w _ h6)]
  exact h6
theorem RdF.nil (S : Shape α) (w : World) (F : Nat → Prop) : RdF S w F ⟨none, 0, 0⟩ [] := ⟨rfl, Nat.le_refl _, (by show 0 ≤ _; exact Nat.zero_le _), fun h => by simp at h, fun _ => rfl⟩
theorem RdF.of_own {B : Nat} {A : Option Addr} {n c : Nat} (h : OwnL S w B (.slice A n c) l) (hF : ∀ g, A = some ⟨g, 0, none⟩ → B ≤ g → g < w.heap.size → F g) : RdF S w F ⟨A, n, c⟩ l := by
  have hrd := RdL.of_own h
  obtain ⟨A', c', e, h1, h2, h3, h4⟩ := hrd
  injection e with e1 e2 e3
  subst e1 e2 e3
  refine ⟨rfl, h1, h2, fun hn => ?_, h4⟩
  obtain ⟨a, e, hb, hc⟩ := h3 hn
  refine ⟨a, e, ?_, hc⟩
  rcases h.2 with ⟨e2, h0⟩ | ⟨g, cap, cur, hv, hg, hh, _⟩
  · omega
  · injection hv with hv _ _
    rw [e] at hv
    injection hv with hv
    subst hv
    exact hF g e hg hb
end
inductive NdR (w : World) (F : Nat → Prop) : NV → Nd → Prop
  | mk {kind n : Int} {field text : List UInt8} {lo hi : Bd} {so sk : Sl} {occ : List Int} {nl : List NV} {kids : List Nd} : RdF folS w F so occ → RdF ndS w F sk nl → nl.length = kids.length →
      (∀ (i : Nat) (x : NV) (t : Nd), nl[i]? = some x → kids[i]? = some t → NdR w F x t) → NdR w F ⟨kind, field, text, n, lo, hi, so, sk⟩ (.mk kind field text n lo hi occ kids)
theorem NdR.mono {w : World} {F G : Nat → Prop} {x : NV} {t : Nd} (h : NdR w F x t) (hFG : ∀ b, F b → G b) : NdR w G x t := by
  induction h with
  | mk h1 h2 h3 _ ih => exact .mk (h1.mono hFG) (h2.mono hFG) h3 fun i x t hx ht => ih i x t hx ht
theorem NdR.keep {w w' : World} {F : Nat → Prop} {x : NV} {t : Nd} (h : NdR w F x t) (hk : ∀ p : Addr, F p.block → p.block < w.heap.size → w'.cell? p = w.cell? p) : NdR w' F x t := by
  induction h with
  | mk h1 h2 h3 _ ih => exact .mk (h1.keep hk) (h2.keep hk) h3 fun i x t hx ht => ih i x t hx ht
def NdRs (w : World) (F : Nat → Prop) (nl : List NV) (ts : List Nd) : Prop := nl.length = ts.length ∧ ∀ (i : Nat) (x : NV) (t : Nd), nl[i]? = some x → ts[i]? = some t → NdR w F x t
section
variable {w w' : World} {F G : Nat → Prop} {nl : List NV} {ts : List Nd}
theorem NdRs.mono (h : NdRs w F nl ts) (hFG : ∀ b, F b → G b) : NdRs w G nl ts := ⟨h.1, fun i x t hx ht => (h.2 i x t hx ht).mono hFG⟩
theorem NdRs.keep (h : NdRs w F nl ts) (hk : ∀ p : Addr, F p.block → p.block < w.heap.size → w'.cell? p = w.cell? p) : NdRs w' F nl ts := ⟨h.1, fun i x t hx ht => (h.2 i x t hx ht).keep hk⟩
theorem NdRs.nil (w : World) (F : Nat → Prop) : NdRs w F [] [] := ⟨rfl, fun i x t hx _ => by simp at hx⟩
theorem NdRs.snoc {x : NV} {t : Nd} (h : NdRs w F nl ts) (hx : NdR w F x t) : NdRs w F (nl ++ [x]) (ts ++ [t]) := by
  refine ⟨by rw [List.length_append, List.length_append, h.1]; rfl, fun i y s hy hs => ?_⟩
  by_cases hi : i < nl.length
  · rw [List.getElem?_append_left hi] at hy
    rw [List.getElem?_append_left (by rw [← h.1]; exact hi)] at hs
    exact h.2 i y s hy hs
  · rw [List.getElem?_append_right (by omega)] at hy
    rw [List.getElem?_append_right (by rw [← h.1]; omega), ← h.1] at hs
    obtain ⟨k, hk⟩ : ∃ k, k = i - nl.length := ⟨_, rfl⟩
    rw [← hk] at hy hs
    cases k with
    | zero => simp only [List.getElem?_cons_zero, Option.some.injEq] at hy hs; subst hy hs; exact hx
    | succ k => simp at hy
end
def rng (C D : Nat) : Nat → Prop := fun b => C ≤ b ∧ b < D
structure PB (pb : Nat) (w w' : World) : Prop where
  below : Below pb w w'
  keep : ∀ b, b < w.heap.size → b ≠ pb → w'.heap[b]? = w.heap[b]?
section
variable {pb : Nat} {w w' w'' : World}
theorem PB.refl (pb : Nat) (w : World) : PB pb w w := ⟨Below.refl _ _, fun _ _ _ => rfl⟩
theorem PB.size (h : PB pb w w') : w.heap.size ≤ w'.heap.size := h.below.size
theorem PB.trans (h : PB pb w w') (h2 : PB pb w' w'') : PB pb w w'' :=
  ⟨h.below.trans h2.below, fun b hb hp => (h2.keep b (Nat.lt_of_lt_of_le hb h.size) hp).trans (h.keep b hb hp)⟩
theorem PB.of (h : Below w.heap.size w w') (hp : pb ≤ w.heap.size) : PB pb w w' := ⟨h.mono hp, fun b hb _ => h.block b hb⟩
theorem PB.set_ (i : Nat) (u : Value) : PB pb w (w.setCell ⟨pb, i, none⟩ u) :=
  ⟨(Below.refl _ _).setCell (p := ⟨pb, i, none⟩) (Nat.le_refl _) _, fun b _ hp => Below.heap_setCell w ⟨pb, i, none⟩ u b hp⟩
theorem PB.new {z i : Nat} {u : Value} (h : PB pb w w') (hp : pb ≤ w.heap.size) (hz : w.heap.size ≤ z) : PB pb w (w'.setCell ⟨z, i, none⟩ u) :=
  ⟨h.below.setCell (p := ⟨z, i, none⟩) (Nat.le_trans hp hz) _, fun b hb hn => (Below.heap_setCell w' ⟨z, i, none⟩ u b (by show b ≠ z; omega)).trans (h.keep b hb hn)⟩
theorem PB.alloc (h : PB pb w w') (hp : pb ≤ w.heap.size) (o : Obj) : PB pb w (w'.alloc o) :=
  h.trans (.of ((Below.refl _ _).alloc (Nat.le_refl _) o) (Nat.le_trans hp h.size))
theorem PB.drew (h : PB pb w w') : PB pb w w'.drew := ⟨h.below.drew, h.keep⟩
theorem PB.cell (h : PB pb w w') (p : Addr) (hp : p.block < w.heap.size) (hn : p.block ≠ pb) : w'.cell? p = w.cell? p := World.cell?_of_block (h.keep _ hp hn)
end
theorem NdR.pb {pb : Nat} {w w' : World} {F : Nat → Prop} {x : NV} {t : Nd} (h : NdR w F x t) (hk : PB pb w w') (hF : ∀ b, F b → b ≠ pb) : NdR w' F x t := h.keep fun p hp hlt => hk.cell p hlt (hF _ hp)
theorem NdRs.pb {pb : Nat} {w w' : World} {F : Nat → Prop} {nl : List NV} {ts : List Nd} (h : NdRs w F nl ts) (hk : PB pb w w') (hF : ∀ b, F b → b ≠ pb) : NdRs w' F nl ts := h.keep fun p hp hlt => hk.cell p hlt (hF _ hp)
theorem OwnL.pb {α : Type} {S : Shape α} {pb B : Nat} {w w' : World} {v : Value} {l : List α} (h : OwnL S w B v l) (hk : PB pb w w') (hp : pb < B) : OwnL S w' B v l := by
  refine ⟨h.1, ?_⟩
  rcases h.2 with h2 | ⟨g, cap, cur, hv, hg, hh, r⟩
  · exact Or.inl h2
  · refine Or.inr ⟨g, cap, cur, hv, hg, ?_, r⟩
    have hlt : g < w.heap.size := by
      rcases Nat.lt_or_ge g w.heap.size with h | h
      · exact h
      · rw [Array.getElem?_eq_none h] at hh; cases hh
    rw [hk.keep g hlt (by omega)]; exact hh
structure PsAt (w : World) (pb : Nat) (A : Option Addr) (cap : Nat) (ts : List Lt) (k : Nat) : Prop where
  blk : Blk w pb 73 #[.slice A ts.length cap, .int .i64 (k : Int)]
  rd : RdL ltS w pb (.slice A ts.length cap) ts
section
variable {w w' : World} {pb cap k : Nat} {A : Option Addr} {ts : List Lt}
theorem PsAt.lt (h : PsAt w pb A cap ts k) : pb < w.heap.size := h.blk.lt
theorem PsAt.belowW (h : PsAt w pb A cap ts k) (hb : Below w.heap.size w w') : PsAt w' pb A cap ts k := ⟨h.blk.belowW hb, h.rd.belowW (Nat.le_of_lt h.lt) hb⟩
theorem PsAt.drew (h : PsAt w pb A cap ts k) : PsAt w.drew pb A cap ts k := h.belowW (Below.refl _ _).drew
theorem PsAt.alloc (h : PsAt w pb A cap ts k) (o : Obj) : PsAt (w.alloc o) pb A cap ts k := h.belowW ((Below.refl _ _).alloc (Nat.le_refl _) _)
theorem PsAt.to (h : PsAt w pb A cap ts k) (j : Nat) : PsAt (w.setCell ⟨pb, 1, none⟩ (.int .i64 (j : Int))) pb A cap ts j :=
  ⟨h.blk.set_ 1 _, h.rd.below ((Below.refl _ _).setCell (p := ⟨pb, 1, none⟩) (Nat.le_refl _) _)⟩
theorem PsAt.far {z i : Nat} {u : Value} (h : PsAt w pb A cap ts k) (hz : pb < z) : PsAt (w.setCell ⟨z, i, none⟩ u) pb A cap ts k :=
  ⟨h.blk.far (p := ⟨z, i, none⟩) (by show pb ≠ z; omega) _, h.rd.below ((Below.refl _ _).setCell (p := ⟨z, i, none⟩) (Nat.le_of_lt hz) _)⟩
theorem PsAt.keptN {u : Value} (h : PsAt w pb A cap ts k) (hb : Below pb w w') (hk : KeptBut w w' u) (hu : u.ownBlock ≠ some pb) : PsAt w' pb A cap ts k := by
  refine ⟨?_, h.rd.below hb⟩
  have h2 := h.blk
  unfold Blk at h2 ⊢
  rw [hk pb h.lt hu]; exact h2
end
end Go.Proofs.YtcomdkejpaoneaaDoor
end
section
namespace Go.Proofs.YtcomdkejpaoneaaDoor
open Go.RowKit
set_option maxRecDepth 100000
set_option maxHeartbeats 4000000
set_option linter.unusedSimpArgs false
set_option linter.unusedVariables false
theorem pkind_any (w : World) (pb : Nat) (A : Option Addr) (cap : Nat) (ts : List Lt) (k : Nat) (h : PsAt w pb A cap ts k) (hk : k < ts.length) (hl : ts.length ≤ 100000000) :
    Calls Tryd.prog 54 #[.pointer (some ⟨pb, 0, none⟩)] w fun e w' => e = .returned (.int .i64 ts[k].kind) ∧ Below w.heap.size w w' ∧ w'.heap.size = w.heap.size := by
  obtain ⟨a, rfl, hab, q0, -, -, -, -⟩ := at_lt h.rd hk
  have c0 := h.blk.cell 0; have c1 := h.blk.cell 1
  simp only [List.getElem?_toArray, List.getElem?_cons_zero, List.getElem?_cons_succ] at c0 c1
  generalize ts[k].kind = kd at *
  clear h
  go_enter Tryd.func54, Tryd.ntmps54
  go_wp2
  go_quiet (fail)
  go_wp2
  go_ret
  exact ⟨rfl, below_drewN (Below.refl _ _) _, rfl⟩
def NxtRet (pb : Nat) (A : Option Addr) (cap : Nat) (ts : List Lt) (k : Nat) (t : Lt) (w : World) (e : Ending) (w' : World) : Prop :=
  e = .returned (ltVal t) ∧ PB pb w w' ∧ PsAt w' pb A cap ts (k + 1)
theorem pnext_any (w : World) (pb : Nat) (A : Option Addr) (cap : Nat) (ts : List Lt) (k : Nat) (h : PsAt w pb A cap ts k) (hk : k < ts.length) (hl : ts.length ≤ 100000000) :
    Calls Tryd.prog 86 #[.pointer (some ⟨pb, 0, none⟩)] w (NxtRet pb A cap ts k ts[k] w) := by
  obtain ⟨⟨tk, tx, tn, ta, te⟩, ht⟩ : ∃ t, t = ts[k] := ⟨_, rfl⟩
  rw [← ht]
  have HT := Lib.hid ht
  clear ht
  have H := Lib.hid h
  have HA1 := Lib.hid (h.alloc (.cells #[.int .i64 0, .string ⟨#[]⟩, .int .i64 0, .int .i64 0, .int .i64 0] 49))
  have HZ := Lib.hid (Blk.new w 49 #[.int .i64 0, .string ⟨#[]⟩, .int .i64 0, .int .i64 0, .int .i64 0])
  have HB := Lib.hid (show Below w.heap.size w (w.alloc (.cells #[.int .i64 0, .string ⟨#[]⟩, .int .i64 0, .int .i64 0, .int .i64 0] 49)) from (Below.refl _ _).alloc (Nat.le_refl _) _)
  have hw1 : (w.alloc (.cells #[.int .i64 0, .string ⟨#[]⟩, .int .i64 0, .int .i64 0, .int .i64 0] 49)).heap.size = w.heap.size + 1 := World.size_alloc _ _
  have HW1 := Lib.hid hw1
  clear h hw1
  go_enter Tryd.func86, Tryd.ntmps86
  go_wp2
  generalize w.alloc (.cells #[.int .i64 0, .string ⟨#[]⟩, .int .i64 0, .int .i64 0, .int .i64 0] 49) = w1 at *
  obtain ⟨a, rfl, hab, q0, q1, q2, q3, q4⟩ := at_lt HA1.out.rd hk
  have c0 := HA1.out.blk.cell 0; have c1 := HA1.out.blk.cell 1; have lp := HA1.out.lt
  simp only [List.getElem?_toArray, List.getElem?_cons_zero, List.getElem?_cons_succ] at c0 c1
  rw [← HT.out] at q0 q1 q2 q3 q4
  simp only [] at q0 q1 q2 q3 q4
  have HSF := Lib.hid (fun (W : World) (hW : Below w1.heap.size w1 W) => (show W.cell? ⟨pb, 0, none⟩ = some (.slice (some a) ts.length cap) ∧ W.cell? ⟨pb, 1, none⟩ = some (.int .i64 (k : Int)) ∧ W.cell? (a.add (k * 5)) = some (.int .i64 tk) ∧ W.cell? ⟨(a.add (k * 5)).block, (a.add (k * 5)).off + 1, none⟩ = some (.string (str tx)) ∧ W.cell? ⟨(a.add (k * 5)).block, (a.add (k * 5)).off + 2, none⟩ = some (.int .i64 tn) ∧ W.cell? ⟨(a.add (k * 5)).block, (a.add (k * 5)).off + 3, none⟩ = some (.int .i64 ta) ∧ W.cell? ⟨(a.add (k * 5)).block, (a.add (k * 5)).off + 4, none⟩ = some (.int .i64 te) ∧ Below w1.heap.size w1 W from by
    have hlt : (a.add (k * 5)).block < w1.heap.size := by omega
    exact ⟨(hW.cell (p := ⟨pb, 0, none⟩) lp).trans c0, (hW.cell (p := ⟨pb, 1, none⟩) lp).trans c1, (hW.cell hlt).trans q0, (hW.cell (p := ⟨(a.add (k * 5)).block, (a.add (k * 5)).off + 1, none⟩) hlt).trans q1, (hW.cell (p := ⟨(a.add (k * 5)).block, (a.add (k * 5)).off + 2, none⟩) hlt).trans q2, (hW.cell (p := ⟨(a.add (k * 5)).block, (a.add (k * 5)).off + 3, none⟩) hlt).trans q3, (hW.cell (p := ⟨(a.add (k * 5)).block, (a.add (k * 5)).off + 4, none⟩) hlt).trans q4, hW⟩))
  have HA2 := Lib.hid ((HA1.out.alloc (.cells #[.int .i64 tk, .string (str tx), .int .i64 tn, .int .i64 ta, .int .i64 te] 49)).drew)
  have HT2 := Lib.hid ((Blk.new w1 49 #[.int .i64 tk, .string (str tx), .int .i64 tn, .int .i64 ta, .int .i64 te]).drew)
  have HZ2 := Lib.hid ((HZ.out.alloc (.cells #[.int .i64 tk, .string (str tx), .int .i64 tn, .int .i64 ta, .int .i64 te] 49)).drew)
  have HB2 := Lib.hid ((HB.out.alloc HB.out.size (.cells #[.int .i64 tk, .string (str tx), .int .i64 tn, .int .i64 ta, .int .i64 te] 49)).drew)
  clear q0 q1 q2 q3 q4 c0 c1 lp
  go_region_held3 (fun W => W.cell? ⟨pb, 0, none⟩ = some (.slice (some a) ts.length cap) ∧ W.cell? ⟨pb, 1, none⟩ = some (.int .i64 (k : Int)) ∧ W.cell? (a.add (k * 5)) = some (.int .i64 tk) ∧ W.cell? ⟨(a.add (k * 5)).block, (a.add (k * 5)).off + 1, none⟩ = some (.string (str tx)) ∧ W.cell? ⟨(a.add (k * 5)).block, (a.add (k * 5)).off + 2, none⟩ = some (.int .i64 tn) ∧ W.cell? ⟨(a.add (k * 5)).block, (a.add (k * 5)).off + 3, none⟩ = some (.int .i64 ta) ∧ W.cell? ⟨(a.add (k * 5)).block, (a.add (k * 5)).off + 4, none⟩ = some (.int .i64 te) ∧ Below w1.heap.size w1 W) (exact HSF.out _ (by repeat (first | assumption | exact Below.refl _ _ | with_reducible refine Below.drew ?_ | with_reducible refine Below.alloc ?_ (by first | exact Nat.le_refl _ | exact Below.size (by assumption)) _))) (fail)
  clear HSF HA1 HZ HB
  generalize (w1.alloc (.cells #[.int .i64 tk, .string (str tx), .int .i64 tn, .int .i64 ta, .int .i64 te] 49)).drew = w2 at *
  have c1 := HA2.out.blk.cell 1; have lp := HA2.out.lt; have fp1 := HA2.out.blk.frozen 1
  have t0 := HT2.out.cell 0; have t1 := HT2.out.cell 1; have t2 := HT2.out.cell 2; have t3 := HT2.out.cell 3; have t4 := HT2.out.cell 4
  have z0 := HZ2.out.cell 0; have z1 := HZ2.out.cell 1; have z2 := HZ2.out.cell 2; have z3 := HZ2.out.cell 3; have z4 := HZ2.out.cell 4; have lz := HZ2.out.lt
  have fz0 := HZ2.out.frozen 0; have fz1 := HZ2.out.frozen 1; have fz2 := HZ2.out.frozen 2; have fz3 := HZ2.out.frozen 3; have fz4 := HZ2.out.frozen 4
  simp only [List.getElem?_toArray, List.getElem?_cons_zero, List.getElem?_cons_succ] at c1 t0 t1 t2 t3 t4 z0 z1 z2 z3 z4
  have hp := H.out.lt
  have hnz : ¬ pb = w.heap.size := by omega
  have hn1 : ¬ pb = w1.heap.size := by have := HW1.out; omega
  have hnz2 : ¬ w.heap.size = pb := by omega
  have hn12 : ¬ w1.heap.size = pb := by have := HW1.out; omega
  have hwk : IntKind.i64.wrap ((k : Int) + 1) = (k : Int) + 1 := IntWalk.i64_in _ (by omega)
  go_wp2
  refine bodyPost_ret (v := ltVal ⟨tk, tx, tn, ta, te⟩) ?_ rfl ?_
  · simp [results, Tryd.results86, go_sem, ltVal, fz0, fz1, fz2, fz3, fz4, lz, z0, z1, z2, z3, z4]
  · have h3 := HA2.out.to (k + 1)
    have hz : pb < w.heap.size := hp
    refine ⟨rfl, ?_, ((((h3.far (z := w.heap.size) (i := 0) hz).far (z := w.heap.size) (i := 1) hz).far (z := w.heap.size) (i := 2) hz).far (z := w.heap.size) (i := 3) hz).far (z := w.heap.size) (i := 4) hz⟩
    have hle : pb ≤ w.heap.size := Nat.le_of_lt hp
    have hb2 := (PB.of (pb := pb) HB2.out hle).trans (PB.set_ 1 (.int .i64 ((k + 1 : Nat) : Int)))
    exact ((((hb2.new hle (Nat.le_refl _)).new hle (Nat.le_refl _)).new hle (Nat.le_refl _)).new hle (Nat.le_refl _)).new hle (Nat.le_refl _)
def TakRet (pb : Nat) (A : Option Addr) (cap : Nat) (ts : List Lt) (k : Nat) (b : Bool) (w : World) (e : Ending) (w' : World) : Prop :=
  e = .returned (.bool b) ∧ PB pb w w' ∧ PsAt w' pb A cap ts (if b = true then k + 1 else k)
theorem ptakes_any (w : World) (pb : Nat) (A : Option Addr) (cap : Nat) (ts : List Lt) (k : Nat) (K : Int) (h : PsAt w pb A cap ts k) (hk : k < ts.length) (hl : ts.length ≤ 100000000) :
    Calls Tryd.prog 55 #[.pointer (some ⟨pb, 0, none⟩), .int .i64 K] w (TakRet pb A cap ts k (decide (ts[k].kind = K)) w) := by
  have HK := Lib.hid (pkind_any w pb A cap ts k h hk hl)
  have H := Lib.hid h
  generalize ts[k].kind = kd at *
  clear h
  by_cases he : kd = K
  · have e1 : (kd != K) = false := by simpa using he
    rw [decide_eq_true he]
    clear he
    go_enter Tryd.func55, Tryd.ntmps55
    go_wp2_with fail
    refine HK.out.mono ?_
    rintro e w1 ⟨rfl, hb, hs⟩
    have HB := Lib.hid hb
    have HP := Lib.hid (H.out.belowW hb)
    have c1 := HP.out.blk.cell 1; have lp := HP.out.lt; have fp1 := HP.out.blk.frozen 1
    simp only [List.getElem?_toArray, List.getElem?_cons_zero, List.getElem?_cons_succ] at c1
    have hwk : IntKind.i64.wrap ((k : Int) + 1) = (k : Int) + 1 := IntWalk.i64_in _ (by omega)
    clear hb hs
    go_wp2
    go_ret
    exact ⟨rfl, (PB.of HB.out (Nat.le_of_lt H.out.lt)).trans (PB.set_ 1 _), HP.out.to (k + 1)⟩
  · have e1 : (kd != K) = true := by simpa using he
    rw [decide_eq_false he]
    clear he
    go_enter Tryd.func55, Tryd.ntmps55
    go_wp2_with fail
    refine HK.out.mono ?_
    rintro e w1 ⟨rfl, hb, hs⟩
    have HB := Lib.hid hb
    have HP := Lib.hid (H.out.belowW hb)
    clear hb hs
    go_wp2
    go_ret
    exact ⟨rfl, PB.of HB.out (Nat.le_of_lt H.out.lt), HP.out⟩
end Go.Proofs.YtcomdkejpaoneaaDoor
end
