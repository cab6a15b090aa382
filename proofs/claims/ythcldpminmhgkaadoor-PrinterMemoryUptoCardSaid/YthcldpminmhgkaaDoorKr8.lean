/- Merged for a claim by shake.py: Gr Gm Gc Ma Mc Mn Mt -/
import Derived.Deep.RegionLaw
import Derived.Test.YthcldpminmhgkaaDoorKr1
import Derived.Test.YthcldpminmhgkaaDoorKr4
import Derived.Test.YthcldpminmhgkaaDoorRows
set_option linter.unusedSimpArgs false
set_option linter.unusedVariables false
set_option maxRecDepth 100000
set_option maxHeartbeats 8000000
section
namespace Go.Proofs.YthcldpminmhgkaaDoor
structure Lt where
 kind : Int
 text : List UInt8
 n : Int
 at_ : Int
 end_ : Int
structure Bd where
 open_ : Bool
 in_ : Bool
 text : List UInt8
inductive Nd where
 | mk (kind : Int) (field text : List UInt8) (n : Int) (lo hi : Bd) (occur : List Int) (kids : List Nd)
def bd0 : Bd := ⟨false, false, []⟩
def ndLeaf (kind : Int) (field text : List UInt8) (n : Int) : Nd := .mk kind field text n bd0 bd0 [] []
def ndKids (kind n : Int) (kids : List Nd) : Nd := .mk kind [] [] n bd0 bd0 [] kids
def ndList (n : Int) (l : List (Int × Nd)) : Nd := .mk 9 [] [] n bd0 bd0 (l.map (·.1)) (l.map (·.2))
def starT (t : Lt) : Bool := decide (t.kind = 2) && decide (t.text = [42])
def sideT (t : Lt) : Bool := decide (t.kind = 1) || decide (t.kind = 3) || starT t
def sideN (t : Lt) (i : Bool) : Bd := if t.kind = 2 then ⟨true, false, []⟩ else ⟨false, i, t.text⟩
def patF (field all : List UInt8) : List UInt8 → List UInt8 → Nd
 | letters, [] => ndLeaf 4 field all 0
 | letters, [c] => if c = 42 then ndLeaf 3 field letters 0 else ndLeaf 4 field all 0
 | letters, c :: d :: r => if c = 63 ∨ c = 42 then ndLeaf 4 field all 0
  else if c = 92 then patF field all (letters ++ [d]) r else patF field all (letters ++ [c]) (d :: r)
def patN (field text : List UInt8) : Nd := if text = [42] then ndLeaf 7 field [] 0 else patF field text [] text
def wrapN (kind : Int) : List (Int × Nd) → List (Int × Nd)
 | [x] => [(0, x.2)]
 | l => [(0, ndKids kind 0 (l.map (·.2)))]
def treeN : List (Int × Nd) → Nd
 | [(0, x)] => x
 | l => ndList 0 l
abbrev Vl := List UInt8 → List (Int × Nd)
inductive Pt where
 | leaf | group | body | atom | piece | unary | maxes | ands | ors | clause | list
deriving DecidableEq
inductive D : Pt → List Lt → Nat → Vl → Prop
 | word {t : Lt} : t.kind = 1 → D .leaf [t] 0 fun f => [(0, ndLeaf 1 f t.text 0)]
 | edits {t u : Lt} : t.kind = 1 → u.kind = 20 → (u.n = -1 ∨ u.n = 1 ∨ u.n = 2) → D .leaf [t, u] 0 fun f => [(0, ndLeaf 5 f t.text (if u.n < 0 then 2 else u.n))]
 | pat {t : Lt} : t.kind = 2 → D .leaf [t] 0 fun f => [(0, patN f t.text)]
 | quo {t : Lt} : t.kind = 3 → D .leaf [t] 0 fun f => [(0, ndLeaf 2 f t.text 0)]
 | slop {t u : Lt} : t.kind = 3 → u.kind = 20 → 0 ≤ u.n → D .leaf [t, u] 0 fun f => [(0, ndLeaf 2 f t.text u.n)]
 | span {a b c d e : Lt} : (a.kind = 10 ∨ a.kind = 12) → sideT b = true → c.kind = 7 → sideT d = true → (e.kind = 11 ∨ e.kind = 13) →
   D .leaf [a, b, c, d, e] 0 fun f => [(0, .mk 6 f [] 0 (sideN b (decide (a.kind = 10))) (sideN d (decide (e.kind = 11))) [] [])]
 | group {o c : Lt} {A : List Lt} {n : Nat} {v : Vl} : o.kind = 8 → D .list A n v → c.kind = 9 → D .group (o :: (A ++ [c])) (n + 1) fun f => [(0, treeN (v f))]
 | least {o c l : Lt} {A : List Lt} {n : Nat} {v : Vl} : o.kind = 8 → D .list A n v → c.kind = 9 → l.kind = 21 →
   D .group (o :: (A ++ [c, l])) (n + 1) fun f => [(0, if 0 < l.n then ndList l.n (v f) else treeN (v f))]
 | leafB {A : List Lt} {n : Nat} {v : Vl} : D .leaf A n v → D .body A n v
 | groupB {A : List Lt} {n : Nat} {v : Vl} : D .group A n v → D .body A n v
 | bodyA {A : List Lt} {n : Nat} {v : Vl} : D .body A n v → D .atom A n v
 | field {w c : Lt} {A : List Lt} {n : Nat} {v : Vl} : w.kind = 1 → c.kind = 14 → D .body A n v → D .atom (w :: c :: A) n fun _ => v w.text
 | all {s c t : Lt} : starT s = true → c.kind = 14 → starT t = true → D .atom [s, c, t] 0 fun _ => [(0, ndLeaf 8 [] [] 0)]
 | atomP {A : List Lt} {n : Nat} {v : Vl} : D .atom A n v → D .piece A n v
 | sfx {b : Lt} {A : List Lt} {n : Nat} {v : Vl} : D .piece A n v → (b.kind = 18 ∨ b.kind = 19) → D .piece (A ++ [b]) (n + 1) fun f => [(0, ndKids (if b.kind = 19 then 15 else 14) b.n ((v f).map (·.2)))]
 | pieceU {A : List Lt} {n : Nat} {v : Vl} : D .piece A n v → D .unary A n v
 | not {t : Lt} {A : List Lt} {n : Nat} {v : Vl} : t.kind = 6 → D .unary A n v → D .unary (t :: A) (n + 1) fun f => [(0, ndKids 13 0 ((v f).map (·.2)))]
 | maxU {A : List Lt} {n : Nat} {v : Vl} : D .unary A n v → D .maxes A n v
 | bar {b : Lt} {A B : List Lt} {n m : Nat} {v u : Vl} : D .maxes A n v → b.kind = 17 → D .unary B m u → D .maxes (A ++ b :: B) (max n m) fun f => v f ++ u f
 | andM {A : List Lt} {n : Nat} {v : Vl} : D .maxes A n v → D .ands A n fun f => wrapN 12 (v f)
 | and {b : Lt} {A B : List Lt} {n m : Nat} {v u : Vl} : D .ands A n v → b.kind = 4 → D .maxes B m u → D .ands (A ++ b :: B) (max n m) fun f => v f ++ wrapN 12 (u f)
 | orA {A : List Lt} {n : Nat} {v : Vl} : D .ands A n v → D .ors A n fun f => wrapN 10 (v f)
 | or {b : Lt} {A B : List Lt} {n m : Nat} {v u : Vl} : D .ors A n v → b.kind = 5 → D .ands B m u → D .ors (A ++ b :: B) (max n m) fun f => v f ++ wrapN 10 (u f)
 | clauseO {A : List Lt} {n : Nat} {v : Vl} : D .ors A n v → D .clause A n fun f => wrapN 11 (v f)
 | sign {s : Lt} {A : List Lt} {n : Nat} {v : Vl} : (s.kind = 15 ∨ s.kind = 16) → D .unary A n v → D .clause (s :: A) n fun f => (v f).map fun x => ((if s.kind = 15 then 1 else 2 : Int), x.2)
 | one {A : List Lt} {n : Nat} {v : Vl} : D .clause A n v → D .list A n v
 | more {A B : List Lt} {n m : Nat} {v u : Vl} : D .list A n v → D .clause B m u → D .list (A ++ B) (max n m) fun f => v f ++ u f
structure Lev where
 most : Nat
 nots : Nat
 signed : Bool
def lev0 : Lev := ⟨0, 0, false⟩
structure Mc where
 state : Nat
 nest : Nat
 at_ : Lev
 below : List Lev
def Mc.close (m : Mc) : Mc := ⟨m.state, 0, ⟨max m.at_.most (m.at_.nots + m.nest), 0, m.at_.signed⟩, m.below⟩
def Mc.to (m : Mc) (s : Nat) : Mc := ⟨s, m.nest, m.at_, m.below⟩
def bodyM (m : Mc) (t : Lt) : Option Mc :=
 if t.kind = 1 then some (m.to 5)
 else if t.kind = 2 then some (m.to 9)
 else if t.kind = 3 then some (m.to 7)
 else if t.kind = 10 ∨ t.kind = 12 then some (m.to 10)
 else if t.kind = 8 then some ⟨0, m.nest, lev0, m.below ++ [m.at_]⟩
 else none
def unaryM (m : Mc) (t : Lt) : Option Mc :=
 if t.kind = 6 then some ⟨1, m.nest, ⟨m.at_.most, m.at_.nots + 1, m.at_.signed⟩, m.below⟩
 else if t.kind = 1 then some (m.to 4)
 else if starT t = true then some (m.to 6)
 else bodyM m t
def Mc.sgn (m : Mc) (b : Bool) : Mc := ⟨m.state, m.nest, ⟨m.at_.most, m.at_.nots, b⟩, m.below⟩
def clauseM (m : Mc) (t : Lt) : Option Mc :=
 if t.kind = 15 ∨ t.kind = 16 then some ((m.sgn true).to 1) else unaryM (m.sgn false) t
def sideM (m : Mc) (t : Lt) (s : Nat) : Option Mc := if sideT t = true then some (m.to s) else none
def shutM (m : Mc) : Option Mc := match m.below.getLast? with
 | none => none
 | some lv => some ⟨8, max m.at_.most (m.at_.nots + m.nest) + 1, lv, m.below.dropLast⟩
def afterM (m : Mc) (t : Lt) : Option Mc :=
 if m.state = 4 ∧ t.kind = 14 then some (m.to 2)
 else if m.state = 6 ∧ t.kind = 14 then some (m.to 3)
 else if t.kind = 20 then
  if ((m.state = 4 ∨ m.state = 5) ∧ (t.n = -1 ∨ t.n = 1 ∨ t.n = 2)) ∨ (m.state = 7 ∧ 0 ≤ t.n) then some (m.to 9) else none
 else if m.state = 8 ∧ t.kind = 21 then some (m.to 9)
 else if t.kind = 18 ∨ t.kind = 19 then some ⟨9, m.nest + 1, m.at_, m.below⟩
 else if t.kind = 4 ∨ t.kind = 5 ∨ t.kind = 17 then if m.at_.signed = true then none else some (m.close.to 1)
 else if t.kind = 0 then if m.below = [] then some (m.close.to 14) else none
 else if t.kind = 9 then shutM m
 else clauseM (m.close.to 0) t
def stepM (m : Mc) (t : Lt) : Option Mc :=
 if m.state = 0 then clauseM m t
 else if m.state = 1 then unaryM m t
 else if m.state = 2 then bodyM m t
 else if m.state = 3 then (if starT t = true then some (m.to 9) else none)
 else if m.state = 10 then sideM m t 11
 else if m.state = 11 then (if t.kind = 7 then some (m.to 12) else none)
 else if m.state = 12 then sideM m t 13
 else if m.state = 13 then (if t.kind = 11 ∨ t.kind = 13 then some (m.to 9) else none)
 else if m.state = 14 then none
 else afterM m t
def runM (m : Mc) : List Lt → Option Mc
 | [] => some m
 | t :: r => (stepM m t).bind fun m' => runM m' r
theorem runM_append (m : Mc) (a b : List Lt) : runM m (a ++ b) = (runM m a).bind fun m' => runM m' b := by
 induction a generalizing m with
 | nil => rfl
 | cons t a ih =>
  rw [List.cons_append, runM, runM]
  cases stepM m t with
  | none => rfl
  | some m' => exact ih m'
def OptD (p : Pt) (ts : List Lt) (n : Nat) : Prop := (ts = [] ∧ n = 0) ∨ ∃ v, D p ts n v
def OptM (p : Pt) (k : Int) (ts : List Lt) (n : Nat) : Prop := (ts = [] ∧ n = 0) ∨ ∃ A b v, ts = A ++ [b] ∧ b.kind = k ∧ D p A n v
inductive LC : List Lt → Bool → Nat → Prop
 | signed {L : List Lt} {s : Lt} {n : Nat} : OptD .list L n → (s.kind = 15 ∨ s.kind = 16) → LC (L ++ [s]) true n
 | plain {L O A M : List Lt} {n0 n1 n2 n3 : Nat} : OptD .list L n0 → OptM .ors 5 O n1 → OptM .ands 4 A n2 → OptM .maxes 17 M n3 → LC (L ++ (O ++ (A ++ M))) false (max n0 (max n1 (max n2 n3)))
theorem OptD.snoc {L B : List Lt} {n m : Nat} {v : Vl} (h : OptD .list L n) (hb : D .clause B m v) : ∃ v, D .list (L ++ B) (max n m) v := by
 rcases h with ⟨rfl, rfl⟩ | ⟨u, hu⟩
 ·exact ⟨v, by rw [List.nil_append, Nat.max_eq_right (Nat.zero_le _)]; exact .one hb⟩
 ·exact ⟨_, .more hu hb⟩
theorem OptM.nil (p : Pt) (k : Int) : OptM p k [] 0 := Or.inl ⟨rfl, rfl⟩
theorem OptM.mk {p : Pt} {k : Int} {A : List Lt} {b : Lt} {n : Nat} {v : Vl} (h : D p A n v) (hb : b.kind = k) : OptM p k (A ++ [b]) n := Or.inr ⟨A, b, v, rfl, hb, h⟩
def UC (lv : Lev) (ts : List Lt) : Prop := ∃ S N, LC S lv.signed lv.most ∧ (∀ t ∈ N, t.kind = 6) ∧ N.length = lv.nots ∧ ts = S ++ N
def BC (lv : Lev) (ts : List Lt) : Prop := ∃ U w c, UC lv U ∧ w.kind = 1 ∧ c.kind = 14 ∧ ts = U ++ [w, c]
def FC (lv : Lev) (ts : List Lt) : Prop := UC lv ts ∨ BC lv ts
theorem D.nots {N P : List Lt} {n : Nat} {v : Vl} (h : ∀ t ∈ N, t.kind = 6) (hp : D .unary P n v) : ∃ v, D .unary (N ++ P) (N.length + n) v := by
 induction N with
 | nil => exact ⟨v, by simpa using hp⟩
 | cons t N ih =>
  obtain ⟨u, hu⟩ := ih fun x hx => h x (List.mem_cons_of_mem _ hx)
  exact ⟨_, by rw [List.length_cons, Nat.add_right_comm]; exact .not (h t List.mem_cons_self) hu⟩
theorem FC.atom {lv : Lev} {F G : List Lt} {n : Nat} {v : Vl} (h : FC lv F) (hg : D .body G n v) : ∃ U P v, UC lv U ∧ D .piece P n v ∧ F ++ G = U ++ P := by
 rcases h with h | ⟨U, w, c, hU, hw, hc, rfl⟩
 ·exact ⟨F, G, v, h, .atomP (.bodyA hg), rfl⟩
 ·exact ⟨U, w :: c :: G, _, hU, .atomP (.field hw hc hg), by simp⟩
def Piece (lv : Lev) (n : Nat) (ts : List Lt) : Prop := ∃ U P v, UC lv U ∧ D .piece P n v ∧ ts = U ++ P
def Cur (st : Nat) (lv : Lev) (nest : Nat) (ts : List Lt) : Prop :=
 if st = 0 then lv.nots = 0 ∧ nest = 0 ∧ OptD .list ts lv.most
 else if st = 1 then nest = 0 ∧ UC lv ts
 else if st = 2 then nest = 0 ∧ BC lv ts
 else if st = 3 then nest = 0 ∧ ∃ U s c, UC lv U ∧ starT s = true ∧ c.kind = 14 ∧ ts = U ++ [s, c]
 else if st = 4 then nest = 0 ∧ ∃ U w, UC lv U ∧ w.kind = 1 ∧ ts = U ++ [w]
 else if st = 5 then nest = 0 ∧ ∃ F w, FC lv F ∧ w.kind = 1 ∧ ts = F ++ [w]
 else if st = 6 then nest = 0 ∧ ∃ U w, UC lv U ∧ starT w = true ∧ ts = U ++ [w]
 else if st = 7 then nest = 0 ∧ ∃ F w, FC lv F ∧ w.kind = 3 ∧ ts = F ++ [w]
 else if st = 8 then ∃ F o A c n v, FC lv F ∧ o.kind = 8 ∧ D .list A n v ∧ c.kind = 9 ∧ nest = n + 1 ∧ ts = F ++ (o :: (A ++ [c]))
 else if st = 9 then Piece lv nest ts
 else if st = 10 then nest = 0 ∧ ∃ F a, FC lv F ∧ (a.kind = 10 ∨ a.kind = 12) ∧ ts = F ++ [a]
 else if st = 11 then nest = 0 ∧ ∃ F a b, FC lv F ∧ (a.kind = 10 ∨ a.kind = 12) ∧ sideT b = true ∧ ts = F ++ [a, b]
 else if st = 12 then nest = 0 ∧ ∃ F a b c, FC lv F ∧ (a.kind = 10 ∨ a.kind = 12) ∧ sideT b = true ∧ c.kind = 7 ∧ ts = F ++ [a, b, c]
 else if st = 13 then nest = 0 ∧ ∃ F a b c d, FC lv F ∧ (a.kind = 10 ∨ a.kind = 12) ∧ sideT b = true ∧ c.kind = 7 ∧ sideT d = true ∧ ts = F ++ [a, b, c, d]
 else ∃ A e v, D .list A lv.most v ∧ e.kind = 0 ∧ ts = A ++ [e]
inductive Stk : List Lev → List Lt → Prop
 | nil : Stk [] []
 | push {bl : List Lev} {lv : Lev} {P F : List Lt} {o : Lt} : Stk bl P → FC lv F → o.kind = 8 → Stk (bl ++ [lv]) (P ++ (F ++ [o]))
def Inv (m : Mc) (pre : List Lt) : Prop := ∃ P C, pre = P ++ C ∧ Stk m.below P ∧ Cur m.state m.at_ m.nest C ∧ m.state ≤ 14 ∧ (m.state = 14 → m.below = [])
theorem Cur.piece {st : Nat} {lv : Lev} {nest : Nat} {ts : List Lt} (h : Cur st lv nest ts) (h1 : 4 ≤ st) (h2 : st ≤ 9) : Piece lv nest ts := by
 unfold Cur at h
 have h3 : st = 4 ∨ st = 5 ∨ st = 6 ∨ st = 7 ∨ st = 8 ∨ st = 9 := by omega
 rcases h3 with rfl | rfl | rfl | rfl | rfl | rfl <;> simp only [Nat.reduceEqDiff, if_false, if_true, reduceIte] at h
 ·obtain ⟨rfl, U, w, hU, hw, rfl⟩ := h
  exact ⟨U, [w], _, hU, .atomP (.bodyA (.leafB (.word hw))), rfl⟩
 ·obtain ⟨rfl, F, w, hF, hw, rfl⟩ := h
  exact hF.atom (.leafB (.word hw))
 ·obtain ⟨rfl, U, w, hU, hw, rfl⟩ := h
  exact ⟨U, [w], _, hU, .atomP (.bodyA (.leafB (.pat (by simp [starT] at hw; exact hw.1)))), rfl⟩
 ·obtain ⟨rfl, F, w, hF, hw, rfl⟩ := h
  exact hF.atom (.leafB (.quo hw))
 ·obtain ⟨F, o, A, c, n, v, hF, ho, hA, hc, rfl, rfl⟩ := h
  exact hF.atom (.groupB (.group ho hA hc))
 ·exact h
theorem Piece.unary {lv : Lev} {nest : Nat} {ts : List Lt} (h : Piece lv nest ts) : ∃ S Q v, LC S lv.signed lv.most ∧ D .unary Q (lv.nots + nest) v ∧ ts = S ++ Q := by
 obtain ⟨U, P, v, ⟨S, N, hS, hN, hl, rfl⟩, hP, rfl⟩ := h
 obtain ⟨u, hu⟩ := D.nots hN (.pieceU hP)
 rw [hl] at hu
 exact ⟨S, N ++ P, u, hS, hu, by simp⟩
def Aft (m m' : Mc) (n : Nat) : Prop := m'.below = m.below ∧ m'.at_.most = m.at_.most ∧ m'.at_.signed = m.at_.signed ∧ m'.at_.nots + m'.nest = m.at_.nots + n ∧ 4 ≤ m'.state ∧ m'.state ≤ 9
def begT (t : Lt) : Prop := t.kind = 1 ∨ t.kind = 2 ∨ t.kind = 3 ∨ t.kind = 6 ∨ t.kind = 8 ∨ t.kind = 10 ∨ t.kind = 12 ∨ t.kind = 15 ∨ t.kind = 16
def Okk : Pt → List Lt → Nat → Prop
 | .leaf, A, n => (∀ m, m.state = 1 ∨ m.state = 2 → m.nest = 0 → ∃ m', runM m A = some m' ∧ Aft m m' n)
 | .group, A, n => (∀ m, m.state = 1 ∨ m.state = 2 → m.nest = 0 → ∃ m', runM m A = some m' ∧ Aft m m' n)
 | .body, A, n => (∀ m, m.state = 1 ∨ m.state = 2 → m.nest = 0 → ∃ m', runM m A = some m' ∧ Aft m m' n)
 | .clause, A, n => (∃ t r, A = t :: r ∧ begT t) ∧ (∀ m, m.state = 0 → m.nest = 0 → m.at_.nots = 0 → ∃ m', runM m A = some m' ∧ m'.below = m.below ∧ max m'.at_.most (m'.at_.nots + m'.nest) = max m.at_.most n ∧ 4 ≤ m'.state ∧ m'.state ≤ 9)
 | .list, A, n => (∃ t r, A = t :: r ∧ begT t) ∧ (∀ m, m.state = 0 → m.nest = 0 → m.at_.nots = 0 → ∃ m', runM m A = some m' ∧ m'.below = m.below ∧ max m'.at_.most (m'.at_.nots + m'.nest) = max m.at_.most n ∧ 4 ≤ m'.state ∧ m'.state ≤ 9)
 | .atom, A, n => (∃ t r, A = t :: r ∧ begT t ∧ t.kind ≠ 15 ∧ t.kind ≠ 16) ∧ (∀ m, m.state = 1 → m.nest = 0 → ∃ m', runM m A = some m' ∧ Aft m m' n)
 | .piece, A, n => (∃ t r, A = t :: r ∧ begT t ∧ t.kind ≠ 15 ∧ t.kind ≠ 16) ∧ (∀ m, m.state = 1 → m.nest = 0 → ∃ m', runM m A = some m' ∧ Aft m m' n)
 | .unary, A, n => (∃ t r, A = t :: r ∧ begT t ∧ t.kind ≠ 15 ∧ t.kind ≠ 16) ∧ (∀ m, m.state = 1 → m.nest = 0 → ∃ m', runM m A = some m' ∧ Aft m m' n)
 | _, A, n => (∃ t r, A = t :: r ∧ begT t ∧ t.kind ≠ 15 ∧ t.kind ≠ 16) ∧ (∀ m, m.state = 1 → m.nest = 0 → m.at_.nots = 0 → m.at_.signed = false → ∃ m', runM m A = some m' ∧ m'.below = m.below ∧ m'.at_.signed = false ∧ max m'.at_.most (m'.at_.nots + m'.nest) = max m.at_.most n ∧ 4 ≤ m'.state ∧ m'.state ≤ 9)
theorem step_body {m : Mc} (t : Lt) (h : m.state = 2) : stepM m t = bodyM m t := by unfold stepM; simp [h]
theorem step_unary {m : Mc} (t : Lt) (h : m.state = 1) : stepM m t = unaryM m t := by unfold stepM; simp [h]
theorem step_clause {m : Mc} (t : Lt) (h : m.state = 0) : stepM m t = clauseM m t := by unfold stepM; simp [h]
theorem step_after {m : Mc} (t : Lt) (h : 4 ≤ m.state) (h2 : m.state ≤ 9) : stepM m t = afterM m t := by
 unfold stepM
 rw [if_neg (by omega), if_neg (by omega), if_neg (by omega), if_neg (by omega), if_neg (by omega), if_neg (by omega), if_neg (by omega), if_neg (by omega), if_neg (by omega)]
theorem step_word {m : Mc} {t : Lt} (h : m.state = 1 ∨ m.state = 2) (ht : t.kind = 1) : ∃ s, (s = 4 ∨ s = 5) ∧ stepM m t = some (m.to s) := by
 rcases h with h | h
 ·exact ⟨4, .inl rfl, by rw [step_unary t h]; unfold unaryM; simp [ht]⟩
 ·exact ⟨5, .inr rfl, by rw [step_body t h]; unfold bodyM; simp [ht]⟩
theorem starT_no {t : Lt} (h : t.kind ≠ 2) : starT t = false := by simp [starT, h]
theorem unary_body {m : Mc} {t : Lt} (h6 : t.kind ≠ 6) (h1 : t.kind ≠ 1) (h2 : starT t = false) : unaryM m t = bodyM m t := by
 unfold unaryM; simp [h6, h1, h2]
theorem step_open {m : Mc} {t : Lt} (h : m.state = 1 ∨ m.state = 2) (ht : t.kind = 8) : stepM m t = some ⟨0, m.nest, lev0, m.below ++ [m.at_]⟩ := by
 have hb : bodyM m t = some ⟨0, m.nest, lev0, m.below ++ [m.at_]⟩ := by unfold bodyM; simp [ht]
 rcases h with h | h
 ·rw [step_unary t h, unary_body (by omega) (by omega) (starT_no (by omega)), hb]
 ·rw [step_body t h, hb]
theorem step_quo {m : Mc} {t : Lt} (h : m.state = 1 ∨ m.state = 2) (ht : t.kind = 3) : stepM m t = some (m.to 7) := by
 have hb : bodyM m t = some (m.to 7) := by unfold bodyM; simp [ht]
 rcases h with h | h
 ·rw [step_unary t h, unary_body (by omega) (by omega) (starT_no (by omega)), hb]
 ·rw [step_body t h, hb]
theorem step_square {m : Mc} {t : Lt} (h : m.state = 1 ∨ m.state = 2) (ht : t.kind = 10 ∨ t.kind = 12) : stepM m t = some (m.to 10) := by
 have hb : bodyM m t = some (m.to 10) := by unfold bodyM; rcases ht with ht | ht <;> simp [ht]
 rcases h with h | h
 ·rw [step_unary t h, unary_body (by omega) (by omega) (starT_no (by omega)), hb]
 ·rw [step_body t h, hb]
theorem step_pat {m : Mc} {t : Lt} (h : m.state = 1 ∨ m.state = 2) (ht : t.kind = 2) : ∃ s, (s = 6 ∨ s = 9) ∧ stepM m t = some (m.to s) := by
 have hb : bodyM m t = some (m.to 9) := by unfold bodyM; simp [ht]
 rcases h with h | h
 ·by_cases hs : starT t = true
  ·exact ⟨6, .inl rfl, by rw [step_unary t h]; unfold unaryM; simp [ht, hs]⟩
  ·exact ⟨9, .inr rfl, by rw [step_unary t h, unary_body (by omega) (by omega) (by simpa using hs), hb]⟩
 ·exact ⟨9, .inr rfl, by rw [step_body t h, hb]⟩
theorem aft_to {m : Mc} {s : Nat} (hn : m.nest = 0) (h4 : 4 ≤ s) (h9 : s ≤ 9) : Aft m (m.to s) 0 := ⟨rfl, rfl, rfl, by show m.at_.nots + m.nest = _; rw [hn], h4, h9⟩
theorem runM_one {m m' : Mc} {t : Lt} (h : stepM m t = some m') : runM m [t] = some m' := by rw [runM, h]; rfl
theorem runM_cons {m m' : Mc} {t : Lt} {r : List Lt} (h : stepM m t = some m') : runM m (t :: r) = runM m' r := by rw [runM, h]; rfl
theorem tilde_word {m : Mc} {u : Lt} {s : Nat} (hs : s = 4 ∨ s = 5) (hu : u.kind = 20) (hn : u.n = -1 ∨ u.n = 1 ∨ u.n = 2) : stepM (m.to s) u = some (m.to 9) := by
 have h1 : (m.to s).state = 4 ∨ (m.to s).state = 5 := hs
 rw [step_after u (by omega) (by omega)]
 unfold afterM
 rw [if_neg (by omega), if_neg (by omega), if_pos hu, if_pos (.inl ⟨h1, hn⟩)]; rfl
theorem tilde_quo {m : Mc} {u : Lt} (hu : u.kind = 20) (hn : 0 ≤ u.n) : stepM (m.to 7) u = some (m.to 9) := by
 have h1 : (m.to 7).state = 7 := rfl
 rw [step_after u (by omega) (by omega)]
 unfold afterM
 rw [if_neg (by omega), if_neg (by omega), if_pos hu, if_pos (.inr ⟨h1, hn⟩)]; rfl
theorem after_clause {m : Mc} {t : Lt} (h4 : 4 ≤ m.state) (h9 : m.state ≤ 9) (ht : begT t) : stepM m t = clauseM (m.close.to 0) t := by
 rw [step_after t h4 h9]
 unfold afterM
 unfold begT at ht
 rw [if_neg (by omega), if_neg (by omega), if_neg (by omega), if_neg (by omega), if_neg (by omega), if_neg (by omega), if_neg (by omega), if_neg (by omega)]
theorem after_mark {m : Mc} {t : Lt} (h4 : 4 ≤ m.state) (h9 : m.state ≤ 9) (ht : t.kind = 4 ∨ t.kind = 5 ∨ t.kind = 17) (hs : m.at_.signed = false) : stepM m t = some (m.close.to 1) := by
 rw [step_after t h4 h9]
 unfold afterM
 rw [if_neg (by omega), if_neg (by omega), if_neg (by omega), if_neg (by omega), if_neg (by omega), if_pos ht, if_neg (by simp [hs])]
theorem after_sfx {m : Mc} {t : Lt} (h4 : 4 ≤ m.state) (h9 : m.state ≤ 9) (ht : t.kind = 18 ∨ t.kind = 19) : stepM m t = some ⟨9, m.nest + 1, m.at_, m.below⟩ := by
 rw [step_after t h4 h9]
 unfold afterM
 rw [if_neg (by omega), if_neg (by omega), if_neg (by omega), if_neg (by omega), if_pos ht]
theorem after_shut {m : Mc} {t : Lt} {bl : List Lev} {lv : Lev} (h4 : 4 ≤ m.state) (h9 : m.state ≤ 9) (ht : t.kind = 9) (hb : m.below = bl ++ [lv]) : stepM m t = some ⟨8, max m.at_.most (m.at_.nots + m.nest) + 1, lv, bl⟩ := by
 rw [step_after t h4 h9]
 unfold afterM
 rw [if_neg (by omega), if_neg (by omega), if_neg (by omega), if_neg (by omega), if_neg (by omega), if_neg (by omega), if_neg (by omega), if_pos ht]
 unfold shutM
 rw [hb, List.getLast?_concat, List.dropLast_concat]
theorem run_inner {m : Mc} {o c : Lt} {A : List Lt} {n : Nat} (hm : m.state = 1 ∨ m.state = 2) (hn : m.nest = 0) (ho : o.kind = 8) (hc : c.kind = 9) (hA : Okk .list A n) : runM m (o :: (A ++ [c])) = some ⟨8, n + 1, m.at_, m.below⟩ := by
 rw [runM_cons (step_open hm ho), runM_append]
 obtain ⟨m1, h1, h2, h3, h4, h5⟩ := hA.2 ⟨0, m.nest, lev0, m.below ++ [m.at_]⟩ rfl hn rfl
 rw [h1]
 show runM m1 [c] = _
 rw [runM_one (after_shut h4 h5 hc h2), h3]
 show some (Mc.mk 8 (max 0 n + 1) m.at_ m.below) = _
 rw [Nat.max_eq_right (Nat.zero_le n)]
theorem okk_chain1 {A : List Lt} {n : Nat} {p : Pt} (hp : p = .maxes ∨ p = .ands ∨ p = .ors) (h : Okk .unary A n) : Okk p A n := by
 have h0 : (∃ t r, A = t :: r ∧ begT t ∧ t.kind ≠ 15 ∧ t.kind ≠ 16) ∧ (∀ m, m.state = 1 → m.nest = 0 → m.at_.nots = 0 → m.at_.signed = false → ∃ m', runM m A = some m' ∧ m'.below = m.below ∧ m'.at_.signed = false ∧ max m'.at_.most (m'.at_.nots + m'.nest) = max m.at_.most n ∧ 4 ≤ m'.state ∧ m'.state ≤ 9) := by
  refine ⟨h.1, fun m h1 h2 h3 h4 => ?_⟩
  obtain ⟨m', e, a1, a2, a3, a4, a5, a6⟩ := h.2 m h1 h2
  exact ⟨m', e, a1, a3.trans h4, by rw [a2, a4, h3, Nat.zero_add], a5, a6⟩
 rcases hp with rfl | rfl | rfl <;> exact h0
theorem okk_chain2 {A B : List Lt} {b : Lt} {n k : Nat} {p q : Pt} (hp : p = .maxes ∨ p = .ands ∨ p = .ors) (hq : q = .unary ∨ q = .maxes ∨ q = .ands) (h : Okk p A n) (hb : b.kind = 4 ∨ b.kind = 5 ∨ b.kind = 17) (h2 : Okk q B k) : Okk p (A ++ b :: B) (max n k) := by
 have hA : (∃ t r, A = t :: r ∧ begT t ∧ t.kind ≠ 15 ∧ t.kind ≠ 16) ∧ (∀ m, m.state = 1 → m.nest = 0 → m.at_.nots = 0 → m.at_.signed = false → ∃ m', runM m A = some m' ∧ m'.below = m.below ∧ m'.at_.signed = false ∧ max m'.at_.most (m'.at_.nots + m'.nest) = max m.at_.most n ∧ 4 ≤ m'.state ∧ m'.state ≤ 9) := by
  rcases hp with rfl | rfl | rfl <;> exact h
 have hB : Okk .maxes B k := by
  rcases hq with rfl | rfl | rfl
  ·exact okk_chain1 (.inl rfl) h2
  ·exact h2
  ·exact h2
 have h0 : (∃ t r, A ++ b :: B = t :: r ∧ begT t ∧ t.kind ≠ 15 ∧ t.kind ≠ 16) ∧ (∀ m, m.state = 1 → m.nest = 0 → m.at_.nots = 0 → m.at_.signed = false → ∃ m', runM m (A ++ b :: B) = some m' ∧ m'.below = m.below ∧ m'.at_.signed = false ∧ max m'.at_.most (m'.at_.nots + m'.nest) = max m.at_.most (max n k) ∧ 4 ≤ m'.state ∧ m'.state ≤ 9) := by
  obtain ⟨⟨t, r, rfl, ht⟩, hA⟩ := hA
  refine ⟨⟨t, r ++ b :: B, rfl, ht⟩, fun m h1 h2 h3 h4 => ?_⟩
  obtain ⟨m1, e1, a1, a2, a3, a4, a5⟩ := hA m h1 h2 h3 h4
  obtain ⟨m2, e2, b1, b2, b3, b4, b5⟩ := hB.2 (m1.close.to 1) rfl rfl rfl a2
  refine ⟨m2, ?_, b1.trans a1, b2, ?_, b4, b5⟩
  ·rw [runM_append, e1]
   show runM m1 (b :: B) = _
   rw [runM_cons (after_mark a4 a5 hb a2), e2]
  ·rw [b3]
   show max (max m1.at_.most (m1.at_.nots + m1.nest)) k = _
   rw [a3, Nat.max_assoc]
 rcases hp with rfl | rfl | rfl <;> exact h0
theorem unary_at0 {m : Mc} {t : Lt} (h0 : m.state = 0) (ht : t.kind ≠ 15 ∧ t.kind ≠ 16) : stepM m t = stepM ((m.sgn false).to 1) t := by
 rw [step_clause t h0, step_unary t rfl]
 unfold clauseM
 rw [if_neg (by omega)]
 unfold unaryM bodyM
 rfl
theorem D.okk {p : Pt} {A : List Lt} {n : Nat} {v : Vl} (h : D p A n v) : Okk p A n := by
 induction h with
 | word ht =>
  intro m hm hn
  obtain ⟨s, hs, e⟩ := step_word hm ht
  exact ⟨_, runM_one e, aft_to hn (by omega) (by omega)⟩
 | edits ht hu hk =>
  intro m hm hn
  obtain ⟨s, hs, e⟩ := step_word hm ht
  exact ⟨m.to 9, by rw [runM_cons e]; exact runM_one (tilde_word hs hu hk), aft_to hn (by omega) (by omega)⟩
 | pat ht =>
  intro m hm hn
  obtain ⟨s, hs, e⟩ := step_pat hm ht
  exact ⟨_, runM_one e, aft_to hn (by omega) (by omega)⟩
 | quo ht =>
  intro m hm hn
  exact ⟨_, runM_one (step_quo hm ht), aft_to hn (by omega) (by omega)⟩
 | slop ht hu hk =>
  intro m hm hn
  exact ⟨m.to 9, by rw [runM_cons (step_quo hm ht)]; exact runM_one (tilde_quo hu hk), aft_to hn (by omega) (by omega)⟩
 | span ha hb hc hd he =>
  intro m hm hn
  refine ⟨m.to 9, ?_, aft_to hn (by omega) (by omega)⟩
  rw [runM_cons (step_square hm ha), runM_cons (m' := m.to 11) (by unfold stepM sideM; simp [Mc.to, hb]),
   runM_cons (m' := m.to 12) (by unfold stepM; simp [Mc.to, hc]), runM_cons (m' := m.to 13) (by unfold stepM sideM; simp [Mc.to, hd]),
   runM_one (m' := m.to 9) (by unfold stepM; simp only [Mc.to, Nat.reduceEqDiff, if_false, if_true, reduceIte]; rw [if_pos he])]
 | group ho hA hc ih =>
  intro m hm hn
  exact ⟨_, run_inner hm hn ho hc ih, rfl, rfl, rfl, rfl, by show 4 ≤ 8; decide, by show 8 ≤ 9; decide⟩
 | @least o c l A n v ho hA hc hl ih =>
  intro m hm hn
  have e : o :: (A ++ [c, l]) = (o :: (A ++ [c])) ++ [l] := by simp
  refine ⟨⟨9, n + 1, m.at_, m.below⟩, ?_, rfl, rfl, rfl, rfl, by show 4 ≤ 9; decide, by show 9 ≤ 9; decide⟩
  rw [e, runM_append, run_inner hm hn ho hc ih]
  refine runM_one ?_
  rw [step_after l (by show 4 ≤ 8; decide) (by show 8 ≤ 9; decide)]
  unfold afterM
  rw [if_neg (by simp), if_neg (by simp), if_neg (by omega), if_pos ⟨rfl, hl⟩]; rfl
 | leafB _ ih => exact ih
 | groupB _ ih => exact ih
 | @bodyA A n v h ih =>
  refine ⟨?_, fun m h1 hn => ih m (.inl h1) hn⟩
  have hb : D .body A n v := h
  cases h with
  | leafB h =>
   cases h <;> exact ⟨_, _, rfl, by unfold begT; omega, by omega, by omega⟩
  | groupB h =>
   cases h <;> exact ⟨_, _, rfl, by unfold begT; omega, by omega, by omega⟩
 | @field w c A n v hw hc hA ih =>
  refine ⟨⟨_, _, rfl, by unfold begT; omega, by omega, by omega⟩, fun m h1 hn => ?_⟩
  obtain ⟨m', e, a⟩ := ih (m.to 2) (.inr rfl) hn
  refine ⟨m', ?_, a⟩
  rw [runM_cons (m' := m.to 4) (by rw [step_unary w h1]; unfold unaryM; simp [hw]), runM_cons (m' := m.to 2) ?_, e]
  rw [step_after c (by show 4 ≤ 4; decide) (by show 4 ≤ 9; decide)]
  unfold afterM
  rw [if_pos ⟨rfl, hc⟩]; rfl
 | @all s c t hs hc ht =>
  have hk : s.kind = 2 := by simp [starT] at hs; exact hs.1
  refine ⟨⟨_, _, rfl, by unfold begT; omega, by omega, by omega⟩, fun m h1 hn => ?_⟩
  refine ⟨m.to 9, ?_, aft_to hn (by omega) (by omega)⟩
  rw [runM_cons (m' := m.to 6) (by rw [step_unary s h1]; unfold unaryM; simp [hk, hs]), runM_cons (m' := m.to 3) ?_, runM_one (m' := m.to 9) (by unfold stepM; simp [Mc.to, ht])]
  rw [step_after c (by show 4 ≤ 6; decide) (by show 6 ≤ 9; decide)]
  unfold afterM
  rw [if_neg (by simp [Mc.to]), if_pos ⟨rfl, hc⟩]; rfl
 | atomP _ ih => exact ih
 | @sfx b A n v hA hb ih =>
  obtain ⟨⟨t, r, rfl, ht⟩, ih⟩ := ih
  refine ⟨⟨t, r ++ [b], rfl, ht⟩, fun m h1 hn => ?_⟩
  obtain ⟨m', e, a1, a2, a3, a4, a5, a6⟩ := ih m h1 hn
  refine ⟨⟨9, m'.nest + 1, m'.at_, m'.below⟩, ?_, a1, a2, a3, by show m'.at_.nots + (m'.nest + 1) = _; omega, by show 4 ≤ 9; decide, by show 9 ≤ 9; decide⟩
  rw [runM_append, e]
  exact runM_one (after_sfx a5 a6 hb)
 | pieceU _ ih => exact ih
 | @not t A n v ht hA ih =>
  refine ⟨⟨_, _, rfl, by unfold begT; omega, by omega, by omega⟩, fun m h1 hn => ?_⟩
  obtain ⟨m', e, a1, a2, a3, a4, a5, a6⟩ := ih.2 ⟨1, m.nest, ⟨m.at_.most, m.at_.nots + 1, m.at_.signed⟩, m.below⟩ rfl hn
  refine ⟨m', ?_, a1, a2, a3, by rw [a4]; show m.at_.nots + 1 + n = _; omega, a5, a6⟩
  rw [runM_cons ?_, e]
  rw [step_unary t h1]; unfold unaryM; rw [if_pos ht]
 | maxU _ ih => exact okk_chain1 (.inl rfl) ih
 | bar hA hb hB ih1 ih2 => exact okk_chain2 (.inl rfl) (.inl rfl) ih1 (by omega) ih2
 | andM _ ih => exact ih
 | and hA hb hB ih1 ih2 => exact okk_chain2 (.inr (.inl rfl)) (.inr (.inl rfl)) ih1 (by omega) ih2
 | orA _ ih => exact ih
 | or hA hb hB ih1 ih2 => exact okk_chain2 (.inr (.inr rfl)) (.inr (.inr rfl)) ih1 (by omega) ih2
 | clauseO _ ih =>
  obtain ⟨⟨t, r, rfl, ht, h15, h16⟩, ih⟩ := ih
  refine ⟨⟨t, r, rfl, ht⟩, fun m h0 hn hz => ?_⟩
  obtain ⟨m', e, a1, a2, a3, a4, a5⟩ := ih ((m.sgn false).to 1) rfl hn hz rfl
  refine ⟨m', ?_, a1, a3, a4, a5⟩
  rw [runM, unary_at0 h0 ⟨h15, h16⟩]
  exact e
 | @sign s A n v hs hA ih =>
  refine ⟨⟨s, A, rfl, by unfold begT; omega⟩, fun m h0 hn hz => ?_⟩
  obtain ⟨m', e, a1, a2, a3, a4, a5, a6⟩ := ih.2 ((m.sgn true).to 1) rfl hn
  refine ⟨m', ?_, a1, ?_, a5, a6⟩
  ·rw [runM_cons ?_, e]
   rw [step_clause s h0]; unfold clauseM; rw [if_pos hs]
  ·rw [a2, a4]
   show max m.at_.most (m.at_.nots + n) = _
   rw [hz, Nat.zero_add]
 | one _ ih => exact ih
 | @more A B n k v u hA hB ih1 ih2 =>
  obtain ⟨⟨t, r, rfl, ht⟩, ih1⟩ := ih1
  refine ⟨⟨t, r ++ B, rfl, ht⟩, fun m h0 hn hz => ?_⟩
  obtain ⟨m1, e1, a1, a2, a3, a4⟩ := ih1 m h0 hn hz
  obtain ⟨⟨t2, r2, rfl, ht2⟩, ih2⟩ := ih2
  obtain ⟨m2, e2, b1, b2, b3, b4⟩ := ih2 (m1.close.to 0) rfl rfl rfl
  refine ⟨m2, ?_, b1.trans a1, ?_, b3, b4⟩
  ·rw [runM_append, e1]
   show runM m1 (t2 :: r2) = _
   rw [← e2, runM, runM, after_clause a3 a4 ht2, step_clause t2 rfl]
  ·rw [b2]
   show max (max m1.at_.most (m1.at_.nots + m1.nest)) k = _
   rw [a2, Nat.max_assoc]
end Go.Proofs.YthcldpminmhgkaaDoor
end
section
namespace Go.Proofs.YthcldpminmhgkaaDoor
open Go.RowKit
def ltS : Shape Lt := { tS := 67, tE := 74, size := 5, bytes := 48, enc := fun x => [.int .i64 x.kind, .string (str x.text), .int .i64 x.n, .int .i64 x.at_, .int .i64 x.end_], zero := .agg #[.int .i64 0, .string ⟨#[]⟩, .int .i64 0, .int .i64 0, .int .i64 0] }
def levS : Shape Lev := { tS := 77, tE := 76, size := 3, bytes := 24, enc := fun x => [.int .i64 x.most, .int .i64 x.nots, .bool x.signed], zero := .agg #[.int .i64 0, .int .i64 0, .bool false] }
def Lx.lt (x : Lx) : Lt := ⟨x.kind, x.text, x.n, (x.at_ : Int), (x.end_ : Int)⟩
theorem lt_cells (l : List Lx) : ltS.cells (l.map Lx.lt) = lexS.cells l := by
 induction l with
 | nil => rfl
 | cons x l ih =>
  have e1 : ltS.cells ((x :: l).map Lx.lt) = ltS.enc x.lt ++ ltS.cells (l.map Lx.lt) := rfl
  have e2 : lexS.cells (x :: l) = lexS.enc x ++ lexS.cells l := rfl
  rw [e1, e2, ih]; rfl
theorem OwnL.lt {w : World} {B : Nat} {v : Value} {l : List Lx} (h : OwnL lexS w B v l) : OwnL ltS w B v (l.map Lx.lt) := by
 unfold OwnL at h ⊢
 rw [lt_cells, List.length_map]; exact h
structure McAt (w : World) (B mb : Nat) (v : Value) (m : Mc) : Prop where
 blk : Blk w mb 79 #[.int .i64 (m.state : Int), .int .i64 (m.nest : Int), .int .i64 (m.at_.most : Int), .int .i64 (m.at_.nots : Int), .bool m.at_.signed, v]
 own : OwnL levS w B v m.below
 hB : B ≤ w.heap.size
 hm : B ≤ mb
section
variable {w w' : World} {B mb : Nat} {v : Value} {m : Mc}
theorem McAt.below (h : McAt w B mb v m) (hb : Below w.heap.size w w') : McAt w' B mb v m := ⟨h.blk.belowW hb, h.own.below hb, Nat.le_trans h.hB hb.size, h.hm⟩
theorem McAt.alloc (h : McAt w B mb v m) (o : Obj) : McAt (w.alloc o) B mb v m := h.below ((Below.refl _ _).alloc (Nat.le_refl _) _)
theorem McAt.set_ (h : McAt w B mb v m) (i : Nat) (u : Value) (m' : Mc)
  (hc : #[.int .i64 (m.state : Int), .int .i64 (m.nest : Int), .int .i64 (m.at_.most : Int), .int .i64 (m.at_.nots : Int), .bool m.at_.signed, v].setIfInBounds i u = #[.int .i64 (m'.state : Int), .int .i64 (m'.nest : Int), .int .i64 (m'.at_.most : Int), .int .i64 (m'.at_.nots : Int), .bool m'.at_.signed, v]) (hl : m'.below = m.below) : McAt (w.setCell ⟨mb, i, none⟩ u) B mb v m' := by
 refine ⟨hc ▸ h.blk.set_ i u, ?_, by rw [set_size]; exact h.hB, h.hm⟩
 rw [hl]
 exact h.own.farNe (h.own.offBlk h.blk (by decide)) _
end
theorem McAt.push {w w' : World} {B mb : Nat} {v v' : Value} {m : Mc} (h : McAt w B mb v m) (ho : OwnL levS w' B v' (m.below ++ [m.at_])) (hb : Below B w w') (hk : KeptBut w w' v) : McAt (w'.setCell ⟨mb, 5, none⟩ v') B mb v' ⟨m.state, m.nest, m.at_, m.below ++ [m.at_]⟩ := by
 have hbk := h.blk.keptL h.own (by decide) hk
 exact ⟨hbk.set_ 5 v', ho.farNe (ho.offBlk hbk (by decide)) _, by rw [set_size]; exact Nat.le_trans h.hB hb.size, h.hm⟩
end Go.Proofs.YthcldpminmhgkaaDoor
end
section
namespace Go.Proofs.YthcldpminmhgkaaDoor
theorem D.nest_le {p : Pt} {A : List Lt} {n : Nat} {v : Vl} (h : D p A n v) : n ≤ A.length := by
 induction h <;> (try simp only [List.length_cons, List.length_append, List.length_nil] at *) <;> omega
theorem OptD.le {p : Pt} {ts : List Lt} {n : Nat} (h : OptD p ts n) : n ≤ ts.length := by
 rcases h with ⟨rfl, rfl⟩ | ⟨v, h⟩
 ·exact Nat.zero_le _
 ·exact h.nest_le
theorem OptM.le {p : Pt} {k : Int} {ts : List Lt} {n : Nat} (h : OptM p k ts n) : n ≤ ts.length := by
 rcases h with ⟨rfl, rfl⟩ | ⟨A, b, v, rfl, _, h⟩
 ·exact Nat.zero_le _
 ·have := h.nest_le
  rw [List.length_append]; omega
theorem LC.le {S : List Lt} {sg : Bool} {n : Nat} (h : LC S sg n) : n ≤ S.length := by
 cases h with
 | signed hL hs => have := hL.le; rw [List.length_append]; omega
 | plain hL hO hA hM =>
  have h1 := hL.le; have h2 := hO.le; have h3 := hA.le; have h4 := hM.le
  simp only [List.length_append]; omega
theorem UC.le {lv : Lev} {U : List Lt} (h : UC lv U) : lv.most + lv.nots ≤ U.length := by
 obtain ⟨S, N, hS, hN, hl, rfl⟩ := h
 have := hS.le
 rw [List.length_append]; omega
theorem BC.le {lv : Lev} {U : List Lt} (h : BC lv U) : lv.most + lv.nots ≤ U.length := by
 obtain ⟨U, w, c, hU, _, _, rfl⟩ := h
 have := hU.le
 rw [List.length_append]; omega
theorem FC.le {lv : Lev} {U : List Lt} (h : FC lv U) : lv.most + lv.nots ≤ U.length := by
 rcases h with h | h
 ·exact h.le
 ·exact h.le
theorem Piece.le {lv : Lev} {n : Nat} {ts : List Lt} (h : Piece lv n ts) : lv.most + lv.nots + n ≤ ts.length := by
 obtain ⟨U, P, v, hU, hP, rfl⟩ := h
 have h1 := hU.le; have h2 := hP.nest_le
 rw [List.length_append]; omega
theorem Cur.le {st : Nat} {lv : Lev} {nest : Nat} {ts : List Lt} (h : Cur st lv nest ts) (h1 : st < 14) : lv.most + lv.nots + nest ≤ ts.length := by
 have h3 : st = 0 ∨ st = 1 ∨ st = 2 ∨ st = 3 ∨ st = 4 ∨ st = 5 ∨ st = 6 ∨ st = 7 ∨ st = 8 ∨ st = 9 ∨ st = 10 ∨ st = 11 ∨ st = 12 ∨ st = 13 := by omega
 unfold Cur at h
 rcases h3 with rfl | rfl | rfl | rfl | rfl | rfl | rfl | rfl | rfl | rfl | rfl | rfl | rfl | rfl <;> simp only [Nat.reduceEqDiff, if_false, if_true, reduceIte] at h
 ·obtain ⟨h0, rfl, h⟩ := h
  have := h.le; omega
 ·obtain ⟨rfl, h⟩ := h
  have := h.le; omega
 ·obtain ⟨rfl, h⟩ := h
  have := h.le; omega
 ·obtain ⟨rfl, U, s, c, hU, _, _, rfl⟩ := h
  have := hU.le; rw [List.length_append]; omega
 ·obtain ⟨rfl, U, w, hU, _, rfl⟩ := h
  have := hU.le; rw [List.length_append]; omega
 ·obtain ⟨rfl, U, w, hU, _, rfl⟩ := h
  have := hU.le; rw [List.length_append]; omega
 ·obtain ⟨rfl, U, w, hU, _, rfl⟩ := h
  have := hU.le; rw [List.length_append]; omega
 ·obtain ⟨rfl, U, w, hU, _, rfl⟩ := h
  have := hU.le; rw [List.length_append]; omega
 ·obtain ⟨F, o, A, c, n, v, hF, _, hA, _, rfl, rfl⟩ := h
  have h1 := hF.le; have h2 := hA.nest_le
  simp only [List.length_append, List.length_cons, List.length_nil]; omega
 ·exact h.le
 ·obtain ⟨rfl, F, a, hF, _, rfl⟩ := h
  have := hF.le; rw [List.length_append]; omega
 ·obtain ⟨rfl, F, a, b, hF, _, _, rfl⟩ := h
  have := hF.le; rw [List.length_append]; omega
 ·obtain ⟨rfl, F, a, b, c, hF, _, _, _, rfl⟩ := h
  have := hF.le; rw [List.length_append]; omega
 ·obtain ⟨rfl, F, a, b, c, d, hF, _, _, _, _, rfl⟩ := h
  have := hF.le; rw [List.length_append]; omega
theorem Stk.le {bl : List Lev} {P : List Lt} (h : Stk bl P) : bl.length ≤ P.length := by
 induction h with
 | nil => exact Nat.le_refl _
 | push h hF ho ih => simp only [List.length_append, List.length_cons, List.length_nil]; omega
theorem Inv.le {m : Mc} {pre : List Lt} (h : Inv m pre) (h1 : m.state < 14) : m.at_.most + m.at_.nots + m.nest + m.below.length ≤ pre.length := by
 obtain ⟨P, C, rfl, hs, hc, _, _⟩ := h
 have h2 := hs.le; have h3 := hc.le h1
 rw [List.length_append]; omega
theorem Inv.st {m : Mc} {pre : List Lt} (h : Inv m pre) : m.state ≤ 14 := by
 obtain ⟨P, C, _, _, _, h, _⟩ := h
 exact h
end Go.Proofs.YthcldpminmhgkaaDoor
end
section
namespace Go.Proofs.YthcldpminmhgkaaDoor
open Go.RowKit
def folS : Shape Int := { tS := 24, tE := 3, size := 1, bytes := 8, enc := fun x => [.int .i64 x], zero := .int .i64 0 }
theorem folOk : folS.Ok where
 under := Tryd.underlying24
 info := by kernel_rfl
 zs := rfl
 pos := by decide
 len := fun _ => rfl
 one := fun x u hu => by
  simp only [folS, List.mem_cons, List.not_mem_nil, or_false] at hu
  subst hu; rfl
 small := by decide
end Go.Proofs.YthcldpminmhgkaaDoor
end
