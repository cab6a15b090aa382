/- Merged for a claim by shake.py: Yb Zb Jt Jc Yd Jg Jf -/
import Derived.Carry
import Derived.Deep.OwnRows
import Derived.Deep.RegionLaw
import Derived.Lib.ItoaNum
import Derived.OpenShut
import Derived.ShutString
import Derived.Test.YthcldpminmhgkaaDoorKx1
import Derived.Test.YthcldpminmhgkaaDoorKx12
import Derived.Test.YthcldpminmhgkaaDoorKx2
import Derived.Test.YthcldpminmhgkaaDoorKx20
import Derived.Test.YthcldpminmhgkaaDoorKx21
import Derived.Test.YthcldpminmhgkaaDoorKx22
import Derived.Test.YthcldpminmhgkaaDoorKx5
import Derived.Test.YthcldpminmhgkaaDoorKx6
import Derived.Test.YthcldpminmhgkaaDoorKx8
import Derived.Test.YthcldpminmhgkaaDoorKx9
import Derived.Test.YthcldpminmhgkaaDoorRows
set_option maxRecDepth 100000
set_option linter.unusedSimpArgs false
set_option linter.unusedVariables false
set_option maxHeartbeats 4000000
section
namespace Go.Proofs.YthcldpminmhgkaaDoor
def Der (l : List UInt8) (n : Nat) (t : Nd) : Prop := ∃ (A : List Lt) (v : Vl), Toks l A ∧ D .list A n v ∧ t = treeN (v [])
theorem runI_of {l : List Lt} : ∀ {m m' : Mc} (i : Nat), runM m l = some m' → runI m i l = .inl m' := by
 induction l with
 | nil => intro m m' i h; rw [runM] at h; injection h with h; subst h; rfl
 | cons t r ih =>
  intro m m' i h
  rw [runM] at h
  rw [runI]
  cases hs : stepM m t with
  | none => rw [hs] at h; cases h
  | some m2 => rw [hs] at h; exact ih (i + 1) h
theorem Der.check {l : List UInt8} {n : Nat} {t : Nd} (h : Der l n t) : checkS l = .inl n := by
 obtain ⟨A, v, ⟨la, e, hs, he, hl⟩, hD, _⟩ := h
 have hD2 := hD.lk (la.map Lx.lt) (by rw [lk_lt]; exact hl)
 obtain ⟨m, hm, _, hn⟩ := hD2.run (e := e.lt) he
 unfold checkS
 rw [hs]
 simp only [List.map_append, List.map_cons, List.map_nil]
 rw [runI_of 0 hm]
 simp only [hn]
theorem Der.toks {l : List UInt8} {n : Nat} {t : Nd} (h : Der l n t) : ∃ (la : List Lx) (A : List Lt) (e : Lt) (v : Vl), scanL l = (la, none) ∧ la.map Lx.lt = A ++ [e] ∧ e.kind = 0 ∧ D .list A n v ∧ t = treeN (v []) := by
 obtain ⟨A, v, ⟨la, e, hs, he, hl⟩, hD, ht⟩ := h
 exact ⟨la ++ [e], la.map Lx.lt, e.lt, v, hs, by simp, he, hD.lk _ (by rw [lk_lt]; exact hl), ht⟩
theorem der_of {l : List UInt8} {n : Nat} (h : checkS l = .inl n) : ∃ t, Der l n t := by
 unfold checkS at h
 rcases hs : scanL l with ⟨la, _ | p⟩
 ·rw [hs] at h
  simp only [] at h
  cases hr : runI mc0 0 (la.map Lx.lt) with
  | inr i => rw [hr] at h; cases h
  | inl m =>
   rw [hr] at h
   simp only [Sum.inl.injEq] at h
   obtain ⟨l0, e, hle, he⟩ := scanF_end hs
   have hr2 := hr
   rw [hle, List.map_append, List.map_cons, List.map_nil] at hr2
   have h14 := runI_last inv0 (e := e.lt) he hr2
   obtain ⟨A, e', v, hA, he', hD⟩ := run_D (runI_inv inv0 hr) h14
   rw [hle, List.map_append, List.map_cons, List.map_nil] at hA
   obtain ⟨h1, h2⟩ := List.append_inj' hA rfl
   refine ⟨treeN (v []), A, v, ⟨l0, e, by rw [hs, hle], he, ?_⟩, by rw [← h]; exact hD, rfl⟩
   rw [← lk_lt, h1]
 ·rw [hs] at h; cases h
def one1 (g : List UInt8 → Nd) : Vl := fun f => [(0, g f)]
def tkOpen : Lt := ⟨8, [], 0, 0, 0⟩
def tkClose : Lt := ⟨9, [], 0, 0, 0⟩
theorem D.paren {A : List Lt} {n : Nat} {v : Vl} (h : D .list A n v) : D .piece (tkOpen :: (A ++ [tkClose])) (n + 1) (one1 fun f => treeN (v f)) :=
 .atomP (.bodyA (.groupB (.group rfl h rfl)))
theorem stop41 : stopB 41 := ⟨.inr (by decide), by decide⟩
theorem stop32 : stopB 32 := ⟨.inl (by decide), by decide⟩
theorem blank32 : cls 32 = 1 := by decide
theorem toks_close {q : List UInt8} {B : List Lt} (h : Toks q B) : Toks (41 :: q) (tkClose :: B) := .single (by decide) (by decide) h
theorem toks_open {q : List UInt8} {B : List Lt} (h : Toks q B) : Toks (40 :: q) (tkOpen :: B) := .single (by decide) (by decide) h
theorem toks_paren {p q : List UInt8} {A B : List Lt} (h : Toks p A) (h2 : Toks q B) : Toks (40 :: (p ++ 41 :: q)) (tkOpen :: (A ++ tkClose :: B)) :=
 toks_open (.app stop41 h (toks_close h2))
def tkNot : Lt := ⟨6, [], 0, 0, 0⟩
theorem toks_not : Toks [78, 79, 84] [tkNot] := ⟨[⟨6, [], 0, 0, 3⟩], ⟨0, [], 0, 3, 3⟩, by rfl, rfl, rfl⟩
def tkMark (k : Int) : Lt := ⟨k, [], 0, 0, 0⟩
theorem toks_or : Toks [79, 82] [tkMark 5] := ⟨[⟨5, [], 0, 0, 2⟩], ⟨0, [], 0, 2, 2⟩, by rfl, rfl, rfl⟩
theorem toks_and : Toks [65, 78, 68] [tkMark 4] := ⟨[⟨4, [], 0, 0, 3⟩], ⟨0, [], 0, 3, 3⟩, by rfl, rfl, rfl⟩
theorem toks_bar : Toks [124] [tkMark 17] := ⟨[⟨17, [], 0, 0, 1⟩], ⟨0, [], 0, 1, 1⟩, by rfl, rfl, rfl⟩
end Go.Proofs.YthcldpminmhgkaaDoor
end
section
namespace Go.Proofs.YthcldpminmhgkaaDoor
open Go.RowKit
theorem parse_der {s : ByteArray} {n : Nat} {t : Nd} (h : Der s.data.toList n t) (hn : n ≤ 64) (w : World) (ea : List Addr) (ei : Nat) (hs : s.size ≤ 900000000000) (hE : ClsEnv w) (hv : ErrAt w 1 (errI ea ei)) :
  Calls Tryd.prog 26 #[.string s] w (ParRet t w) := by
 have hc := h.check
 obtain ⟨la, A, e, v, hs1, hA, he, hD, rfl⟩ := h.toks
 exact pparse_ok s w ea ei hs hE hv la n hs1 hc hn (scan_tkok hs1 (by rw [← ba_size]; exact hs)) A e n v hA he hD
theorem check_der {s : ByteArray} {n : Nat} {t : Nd} (h : Der s.data.toList n t) (w : World) (ea : List Addr) (ei : Nat) (hs : s.size ≤ 900000000000) (hE : ClsEnv w) (hv : ErrAt w 1 (errI ea ei)) :
  Calls Tryd.prog 25 #[.string s] w fun e w' => Below w.heap.size w w' ∧ e = .returned (.tuple #[.int .i64 (n : Int), .int .i64 0, .nilIface]) := by
 have := scheck_any s w ea ei hs hE hv
 rw [h.check] at this
 exact this
end Go.Proofs.YthcldpminmhgkaaDoor
end
section
namespace Go.Proofs.YthcldpminmhgkaaDoor
def Bd.nil (b : Bd) : Bool := !b.open_ && !b.in_ && b.text.isEmpty
def Bd.ok (b : Bd) : Bool := !b.open_ || (!b.in_ && b.text.isEmpty)
def wildP : List UInt8 → Nat → Nat → Int → Option (Nat × Int)
 | [], _, marks, last => some (marks, last)
 | c :: r, i, marks, last =>
  if c = 42 then wildP r (i + 1) (marks + 1) i
  else if c = 63 then wildP r (i + 1) (marks + 2) last
  else if c = 92 then match r with
   | [] => none
   | d :: r2 => if d = 42 ∨ d = 63 ∨ d = 92 then wildP r2 (i + 2) marks last else none
  else wildP r (i + 1) marks last
def wildB (l : List UInt8) : Bool := match wildP l 0 0 (-1) with
 | none => false
 | some (m, last) => decide (1 < m) || (decide (m = 1) && decide (last ≠ (l.length : Int) - 1))
def maxNum : Int := 999999999
def numB (n : Int) : Bool := decide (0 ≤ n) && decide (n ≤ maxNum)
def occB (l : List Int) : Bool := l.all fun o => decide (0 ≤ o) && decide (o ≤ 2)
def ownN (kind : Int) (field text : List UInt8) (n : Int) (lo hi : Bd) (occ : List Int) (nk : Nat) : Bool :=
 if kind = 1 ∨ kind = 3 then !text.isEmpty && decide (n = 0) && lo.nil && hi.nil && occ.isEmpty && decide (nk = 0)
 else if kind = 2 then numB n && lo.nil && hi.nil && occ.isEmpty && decide (nk = 0)
 else if kind = 4 then wildB text && decide (n = 0) && lo.nil && hi.nil && occ.isEmpty && decide (nk = 0)
 else if kind = 5 then !text.isEmpty && (decide (n = 1) || decide (n = 2)) && lo.nil && hi.nil && occ.isEmpty && decide (nk = 0)
 else if kind = 6 then text.isEmpty && decide (n = 0) && lo.ok && hi.ok && occ.isEmpty && decide (nk = 0)
 else if kind = 7 then text.isEmpty && decide (n = 0) && lo.nil && hi.nil && occ.isEmpty && decide (nk = 0)
 else if kind = 8 then field.isEmpty && text.isEmpty && decide (n = 0) && lo.nil && hi.nil && occ.isEmpty && decide (nk = 0)
 else if kind = 9 then field.isEmpty && text.isEmpty && numB n && lo.nil && hi.nil && decide (occ.length = nk) && occB occ && decide (0 < nk)
 else if kind = 10 ∨ kind = 11 ∨ kind = 12 then field.isEmpty && text.isEmpty && decide (n = 0) && lo.nil && hi.nil && occ.isEmpty && decide (0 < nk)
 else if kind = 13 then field.isEmpty && text.isEmpty && decide (n = 0) && lo.nil && hi.nil && occ.isEmpty && decide (nk = 1)
 else if kind = 14 ∨ kind = 15 then field.isEmpty && text.isEmpty && numB n && lo.nil && hi.nil && occ.isEmpty && decide (nk = 1)
 else false
mutual
def goodN : Nd → Bool
 | .mk kind field text n lo hi occ ks => ownN kind field text n lo hi occ ks.length && goodNs ks
def goodNs : List Nd → Bool
 | [] => true
 | k :: ks => goodN k && goodNs ks
end
mutual
def sizeN : Nd → Nat
 | .mk _ _ _ _ _ _ _ ks => 1 + sizeNs ks
def sizeNs : List Nd → Nat
 | [] => 0
 | k :: ks => sizeN k + sizeNs ks
end
def canTop (kind : Int) (field text : List UInt8) (n : Int) (lo hi : Bd) (occ : List Int) : List Nd → Nd
 | [c] => if kind = 10 ∨ kind = 11 ∨ kind = 12 ∨ (kind = 9 ∧ n = 0 ∧ occ[0]? = some 0) then c else .mk kind field text n lo hi occ [c]
 | cs => .mk kind field text n lo hi occ cs
mutual
def canonN : Nd → Nd
 | .mk kind field text n lo hi occ ks => canTop kind field text n lo hi occ (canonNs ks)
def canonNs : List Nd → List Nd
 | [] => []
 | k :: ks => canonN k :: canonNs ks
end
def levK (kind n : Int) : Nat := if kind = 9 then (if 0 < n then 6 else 0) else if kind = 10 then 2 else if kind = 11 then 1 else if kind = 12 then 3 else if kind = 13 then 4 else if kind = 14 ∨ kind = 15 then 5 else 6
def levN : Nd → Nat
 | .mk kind _ _ n _ _ _ _ => levK kind n
def barK (kind o : Int) : Nat := if kind = 9 then (if o = 0 then 1 else 4) else if kind = 10 then 3 else if kind = 11 then 2 else if kind = 14 ∨ kind = 15 then 5 else 4
def deepK (kind n : Int) : Nat := if kind = 13 ∨ kind = 14 ∨ kind = 15 ∨ (kind = 9 ∧ 0 < n) then 1 else 0
mutual
def nestN : Nd → Nat
 | .mk kind _ _ n _ _ occ ks => nestNs kind occ ks + deepK kind n
def nestNs (kind : Int) : List Int → List Nd → Nat
 | _, [] => 0
 | occ, k :: ks => max (nestN k + if levN k < barK kind (occ.headD 0) then 1 else 0) (nestNs kind occ.tail ks)
end
def decN (n : Nat) : List UInt8 := Lib.decDigits n
def pesc (c : UInt8) : List UInt8 := if c = 42 ∨ c = 63 ∨ c = 92 then [92, c] else [c]
def litL (l : List UInt8) : List UInt8 := l.flatMap pesc
def sideF (b : Bd) : List UInt8 := if b.open_ = true then [42] else if b.text = [] then quoteL [] else wordL b.text
def leafF (kind : Int) (text : List UInt8) (n : Int) (lo hi : Bd) : List UInt8 :=
 if kind = 1 then wordL text
 else if kind = 2 then (if 0 < n then quoteL text ++ 126 :: decN n.toNat else quoteL text)
 else if kind = 3 then patternL (litL text ++ [42])
 else if kind = 4 then patternL text
 else if kind = 5 then wordL text ++ 126 :: decN n.toNat
 else if kind = 6 then (if lo.in_ = true ∨ lo.open_ = true then 91 else 123) :: (sideF lo ++ [32, 84, 79, 32] ++ sideF hi ++ [if hi.in_ = true ∨ hi.open_ = true then 93 else 125])
 else [42]
def headF (field : List UInt8) : List UInt8 := if field = [] then [] else wordL field ++ [58]
def signF (o : Int) : List UInt8 := if o = 1 then [43] else if o = 2 then [45] else []
def sepF (kind : Int) : List UInt8 := if kind = 10 then [32, 65, 78, 68, 32] else if kind = 11 then [32, 79, 82, 32] else if kind = 12 then [32, 124, 32] else [32]
def aroundF (kind n : Int) (s : List UInt8) : List UInt8 :=
 if kind = 9 then (if 0 < n then 40 :: (s ++ 41 :: 64 :: decN n.toNat) else s)
 else if kind = 13 then [78, 79, 84, 32] ++ s
 else if kind = 14 then s ++ 94 :: decN n.toNat
 else if kind = 15 then s ++ 94 :: 61 :: decN n.toNat
 else s
def brF (b : Bool) (s : List UInt8) : List UInt8 := if b = true then 40 :: (s ++ [41]) else s
mutual
def formN : Nd → List UInt8
 | .mk kind field text n lo hi occ ks => if kind < 9 then (if kind = 8 then [42, 58, 42] else headF field ++ leafF kind text n lo hi) else aroundF kind n (formNs kind true occ ks)
def formNs (kind : Int) : Bool → List Int → List Nd → List UInt8
 | _, _, [] => []
 | first, occ, k :: ks => (if first = true then [] else sepF kind) ++ (if kind = 9 then signF (occ.headD 0) else []) ++ brF (decide (levN k < barK kind (occ.headD 0))) (formN k) ++ formNs kind false occ.tail ks
end
mutual
def sameN : Nd → Nd → Bool
 | .mk kind field text n lo hi occ ks, .mk kind2 field2 text2 n2 lo2 hi2 occ2 ks2 =>
  decide (kind = kind2) && decide (field = field2) && decide (text = text2) && decide (n = n2) && decide (lo.open_ = lo2.open_) && decide (lo.in_ = lo2.in_) && decide (lo.text = lo2.text) &&
   decide (hi.open_ = hi2.open_) && decide (hi.in_ = hi2.in_) && decide (hi.text = hi2.text) && decide (occ = occ2) && sameNs ks ks2
def sameNs : List Nd → List Nd → Bool
 | [], [] => true
 | [], _ :: _ => false
 | _ :: _, [] => false
 | x :: xs, y :: ys => sameN x y && sameNs xs ys
end
mutual
theorem same_iff : ∀ a b : Nd, sameN a b = true ↔ a = b
 | .mk kind field text n ⟨a1, a2, a3⟩ ⟨b1, b2, b3⟩ occ ks, .mk kind2 field2 text2 n2 ⟨c1, c2, c3⟩ ⟨d1, d2, d3⟩ occ2 ks2 => by
  have h := sames_iff ks ks2
  simp only [sameN, Bool.and_eq_true, decide_eq_true_eq, h, Nd.mk.injEq, Bd.mk.injEq]
  simp only [and_assoc]
theorem sames_iff : ∀ a b : List Nd, sameNs a b = true ↔ a = b
 | [], [] => by simp [sameNs]
 | [], _ :: _ => by simp [sameNs]
 | _ :: _, [] => by simp [sameNs]
 | x :: xs, y :: ys => by
  have h := same_iff x y
  have h2 := sames_iff xs ys
  simp only [sameNs, Bool.and_eq_true, h, h2, List.cons.injEq]
end
theorem canonNs_length : ∀ l : List Nd, (canonNs l).length = l.length
 | [] => rfl
 | k :: ks => by rw [canonNs, List.length_cons, canonNs_length ks]; rfl
theorem canonNs_map : ∀ l : List Nd, canonNs l = l.map canonN
 | [] => rfl
 | k :: ks => by rw [canonNs, canonNs_map ks]; rfl
theorem goodNs_all : ∀ l : List Nd, goodNs l = true ↔ ∀ t ∈ l, goodN t = true
 | [] => by simp [goodNs]
 | k :: ks => by simp [goodNs, goodNs_all ks]
theorem canTop_cases (kind : Int) (field text : List UInt8) (n : Int) (lo hi : Bd) (occ : List Int) (cs : List Nd) :
  (∃ c, cs = [c] ∧ (kind = 10 ∨ kind = 11 ∨ kind = 12 ∨ (kind = 9 ∧ n = 0 ∧ occ[0]? = some 0)) ∧ canTop kind field text n lo hi occ cs = c) ∨
  ((cs.length = 1 → ¬ (kind = 10 ∨ kind = 11 ∨ kind = 12 ∨ (kind = 9 ∧ n = 0 ∧ occ[0]? = some 0))) ∧ canTop kind field text n lo hi occ cs = .mk kind field text n lo hi occ cs) := by
 rcases cs with _ | ⟨c, _ | ⟨d, r⟩⟩
 ·exact .inr ⟨fun h => by simp at h, rfl⟩
 ·by_cases h : kind = 10 ∨ kind = 11 ∨ kind = 12 ∨ (kind = 9 ∧ n = 0 ∧ occ[0]? = some 0)
  ·exact .inl ⟨c, rfl, h, by rw [canTop, if_pos h]⟩
  ·exact .inr ⟨fun _ => h, by rw [canTop, if_neg h]⟩
 ·exact .inr ⟨fun h => by simp at h, rfl⟩
mutual
theorem canon_good : ∀ t : Nd, goodN t = true → goodN (canonN t) = true
 | .mk kind field text n lo hi occ ks, h => by
  rw [goodN, Bool.and_eq_true] at h
  have h2 := canons_good ks h.2
  rw [canonN]
  rcases canTop_cases kind field text n lo hi occ (canonNs ks) with ⟨c, hc, _, e⟩ | ⟨_, e⟩
  ·rw [e]
   rw [hc] at h2
   exact (goodNs_all _).1 h2 c (List.mem_singleton.2 rfl)
  ·rw [e, goodN, Bool.and_eq_true, canonNs_length]
   exact ⟨h.1, h2⟩
theorem canons_good : ∀ l : List Nd, goodNs l = true → goodNs (canonNs l) = true
 | [], _ => rfl
 | k :: ks, h => by
  rw [goodNs, Bool.and_eq_true] at h
  rw [canonNs, goodNs, Bool.and_eq_true]
  exact ⟨canon_good k h.1, canons_good ks h.2⟩
end
mutual
theorem canon_size : ∀ t : Nd, sizeN (canonN t) ≤ sizeN t
 | .mk kind field text n lo hi occ ks => by
  have h2 := canons_size ks
  rw [canonN]
  rcases canTop_cases kind field text n lo hi occ (canonNs ks) with ⟨c, hc, _, e⟩ | ⟨hn, e⟩
  ·rw [e, sizeN]
   rw [hc, sizeNs, sizeNs] at h2
   omega
  ·rw [e, sizeN, sizeN]; omega
theorem canons_size : ∀ l : List Nd, sizeNs (canonNs l) ≤ sizeNs l
 | [] => Nat.le_refl _
 | k :: ks => by
  have h := canon_size k
  have h2 := canons_size ks
  rw [canonNs, sizeNs, sizeNs]; omega
end
def CanN (t : Nd) : Prop := canonN t = t
theorem can_kids {kind : Int} {field text : List UInt8} {n : Int} {lo hi : Bd} {occ : List Int} {ks : List Nd} (h : CanN (.mk kind field text n lo hi occ ks)) :
  (∀ k ∈ ks, CanN k) ∧ (ks.length = 1 → ¬ (kind = 10 ∨ kind = 11 ∨ kind = 12 ∨ (kind = 9 ∧ n = 0 ∧ occ[0]? = some 0))) := by
 unfold CanN at h
 rw [canonN] at h
 rcases canTop_cases kind field text n lo hi occ (canonNs ks) with ⟨c, hc, hk, e⟩ | ⟨hn, e⟩
 ·exfalso
  rw [e] at h
  have h1 := canons_size ks
  have h3 : sizeN c = 1 + sizeNs ks := by rw [h]; rfl
  rw [hc] at h1
  simp only [sizeNs] at h1
  omega
 ·rw [e] at h
  injection h with _ _ _ _ _ _ _ h
  refine ⟨fun k hk => ?_, fun hl => hn (by rw [canonNs_length]; exact hl)⟩
  rw [canonNs_map] at h
  obtain ⟨i, hi, rfl⟩ := List.mem_iff_getElem.1 hk
  show canonN ks[i] = ks[i]
  have h1 : (ks.map canonN)[i]? = ks[i]? := by rw [h]
  rw [List.getElem?_map, List.getElem?_eq_getElem hi] at h1
  simpa using h1
theorem patF_pe (f all : List UInt8) : ∀ (s letters : List UInt8), patF f all letters (s.flatMap pe ++ [42]) = ndLeaf 3 f (letters ++ s) 0
 | [], letters => by
  rw [List.flatMap_nil, List.nil_append, patF, if_pos rfl, List.append_nil]
 | c :: s, letters => by
  have ih := patF_pe f all s (letters ++ [c])
  rw [List.flatMap_cons]
  by_cases h : cls c = 3 ∨ cls c = 4
  ·have hp : pe c = [92, c] := by unfold pe; rw [if_pos h]
   rw [hp]
   show patF f all letters (92 :: c :: (s.flatMap pe ++ [42])) = _
   rw [patF, if_neg (by decide), if_pos rfl, ih, List.append_assoc]; rfl
  ·have hp : pe c = [c] := by unfold pe; rw [if_neg h]
   rw [hp]
   have h42 : c ≠ 42 := fun e => h (.inl (by rw [e]; decide))
   have h63 : c ≠ 63 := fun e => h (.inl (by rw [e]; decide))
   have h92 : c ≠ 92 := fun e => h (.inr (by rw [e]; decide))
   show patF f all letters (c :: (s.flatMap pe ++ [42])) = _
   cases hx : s.flatMap pe ++ [42] with
   | nil => simp at hx
   | cons d r =>
    rw [hx] at ih
    rw [patF, if_neg (by rw [not_or]; exact ⟨h63, h42⟩), if_neg h92, ih, List.append_assoc]; rfl
theorem pe_ne (s : List UInt8) (h : s ≠ []) : s.flatMap pe ++ [42] ≠ [42] := by
 cases s with
 | nil => exact absurd rfl h
 | cons c s =>
  intro e
  have := congrArg List.length e
  have h2 : 1 ≤ (pe c).length := by unfold pe; split <;> simp
  rw [List.flatMap_cons, List.length_append, List.length_append] at this
  simp only [List.length_singleton] at this; omega
theorem stop126 : stopB 126 := ⟨.inr (by decide), by decide⟩
theorem stop58 : stopB 58 := ⟨.inr (by decide), by decide⟩
theorem toks_word {s : List UInt8} (h : s ≠ []) : Toks (wordL s) [⟨1, s, 0, 0, 0⟩] := Toks.one (word_back h) rfl
theorem toks_quote (s : List UInt8) : Toks (quoteL s) [⟨3, s, 0, 0, 0⟩] := Toks.one (quote_back s) rfl
theorem toks_to : Toks [84, 79] [⟨7, [], 0, 0, 0⟩] := ⟨[⟨7, [], 0, 0, 2⟩], ⟨0, [], 0, 2, 2⟩, by rfl, rfl, rfl⟩
theorem toks_star : Toks [42] [⟨2, [42], 0, 0, 0⟩] := ⟨[⟨2, [42], 0, 0, 1⟩], ⟨0, [], 0, 1, 1⟩, by rfl, rfl, rfl⟩
def LeafT (l : List UInt8) (g : List UInt8 → Nd) : Prop := ∃ T, Toks l T ∧ D .body T 0 (one1 g)
theorem leafT_word {s : List UInt8} (h : s ≠ []) : LeafT (wordL s) fun f => ndLeaf 1 f s 0 := ⟨_, toks_word h, .leafB (.word rfl)⟩
theorem leafT_has : LeafT [42] fun f => ndLeaf 7 f [] 0 := ⟨_, toks_star, .leafB (.pat (t := ⟨2, [42], 0, 0, 0⟩) rfl)⟩
theorem toks_field {f l : List UInt8} {T : List Lt} (hf : f ≠ []) (h : Toks l T) : Toks (wordL f ++ 58 :: l) (⟨1, f, 0, 0, 0⟩ :: ⟨14, [], 0, 0, 0⟩ :: T) :=
 Toks.app stop58 (toks_word hf) (.single (by decide) (by decide) h)
theorem decN_lt {u : Nat} (h : u < 10) : decN u = [UInt8.ofNat (48 + u)] := by unfold decN; rw [Lib.decDigits, dif_pos h]
theorem decN_ge {u : Nat} (h : ¬ u < 10) : decN u = decN (u / 10) ++ [UInt8.ofNat (48 + u % 10)] := by unfold decN; rw [Lib.decDigits, dif_neg h]
theorem dig_byte {d : Nat} (h : d < 10) : isDg (UInt8.ofNat (48 + d)) = true ∧ (UInt8.ofNat (48 + d)).toNat = 48 + d := by
 have e : (UInt8.ofNat (48 + d)).toNat = 48 + d := by rw [UInt8.toNat_ofNat']; omega
 exact ⟨by unfold isDg; rw [e]; exact decide_eq_true (by omega), e⟩
theorem decN_all : ∀ (N u : Nat), u ≤ N → (∀ c ∈ decN u, isDg c = true) ∧ decN u ≠ [] ∧ (u ≤ 999999999 → ncap (decN u) = u)
 | N, u, hN => by
  by_cases h : u < 10
  ·rw [decN_lt h]
   refine ⟨fun c hc => ?_, by simp, fun _ => ?_⟩
   ·rw [List.mem_singleton.1 hc]; exact (dig_byte h).1
   ·have e := ncap_snoc [] (UInt8.ofNat (48 + u))
    rw [List.nil_append] at e
    rw [e, (dig_byte h).2]
    show min (10 * 0 + _) _ = _
    omega
  ·rw [decN_ge h]
   match N with
   | 0 => omega
   | N + 1 =>
    obtain ⟨h1, h2, h3⟩ := decN_all N (u / 10) (by omega)
    have hm : u % 10 < 10 := Nat.mod_lt _ (by omega)
    refine ⟨fun c hc => ?_, by simp, fun hu => ?_⟩
    ·rcases List.mem_append.1 hc with hc | hc
     ·exact h1 c hc
     ·rw [List.mem_singleton.1 hc]; exact (dig_byte hm).1
    ·rw [ncap_snoc, h3 (by omega), (dig_byte hm).2]
     omega
theorem digs_dec (u : Nat) : digs (decN u) = decN u := by
 have h := (decN_all u u (Nat.le_refl _)).1
 unfold digs
 generalize decN u = l at h ⊢
 induction l with
 | nil => rfl
 | cons c t ih => rw [List.takeWhile_cons, h c List.mem_cons_self, if_pos rfl, ih (fun d hd => h d (List.mem_cons_of_mem _ hd))]
theorem numTk_dec {u : Nat} (hu : u ≤ 999999999) (kind : Int) (m : Nat) : numTk kind (decN u) m = some ⟨kind, [], (u : Int), m + (decN u).length⟩ := by
 obtain ⟨h1, h2, h3⟩ := decN_all u u (Nat.le_refl _)
 unfold numTk numOkB
 rw [digs_dec, h3 hu, if_pos (decide_eq_true ⟨List.length_pos_iff.2 h2, hu⟩)]
theorem dec_head (u : Nat) : (decN u).head? ≠ some 61 := by
 intro h
 have h2 := (decN_all u u (Nat.le_refl _)).1 61 (List.mem_of_mem_head? (by rw [h]; rfl))
 exact absurd h2 (by decide)
theorem toks_tok {c : UInt8} {t : List UInt8} {k : Tk} (h : tokOf (c :: t) = some k) (hl : k.len = t.length + 1) (hc : cls c ≠ 1) : Toks (c :: t) [⟨k.kind, k.text, k.n, 0, 0⟩] :=
 Toks.one (scan_one h hl (fun c' t' e => by injection e with e _; rw [← e]; exact hc)) rfl
theorem toks_til {u : Nat} (hu : u ≤ 999999999) : Toks (126 :: decN u) [⟨20, [], (u : Int), 0, 0⟩] := by
 have h : tokOf (126 :: decN u) = some ⟨20, [], (u : Int), 1 + (decN u).length⟩ := by
  have h5 : singleK 126 = 0 := by decide
  rw [tokOf, h5, if_neg (by decide), if_neg (by decide), if_neg (by decide), if_pos rfl, digs_dec, if_neg (decN_all u u (Nat.le_refl _)).2.1, numTk_dec hu]
 exact toks_tok h (by simp only []; omega) (by decide)
theorem toks_boost {u : Nat} (hu : u ≤ 999999999) : Toks (94 :: decN u) [⟨18, [], (u : Int), 0, 0⟩] := by
 have h : tokOf (94 :: decN u) = some ⟨18, [], (u : Int), 1 + (decN u).length⟩ := by
  have h5 : singleK 94 = 0 := by decide
  rw [tokOf, h5, if_neg (by decide), if_neg (by decide), if_pos rfl, if_neg (dec_head u), numTk_dec hu]
 exact toks_tok h (by simp only []; omega) (by decide)
theorem toks_const {u : Nat} (hu : u ≤ 999999999) : Toks (94 :: 61 :: decN u) [⟨19, [], (u : Int), 0, 0⟩] := by
 have h : tokOf (94 :: 61 :: decN u) = some ⟨19, [], (u : Int), 2 + (decN u).length⟩ := by
  have h5 : singleK 94 = 0 := by decide
  rw [tokOf, h5, if_neg (by decide), if_neg (by decide), if_pos rfl, if_pos (show (61 :: decN u).head? = some 61 from rfl)]
  exact numTk_dec hu 19 2
 exact toks_tok h (by simp only [List.length_cons]; omega) (by decide)
theorem toks_least {u : Nat} (hu : u ≤ 999999999) : Toks (64 :: decN u) [⟨21, [], (u : Int), 0, 0⟩] := by
 have h : tokOf (64 :: decN u) = some ⟨21, [], (u : Int), 1 + (decN u).length⟩ := by
  have h5 : singleK 64 = 0 := by decide
  rw [tokOf, h5, if_neg (by decide), if_neg (by decide), if_neg (by decide), if_neg (by decide), if_pos rfl, numTk_dec hu]
 exact toks_tok h (by simp only []; omega) (by decide)
theorem stop94 : stopB 94 := ⟨.inr (by decide), by decide⟩
theorem stop93 : stopB 93 := ⟨.inr (by decide), by decide⟩
theorem stop125 : stopB 125 := ⟨.inr (by decide), by decide⟩
theorem pesc_pe (c : UInt8) : pesc c = pe c := by
 unfold pesc pe
 by_cases h : c = 42 ∨ c = 63 ∨ c = 92
 ·rw [if_pos h, if_pos ((cls34 c).2 h)]
 ·rw [if_neg h, if_neg (fun e => h ((cls34 c).1 e))]
theorem litL_pe (l : List UInt8) : litL l = l.flatMap pe := by
 unfold litL
 congr 1
 funext c
 exact pesc_pe c
theorem toks_pattern {l : List Bpt} (h : ∀ x ∈ l, x.ok) (hw : l.any Bpt.isWi = true) : Toks (patternL (ptC l)) [⟨2, ptC l, 0, 0, 0⟩] := by
 rw [pattern_c l h, ← pattern_p l h]
 exact Toks.one (pattern_back l h hw) rfl
theorem ptC_cons (x : Bpt) (l : List Bpt) : ptC (x :: l) = x.c.b ++ ptC l := rfl
theorem le_b {c : UInt8} (h : ¬ (c = 42 ∨ c = 63 ∨ c = 92)) : (Bpt.le c).c.b = [c] := by
 show (if c = 42 ∨ c = 63 ∨ c = 92 then At.es c else At.pl c).b = _
 rw [if_neg h]; rfl
theorem le_b2 {c : UInt8} (h : c = 42 ∨ c = 63 ∨ c = 92) : (Bpt.le c).c.b = [92, c] := by
 show (if c = 42 ∨ c = 63 ∨ c = 92 then At.es c else At.pl c).b = _
 rw [if_pos h]; rfl
theorem lit_ptC (s : List UInt8) : s.flatMap pe ++ [42] = ptC (s.map Bpt.le ++ [.wi 42]) := by
 induction s with
 | nil => rfl
 | cons c s ih =>
  rw [List.flatMap_cons, List.append_assoc, ih, List.map_cons, List.cons_append, ptC_cons, ← pesc_pe]
  unfold pesc
  by_cases h : c = 42 ∨ c = 63 ∨ c = 92
  ·rw [if_pos h, le_b2 h]
  ·rw [if_neg h, le_b h]
theorem wild_bpt : ∀ (N : Nat) (l : List UInt8) (i m : Nat) (last : Int) (m' : Nat) (last' : Int), l.length ≤ N → wildP l i m last = some (m', last') →
  ∃ bl : List Bpt, (∀ x ∈ bl, x.ok) ∧ l = ptC bl ∧ m ≤ m' ∧ (bl.any Bpt.isWi = false → m' = m)
 | N, [], i, m, last, m', last', _, h => by
  rw [wildP] at h
  cases h
  exact ⟨[], by simp, rfl, Nat.le_refl _, fun _ => rfl⟩
 | 0, c :: r, i, m, last, m', last', hl, h => by simp at hl
 | N + 1, c :: r, i, m, last, m', last', hl, h => by
  have hl2 : r.length ≤ N := by simpa using hl
  rw [wildP.eq_def] at h
  simp only [] at h
  by_cases c1 : c = 42
  ·rw [if_pos c1] at h
   obtain ⟨bl, h1, h2, h3, h4⟩ := wild_bpt N r _ _ _ _ _ hl2 h
   refine ⟨.wi 42 :: bl, fun x hx => ?_, by rw [ptC_cons, ← h2, c1]; rfl, by omega, fun e => by simp [Bpt.isWi] at e⟩
   rcases List.mem_cons.1 hx with rfl | hx
   ·show cls 42 = 3; decide
   ·exact h1 x hx
  ·rw [if_neg c1] at h
   by_cases c2 : c = 63
   ·rw [if_pos c2] at h
    obtain ⟨bl, h1, h2, h3, h4⟩ := wild_bpt N r _ _ _ _ _ hl2 h
    refine ⟨.wi 63 :: bl, fun x hx => ?_, by rw [ptC_cons, ← h2, c2]; rfl, by omega, fun e => by simp [Bpt.isWi] at e⟩
    rcases List.mem_cons.1 hx with rfl | hx
    ·show cls 63 = 3; decide
    ·exact h1 x hx
   ·rw [if_neg c2] at h
    by_cases c3 : c = 92
    ·rw [if_pos c3] at h
     cases r with
     | nil => cases h
     | cons d r2 =>
      simp only [] at h
      by_cases c4 : d = 42 ∨ d = 63 ∨ d = 92
      ·rw [if_pos c4] at h
       obtain ⟨bl, h1, h2, h3, h4⟩ := wild_bpt N r2 _ _ _ _ _ (by simp at hl2; omega) h
       refine ⟨.le d :: bl, fun x hx => ?_, by rw [ptC_cons, ← h2, c3, le_b2 c4]; rfl, h3, fun e => h4 (by simpa [Bpt.isWi] using e)⟩
       rcases List.mem_cons.1 hx with rfl | hx
       ·trivial
       ·exact h1 x hx
      ·rw [if_neg c4] at h; cases h
    ·rw [if_neg c3] at h
     obtain ⟨bl, h1, h2, h3, h4⟩ := wild_bpt N r _ _ _ _ _ hl2 h
     refine ⟨.le c :: bl, fun x hx => ?_, by rw [ptC_cons, ← h2, le_b (by rintro (e | e | e) <;> contradiction)]; rfl, h3, fun e => h4 (by simpa [Bpt.isWi] using e)⟩
     rcases List.mem_cons.1 hx with rfl | hx
     ·trivial
     ·exact h1 x hx
theorem patF_wild (f all : List UInt8) : ∀ (N : Nat) (l letters : List UInt8) (i m : Nat) (last : Int) (m' : Nat) (last' : Int), l.length ≤ N → wildP l i m last = some (m', last') →
  (m + 1 < m' ∨ last' ≠ (i : Int) + l.length - 1) → patF f all letters l = ndLeaf 4 f all 0
 | N, [], letters, i, m, last, m', last', _, h, hh => by rw [patF]
 | 0, c :: r, letters, i, m, last, m', last', hl, h, hh => by simp at hl
 | N + 1, [c], letters, i, m, last, m', last', hl, h, hh => by
  rw [patF]
  by_cases c1 : c = 42
  ·exfalso
   rw [wildP, if_pos c1, wildP] at h
   cases h
   simp at hh
  ·rw [if_neg c1]
 | N + 1, c :: d :: r, letters, i, m, last, m', last', hl, h, hh => by
  rw [patF]
  have hl2 : (d :: r).length ≤ N := by simpa using hl
  by_cases c1 : c = 63 ∨ c = 42
  ·rw [if_pos c1]
  ·rw [if_neg c1]
   rw [wildP.eq_def] at h
   simp only [] at h
   rw [if_neg (fun e => c1 (.inr e)), if_neg (fun e => c1 (.inl e))] at h
   by_cases c3 : c = 92
   ·rw [if_pos c3] at h ⊢
    by_cases c4 : d = 42 ∨ d = 63 ∨ d = 92
    ·rw [if_pos c4] at h
     exact patF_wild f all N r _ (i + 2) m last m' last' (by simp at hl2; omega) h (by simp only [List.length_cons] at hh ⊢; omega)
    ·rw [if_neg c4] at h; cases h
   ·rw [if_neg c3] at h ⊢
    exact patF_wild f all N (d :: r) _ (i + 1) m last m' last' hl2 h (by simp only [List.length_cons] at hh ⊢; omega)
theorem toks_wild {p : List UInt8} (h : wildB p = true) : Toks (patternL p) [⟨2, p, 0, 0, 0⟩] ∧ ∀ f, patN f p = ndLeaf 4 f p 0 := by
 unfold wildB at h
 cases hw : wildP p 0 0 (-1) with
 | none => rw [hw] at h; cases h
 | some a =>
  obtain ⟨m, last⟩ := a
  rw [hw] at h
  simp only [Bool.or_eq_true, Bool.and_eq_true, decide_eq_true_eq] at h
  obtain ⟨bl, h1, h2, h3, h4⟩ := wild_bpt p.length p 0 0 (-1) m last (Nat.le_refl _) hw
  have hwi : bl.any Bpt.isWi = true := by
   cases hb : bl.any Bpt.isWi with
   | true => rfl
   | false => have := h4 hb; omega
  refine ⟨by rw [h2]; exact toks_pattern h1 hwi, fun f => ?_⟩
  unfold patN
  rw [if_neg (fun e => ?_), patF_wild f p p.length p [] 0 0 (-1) m last (Nat.le_refl _) hw (by rcases h with h | h; exact .inl (by omega); exact .inr (by have := h.2; omega))]
  rw [e, wildP, if_pos rfl, wildP] at hw
  cases hw
  rw [e] at h
  simp at h
theorem toks_lit {s : List UInt8} (h : s ≠ []) : Toks (patternL (litL s ++ [42])) [⟨2, litL s ++ [42], 0, 0, 0⟩] ∧ ∀ f, patN f (litL s ++ [42]) = ndLeaf 3 f s 0 := by
 rw [litL_pe, lit_ptC]
 refine ⟨toks_pattern (fun x hx => ?_) (by simp [Bpt.isWi]), fun f => ?_⟩
 ·rcases List.mem_append.1 hx with hx | hx
  ·obtain ⟨c, _, rfl⟩ := List.mem_map.1 hx; trivial
  ·rw [List.mem_singleton.1 hx]; show cls 42 = 3; decide
 ·rw [← lit_ptC]
  unfold patN
  rw [if_neg (pe_ne s h), patF_pe, List.nil_append]
theorem Bd.nil_eq {b : Bd} (h : b.nil = true) : b = bd0 := by
 obtain ⟨o, i, t⟩ := b
 unfold Bd.nil at h
 simp only [Bool.and_eq_true, Bool.not_eq_true', List.isEmpty_iff] at h
 obtain ⟨⟨rfl, rfl⟩, rfl⟩ := h
 rfl
def LeafOk (kind : Int) (text : List UInt8) (n : Int) (lo hi : Bd) : Prop :=
 (kind = 1 ∧ text ≠ [] ∧ n = 0 ∧ lo = bd0 ∧ hi = bd0) ∨ (kind = 2 ∧ 0 ≤ n ∧ n ≤ 999999999 ∧ lo = bd0 ∧ hi = bd0) ∨ (kind = 3 ∧ text ≠ [] ∧ n = 0 ∧ lo = bd0 ∧ hi = bd0) ∨
 (kind = 4 ∧ wildB text = true ∧ n = 0 ∧ lo = bd0 ∧ hi = bd0) ∨ (kind = 5 ∧ text ≠ [] ∧ (n = 1 ∨ n = 2) ∧ lo = bd0 ∧ hi = bd0) ∨ (kind = 6 ∧ text = [] ∧ n = 0 ∧ lo.ok = true ∧ hi.ok = true) ∨
 (kind = 7 ∧ text = [] ∧ n = 0 ∧ lo = bd0 ∧ hi = bd0) ∨ (kind = 8 ∧ text = [] ∧ n = 0 ∧ lo = bd0 ∧ hi = bd0)
theorem numB_iff {n : Int} : numB n = true ↔ 0 ≤ n ∧ n ≤ 999999999 := by
 unfold numB maxNum
 rw [Bool.and_eq_true, decide_eq_true_eq, decide_eq_true_eq]
theorem own_cases {kind n : Int} {field text : List UInt8} {lo hi : Bd} {occ : List Int} {nk : Nat} (h : ownN kind field text n lo hi occ nk = true) :
  (LeafOk kind text n lo hi ∧ occ = [] ∧ nk = 0 ∧ (kind = 8 → field = []) ∧ kind < 9) ∨
  (9 ≤ kind ∧ kind ≤ 15 ∧ field = [] ∧ text = [] ∧ lo = bd0 ∧ hi = bd0 ∧ 0 ≤ n ∧ n ≤ 999999999 ∧ 0 < nk ∧ (kind = 9 → occ.length = nk ∧ ∀ o ∈ occ, 0 ≤ o ∧ o ≤ 2) ∧ (kind ≠ 9 → occ = []) ∧ (kind = 10 ∨ kind = 11 ∨ kind = 12 ∨ kind = 13 → n = 0) ∧ (13 ≤ kind → nk = 1)) := by
 unfold ownN at h
 by_cases c1 : kind = 1 ∨ kind = 3
 ·rw [if_pos c1] at h
  simp only [Bool.and_eq_true, decide_eq_true_eq, Bool.not_eq_true', List.isEmpty_iff] at h
  obtain ⟨⟨⟨⟨⟨h1, h2⟩, h3⟩, h4⟩, h5⟩, h6⟩ := h
  have h7 : text ≠ [] := fun e => by rw [e] at h1; cases h1
  refine .inl ⟨?_, h5, h6, fun e => by omega, by omega⟩
  rcases c1 with c1 | c1
  ·exact .inl ⟨c1, h7, h2, Bd.nil_eq h3, Bd.nil_eq h4⟩
  ·exact .inr (.inr (.inl ⟨c1, h7, h2, Bd.nil_eq h3, Bd.nil_eq h4⟩))
 rw [if_neg c1] at h
 by_cases c2 : kind = 2
 ·rw [if_pos c2] at h
  simp only [Bool.and_eq_true, decide_eq_true_eq, List.isEmpty_iff, numB_iff] at h
  obtain ⟨⟨⟨⟨h2, h3⟩, h4⟩, h5⟩, h6⟩ := h
  exact .inl ⟨.inr (.inl ⟨c2, h2.1, h2.2, Bd.nil_eq h3, Bd.nil_eq h4⟩), h5, h6, fun e => by omega, by omega⟩
 rw [if_neg c2] at h
 by_cases c4 : kind = 4
 ·rw [if_pos c4] at h
  simp only [Bool.and_eq_true, decide_eq_true_eq, List.isEmpty_iff] at h
  obtain ⟨⟨⟨⟨⟨h1, h2⟩, h3⟩, h4⟩, h5⟩, h6⟩ := h
  exact .inl ⟨.inr (.inr (.inr (.inl ⟨c4, h1, h2, Bd.nil_eq h3, Bd.nil_eq h4⟩))), h5, h6, fun e => by omega, by omega⟩
 rw [if_neg c4] at h
 by_cases c5 : kind = 5
 ·rw [if_pos c5] at h
  simp only [Bool.and_eq_true, Bool.or_eq_true, decide_eq_true_eq, Bool.not_eq_true', List.isEmpty_iff] at h
  obtain ⟨⟨⟨⟨⟨h1, h2⟩, h3⟩, h4⟩, h5⟩, h6⟩ := h
  have h7 : text ≠ [] := fun e => by rw [e] at h1; cases h1
  exact .inl ⟨.inr (.inr (.inr (.inr (.inl ⟨c5, h7, h2, Bd.nil_eq h3, Bd.nil_eq h4⟩)))), h5, h6, fun e => by omega, by omega⟩
 rw [if_neg c5] at h
 by_cases c6 : kind = 6
 ·rw [if_pos c6] at h
  simp only [Bool.and_eq_true, decide_eq_true_eq, List.isEmpty_iff] at h
  obtain ⟨⟨⟨⟨⟨h1, h2⟩, h3⟩, h4⟩, h5⟩, h6⟩ := h
  exact .inl ⟨.inr (.inr (.inr (.inr (.inr (.inl ⟨c6, h1, h2, h3, h4⟩))))), h5, h6, fun e => by omega, by omega⟩
 rw [if_neg c6] at h
 by_cases c7 : kind = 7
 ·rw [if_pos c7] at h
  simp only [Bool.and_eq_true, decide_eq_true_eq, List.isEmpty_iff] at h
  obtain ⟨⟨⟨⟨⟨h1, h2⟩, h3⟩, h4⟩, h5⟩, h6⟩ := h
  exact .inl ⟨.inr (.inr (.inr (.inr (.inr (.inr (.inl ⟨c7, h1, h2, Bd.nil_eq h3, Bd.nil_eq h4⟩)))))), h5, h6, fun e => by omega, by omega⟩
 rw [if_neg c7] at h
 by_cases c8 : kind = 8
 ·rw [if_pos c8] at h
  simp only [Bool.and_eq_true, decide_eq_true_eq, List.isEmpty_iff] at h
  obtain ⟨⟨⟨⟨⟨⟨h0, h1⟩, h2⟩, h3⟩, h4⟩, h5⟩, h6⟩ := h
  exact .inl ⟨.inr (.inr (.inr (.inr (.inr (.inr (.inr ⟨c8, h1, h2, Bd.nil_eq h3, Bd.nil_eq h4⟩)))))), h5, h6, fun e => h0, by omega⟩
 rw [if_neg c8] at h
 by_cases c9 : kind = 9
 ·rw [if_pos c9] at h
  simp only [Bool.and_eq_true, decide_eq_true_eq, List.isEmpty_iff, numB_iff, occB, List.all_eq_true] at h
  obtain ⟨⟨⟨⟨⟨⟨⟨h0, h1⟩, h2⟩, h3⟩, h4⟩, h5⟩, h6⟩, h7⟩ := h
  exact .inr ⟨by omega, by omega, h0, h1, Bd.nil_eq h3, Bd.nil_eq h4, h2.1, h2.2, h7, fun _ => ⟨h5, h6⟩, fun e => absurd c9 e, fun e => by omega, fun e => by omega⟩
 rw [if_neg c9] at h
 by_cases c10 : kind = 10 ∨ kind = 11 ∨ kind = 12
 ·rw [if_pos c10] at h
  simp only [Bool.and_eq_true, decide_eq_true_eq, List.isEmpty_iff] at h
  obtain ⟨⟨⟨⟨⟨⟨h0, h1⟩, h2⟩, h3⟩, h4⟩, h5⟩, h6⟩ := h
  exact .inr ⟨by omega, by omega, h0, h1, Bd.nil_eq h3, Bd.nil_eq h4, by omega, by omega, h6, fun e => absurd e c9, fun _ => h5, fun _ => h2, fun e => by omega⟩
 rw [if_neg c10] at h
 by_cases c13 : kind = 13
 ·rw [if_pos c13] at h
  simp only [Bool.and_eq_true, decide_eq_true_eq, List.isEmpty_iff] at h
  obtain ⟨⟨⟨⟨⟨⟨h0, h1⟩, h2⟩, h3⟩, h4⟩, h5⟩, h6⟩ := h
  exact .inr ⟨by omega, by omega, h0, h1, Bd.nil_eq h3, Bd.nil_eq h4, by omega, by omega, by omega, fun e => absurd e c9, fun _ => h5, fun _ => h2, fun _ => h6⟩
 rw [if_neg c13] at h
 by_cases c14 : kind = 14 ∨ kind = 15
 ·rw [if_pos c14] at h
  simp only [Bool.and_eq_true, decide_eq_true_eq, List.isEmpty_iff, numB_iff] at h
  obtain ⟨⟨⟨⟨⟨⟨h0, h1⟩, h2⟩, h3⟩, h4⟩, h5⟩, h6⟩ := h
  exact .inr ⟨by omega, by omega, h0, h1, Bd.nil_eq h3, Bd.nil_eq h4, h2.1, h2.2, by omega, fun e => absurd e c9, fun _ => h5, fun e => by omega, fun _ => h6⟩
 rw [if_neg c14] at h
 cases h
theorem side_toks {b : Bd} (h : b.ok = true) : ∃ t : Lt, Toks (sideF b) [t] ∧ sideT t = true ∧ ∀ i : Bool, (b.open_ = true ∨ i = b.in_) → sideN t i = b := by
 obtain ⟨o, i, t⟩ := b
 cases o with
 | true =>
  unfold Bd.ok at h
  simp only [Bool.not_true, Bool.false_or, Bool.and_eq_true, Bool.not_eq_true', List.isEmpty_iff] at h
  obtain ⟨rfl, rfl⟩ := h
  exact ⟨_, toks_star, rfl, fun _ _ => rfl⟩
 | false =>
  by_cases ht : t = []
  ·subst ht
   refine ⟨_, toks_quote [], rfl, fun j hj => ?_⟩
   rcases hj with hj | hj
   ·cases hj
   ·subst hj; rfl
  ·have e : sideF ⟨false, i, t⟩ = wordL t := by unfold sideF; simp only [Bool.false_eq_true, if_false]; rw [if_neg ht]
   rw [e]
   refine ⟨_, toks_word ht, rfl, fun j hj => ?_⟩
   rcases hj with hj | hj
   ·cases hj
   ·subst hj; rfl
theorem leaf_span {lo hi : Bd} (h1 : lo.ok = true) (h2 : hi.ok = true) :
  LeafT ((if lo.in_ = true ∨ lo.open_ = true then 91 else 123) :: (sideF lo ++ [32, 84, 79, 32] ++ sideF hi ++ [if hi.in_ = true ∨ hi.open_ = true then 93 else 125])) fun f => .mk 6 f [] 0 lo hi [] [] := by
 obtain ⟨t, hT, ht, he⟩ := side_toks h1
 obtain ⟨u, hU, hu, hf⟩ := side_toks h2
 obtain ⟨e, k, ke, hE1, hE2, hk, hki⟩ : ∃ (e : UInt8) (k : Lt) (z : stopB e), (if hi.in_ = true ∨ hi.open_ = true then (93 : UInt8) else 125) = e ∧ Toks [e] [k] ∧ (k.kind = 11 ∨ k.kind = 13) ∧ (hi.open_ = true ∨ decide (k.kind = 11) = hi.in_) := by
  by_cases hc : hi.in_ = true ∨ hi.open_ = true
  ·refine ⟨93, ⟨11, [], 0, 0, 0⟩, stop93, by rw [if_pos hc], .single (by decide) (by decide) .nil, .inl rfl, ?_⟩
   rcases hc with hc | hc
   ·exact .inr (by rw [hc]; rfl)
   ·exact .inl hc
  ·refine ⟨125, ⟨13, [], 0, 0, 0⟩, stop125, by rw [if_neg hc], .single (by decide) (by decide) .nil, .inr rfl, .inr ?_⟩
   cases hh : hi.in_ with
   | true => exact absurd (.inl hh) hc
   | false => rfl
 obtain ⟨b, m, hM, hm, hm1, hmi⟩ : ∃ (b : UInt8) (m : Int), singleK b = m ∧ (if lo.in_ = true ∨ lo.open_ = true then (91 : UInt8) else 123) = b ∧ (m = 10 ∨ m = 12) ∧ (lo.open_ = true ∨ decide (m = 10) = lo.in_) := by
  by_cases hc : lo.in_ = true ∨ lo.open_ = true
  ·refine ⟨91, 10, by decide, by rw [if_pos hc], .inl rfl, ?_⟩
   rcases hc with hc | hc
   ·exact .inr (by rw [hc]; rfl)
   ·exact .inl hc
  ·refine ⟨123, 12, by decide, by rw [if_neg hc], .inr rfl, .inr ?_⟩
   cases hh : lo.in_ with
   | true => exact absurd (.inl hh) hc
   | false => rfl
 rw [hE1, hm]
 have h3 := Toks.single (k := m) hM (by omega) (Toks.app stop32 hT (.blank blank32 (.app stop32 toks_to (.blank blank32 (.app ke hU hE2)))))
 have h4 : b :: (sideF lo ++ [32, 84, 79, 32] ++ sideF hi ++ [e]) = b :: (sideF lo ++ 32 :: ([84, 79] ++ 32 :: (sideF hi ++ [e]))) := by simp
 rw [h4]
 refine ⟨_, h3, .leafB ?_⟩
 have h5 := D.span (a := ⟨m, [], 0, 0, 0⟩) (b := t) (c := ⟨7, [], 0, 0, 0⟩) (d := u) (e := k) hm1 ht rfl hu hk
 have h6 : (fun f => [((0 : Int), Nd.mk 6 f [] 0 (sideN t (decide (m = 10))) (sideN u (decide (k.kind = 11))) [] [])]) = one1 fun f => Nd.mk 6 f [] 0 lo hi [] [] := by
  funext f
  rw [he _ hmi, hf _ hki]
  rfl
 rw [← h6]
 exact h5
theorem leaf_toks {kind n : Int} {text : List UInt8} {lo hi : Bd} (h : LeafOk kind text n lo hi) (h8 : kind ≠ 8) : LeafT (leafF kind text n lo hi) fun f => .mk kind f text n lo hi [] [] := by
 rcases h with ⟨rfl, h1, rfl, rfl, rfl⟩ | ⟨rfl, h1, h2, rfl, rfl⟩ | ⟨rfl, h1, rfl, rfl, rfl⟩ | ⟨rfl, h1, rfl, rfl, rfl⟩ | ⟨rfl, h1, h2, rfl, rfl⟩ | ⟨rfl, rfl, rfl, h1, h2⟩ | ⟨rfl, rfl, rfl, rfl, rfl⟩ | ⟨rfl, _⟩
 ·exact leafT_word h1
 ·have e : leafF 2 text n bd0 bd0 = if 0 < n then quoteL text ++ 126 :: decN n.toNat else quoteL text := rfl
  rw [e]
  obtain ⟨u, rfl⟩ : ∃ u : Nat, n = (u : Int) := ⟨n.toNat, by omega⟩
  by_cases hn : 0 < (u : Int)
  ·rw [if_pos hn]
   exact ⟨_, .app stop126 (toks_quote text) (toks_til (by omega)), .leafB (.slop (t := ⟨3, text, 0, 0, 0⟩) (u := ⟨20, [], _, 0, 0⟩) rfl rfl (Int.natCast_nonneg _))⟩
  ·rw [if_neg hn]
   obtain rfl : u = 0 := by omega
   exact ⟨_, toks_quote text, .leafB (.quo (t := ⟨3, text, 0, 0, 0⟩) rfl)⟩
 ·obtain ⟨hT, hP⟩ := toks_lit h1
  refine ⟨_, hT, .leafB ?_⟩
  have := D.pat (t := ⟨2, litL text ++ [42], 0, 0, 0⟩) rfl
  simp only [hP] at this
  exact this
 ·obtain ⟨hT, hP⟩ := toks_wild h1
  refine ⟨_, hT, .leafB ?_⟩
  have := D.pat (t := ⟨2, text, 0, 0, 0⟩) rfl
  simp only [hP] at this
  exact this
 ·obtain ⟨u, rfl, hu⟩ : ∃ u : Nat, n = (u : Int) ∧ (u = 1 ∨ u = 2) := ⟨n.toNat, by omega, by omega⟩
  refine ⟨_, .app stop126 (toks_word h1) (toks_til (u := u) (by omega)), ?_⟩
  have := D.edits (t := ⟨1, text, 0, 0, 0⟩) (u := ⟨20, [], (u : Int), 0, 0⟩) rfl rfl (by show (u : Int) = -1 ∨ (u : Int) = 1 ∨ (u : Int) = 2; omega)
  have e : ¬ ((u : Int) < 0) := by omega
  simp only [if_neg e] at this
  exact .leafB this
 ·exact leaf_span h1 h2
 ·exact leafT_has
 ·exact absurd rfl h8
end Go.Proofs.YthcldpminmhgkaaDoor
end
