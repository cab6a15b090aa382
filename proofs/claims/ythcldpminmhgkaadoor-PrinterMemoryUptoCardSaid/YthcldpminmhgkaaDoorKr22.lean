/- Merged for a claim by shake.py: Jma Jmb -/
import Derived.Test.YthcldpminmhgkaaDoorKrA
import Derived.Test.YthcldpminmhgkaaDoorKr21
set_option maxRecDepth 100000
set_option maxHeartbeats 4000000
set_option linter.unusedSimpArgs false
set_option linter.unusedVariables false
section
namespace Go.Proofs.YthcldpminmhgkaaDoor
open Go.RowKit
def FarV (u v : Value) : Prop := ∀ b, u.ownBlock = some b → v.ownBlock ≠ some b
theorem FarV.symm {u v : Value} (h : FarV u v) : FarV v u := fun b hb e => h b e hb
theorem OwnL.ltB {α : Type} {S : Shape α} {w : World} {B : Nat} {v : Value} {l : List α} (h : OwnL S w B v l) : ∀ b, v.ownBlock = some b → B ≤ b ∧ b < w.heap.size := World.ownsRow.lt h
theorem OwnL.same {α : Type} {S : Shape α} {w w' : World} {B : Nat} {v : Value} {l : List α} (h : OwnL S w B v l) (hs : ∀ b, v.ownBlock = some b → w'.heap[b]? = w.heap[b]?) : OwnL S w' B v l := by
 refine ⟨h.1, ?_⟩
 rcases h.2 with h2 | ⟨g, cap, cur, hv, hg, hh, r⟩
 ·exact Or.inl h2
 ·exact Or.inr ⟨g, cap, cur, hv, hg, by rw [hs g (by rw [hv]; rfl)]; exact hh, r⟩
def slV (s : Sl) : SlV := ⟨s.a, s.n, s.c⟩
def kVal (s : SlV × List NV) : Value := s.1.val
mutual
def NdW (w : World) (B : Nat) : Nd → NV → List SlV → List (SlV × List NV) → Prop
 | .mk kind field text n lo hi occ ks, x, is, kss => (x.kind = kind ∧ x.field = field ∧ x.text = text ∧ x.n = n ∧ x.lo = lo ∧ x.hi = hi) ∧
  ∃ nl is' kss', is = slV x.occ :: is' ∧ kss = (slV x.kids, nl) :: kss' ∧ OwnL folS w B x.occ.v occ ∧ OwnL ndS w B x.kids.v nl ∧ NdWs w B ks nl is' kss'
def NdWs (w : World) (B : Nat) : List Nd → List NV → List SlV → List (SlV × List NV) → Prop
 | [], nl, is, kss => nl = [] ∧ is = [] ∧ kss = []
 | t :: ts, nl, is, kss => ∃ x nl' i1 i2 k1 k2, nl = x :: nl' ∧ is = i1 ++ i2 ∧ kss = k1 ++ k2 ∧ NdW w B t x i1 k1 ∧ NdWs w B ts nl' i2 k2
end
mutual
theorem NdW.keep {w w' : World} {B : Nat} : ∀ (t : Nd) (x : NV) (is : List SlV) (kss : List (SlV × List NV)), NdW w B t x is kss → (∀ s ∈ is, ∀ b, s.val.ownBlock = some b → w'.heap[b]? = w.heap[b]?) → (∀ s ∈ kss, ∀ b, (kVal s).ownBlock = some b → w'.heap[b]? = w.heap[b]?) → NdW w' B t x is kss
 | .mk kind field text n lo hi occ ks, x, is, kss, h, hi_, hk => by
  unfold NdW at h ⊢
  obtain ⟨he, nl, is', kss', rfl, rfl, ho, hl, hr⟩ := h
  exact ⟨he, nl, is', kss', rfl, rfl, ho.same (hi_ _ List.mem_cons_self), hl.same (hk _ List.mem_cons_self), NdWs.keep ks nl is' kss' hr (fun s hs => hi_ s (List.mem_cons_of_mem _ hs)) (fun s hs => hk s (List.mem_cons_of_mem _ hs))⟩
theorem NdWs.keep {w w' : World} {B : Nat} : ∀ (ts : List Nd) (nl : List NV) (is : List SlV) (kss : List (SlV × List NV)), NdWs w B ts nl is kss → (∀ s ∈ is, ∀ b, s.val.ownBlock = some b → w'.heap[b]? = w.heap[b]?) → (∀ s ∈ kss, ∀ b, (kVal s).ownBlock = some b → w'.heap[b]? = w.heap[b]?) → NdWs w' B ts nl is kss
 | [], nl, is, kss, h, _, _ => by unfold NdWs at h ⊢; exact h
 | t :: ts, nl, is, kss, h, hi_, hk => by
  unfold NdWs at h ⊢
  obtain ⟨x, nl', i1, i2, k1, k2, rfl, rfl, rfl, h1, h2⟩ := h
  exact ⟨x, nl', i1, i2, k1, k2, rfl, rfl, rfl, NdW.keep t x i1 k1 h1 (fun s hs => hi_ s (List.mem_append_left _ hs)) (fun s hs => hk s (List.mem_append_left _ hs)), NdWs.keep ts nl' i2 k2 h2 (fun s hs => hi_ s (List.mem_append_right _ hs)) (fun s hs => hk s (List.mem_append_right _ hs))⟩
end
mutual
theorem NdW.more {w : World} {B B2 : Nat} (hB : B2 ≤ B) : ∀ (t : Nd) (x : NV) (is : List SlV) (kss : List (SlV × List NV)), NdW w B t x is kss → NdW w B2 t x is kss
 | .mk kind field text n lo hi occ ks, x, is, kss, h => by
  unfold NdW at h ⊢
  obtain ⟨he, nl, is', kss', rfl, rfl, ho, hl, hr⟩ := h
  exact ⟨he, nl, is', kss', rfl, rfl, ho.more hB, hl.more hB, NdWs.more hB ks nl is' kss' hr⟩
theorem NdWs.more {w : World} {B B2 : Nat} (hB : B2 ≤ B) : ∀ (ts : List Nd) (nl : List NV) (is : List SlV) (kss : List (SlV × List NV)), NdWs w B ts nl is kss → NdWs w B2 ts nl is kss
 | [], nl, is, kss, h => by unfold NdWs at h ⊢; exact h
 | t :: ts, nl, is, kss, h => by
  unfold NdWs at h ⊢
  obtain ⟨x, nl', i1, i2, k1, k2, rfl, rfl, rfl, h1, h2⟩ := h
  exact ⟨x, nl', i1, i2, k1, k2, rfl, rfl, rfl, NdW.more hB t x i1 k1 h1, NdWs.more hB ts nl' i2 k2 h2⟩
end
mutual
theorem NdW.lt {w : World} {B : Nat} : ∀ (t : Nd) (x : NV) (is : List SlV) (kss : List (SlV × List NV)), NdW w B t x is kss → (∀ s ∈ is, ∃ l, OwnL folS w B s.val l) ∧ ∀ s ∈ kss, OwnL ndS w B (kVal s) s.2
 | .mk kind field text n lo hi occ ks, x, is, kss, h => by
  unfold NdW at h
  obtain ⟨he, nl, is', kss', rfl, rfl, ho, hl, hr⟩ := h
  have h2 := NdWs.lt ks nl is' kss' hr
  refine ⟨fun s hs => ?_, fun s hs => ?_⟩
  ·rcases List.mem_cons.1 hs with rfl | hs
   ·exact ⟨_, ho⟩
   ·exact h2.1 s hs
  ·rcases List.mem_cons.1 hs with rfl | hs
   ·exact hl
   ·exact h2.2 s hs
theorem NdWs.lt {w : World} {B : Nat} : ∀ (ts : List Nd) (nl : List NV) (is : List SlV) (kss : List (SlV × List NV)), NdWs w B ts nl is kss → (∀ s ∈ is, ∃ l, OwnL folS w B s.val l) ∧ ∀ s ∈ kss, OwnL ndS w B (kVal s) s.2
 | [], nl, is, kss, h => by
  unfold NdWs at h
  obtain ⟨rfl, rfl, rfl⟩ := h
  exact ⟨fun s hs => (by cases hs), fun s hs => (by cases hs)⟩
 | t :: ts, nl, is, kss, h => by
  unfold NdWs at h
  obtain ⟨x, nl', i1, i2, k1, k2, rfl, rfl, rfl, h1, h2⟩ := h
  have g1 := NdW.lt t x i1 k1 h1
  have g2 := NdWs.lt ts nl' i2 k2 h2
  refine ⟨fun s hs => ?_, fun s hs => ?_⟩
  ·rcases List.mem_append.1 hs with hs | hs
   ·exact g1.1 s hs
   ·exact g2.1 s hs
  ·rcases List.mem_append.1 hs with hs | hs
   ·exact g1.2 s hs
   ·exact g2.2 s hs
end
mutual
theorem NdW.rd {w : World} {B : Nat} : ∀ (t : Nd) (x : NV) (is : List SlV) (kss : List (SlV × List NV)), NdW w B t x is kss → NdR w (rng B w.heap.size) x t
 | .mk kind field text n lo hi occ ks, x, is, kss, h => by
  unfold NdW at h
  obtain ⟨he, nl, is', kss', rfl, rfl, ho, hl, hr⟩ := h
  obtain ⟨k0, f0, t0, n0, l0, h0, ⟨oa, on, oc⟩, ⟨ka, kn, kc⟩⟩ := x
  simp only [] at he
  obtain ⟨rfl, rfl, rfl, rfl, rfl, rfl⟩ := he
  have h2 := NdWs.rd ks nl is' kss' hr
  refine .mk ?_ ?_ h2.1 h2.2
  ·have hn : on = occ.length := by obtain ⟨A, c, e, _, _⟩ := OwnL.form ho; injection e
   subst hn
   exact RdF.of_own ho fun g _ g1 g2 => ⟨g1, g2⟩
  ·have hn : kn = nl.length := by obtain ⟨A, c, e, _, _⟩ := OwnL.form hl; injection e
   subst hn
   exact RdF.of_own hl fun g _ g1 g2 => ⟨g1, g2⟩
theorem NdWs.rd {w : World} {B : Nat} : ∀ (ts : List Nd) (nl : List NV) (is : List SlV) (kss : List (SlV × List NV)), NdWs w B ts nl is kss → NdRs w (rng B w.heap.size) nl ts
 | [], nl, is, kss, h => by
  unfold NdWs at h
  obtain ⟨rfl, rfl, rfl⟩ := h
  exact NdRs.nil _ _
 | t :: ts, nl, is, kss, h => by
  unfold NdWs at h
  obtain ⟨x, nl', i1, i2, k1, k2, rfl, rfl, rfl, h1, h2⟩ := h
  have g1 := NdW.rd t x i1 k1 h1
  have g2 := NdWs.rd ts nl' i2 k2 h2
  refine ⟨by rw [List.length_cons, List.length_cons, g2.1], fun i y s hy hs => ?_⟩
  cases i with
  | zero => simp at hy hs; subst hy hs; exact g1
  | succ i => exact g2.2 i y s (by simpa using hy) (by simpa using hs)
end
theorem NdWs.snoc {w : World} {B : Nat} {t : Nd} {x : NV} {i1 : List SlV} {k1 : List (SlV × List NV)} (hx : NdW w B t x i1 k1) : ∀ (ts : List Nd) (nl : List NV) (is : List SlV) (kss : List (SlV × List NV)), NdWs w B ts nl is kss → NdWs w B (ts ++ [t]) (nl ++ [x]) (is ++ i1) (kss ++ k1)
 | [], nl, is, kss, h => by
  unfold NdWs at h
  obtain ⟨rfl, rfl, rfl⟩ := h
  show NdWs w B [t] [x] i1 k1
  unfold NdWs
  exact ⟨x, [], i1, [], k1, [], rfl, by simp, by simp, hx, by unfold NdWs; exact ⟨rfl, rfl, rfl⟩⟩
 | s :: ts, nl, is, kss, h => by
  unfold NdWs at h
  obtain ⟨y, nl', i2, i3, k2, k3, rfl, rfl, rfl, h1, h2⟩ := h
  have := NdWs.snoc hx ts nl' i3 k3 h2
  show NdWs w B (s :: (ts ++ [t])) _ _ _
  unfold NdWs
  exact ⟨y, nl' ++ [x], i2, i3 ++ i1, k2, k3 ++ k1, rfl, by rw [List.append_assoc], by rw [List.append_assoc], h1, this⟩
theorem NdWs.belowW {w w' : World} {ts : List Nd} {nl : List NV} {B : Nat} {is : List SlV} {kss : List (SlV × List NV)} (h : NdWs w B ts nl is kss) (hb : Below w.heap.size w w') : NdWs w' B ts nl is kss := by
 have hl := NdWs.lt _ _ _ _ h
 refine NdWs.keep _ _ _ _ h (fun s hs b he => ?_) (fun s hs b he => ?_)
 ·obtain ⟨l, ho⟩ := hl.1 s hs
  exact hb.block b (ho.ltB b he).2
 ·exact hb.block b ((hl.2 s hs).ltB b he).2
def OwnT (w : World) (B : Nat) (x : NV) (t : Nd) : Prop := ∃ is kss, NdW w B t x is kss ∧ List.Pairwise FarV (is.map SlV.val) ∧ List.Pairwise FarV (kss.map kVal)
theorem OwnT.below {w w' : World} {B : Nat} {x : NV} {t : Nd} (h : OwnT w B x t) (hb : Below w.heap.size w w') : OwnT w' B x t := by
 obtain ⟨is, kss, h1, h2, h3⟩ := h
 have hl := NdW.lt _ _ _ _ h1
 refine ⟨is, kss, NdW.keep _ _ _ _ h1 (fun s hs b he => ?_) (fun s hs b he => ?_), h2, h3⟩
 ·obtain ⟨l, ho⟩ := hl.1 s hs
  exact hb.block b (ho.ltB b he).2
 ·exact hb.block b ((hl.2 s hs).ltB b he).2
theorem OwnT.more {w : World} {B B2 : Nat} {x : NV} {t : Nd} (h : OwnT w B x t) (hB : B2 ≤ B) : OwnT w B2 x t := by
 obtain ⟨is, kss, h1, h2, h3⟩ := h
 exact ⟨is, kss, NdW.more hB _ _ _ _ h1, h2, h3⟩
theorem OwnT.rd {w : World} {B : Nat} {x : NV} {t : Nd} (h : OwnT w B x t) : NdR w (rng B w.heap.size) x t := by
 obtain ⟨is, kss, h1, _, _⟩ := h
 exact NdW.rd _ _ _ _ h1
def TrO (t : Nd) (w : World) (e : Ending) (w' : World) : Prop := Below w.heap.size w w' ∧ ∃ (kd xn : Int) (fl tx : List UInt8) (la lb : Bool) (lc : List UInt8) (ra rb : Bool) (rc : List UInt8) (oa : Option Addr) (on oc : Nat) (ka : Option Addr) (kn kc : Nat),
 e = .returned (.agg #[.int .i64 kd, .string (str fl), .string (str tx), .int .i64 xn, .bool la, .bool lb, .string (str lc), .bool ra, .bool rb, .string (str rc), .slice oa on oc, .slice ka kn kc]) ∧ OwnT w' w.heap.size ⟨kd, fl, tx, xn, ⟨la, lb, lc⟩, ⟨ra, rb, rc⟩, ⟨oa, on, oc⟩, ⟨ka, kn, kc⟩⟩ t
theorem TrO.mk_ {t : Nd} {w w' : World} {x : NV} (hb : Below w.heap.size w w') (hx : OwnT w' w.heap.size x t) : TrO t w (.returned x.val) w' := by
 obtain ⟨kd, fl, tx, xn, ⟨la, lb, lc⟩, ⟨ra, rb, rc⟩, ⟨oa, on, oc⟩, ⟨ka, kn, kc⟩⟩ := x
 exact ⟨hb, kd, xn, fl, tx, la, lb, lc, ra, rb, rc, oa, on, oc, ka, kn, kc, rfl, hx⟩
structure KMadeO (z : Nat) (cn : Option Addr → Nat → Nat → Array Value) (ts : List Nd) (occ : List Int) (ov : Value) (kA : Option Addr) (j kc : Nat) (nl : List NV) (w : World) : Prop where
 base : KMade z cn ts occ ov kA j kc nl w
 own2 : ∃ is kss, NdWs w (z + 3) ts nl is kss ∧ List.Pairwise FarV (ov :: is.map SlV.val) ∧ List.Pairwise FarV (.slice kA j kc :: kss.map kVal)
theorem KMadeO.blk {z j kc : Nat} {cn : Option Addr → Nat → Nat → Array Value} {ts : List Nd} {occ : List Int} {ov : Value} {kA : Option Addr} {nl : List NV} {w : World} (h : KMadeO z cn ts occ ov kA j kc nl w) : Blk w (z + 2) 27 (cn kA j kc) := h.base.blk
theorem KMadeO.own {z j kc : Nat} {cn : Option Addr → Nat → Nat → Array Value} {ts : List Nd} {occ : List Int} {ov : Value} {kA : Option Addr} {nl : List NV} {w : World} (h : KMadeO z cn ts occ ov kA j kc nl w) : OwnL ndS w (z + 3) (.slice kA j kc) nl := h.base.own
theorem KMadeO.occ {z j kc : Nat} {cn : Option Addr → Nat → Nat → Array Value} {ts : List Nd} {occ : List Int} {ov : Value} {kA : Option Addr} {nl : List NV} {w : World} (h : KMadeO z cn ts occ ov kA j kc nl w) : OwnL folS w (z + 3) ov occ := h.base.occ
section
variable {z j kc : Nat} {cn : Option Addr → Nat → Nat → Array Value} {ts : List Nd} {occ : List Int} {ov : Value} {kA : Option Addr} {nl : List NV} {w w' : World}
theorem KMadeO.start (h : KMade z cn [] occ ov none 0 0 [] w) : KMadeO z cn [] occ ov none 0 0 [] w :=
 ⟨h, [], [], by unfold NdWs; exact ⟨rfl, rfl, rfl⟩, by simp, by simp⟩
theorem KMadeO.belowW (h : KMadeO z cn ts occ ov kA j kc nl w) (hb : Below w.heap.size w w') : KMadeO z cn ts occ ov kA j kc nl w' := by
 obtain ⟨is, kss, h1, h2, h3⟩ := h.own2
 exact ⟨h.base.belowW hb, is, kss, h1.belowW hb, h2, h3⟩
theorem KMadeO.push {g d : Nat} {wk w5 w6 : World} {x : NV} {t : Nd} (h : KMadeO z cn ts occ ov kA j kc nl wk) (hb5 : Below wk.heap.size wk w5) (hz : z + 3 ≤ wk.heap.size)
  (hx : OwnT w5 wk.heap.size x t) (ho : OwnL ndS w6 (z + 3) (.slice (some ⟨g, 0, none⟩) (j + 1) d) (nl ++ [x])) (hb : Below (z + 3) w5 w6) (hkp : KeptBut w5 w6 (.slice kA j kc)) (hg : (Value.slice kA j kc).ownBlock = some g ∨ w5.heap.size ≤ g) (hcn : Blk w' (z + 2) 27 (cn (some ⟨g, 0, none⟩) (j + 1) d))
  (hs : ∀ b, b ≠ z + 2 → w'.heap[b]? = w6.heap[b]?) (hsz : w'.heap.size = w6.heap.size) : KMadeO z cn (ts ++ [t]) occ ov (some ⟨g, 0, none⟩) (j + 1) d (nl ++ [x]) w' := by
 have hown : ∀ g, (Value.slice kA j kc).ownBlock = some g → g < wk.heap.size := own_lt h.base.own
 have hk5 := hb5.size
 refine ⟨KMade.push (h.base.belowW hb5) hk5 hz hown hx.rd ho hb hkp hg hcn hs hsz, ?_⟩
 obtain ⟨is, kss, h1, h2, h3⟩ := h.own2
 obtain ⟨i1, k1, g1, g2, g3⟩ := hx
 have hl0 := NdWs.lt _ _ _ _ h1
 have hl1 := NdW.lt _ _ _ _ g1
 have h15 := h1.belowW hb5
 have hkeep : ∀ b, b < w5.heap.size → (Value.slice kA j kc).ownBlock ≠ some b → b ≠ z + 2 → w'.heap[b]? = w5.heap[b]? := fun b e1 e2 e3 => (hs b e3).trans (hkp b e1 e2)
 have hint : ∀ {B : Nat} {v : Value} {l : List Int}, OwnL folS w5 B v l → z + 3 ≤ B → ∀ b, v.ownBlock = some b → w'.heap[b]? = w5.heap[b]? := fun ho2 hB b he => by
  have hlt := ho2.ltB b he
  refine hkeep b hlt.2 (fun e => ?_) (by omega)
  obtain ⟨c1, e1⟩ := own_block ho2 he
  obtain ⟨c2, e2⟩ := own_block (h.base.own.below hb5) e
  rw [e1] at e2
  injection e2 with e2
  injection e2 with _ e2
  exact absurd e2 (by decide)
 rw [List.pairwise_cons] at h2 h3
 have hsn := NdWs.snoc (NdW.more hz _ _ _ _ g1) _ _ _ _ h15
 refine ⟨is ++ i1, kss ++ k1, NdWs.keep _ _ _ _ hsn (fun s hs2 b he => ?_) (fun s hs2 b he => ?_), ?_, ?_⟩
 ·rcases List.mem_append.1 hs2 with hs2 | hs2
  ·obtain ⟨l, ho2⟩ := (NdWs.lt _ _ _ _ h15).1 s hs2
   exact hint ho2 (Nat.le_refl _) b he
  ·obtain ⟨l, ho2⟩ := hl1.1 s hs2
   exact hint ho2 hz b he
 ·rcases List.mem_append.1 hs2 with hs2 | hs2
  ·have ho2 := (NdWs.lt _ _ _ _ h15).2 s hs2
   have hlt := ho2.ltB b he
   exact hkeep b hlt.2 (fun e => h3.1 (kVal s) (List.mem_map.2 ⟨s, hs2, rfl⟩) b e he) (by omega)
  ·have ho2 := hl1.2 s hs2
   have hlt := ho2.ltB b he
   exact hkeep b hlt.2 (fun e => by have := hown b e; omega) (by omega)
 ·rw [List.map_append, List.pairwise_cons, List.pairwise_append]
  refine ⟨fun u hu => ?_, h2.2, g2, fun u hu v hv b e1 e2 => ?_⟩
  ·rcases List.mem_append.1 hu with hu | hu
   ·exact h2.1 u hu
   ·obtain ⟨s, hs2, rfl⟩ := List.mem_map.1 hu
    obtain ⟨l, ho2⟩ := hl1.1 s hs2
    intro b e1 e2
    have := (h.base.occ.ltB b e1).2
    have := (ho2.ltB b e2).1
    omega
  ·obtain ⟨s, hs2, rfl⟩ := List.mem_map.1 hu
   obtain ⟨s3, hs3, rfl⟩ := List.mem_map.1 hv
   obtain ⟨l, ho2⟩ := hl0.1 s hs2
   obtain ⟨l3, ho3⟩ := hl1.1 s3 hs3
   have := (ho2.ltB b e1).2
   have := (ho3.ltB b e2).1
   omega
 ·rw [List.map_append, List.pairwise_cons, List.pairwise_append]
  refine ⟨fun u hu b e1 e2 => ?_, h3.2, g3, fun u hu v hv b e1 e2 => ?_⟩
  ·injection e1 with e1
   subst e1
   rcases List.mem_append.1 hu with hu | hu
   ·obtain ⟨s, hs2, rfl⟩ := List.mem_map.1 hu
    have := (hl0.2 s hs2).ltB g e2
    rcases hg with hg | hg
    ·exact h3.1 (kVal s) (List.mem_map.2 ⟨s, hs2, rfl⟩) g hg e2
    ·omega
   ·obtain ⟨s, hs2, rfl⟩ := List.mem_map.1 hu
    have := (hl1.2 s hs2).ltB g e2
    rcases hg with hg | hg
    ·have := hown g hg; omega
    ·omega
  ·obtain ⟨s, hs2, rfl⟩ := List.mem_map.1 hu
   obtain ⟨s3, hs3, rfl⟩ := List.mem_map.1 hv
   have := ((hl0.2 s hs2).ltB b e1).2
   have := ((hl1.2 s3 hs3).ltB b e2).1
   omega
theorem KMadeO.node {kind n : Int} {field text : List UInt8} {lo hi : Bd} {oA : Option Addr} {oc B : Nat} (h : KMadeO z cn ts occ (.slice oA occ.length oc) kA j kc nl w) (hB : B ≤ z + 3) (hl : nl.length = j) : OwnT w B ⟨kind, field, text, n, lo, hi, ⟨oA, occ.length, oc⟩, ⟨kA, j, kc⟩⟩ (.mk kind field text n lo hi occ ts) := by
 obtain ⟨is, kss, h1, h2, h3⟩ := h.own2
 refine ⟨slV ⟨oA, occ.length, oc⟩ :: is, (slV ⟨kA, j, kc⟩, nl) :: kss, ?_, h2, h3⟩
 unfold NdW
 exact ⟨⟨rfl, rfl, rfl, rfl, rfl, rfl⟩, nl, is, kss, rfl, rfl, h.base.occ.more hB, h.base.own.more hB, NdWs.more hB _ _ _ _ h1⟩
theorem KMadeO.first (h : KMadeO z cn ts occ ov kA j kc nl w) {B : Nat} (hB : B ≤ z + 3) {t : Nd} (ht : ts = [t]) (hl : nl.length = j) : ∃ (a : Addr) (x : NV), kA = some a ∧ j = 1 ∧ At12 w a x ∧ OwnT w B x t := by
 obtain ⟨is, kss, h1, h2, h3⟩ := h.own2
 subst ht
 unfold NdWs at h1
 obtain ⟨y, nl', i1, i2, k1, k2, rfl, rfl, rfl, g1, g2⟩ := h1
 unfold NdWs at g2
 obtain ⟨rfl, rfl, rfl⟩ := g2
 rw [List.append_nil] at h2 h3
 rw [List.pairwise_cons] at h2 h3
 have hj : j = 1 := by rw [← hl]; rfl
 subst hj
 have hrd := RdF.of_own (F := fun b => b < w.heap.size) h.base.own (fun g _ _ h2 => h2)
 obtain ⟨a, e, hc⟩ := kid_cells hrd (k := 0) (Nat.lt_succ_self 0)
 have e0 : a.add (0 * 12) = a := by unfold Addr.add; rfl
 rw [e0] at hc
 exact ⟨a, y, e, rfl, hc, i1, k1, NdW.more hB _ _ _ _ g1, h2.2, h3.2⟩
end
theorem OwnT.set12 {w : World} {B z : Nat} {x y : NV} {t : Nd} (h : OwnT w B x t) (hz : z < B) : OwnT (set12 w z y) B x t := by
 obtain ⟨is, kss, h1, h2, h3⟩ := h
 have hl := NdW.lt _ _ _ _ h1
 refine ⟨is, kss, NdW.keep _ _ _ _ h1 (fun s hs b he => ?_) (fun s hs b he => ?_), h2, h3⟩
 ·obtain ⟨l, ho⟩ := hl.1 s hs
  have := (ho.ltB b he).1
  exact set12_block (by omega)
 ·have := ((hl.2 s hs).ltB b he).1
  exact set12_block (by omega)
def CnRelO (w : World) (g : List Nd → List Nd) (nd : Array Value) (ks : List Nd) (cn : Option Addr → Nat → Nat → Array Value) (occ : List Int) (ov : Value) (iv : Value) (wr : World) : Prop :=
 ∃ (j : Nat) (kA : Option Addr) (kc : Nat) (nl : List NV), j ≤ ks.length ∧ iv = .int .i64 (j : Int) ∧ nl.length = j ∧ KMadeO w.heap.size cn (g (ks.take j)) occ ov kA j kc nl wr ∧ Below w.heap.size w wr ∧ w.heap.size + 3 ≤ wr.heap.size ∧ Blk wr (w.heap.size + 1) 27 zA ∧ Blk wr w.heap.size 27 nd
def CpyOkO (t : Nd) : Prop := ∀ (w : World) (F : Nat → Prop) (x : NV), NdR w F x t → bkN t ≤ 900000000000 → Calls Tryd.prog 11 #[x.val] w (TrO t w)
theorem copied_ofO (kind n : Int) (field text : List UInt8) (lo hi : Bd) (occ : List Int) (ks : List Nd) (ih : ∀ t ∈ ks, CpyOkO t) : CpyOkO (.mk kind field text n lo hi occ ks) := by
 intro w F x hx hbk
 obtain ⟨oa, ka, oc, kc, e, -, hO, hK⟩ := hx.open_
 rw [e]
 clear e hx x
 have hkl : ks.length ≤ 9223372036854775807 := by have h := Nat.le_trans hK.len.1 hK.len.2; unfold maxLen at h; omega
 have hol : occ.length ≤ 9223372036854775807 := by have h : occ.length ≤ maxLen := Nat.le_trans hO.2.1 hO.2.2.1; unfold maxLen at h; omega
 have HK := LH hK; have HO := LH hO
 have hb : bkNs ks ≤ 900000000000 ∧ occ.length ≤ 900000000000 := by rw [bkN] at hbk; omega
 have HIH := LH (fun t (ht : t ∈ ks) (W : World) (y : NV) (hy : NdR W F y t) => ih t ht W F y hy (Nat.le_trans (bkNs_mem ht) hb.1))
 have hob := hb.2
 have HKL := LH (show ks.length ≤ 900000000000 from Nat.le_trans (bkNs_len ks) hb.1)
 generalize hT : Nd.mk kind field text n lo hi occ ks = T at *
 have HTT := LH hT.symm
 clear hO hK hbk hb ih hT
 have HS3 := LH (show (((w.alloc (.cells #[.int .i64 kind, .string (str field), .string (str text), .int .i64 n, .bool lo.open_, .bool lo.in_, .string (str lo.text), .bool hi.open_, .bool hi.in_, .string (str hi.text), .slice oa occ.length oc, .slice ka ks.length kc] 27)).alloc zO).alloc (.cells #[.int .i64 kind, .string (str field), .string (str text), .int .i64 n, .bool lo.open_, .bool lo.in_, .string (str lo.text), .bool hi.open_, .bool hi.in_, .string (str hi.text), .slice oa occ.length oc, .slice ka ks.length kc] 27)).heap.size = w.heap.size + 3 from by rw [World.size_alloc, World.size_alloc, World.size_alloc])
 have HB3 := LH (below3 w (.cells #[.int .i64 kind, .string (str field), .string (str text), .int .i64 n, .bool lo.open_, .bool lo.in_, .string (str lo.text), .bool hi.open_, .bool hi.in_, .string (str hi.text), .slice oa occ.length oc, .slice ka ks.length kc] 27) zO (.cells #[.int .i64 kind, .string (str field), .string (str text), .int .i64 n, .bool lo.open_, .bool lo.in_, .string (str lo.text), .bool hi.open_, .bool hi.in_, .string (str hi.text), .slice oa occ.length oc, .slice ka ks.length kc] 27))
 have HN3 := LH (((Blk.new w 27 #[.int .i64 kind, .string (str field), .string (str text), .int .i64 n, .bool lo.open_, .bool lo.in_, .string (str lo.text), .bool hi.open_, .bool hi.in_, .string (str hi.text), .slice oa occ.length oc, .slice ka ks.length kc]).alloc zO).alloc (.cells #[.int .i64 kind, .string (str field), .string (str text), .int .i64 n, .bool lo.open_, .bool lo.in_, .string (str lo.text), .bool hi.open_, .bool hi.in_, .string (str hi.text), .slice oa occ.length oc, .slice ka ks.length kc] 27))
 have HZ3 := LH (show Blk (((w.alloc (.cells #[.int .i64 kind, .string (str field), .string (str text), .int .i64 n, .bool lo.open_, .bool lo.in_, .string (str lo.text), .bool hi.open_, .bool hi.in_, .string (str hi.text), .slice oa occ.length oc, .slice ka ks.length kc] 27)).alloc zO).alloc (.cells #[.int .i64 kind, .string (str field), .string (str text), .int .i64 n, .bool lo.open_, .bool lo.in_, .string (str lo.text), .bool hi.open_, .bool hi.in_, .string (str hi.text), .slice oa occ.length oc, .slice ka ks.length kc] 27)) (w.heap.size + 1) 27 zA from by have h := (Blk.new (w.alloc (.cells #[.int .i64 kind, .string (str field), .string (str text), .int .i64 n, .bool lo.open_, .bool lo.in_, .string (str lo.text), .bool hi.open_, .bool hi.in_, .string (str hi.text), .slice oa occ.length oc, .slice ka ks.length kc] 27)) 27 zA).alloc (.cells #[.int .i64 kind, .string (str field), .string (str text), .int .i64 n, .bool lo.open_, .bool lo.in_, .string (str lo.text), .bool hi.open_, .bool hi.in_, .string (str hi.text), .slice oa occ.length oc, .slice ka ks.length kc] 27); rw [World.size_alloc] at h; exact h)
 have HC3 := LH (show Blk (((w.alloc (.cells #[.int .i64 kind, .string (str field), .string (str text), .int .i64 n, .bool lo.open_, .bool lo.in_, .string (str lo.text), .bool hi.open_, .bool hi.in_, .string (str hi.text), .slice oa occ.length oc, .slice ka ks.length kc] 27)).alloc zO).alloc (.cells #[.int .i64 kind, .string (str field), .string (str text), .int .i64 n, .bool lo.open_, .bool lo.in_, .string (str lo.text), .bool hi.open_, .bool hi.in_, .string (str hi.text), .slice oa occ.length oc, .slice ka ks.length kc] 27)) (w.heap.size + 1 + 1) 27 #[.int .i64 kind, .string (str field), .string (str text), .int .i64 n, .bool lo.open_, .bool lo.in_, .string (str lo.text), .bool hi.open_, .bool hi.in_, .string (str hi.text), .slice oa occ.length oc, .slice ka ks.length kc] from by have h := Blk.new ((w.alloc (.cells #[.int .i64 kind, .string (str field), .string (str text), .int .i64 n, .bool lo.open_, .bool lo.in_, .string (str lo.text), .bool hi.open_, .bool hi.in_, .string (str hi.text), .slice oa occ.length oc, .slice ka ks.length kc] 27)).alloc zO) 27 #[.int .i64 kind, .string (str field), .string (str text), .int .i64 n, .bool lo.open_, .bool lo.in_, .string (str lo.text), .bool hi.open_, .bool hi.in_, .string (str hi.text), .slice oa occ.length oc, .slice ka ks.length kc]; rw [World.size_alloc, World.size_alloc] at h; exact h)
 go_enter Tryd.func11, Tryd.ntmps11
 go_upto_region 2 with fail
 generalize ((w.alloc (.cells #[.int .i64 kind, .string (str field), .string (str text), .int .i64 n, .bool lo.open_, .bool lo.in_, .string (str lo.text), .bool hi.open_, .bool hi.in_, .string (str hi.text), .slice oa occ.length oc, .slice ka ks.length kc] 27)).alloc zO).alloc (.cells #[.int .i64 kind, .string (str field), .string (str text), .int .i64 n, .bool lo.open_, .bool lo.in_, .string (str lo.text), .bool hi.open_, .bool hi.in_, .string (str hi.text), .slice oa occ.length oc, .slice ka ks.length kc] 27) = w3 at *
 have n10 := HN3.out.cell 10
 simp only [List.getElem?_toArray, List.getElem?_cons_zero, List.getElem?_cons_succ] at n10
 have HRO := LH (((HO.out.belowW HB3.out).inP folOk |>.rd (B := w3.heap.size) (fun _ h => h)).alloc (Nat.le_refl _) (.cells #[] 3))
 have hB30 : w.heap.size + 3 ≤ w3.heap.size := by rw [HS3.out]; exact Nat.le_refl _
 have HON := LH (OwnL.lit0 folS w3 hB30)
 have hB3 : w.heap.size + 3 ≤ (w3.alloc (.cells #[] 3)).heap.size := by rw [World.size_alloc]; omega
 have HC3a := LH (HC3.out.alloc (.cells #[] 3)); have HZ3a := LH (HZ3.out.alloc (.cells #[] 3)); have HN3a := LH (HN3.out.alloc (.cells #[] 3))
 have HB3a := LH (HB3.out.alloc HB3.out.size (.cells #[] 3))
 have hzl : w.heap.size < w3.heap.size := by omega
 have hzl2 : w.heap.size + 1 + 1 < w3.heap.size := by omega
 have hap1 : ([] : List Int).length + occ.length ≤ 970000000000 := by simp; omega
 go_upto_region 4 with (at_builtin; (refine OwnL.appendRP folOk HON.out HRO.out rfl _ _ rfl rfl rfl hB3 hap1 ?_); (intro v4 w4 ho4 hb4); (rw [List.nil_append] at ho4); (obtain ⟨oA, oC, rfl, -, -, -⟩ := ho4.open_); (have HO4 := LH ho4); (have HB4 := LH hb4); (have hc4 := HC3a.out.below hb4 (by omega)); (have f11 := hc4.frozen 11); (have f10 := hc4.frozen 10); (have l4 := hc4.lt); (have c11 := hc4.cell 11); (have c10 := hc4.cell 10); (simp only [List.getElem?_toArray, List.getElem?_cons_zero, List.getElem?_cons_succ] at c10 c11); (have HC4 := LH hc4); clear ho4 hb4 hc4)
 have HC5 := LH (show Blk ((w4.setCell ⟨w.heap.size + 1 + 1, 10, none⟩ (.slice oA occ.length oC)).setCell ⟨w.heap.size + 1 + 1, 11, none⟩ (.slice none 0 0)) (w.heap.size + 2) 27 (cnA kind n field text lo hi oA occ.length oC none 0 0) from (HC4.out.set_ 10 (.slice oA occ.length oC)).set_ 11 (.slice none 0 0))
 have HB5 := LH (show Below w.heap.size w ((w4.setCell ⟨w.heap.size + 1 + 1, 10, none⟩ (.slice oA occ.length oC)).setCell ⟨w.heap.size + 1 + 1, 11, none⟩ (.slice none 0 0)) from ((HB3a.out.trans (HB4.out.mono (by omega))).setCell (p := ⟨w.heap.size + 1 + 1, 10, none⟩) (by show w.heap.size ≤ w.heap.size + 1 + 1; omega) _).setCell (p := ⟨w.heap.size + 1 + 1, 11, none⟩) (by show w.heap.size ≤ w.heap.size + 1 + 1; omega) _)
 have HZ5 := LH (((HZ3a.out.below HB4.out (by omega)).far (p := ⟨w.heap.size + 1 + 1, 10, none⟩) (by show w.heap.size + 1 ≠ w.heap.size + 1 + 1; omega) (.slice oA occ.length oC)).far (p := ⟨w.heap.size + 1 + 1, 11, none⟩) (by show w.heap.size + 1 ≠ w.heap.size + 1 + 1; omega) (.slice none 0 0))
 have HN5 := LH (((HN3a.out.below HB4.out (by omega)).far (p := ⟨w.heap.size + 1 + 1, 10, none⟩) (by show w.heap.size ≠ w.heap.size + 1 + 1; omega) (.slice oA occ.length oC)).far (p := ⟨w.heap.size + 1 + 1, 11, none⟩) (by show w.heap.size ≠ w.heap.size + 1 + 1; omega) (.slice none 0 0))
 have HO5 := LH ((HO4.out.far (p := ⟨w.heap.size + 1 + 1, 10, none⟩) (by show w.heap.size + 1 + 1 < w.heap.size + 3; omega) (.slice oA occ.length oC)).far (p := ⟨w.heap.size + 1 + 1, 11, none⟩) (by show w.heap.size + 1 + 1 < w.heap.size + 3; omega) (.slice none 0 0))
 have hsz5 : w.heap.size + 3 ≤ ((w4.setCell ⟨w.heap.size + 1 + 1, 10, none⟩ (.slice oA occ.length oC)).setCell ⟨w.heap.size + 1 + 1, 11, none⟩ (.slice none 0 0)).heap.size := by rw [World.size_setCell, World.size_setCell]; have := HB4.out.size; omega
 generalize (w4.setCell ⟨w.heap.size + 1 + 1, 10, none⟩ (.slice oA occ.length oC)).setCell ⟨w.heap.size + 1 + 1, 11, none⟩ (.slice none 0 0) = w5 at *
 clear f11 f10 l4 c11 c10 n10 hap1 hB3 HC4 HO4
 have n11 := HN5.out.cell 11
 simp only [List.getElem?_toArray, List.getElem?_cons_zero, List.getElem?_cons_succ] at n11
 go_wp2
 clear n11
 go_loopw [16] (fun iv wr => CnRelO w id #[.int .i64 kind, .string (str field), .string (str text), .int .i64 n, .bool lo.open_, .bool lo.in_, .string (str lo.text), .bool hi.open_, .bool hi.in_, .string (str hi.text), .slice oa occ.length oc, .slice ka ks.length kc] ks (cnA kind n field text lo hi oA occ.length oC) occ (.slice oA occ.length oC) iv wr) (fun iv _ => ks.length - (intOf iv).toNat)
 case atStart => exact ⟨0, none, 0, [], Nat.zero_le _, rfl, rfl, KMadeO.start ⟨HC5.out, OwnL.nil _ _ _, NdRs.nil _ _, HO5.out⟩, HB5.out, hsz5, HZ5.out, HN5.out⟩
 case round =>
  clear HC5 HB5 HZ5 HN5 HO5 hsz5
  obtain ⟨j, kA, kc2, nl, hj, rfl, hnl, hkm, hbw, hsz, hz, hn0⟩ := hrel
  have HKM := LH hkm; have HBW := LH hbw; have HZR := LH hz; have HNL := LH hnl; have HNR := LH hn0
  have c11 : wr.cell? ⟨w.heap.size + 1 + 1, 11, none⟩ = some (.slice kA j kc2) := hkm.blk.cell 11
  have lc := hkm.blk.lt
  clear hkm hbw hz hnl hn0
  by_cases hlt : j < ks.length
  ·obtain ⟨a, y, rfl, ⟨hab, q0, q1, q2, q3, q4, q5, q6, q7, q8, q9, q10, q11⟩, hy⟩ := (HK.out.belowW HBW.out).kid hlt
   have hih := HIH.out ks[j] (List.getElem_mem hlt)
   have HTK := LH (show id (ks.take (j + 1)) = id (ks.take j) ++ [ks[j]] from List.take_succ_eq_append_getElem hlt)
   generalize ks[j] = t at *
   obtain ⟨kd3, fl3, tx3, xn3, ⟨la3, lb3, lc3⟩, ⟨ra3, rb3, rc3⟩, ⟨oa3, on3, oc3⟩, ⟨ka3, kn3, kc3⟩⟩ := y
   simp only [] at q0 q1 q2 q3 q4 q5 q6 q7 q8 q9 q10 q11
   have HBY := LH (show Below wr.heap.size wr (wr.alloc (.cells #[.int .i64 kd3, .string (str fl3), .string (str tx3), .int .i64 xn3, .bool la3, .bool lb3, .string (str lc3), .bool ra3, .bool rb3, .string (str rc3), .slice oa3 on3 oc3, .slice ka3 kn3 kc3] 27)) from (Below.refl _ _).alloc (Nat.le_refl _) _)
   have HY := LH (Blk.new wr 27 #[.int .i64 kd3, .string (str fl3), .string (str tx3), .int .i64 xn3, .bool la3, .bool lb3, .string (str lc3), .bool ra3, .bool rb3, .string (str rc3), .slice oa3 on3 oc3, .slice ka3 kn3 kc3])
   have hyk := hy.belowW HBY.out
   have HKW := LH (HKM.out.belowW HBY.out)
   have hlk : wr.heap.size < (wr.alloc (.cells #[.int .i64 kd3, .string (str fl3), .string (str tx3), .int .i64 xn3, .bool la3, .bool lb3, .string (str lc3), .bool ra3, .bool rb3, .string (str rc3), .slice oa3 on3 oc3, .slice ka3 kn3 kc3] 27)).heap.size := by rw [World.size_alloc]; omega
   go_upto_region 7 with fail
   clear q0 q1 q2 q3 q4 q5 q6 q7 q8 q9 q10 q11 c11 hab
   generalize wr.alloc (.cells #[.int .i64 kd3, .string (str fl3), .string (str tx3), .int .i64 xn3, .bool la3, .bool lb3, .string (str lc3), .bool ra3, .bool rb3, .string (str rc3), .slice oa3 on3 oc3, .slice ka3 kn3 kc3] 27) = wk at *
   have HC := LH (hih wk.drew _ (hyk.keep fun _ _ _ => rfl))
   unfold NV.val at HC
   simp only [] at HC
   obtain ⟨k0, k1, k2, k3, k4, k5, k6, k7, k8, k9, k10, k11, -⟩ := blk12 HY.out
   have c11 : wk.cell? ⟨w.heap.size + 1 + 1, 11, none⟩ = some (.slice kA j kc2) := HKW.out.blk.cell 11
   have lck := HKW.out.blk.lt
   have HKD := LH (HKW.out.belowW (Below.drew (Below.refl wk.heap.size wk)))
   have hown := own_lt HKW.out.own
   clear hy hih hyk
   go_region_law (first
    | (go_simp; go_at_call 11; refine HC.out.mono ?_; (rintro e w6 ⟨hb6, kd6, xn6, fl6, tx6, la6, lb6, lc6, ra6, rb6, rc6, oa6, on6, oc6, ka6, kn6, kc6, rfl, hx6⟩); (have c116 : w6.cell? ⟨w.heap.size + 1 + 1, 11, none⟩ = some (.slice kA j kc2) := (HKD.out.blk.belowW hb6).cell 11); (have l6 : w.heap.size + 1 + 1 < w6.heap.size := (HKD.out.blk.belowW hb6).lt); (have HB6 := LH hb6); (have HX6 := LH hx6); clear hb6 hx6)
    | (refine OwnL.stepAppendG ndOk ((HKD.out.own.below HB6.out).alloc (.cells #[.int .i64 kd6, .string (str fl6), .string (str tx6), .int .i64 xn6, .bool la6, .bool lb6, .string (str lc6), .bool ra6, .bool rb6, .string (str rc6), .slice oa6 on6 oc6, .slice ka6 kn6 kc6] 27)) ⟨kd6, fl6, tx6, xn6, ⟨la6, lb6, lc6⟩, ⟨ra6, rb6, rc6⟩, ⟨oa6, on6, oc6⟩, ⟨ka6, kn6, kc6⟩⟩ w6.heap.size rfl _ _ rfl rfl rfl (fun j u hj => by rw [World.cell?_alloc_new]; exact (List.getElem?_toArray).trans hj) (by rw [World.size_alloc]; have := HB6.out.size; have : wk.drew.heap.size = wk.heap.size := rfl; omega) (by have := HKL.out; rw [HNL.out]; omega) (fun g7 d7 w7 ho7 hb7 hk7 hg7 hlt7 => ?_); (have hc7 := (((HKD.out.blk.belowW HB6.out).alloc (.cells #[.int .i64 kd6, .string (str fl6), .string (str tx6), .int .i64 xn6, .bool la6, .bool lb6, .string (str lc6), .bool ra6, .bool rb6, .string (str rc6), .slice oa6 on6 oc6, .slice ka6 kn6 kc6] 27)).below hb7 (by omega))); (have f7 : w7.frozen? ⟨w.heap.size + 1 + 1, 11, none⟩ = false := hc7.frozen 11); (have x7 : w7.cell? ⟨w.heap.size + 1 + 1, 11, none⟩ = some (.slice kA j kc2) := hc7.cell 11); (have l7 : w.heap.size + 1 + 1 < w7.heap.size := hc7.lt)))
   all_goals
    have hd6 := HB6.out.size
    have hdk : wk.drew.heap.size = wk.heap.size := rfl
    have hal : Below w6.heap.size w6 (w6.alloc (.cells #[.int .i64 kd6, .string (str fl6), .string (str tx6), .int .i64 xn6, .bool la6, .bool lb6, .string (str lc6), .bool ra6, .bool rb6, .string (str rc6), .slice oa6 on6 oc6, .slice ka6 kn6 kc6] 27)) := (Below.refl _ _).alloc (Nat.le_refl _) _
    have hsa : (w6.alloc (.cells #[.int .i64 kd6, .string (str fl6), .string (str tx6), .int .i64 xn6, .bool la6, .bool lb6, .string (str lc6), .bool ra6, .bool rb6, .string (str rc6), .slice oa6 on6 oc6, .slice ka6 kn6 kc6] 27)).heap.size = w6.heap.size + 1 := World.size_alloc _ _
    rw [HNL.out] at ho7
    have HP := LH (KMadeO.push (w' := w7.setCell ⟨w.heap.size + 1 + 1, 11, none⟩ (.slice (some ⟨g7, 0, none⟩) (nl.length + 1) d7)) HKD.out (HB6.out.trans (hal.mono (by omega))) (by omega) (HX6.out.below hal) ho7 hb7 hk7 (hg7.imp id (fun h => by omega)) (by rw [HNL.out]; exact hc7.set_ 11 _) (fun b hb => Below.heap_setCell _ _ _ _ hb) (World.size_setCell _ _ _))
    have HWB := LH (show Below w.heap.size w (w7.setCell ⟨w.heap.size + 1 + 1, 11, none⟩ (.slice (some ⟨g7, 0, none⟩) (nl.length + 1) d7)) from ((((((HBW.out.trans (HBY.out.mono HBW.out.size)).drew).trans (HB6.out.mono (by omega))).trans (hal.mono (by omega))).trans (hb7.mono (by omega))).setCell (p := ⟨w.heap.size + 1 + 1, 11, none⟩) (by show w.heap.size ≤ w.heap.size + 1 + 1; omega) _))
    have HZF := LH ((((((HZR.out.belowW HBY.out).drew).belowW HB6.out).belowW hal).below hb7 (by omega)).far (p := ⟨w.heap.size + 1 + 1, 11, none⟩) (by show w.heap.size + 1 ≠ w.heap.size + 1 + 1; omega) (.slice (some ⟨g7, 0, none⟩) (nl.length + 1) d7))
    have HNF := LH ((((((HNR.out.belowW HBY.out).drew).belowW HB6.out).belowW hal).below hb7 (by omega)).far (p := ⟨w.heap.size + 1 + 1, 11, none⟩) (by show w.heap.size ≠ w.heap.size + 1 + 1; omega) (.slice (some ⟨g7, 0, none⟩) (nl.length + 1) d7))
    have hsf : w.heap.size + 3 ≤ (w7.setCell ⟨w.heap.size + 1 + 1, 11, none⟩ (.slice (some ⟨g7, 0, none⟩) (nl.length + 1) d7)).heap.size := by rw [World.size_setCell]; have := hb7.size; omega
    clear ho7 hb7 hk7 hg7 hlt7 hc7 f7 x7 l7 hal hsa k0 k1 k2 k3 k4 k5 k6 k7 k8 k9 k10 k11 c11 hd6 hdk
    go_wp2
    go_roundw
    case rel => exact ⟨j + 1, some ⟨g7, 0, none⟩, d7, nl ++ [⟨kd6, fl6, tx6, xn6, ⟨la6, lb6, lc6⟩, ⟨ra6, rb6, rc6⟩, ⟨oa6, on6, oc6⟩, ⟨ka6, kn6, kc6⟩⟩], hlt, by go_num, by rw [List.length_append, HNL.out]; rfl, by rw [HTK.out]; exact HP.out, HWB.out, hsf, HZF.out, HNF.out⟩
    case measure => simp [intOf]; omega
  ·obtain rfl : j = ks.length := by omega
   have hcs : id (ks.take ks.length) = ks := by show ks.take ks.length = ks; rw [List.take_length]
   rw [hcs] at HKM
   clear hcs
   have HNODE := LH (fun (hT : T = .mk kind field text n lo hi occ ks) => (show TrO T w (.returned (NV.val ⟨kind, field, text, n, lo, hi, ⟨oA, occ.length, oC⟩, ⟨kA, ks.length, kc2⟩⟩)) (set12 wr (w.heap.size + 1) ⟨kind, field, text, n, lo, hi, ⟨oA, occ.length, oC⟩, ⟨kA, ks.length, kc2⟩⟩) from by
    have hx := (HKM.out.node (kind := kind) (n := n) (field := field) (text := text) (lo := lo) (hi := hi) (B := w.heap.size + 2) (by omega) HNL.out).set12 (z := w.heap.size + 1) (y := ⟨kind, field, text, n, lo, hi, ⟨oA, occ.length, oC⟩, ⟨kA, ks.length, kc2⟩⟩) (by omega)
    rw [hT]
    refine TrO.mk_ (set12_bel HBW.out (by omega)) (hx.more (by omega))))
   have x0 := HKM.out.blk.cell 0; have x1 := HKM.out.blk.cell 1; have x2 := HKM.out.blk.cell 2; have x3 := HKM.out.blk.cell 3; have x4 := HKM.out.blk.cell 4; have x5 := HKM.out.blk.cell 5; have x6 := HKM.out.blk.cell 6; have x7 := HKM.out.blk.cell 7; have x8 := HKM.out.blk.cell 8; have x9 := HKM.out.blk.cell 9; have x10 := HKM.out.blk.cell 10; have x11 := HKM.out.blk.cell 11
   simp only [cnA, List.getElem?_toArray, List.getElem?_cons_zero, List.getElem?_cons_succ] at x0 x1 x2 x3 x4 x5 x6 x7 x8 x9 x10 x11
   obtain ⟨z0, z1, z2, z3, z4, z5, z6, z7, z8, z9, z10, z11, -⟩ := blk12 HZR.out
   have fz0 := HZR.out.frozen 0; have fz1 := HZR.out.frozen 1; have fz2 := HZR.out.frozen 2; have fz3 := HZR.out.frozen 3; have fz4 := HZR.out.frozen 4; have fz5 := HZR.out.frozen 5; have fz6 := HZR.out.frozen 6; have fz7 := HZR.out.frozen 7; have fz8 := HZR.out.frozen 8; have fz9 := HZR.out.frozen 9; have fz10 := HZR.out.frozen 10; have fz11 := HZR.out.frozen 11
   have lz := HZR.out.lt
   have hro := RdF.of_own (F := fun _ => True) HKM.out.occ (fun _ _ _ _ => trivial)
   have HRO2 := LH hro
   clear c11 hro
   have HTN := LH (HNODE.out HTT.out)
   go_wp2
   refine bodyPost_ret (v := NV.val ⟨kind, field, text, n, lo, hi, ⟨oA, occ.length, oC⟩, ⟨kA, ks.length, kc2⟩⟩) ?_ rfl ?_
   ·simp [results, Tryd.results11, go_sem, NV.val, lz, fz0, fz1, fz2, fz3, fz4, fz5, fz6, fz7, fz8, fz9, fz10, fz11, z0, z1, z2, z3, z4, z5, z6, z7, z8, z9, z10, z11]
   ·exact HTN.out
theorem copied_anyO (t : Nd) : CpyOkO t := nd_ind copied_ofO t
end Go.Proofs.YthcldpminmhgkaaDoor
end
