/- Merged for a claim by shake.py: Ug -/
import Derived.Test.YtcomdkejpaoneaaDoorKe21
section
namespace Go.Proofs.YtcomdkejpaoneaaDoor
open Go.RowKit
set_option maxRecDepth 100000
set_option maxHeartbeats 4000000
set_option linter.unusedSimpArgs false
set_option linter.unusedVariables false
def Hd (post : List Lt) (ks : List Int) : Prop := ∃ p r, post = p :: r ∧ p.kind ∉ ks
theorem Hd.less {post : List Lt} {a b : List Int} (h : Hd post a) (hb : ∀ x ∈ b, x ∈ a) : Hd post b := by
  obtain ⟨p, r, e, hp⟩ := h
  exact ⟨p, r, e, fun hm => hp (hb _ hm)⟩
def LsRet (pb : Nat) (A : Option Addr) (cap : Nat) (ts : List Lt) (k : Nat) (v : List (Int × Nd)) (w : World) (e : Ending) (w' : World) : Prop :=
  PB pb w w' ∧ PsAt w' pb A cap ts k ∧ ∃ (sk so : Sl) (nl : List NV), e = .returned (.tuple #[.slice sk.a sk.n sk.c, .slice so.a so.n so.c]) ∧
    RdF ndS w' (rng w.heap.size w'.heap.size) sk nl ∧ RdF folS w' (rng w.heap.size w'.heap.size) so (v.map (·.1)) ∧ NdRs w' (rng w.heap.size w'.heap.size) nl (v.map (·.2))
section
variable (pb : Nat) (PA : Option Addr) (cap : Nat) (ts : List Lt) (M : Nat)
def LsOk : Prop := ∀ (A : List Lt) (n : Nat) (v : Vl), D .list A n v → A.length < M → ∀ (w : World) (k : Nat) (f : List UInt8) (post : List Lt), ts.drop k = A ++ post → (∃ p r, post = p :: r ∧ (p.kind = 0 ∨ p.kind = 9)) → PsAt w pb PA cap ts k →
  Calls Tryd.prog 37 #[.pointer (some ⟨pb, 0, none⟩), .string (str f)] w (LsRet pb PA cap ts (k + A.length) (v f) w)
def AtOk : Prop := ∀ (A : List Lt) (n : Nat) (v : Vl), D .atom A n v → A.length < M → ∀ (w : World) (k : Nat) (f : List UInt8) (post : List Lt), ts.drop k = A ++ post → Hd post [14, 20, 21] → PsAt w pb PA cap ts k →
  Calls Tryd.prog 85 #[.pointer (some ⟨pb, 0, none⟩), .string (str f)] w (PtRet pb PA cap ts (k + A.length) (v f) w)
def UnOk : Prop := ∀ (A : List Lt) (n : Nat) (v : Vl), D .unary A n v → A.length < M → ∀ (w : World) (k : Nat) (f : List UInt8) (post : List Lt), ts.drop k = A ++ post → Hd post [14, 20, 21, 18, 19] → PsAt w pb PA cap ts k →
  Calls Tryd.prog 56 #[.pointer (some ⟨pb, 0, none⟩), .string (str f)] w (PtRet pb PA cap ts (k + A.length) (v f) w)
def rwP : Nat → Pt
  | 0 => .ors | 1 => .ands | 2 => .maxes | _ => .unary
def rwK : Nat → List Int
  | 0 => [14, 20, 21, 18, 19, 17, 4, 5] | 1 => [14, 20, 21, 18, 19, 17, 4] | 2 => [14, 20, 21, 18, 19, 17] | _ => [14, 20, 21, 18, 19]
def rwW : Nat → List (Int × Nd) → List (Int × Nd)
  | 0 => wrapN 11 | 1 => wrapN 10 | 2 => wrapN 12 | _ => id
def RwOk (j : Nat) : Prop := ∀ (A : List Lt) (n : Nat) (v : Vl), D (rwP j) A n v → A.length < M → ∀ (w : World) (k : Nat) (f : List UInt8) (post : List Lt), ts.drop k = A ++ post → Hd post (rwK j) → PsAt w pb PA cap ts k →
  Calls Tryd.prog 57 #[.pointer (some ⟨pb, 0, none⟩), .string (str f), .int .i64 (j : Int)] w (PtRet pb PA cap ts (k + A.length) (rwW j (v f)) w)
end
theorem pleaf_any {pb : Nat} {PA : Option Addr} {cap : Nat} {ts : List Lt} {A : List Lt} {n : Nat} {v : Vl} (hD : D .leaf A n v) (hok : TkOk ts) (w : World) (k : Nat) (f : List UInt8) (post : List Lt) (hd : ts.drop k = A ++ post) (hp : Hd post [14, 20, 21]) (h : PsAt w pb PA cap ts k) :
    Calls Tryd.prog 99 #[.pointer (some ⟨pb, 0, none⟩), .string (str f)] w (PtRet pb PA cap ts (k + A.length) (v f) w) := by
  have hp0 : ∃ p r, post = p :: r ∧ p.kind ≠ 20 := by
    obtain ⟨p, r, e, hp⟩ := hp
    exact ⟨p, r, e, fun h => hp (by rw [h]; decide)⟩
  cases hD with
  | word h1 => exact pleaf_word w pb PA cap ts k f _ post h hok hd h1 hp0
  | edits h1 h2 h3 => exact pleaf_edits w pb PA cap ts k f _ _ post h hok hd h1 h2
  | pat h1 => exact pleaf_pat w pb PA cap ts k f _ post h hok hd h1
  | quo h1 => exact pleaf_quo w pb PA cap ts k f _ post h hok hd h1 hp0
  | slop h1 h2 h3 => exact pleaf_slop w pb PA cap ts k f _ _ post h hok hd h1 h2
  | span h1 h2 h3 h4 h5 => exact pleaf_span w pb PA cap ts k f _ _ _ _ _ post h hok hd h1
theorem leaf_hd {A : List Lt} {n : Nat} {v : Vl} (hD : D .leaf A n v) : ∃ t r, A = t :: r ∧ t.kind ≠ 8 ∧ ∀ u s, r = u :: s → u.kind ≠ 14 := by
  cases hD with
  | word h1 => exact ⟨_, _, rfl, by omega, fun u s h => by cases h⟩
  | edits h1 h2 h3 => exact ⟨_, _, rfl, by omega, fun u s h => by cases h; omega⟩
  | pat h1 => exact ⟨_, _, rfl, by omega, fun u s h => by cases h⟩
  | quo h1 => exact ⟨_, _, rfl, by omega, fun u s h => by cases h⟩
  | slop h1 h2 h3 => exact ⟨_, _, rfl, by omega, fun u s h => by cases h; omega⟩
  | span h1 h2 h3 h4 h5 => exact ⟨_, _, rfl, by omega, fun u s h => by cases h; simp [sideT, starT] at h2; omega⟩
theorem PtRet.tree {pb : Nat} {A : Option Addr} {cap k k2 : Nat} {ts : List Lt} {v : List (Int × Nd)} {w W : World} {x : NV} {t : Nd} {F : Nat → Prop} (hp : pb < w.heap.size) (hb : PB pb w W) (hs : PsAt W pb A cap ts k2) (hk : k2 = k) (hv : v = [(0, t)]) (hx : NdR W F x t) (hF : ∀ b, F b → w.heap.size < b ∧ b < W.heap.size) :
    PtRet pb A cap ts k v w (.returned x.val) (set12 W w.heap.size x) := by
  subst hk
  refine ⟨hb.set12 (Nat.le_of_lt hp) (Nat.le_refl _), hs.set12 hp, x, t, rfl, hv, ?_⟩
  refine (hx.set12 (y := x) (fun b h e => by have := (hF b h).1; omega)).mono fun b h => ?_
  rw [set12_size]
  exact ⟨Nat.le_of_lt (hF b h).1, (hF b h).2⟩
theorem PtRet.low {pb : Nat} {A : Option Addr} {cap k : Nat} {ts : List Lt} {v : List (Int × Nd)} {w w' : World} {e : Ending} (h : PtRet pb A cap ts k v w e w') : PB pb w w' ∧ PsAt w' pb A cap ts k := ⟨h.1, h.2.1⟩
theorem kat {w : World} {B : Nat} {A : Option Addr} {n cap : Nat} {ts : List Lt} {k : Nat} {t : Lt} (h : RdL ltS w B (.slice A n cap) ts) (ht : ts[k]? = some t) : ∃ a, A = some a ∧ (a.add (k * 5)).block < B ∧ w.cell? (a.add (k * 5)) = some (.int .i64 t.kind) := by
  obtain ⟨hk, rfl⟩ := List.getElem?_eq_some_iff.1 ht
  obtain ⟨a, e, hb, q0, -⟩ := at_lt h hk
  exact ⟨a, e, hb, q0⟩
end Go.Proofs.YtcomdkejpaoneaaDoor
end
