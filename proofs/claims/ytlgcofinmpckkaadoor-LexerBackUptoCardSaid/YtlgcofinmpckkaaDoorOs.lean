/- Slices of strings and of bools that come in. -/
import Derived.Test.YtlgcofinmpckkaaDoorOa
import Derived.Test.YtlgcofinmpckkaaDoorStr
namespace Go.Proofs.YtlgcofinmpckkaaDoor
open Go.RowKit Go.ChangeShapes Go.WideShapes Go.Deep
set_option maxRecDepth 100000

def boolS : Shape Bool := { tS := 38, tE := 4, size := 1, bytes := 1, enc := fun x => [.bool x], zero := .bool false }
theorem boolOk : boolS.Ok where
  under := Tryd.underlying38
  info := by kernel_rfl
  zs := rfl
  pos := by decide
  len := fun _ => rfl
  one := fun x u hu => by
    simp only [boolS, List.mem_cons, List.not_mem_nil, or_false] at hu
    subst hu; rfl
  small := by decide
theorem at_bool {w : World} {B : Nat} {A : Option Addr} {n cap : Nat} {l : List Bool} (h : RdL boolS w B (.slice A n cap) l) {k : Nat} (hk : k < l.length) :
    ∃ a, A = some a ∧ (a.add k).block < B ∧ w.cell? (a.add k) = some (.bool l[k]) := by
  obtain ⟨a, rfl, hb, h0, h⟩ := h.at2 boolOk hk
  have e : k * boolS.size = k := Nat.mul_one k
  rw [e] at hb h0
  exact ⟨a, rfl, hb, h0 _ rfl⟩
theorem at_strA {w : World} {B : Nat} {A : Option Addr} {n cap : Nat} {l : List ByteArray} (h : RdL strS w B (.slice A n cap) l) {k : Nat} (hk : k < l.length) :
    ∃ a, A = some a ∧ (a.add k).block < B ∧ w.cell? (a.add k) = some (.string l[k]) := by
  obtain ⟨a, rfl, hb, h0, h⟩ := h.at2 strOk hk
  have e : k * strS.size = k := Nat.mul_one k
  rw [e] at hb h0
  exact ⟨a, rfl, hb, h0 _ rfl⟩
theorem open_strsum {H : Type} {enc : TypeId × Value → H} {W : World} {v : Value} {d : DataW H} {p : List MemPlace} (hv : Value.okWide Tryd.prog W .any 0 37 v) (h0 : DataW.Trod enc Tryd.prog W 0 (fun _ => true) true 37 v d p) :
    ∃ (l : List ByteArray), RdL strS W W.heap.size v l ∧ (l.map fun s => s.size + 1).sum ≤ Rows.uptoBulk d ∧ ∀ s ∈ l, s.size ≤ maxLen :=
  open_cells1 (S := strS) strOk rfl (by kernel_rfl) (fun s => s.size + 1) (fun s => s.size ≤ maxLen) (W := W) (fun n cs D ps ht => by
    obtain ⟨s, e0, e1, hs⟩ := DataW.trod_string Tryd.underlying9 ht
    simp only [Prod.mk.injEq] at e1
    refine ⟨s, .string s, e0, rfl, hs, ?_⟩
    rw [e1.1, bulk_string, ← ba_size]; exact Nat.le_refl _) hv h0
theorem open_bools {H : Type} {enc : TypeId × Value → H} {W : World} {v : Value} {d : DataW H} {p : List MemPlace} (hv : Value.okWide Tryd.prog W .any 0 38 v) (h0 : DataW.Trod enc Tryd.prog W 0 (fun _ => true) true 38 v d p) :
    ∃ (l : List Bool), RdL boolS W W.heap.size v l ∧ (l.map fun _ => 1).sum ≤ Rows.uptoBulk d := by
  obtain ⟨l, h1, h2, _⟩ := open_cells1 (S := boolS) boolOk rfl (by kernel_rfl) (fun _ => 1) (fun _ => True) (W := W) (fun n cs D ps ht => by
    obtain ⟨b, e0, e1⟩ := DataW.trod_bool Tryd.underlying4 ht
    exact ⟨b, .bool b, e0, rfl, trivial, bulk_pos _⟩) hv h0
  exact ⟨l, h1, h2⟩
end Go.Proofs.YtlgcofinmpckkaaDoor
