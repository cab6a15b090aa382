/- Layer 20: a boxed program in memory; what Text answers. -/
import Derived.Test.YtmdpfikalekmlaaDoorTx
import Derived.Test.YtmdpfikalekmlaaDoorPo
namespace Go.Proofs.YtmdpfikalekmlaaDoor
open Go.RowKit
set_option maxRecDepth 100000
set_option linter.unusedSimpArgs false
set_option linter.unusedVariables false

theorem TxtRet.good {bad ok : Value} {p : Pg} {w w' : World} {e : Ending} {t : List UInt8} (h : TxtRet bad ok p w e w') (ht : textP p = some t) : e = .returned (.tuple #[.string (str t), ok]) ∧ Below w.heap.size w w' := by
  obtain ⟨hb, h⟩ := h
  rw [ht] at h
  exact ⟨h, hb⟩
theorem TxtRet.bad {bad ok : Value} {p : Pg} {w w' : World} {e : Ending} (h : TxtRet bad ok p w e w') (ht : textP p = none) : e = .returned (.tuple #[.string ⟨#[]⟩, bad]) ∧ Below w.heap.size w w' := by
  obtain ⟨hb, h⟩ := h
  rw [ht] at h
  exact ⟨h, hb⟩
/-- A program's cells in memory. -/
def PgAt (w : World) (b : Nat) (x : PgV) (p : Pg) : Prop :=
  w.cell? ⟨b, 0, none⟩ = some x.av ∧ w.cell? ⟨b, 1, none⟩ = some x.cv ∧ w.cell? ⟨b, 2, none⟩ = some x.nv ∧ w.cell? ⟨b, 3, none⟩ = some (.bool p.all) ∧ w.cell? ⟨b, 4, none⟩ = some x.dv ∧ w.cell? ⟨b, 5, none⟩ = some x.kv ∧ b < w.heap.size
theorem PgAt.new (w : World) (x : PgV) (p : Pg) : PgAt (w.alloc (.cells #[x.av, x.cv, x.nv, .bool p.all, x.dv, x.kv] 44)) w.heap.size x p :=
  ⟨by rw [World.cell?_alloc_new]; rfl, by rw [World.cell?_alloc_new]; rfl, by rw [World.cell?_alloc_new]; rfl, by rw [World.cell?_alloc_new]; rfl, by rw [World.cell?_alloc_new]; rfl, by rw [World.cell?_alloc_new]; rfl, by rw [World.size_alloc]; omega⟩
theorem PgAt.below {w w' : World} {b : Nat} {x : PgV} {p : Pg} (h : PgAt w b x p) (hb : Below w.heap.size w w') : PgAt w' b x p :=
  ⟨(hb.cell (p := ⟨b, 0, none⟩) h.2.2.2.2.2.2).trans h.1, (hb.cell (p := ⟨b, 1, none⟩) h.2.2.2.2.2.2).trans h.2.1, (hb.cell (p := ⟨b, 2, none⟩) h.2.2.2.2.2.2).trans h.2.2.1, (hb.cell (p := ⟨b, 3, none⟩) h.2.2.2.2.2.2).trans h.2.2.2.1, (hb.cell (p := ⟨b, 4, none⟩) h.2.2.2.2.2.2).trans h.2.2.2.2.1, (hb.cell (p := ⟨b, 5, none⟩) h.2.2.2.2.2.2).trans h.2.2.2.2.2.1, Nat.lt_of_lt_of_le h.2.2.2.2.2.2 hb.size⟩
end Go.Proofs.YtmdpfikalekmlaaDoor
