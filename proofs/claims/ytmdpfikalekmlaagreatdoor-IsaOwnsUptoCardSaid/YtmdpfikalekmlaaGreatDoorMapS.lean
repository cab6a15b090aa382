/- A map from strings to ints that a call has made: what a lookup answers, what a store makes. -/
import Derived.Test.YtmdpfikalekmlaaGreatDoorOwn
import Derived.Maps.Own
import Derived.Maps.OwnOps
import Derived.Maps.OwnSet
import Derived.Maps.Keyed
import Derived.Maps.Views
namespace Go.Proofs.YtmdpfikalekmlaaGreatDoor
open Go.RowKit Go.Maps
set_option maxRecDepth 100000

theorem lawStr : Keyed Tryz.prog 9 := string_keyed Tryz.underlying9
theorem keyStr (s : ByteArray) (h : s.size ≤ maxLen) : keyOf Tryz.prog 9 (.string s) = some (.string s.data.toList) := by
  simp [keyOf, Tryz.underlying9, mapKey, h]
theorem zeroInt (w : World) : (zeroValue 3).run Tryz.prog w = .ok (.int .i64 0) w := by kernel_rfl
def MapSI (w : World) (b n : Nat) (m : List UInt8 → Option Int) : Prop :=
  ∃ D : DataW Unit, w.ownsMap Tryz.prog 9 (plainElem Tryz.prog 3) b n D ∧ ∀ k, has D (.string k) = (m k).isSome ∧ ∀ v, m k = some v → D.atKey (.string k) (.lit (.int .i64 0)) = .lit (.int .i64 v)
theorem MapSI.made (w : World) : MapSI (w.alloc (.map #[] 0)) w.heap.size 0 (fun _ => none) :=
  ⟨.map [], World.ownsMap_made _ _ _ _, fun _ => ⟨rfl, fun _ h => by cases h⟩⟩
theorem MapSI.below {w w' : World} {b n : Nat} {m : List UInt8 → Option Int} (h : MapSI w b n m) (hb : Below w.heap.size w w') : MapSI w' b n m := by
  obtain ⟨D, ⟨es, clock, h1, h2, h3, h4⟩, hk⟩ := h
  have hlt : b < w.heap.size := by
    rcases Nat.lt_or_ge b w.heap.size with h | h
    · exact h
    · rw [Array.getElem?_eq_none h] at h1; cases h1
  exact ⟨D, ⟨es, clock, (hb.block b hlt).trans h1, h2, h3, h4⟩, hk⟩
theorem MapSI.lt {w : World} {b n : Nat} {m : List UInt8 → Option Int} (h : MapSI w b n m) : b < w.heap.size := by
  obtain ⟨D, ⟨es, clock, h1, _⟩, _⟩ := h
  rcases Nat.lt_or_ge b w.heap.size with h | h
  · exact h
  · rw [Array.getElem?_eq_none h] at h1; cases h1
theorem MapSI.look {w : World} {b n : Nat} {m : List UInt8 → Option Int} (h : MapSI w b n m) {ops : Array Oper} {rest : List Oper} {o : Oper} {a : Act} {Q : Exit → Act → World → Prop} (hgd : o.guard = none) (mo x : Operand)
    (hop : o.op = Op.lookup 55 mo x true) (key : ByteArray) (hm : a.eval mo = .map (some b)) (hx : a.eval x = .string key) (hs : key.size ≤ maxLen)
    (k : wpList Tryz.prog ops Q rest (a.put o.dst (.tuple #[.int .i64 ((m key.data.toList).getD 0), .bool (m key.data.toList).isSome])) w) : wpList Tryz.prog ops Q (o :: rest) a w := by
  obtain ⟨D, hown, hk⟩ := h
  refine wpList_lookup_own_ok_int (H := Unit) w hgd mo x 55 hop 9 3 .i64 lawStr Tryz.underlying55 Tryz.underlying3 (zeroInt w) b n D hm hown (.string key) (.string key.data.toList) hx (keyStr key hs) ?_
  intro c hc _
  obtain ⟨h1, h2⟩ := hk key.data.toList
  rw [h1]
  cases hv : m key.data.toList with
  | none =>
    rw [hv] at h1
    have := atKey_of_not_has (z := (.lit (.int .i64 0) : DataW Unit)) h1
    rw [this] at hc
    injection hc with hc
    injection hc with _ hc
    subst hc
    rw [hv] at k; exact k
  | some v =>
    rw [h2 v hv] at hc
    injection hc with hc
    injection hc with _ hc
    subst hc
    rw [hv] at k; exact k
theorem MapSI.store {w : World} {b n : Nat} {m : List UInt8 → Option Int} (h : MapSI w b n m) {ops : Array Oper} {rest : List Oper} {o : Oper} {a : Act} {Q : Exit → Act → World → Prop} (hgd : o.guard = none) (mo x y : Operand)
    (hop : o.op = Op.mapUpdate 55 mo x y) (key : ByteArray) (v : Int) (hm : a.eval mo = .map (some b)) (hx : a.eval x = .string key) (hy : a.eval y = .int .i64 v) (hs : key.size ≤ maxLen) (hn : n < maxLen) (hv : (Lit.int .i64 v).wf = true)
    (k : ∀ w', MapSI w' b (n + 1) (fun z => if z = key.data.toList then some v else m z) → w.grownBy w' (some b) → wpList Tryz.prog ops Q rest (a.put o.dst undef) w') : wpList Tryz.prog ops Q (o :: rest) a w := by
  obtain ⟨D, hown, hk⟩ := h
  have hD : IsMap D := hown.isMap
  refine wpList_mapUpdate_own (H := Unit) w hgd mo x y 55 hop 9 3 lawStr Tryz.underlying55 (plainElem Tryz.prog 3) b n D hm hown hn (.string key) (.int .i64 v) (.string key.data.toList) hx hy (keyStr key hs) (.lit (.int .i64 v)) [] (plainElem_int Tryz.underlying3 hv) ?_
  intro w' h1 h2
  refine k w' ⟨_, h1, fun z => ?_⟩ h2
  by_cases hz : z = key.data.toList
  · subst hz
    simp only [if_true]
    refine ⟨?_, fun u hu => ?_⟩
    · rw [has_put_same hD (lawStr.key (keyStr key hs))]; rfl
    · cases hu
      rw [atKey_put_same hD (lawStr.key (keyStr key hs))]
  · simp only [if_neg hz]
    have hne : (Lit.string z) ≠ Lit.string key.data.toList := fun e => hz (by injection e)
    refine ⟨?_, fun u hu => ?_⟩
    · rw [has_put_other hne]; exact (hk z).1
    · rw [atKey_put_other hne]; exact (hk z).2 u hu
end Go.Proofs.YtmdpfikalekmlaaGreatDoor
