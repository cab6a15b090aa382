/- append to a row of the call's own, with what of the elder row stays told; many slices, each alone in its row. -/
import Derived.Test.YtmdpfikalekmlaaGreatDoorKept
import Derived.Test.YtmdpfikalekmlaaGreatDoorRd
import Derived.Maps.AppendAt
namespace Go.Proofs.YtmdpfikalekmlaaGreatDoor
open Go.RowKit
set_option linter.unusedVariables false

/-- All cells that were there stay, but those of v's own row from place n on. -/
def CellsTo (w w' : World) (v : Value) (n : Nat) : Prop := ∀ g j, g < w.heap.size → (v.ownBlock = some g → j < n) → w'.cell? ⟨g, j, none⟩ = w.cell? ⟨g, j, none⟩
theorem CellsTo.of_room {w w' : World} {base : Nat} {e : TypeId} {size g n cap m : Nat} {xs ys : List Value} {cap' : Nat} (h : w.ownsRow base e size (.slice (some ⟨g, 0, none⟩) n cap) n xs)
    (h' : w'.ownsRow base e size (.slice (some ⟨g, 0, none⟩) (n + m) cap') (n + m) (xs ++ ys)) (hg : w.grownBy w' (some g)) : CellsTo w w' (.slice (some ⟨g, 0, none⟩) n cap) (n * size) := by
  intro b j hb hj
  by_cases hbg : b = g
  · subst hbg
    have hj' := hj rfl
    have hle : n * size ≤ (n + m) * size := Nat.mul_le_mul_right _ (by omega)
    rw [h.cellAt j hj', h'.cellAt j (by omega), List.getElem?_append_left (by rw [h.1]; exact hj')]
  · exact World.cell?_of_block (hg.block b hb (fun e => hbg (by injection e)))
theorem run_append_to {P : Program} (w : World) (base : Nat) (t ty e : TypeId) (i : TypeInfo) (z : Value) (size bytes : Nat) (ht : P.underlying t = some (.slice e)) (hi : P.info? e = some i) (hz : i.zero = some z)
    (hsize : i.size = size) (hby : i.bytes = bytes) (hzs : z.cells.size = size) (hsz : 0 < size)
    (v : Value) (n : Nat) (xs : List Value) (hown : w.ownsRow base e size v n xs)
    (ad : Addr) (m c : Nat) (news : List Value) (hl : news.length = m * size) (hnews : ∀ j u, news[j]? = some u → w.cell? (ad.add j) = some u) (h1 : ∀ u ∈ news, u.oneCell' = true)
    (hm : 0 < m) (h63 : n + m ≤ maxLen) (hbytes : (n + m) * bytes ≤ 140737488355328) (hbase : base ≤ w.heap.size) :
    ∃ g cap w', (Builtin.append_ #[t, t] ty #[v, .slice (some ad) m c]).run P w = .ok (.slice (some ⟨g, 0, none⟩) (n + m) cap) w' ∧
      w'.ownsRow base e size (.slice (some ⟨g, 0, none⟩) (n + m) cap) (n + m) (xs ++ news) ∧ w.grownBy w' v.ownBlock ∧ (v.ownBlock = some g ∨ g = w.heap.size) ∧ g < w'.heap.size ∧ CellsTo w w' v (n * size) := by
  obtain ⟨g, cap, w', hr, h2, h3, h4, h5⟩ := run_append_lies (P := P) w t ty base e i z size bytes ht hi hz hsize hby hzs hsz v n xs hown ad m c news hl hnews h1 hm h63 hbytes hbase w.heap.size rfl
  refine ⟨g, cap, w', hr, h2, h3, h4, h5, ?_⟩
  have h63' : ((n + m : Nat) : Int) ≤ 9223372036854775807 := by simp only [maxLen] at h63; omega
  rcases hown.2 with ⟨rfl, _⟩ | ⟨g0, cap0, cur, rfl, hbg, hg, hnc, hcm, hcs, htake⟩
  · exact fun b j hb _ => World.cell?_of_block (h3.block b hb (fun e => by cases e))
  · by_cases hroom : n + m ≤ cap0
    · have hfit : n * i.size + news.length ≤ cur.size := by rw [hsize, hl, hcs, ← Nat.add_mul]; exact Nat.mul_le_mul_right _ hroom
      have hr2 := run_append_room (P := P) w t ty e i ht hi g0 n cap0 cur hg ad m c news (by rw [hsize]; exact hl) hnews h1 hroom hfit
      have e2 := hr.symm.trans hr2
      injection e2 with e3 e4
      injection e3 with e5 _ e6
      injection e5 with e5
      injection e5 with e5 _ _
      subst e5
      exact CellsTo.of_room hown h2 h3
    · have holds : ∀ j u, xs[j]? = some u → w.cell? ((⟨g0, 0, none⟩ : Addr).add j) = some u := hown.cells (g := g0) rfl
      have hr2 := run_append_grow (P := P) w t ty e i z ht hi hz ⟨g0, 0, none⟩ n cap0 xs (by rw [hsize]; exact hown.1) holds ad m c news (by rw [hsize]; exact hl) hnews (by omega) h63' (growslice_fits (by omega) (by rw [hby]; exact hbytes))
      have e2 := hr.symm.trans hr2
      injection e2 with e3 e4
      subst e4
      intro b j hb _
      rw [World.cell?_alloc_lt w.drew _ ⟨b, j, none⟩ hb]
      rfl
/-- 'append(l, x)' in a region that draws, with what of the elder row stays. -/
theorem OwnL.stepAppendTo {α : Type} {S : Shape α} (hS : S.Ok) {w : World} {B : Nat} {v : Value} {l : List α} (h : OwnL S w B v l) (x : α) (nb : Nat) {ops : Array Oper} {o : Oper} {a : Act} {K : Act → World → Prop} {Q : Exit → Act → World → Prop} {E : Prop} (hgd : o.guard = none) (s y : Operand)
    (ho : o.op = .call { callee := .builtin .append, args := #[s, y], argTypes := #[S.tS, S.tS] }) (hs : a.eval s = v) (hy : a.eval y = .slice (some ⟨nb, 0, none⟩) 1 1) (hnb : ∀ j u, (S.enc x)[j]? = some u → w.cell? ⟨nb, j, none⟩ = some u) (hB : B ≤ w.heap.size) (hl : l.length + 1 ≤ 970000000000)
    (k : ∀ g cap w', OwnL S w' B (.slice (some ⟨g, 0, none⟩) (l.length + 1) cap) (l ++ [x]) → Below B w w' → KeptBut w w' v → (v.ownBlock = some g ∨ g = w.heap.size) → g < w'.heap.size → CellsTo w w' v (l.length * S.size) → K (a.put o.dst (.slice (some ⟨g, 0, none⟩) (l.length + 1) cap)) w') :
    if Region.wanted o (yielded ops a.tmps) = true then Oper.wp Tryz.prog o a w K Q else E := by
  obtain ⟨i0, hi, hz0, hz1, hz2⟩ := info_parts hS.info
  have hlt := h.lt
  have hw : Region.wanted o (yielded ops a.tmps) = true := by simp [Region.wanted, hgd]
  rw [if_pos hw]
  obtain ⟨g, cap, w', hr, h2, h3, h4, h5, h6⟩ := run_append_to (P := Tryz.prog) w B S.tS o.type S.tE i0 S.zero S.size S.bytes hS.under hi hz0 hz1 hz2 hS.zs hS.pos v l.length (S.cells l) h ⟨nb, 0, none⟩ 1 1 (S.enc x) (by rw [hS.len, Nat.one_mul])
    (fun j u hj => by rw [show (⟨nb, 0, none⟩ : Addr).add j = ⟨nb, j, none⟩ from by unfold Addr.add; split <;> simp_all]; exact hnb j u hj) (hS.one x) (by decide) (by unfold maxLen; omega)
    (by have h1 := hS.small; have h2 := Nat.mul_le_mul hl h1; omega) hB
  unfold Oper.wp execOp
  simp only [ho, resolve, invoke, builtin, Sem.run_bind, Sem.run_pure, Result.andThen_ok, List.map_toArray, List.map_cons, List.map_nil, hs, hy, hr]
  refine k g cap w' ?_ ((Below.refl _ _).grown h3 hB (fun g hg => (hlt g hg).1)) (fun b hb hv => h3.block b hb (fun e => hv e.symm)) h4 h5 h6
  unfold OwnL
  rw [List.length_append, Shape.cells_append, show S.cells [x] = S.enc x from by simp [Shape.cells]]
  exact h2
end Go.Proofs.YtmdpfikalekmlaaGreatDoor
