/- Merged for a claim by shake.py: Dg Dh -/
import Derived.Test.YtcomdkejpaoneaaDoorKfA
import Derived.Test.YtcomdkejpaoneaaDoorKf26
import Derived.Test.YtcomdkejpaoneaaDoorKf41
section
namespace Go.Proofs.YtcomdkejpaoneaaDoor
open Go.RowKit
set_option maxRecDepth 100000
set_option maxHeartbeats 4000000
set_option linter.unusedSimpArgs false
set_option linter.unusedVariables false
def LfRet (l : List (Int × Nd)) (w : World) (e : Ending) (w' : World) : Prop := Below w.heap.size w w' ∧ ∃ (kd : Int) (f tx : List UInt8) (n : Int), l = [(0, ndLeaf kd f tx n)] ∧ e = .returned (nvLeaf kd f tx n).val
theorem rleaf_word (t : Lt) (w : World) (B : Nat) (A : Option Addr) (n cap : Nat) (h : RdL ltS w B (.slice A n cap) [t]) (hB : B ≤ w.heap.size) (f : List UInt8) (hk : t.kind = 1) :
  Calls Tryd.prog 109 #[.slice A n cap, .string (str f)] w (LfRet [(0, ndLeaf 1 f t.text 0)] w) := by
 have hn : n = 1 := by
  obtain ⟨A', cap', e, -, -⟩ := h.open_
  injection e with e1 e2 e3
 subst hn
 have HR := LH h; have HBW := LH hB
 have HR1 := LH (HR.out.belowW hB ((Below.refl _ _).alloc (Nat.le_refl _) zO))
 obtain ⟨a, rfl, hab, c0, c1, c2, c3, c4⟩ := at_lt HR1.out (show 0 < [t].length from Nat.zero_lt_one)
 have ea : a.add (0 * 5) = a := by simp [Addr.add]
 simp only [List.getElem_cons_zero, ea] at c0 c1 c2 c3 c4 hab
 clear ea h hB
 have HBB := LH (show Below w.heap.size w (((w.alloc zO).alloc (.cells #[.int .i64 t.kind, .string (str t.text), .int .i64 t.n, .int .i64 t.at_, .int .i64 t.end_] 49)).alloc (.cells #[.int .i64 0, .string (str f), .string (str t.text), .int .i64 0, .bool false, .bool false, .string ⟨#[]⟩, .bool false, .bool false, .string ⟨#[]⟩, .slice none 0 0, .slice none 0 0] 36)) from (((Below.refl _ _).alloc (Nat.le_refl _) _).alloc (by rw [World.size_alloc]; omega) _).alloc (by rw [World.size_alloc, World.size_alloc]; omega) _)
 rw [hk] at c0 HBB
 go_enter Tryd.func109, Tryd.ntmps109
 go_wp2
 refine bodyPost_ret (v := (nvLeaf 1 f t.text 0).val) ?_ rfl ?_
 ·simp [results, Tryd.results109, go_sem, World.cell?_alloc_new, NV.val, nvLeaf, bd0, str]
 ·refine ⟨?_, _, _, _, _, rfl, rfl⟩
  repeat (first | with_reducible exact HBB.out | with_reducible refine Below.setCell ?_ (by first | (show w.heap.size ≤ w.heap.size; exact Nat.le_refl _) | (show w.heap.size ≤ w.heap.size + 1; omega) | (show w.heap.size ≤ w.heap.size + 1 + 1; omega)) _)
  exact (((Below.refl _ _).alloc (Nat.le_refl _) _).alloc (by rw [World.size_alloc]; omega) _).alloc (by rw [World.size_alloc, World.size_alloc]; omega) _
theorem rleaf_quo (t : Lt) (w : World) (B : Nat) (A : Option Addr) (n cap : Nat) (h : RdL ltS w B (.slice A n cap) [t]) (hB : B ≤ w.heap.size) (f : List UInt8) (hk : t.kind = 3) :
  Calls Tryd.prog 109 #[.slice A n cap, .string (str f)] w (LfRet [(0, ndLeaf 2 f t.text 0)] w) := by
 have hn : n = 1 := by
  obtain ⟨A', cap', e, -, -⟩ := h.open_
  injection e with e1 e2 e3
 subst hn
 have HR := LH h; have HBW := LH hB
 have HR1 := LH (HR.out.belowW hB ((Below.refl _ _).alloc (Nat.le_refl _) zO))
 obtain ⟨a, rfl, hab, c0, c1, c2, c3, c4⟩ := at_lt HR1.out (show 0 < [t].length from Nat.zero_lt_one)
 have ea : a.add (0 * 5) = a := by simp [Addr.add]
 simp only [List.getElem_cons_zero, ea] at c0 c1 c2 c3 c4 hab
 clear ea h hB
 have HBB := LH (show Below w.heap.size w (((w.alloc zO).alloc (.cells #[.int .i64 t.kind, .string (str t.text), .int .i64 t.n, .int .i64 t.at_, .int .i64 t.end_] 49)).alloc (.cells #[.int .i64 0, .string (str f), .string (str t.text), .int .i64 0, .bool false, .bool false, .string ⟨#[]⟩, .bool false, .bool false, .string ⟨#[]⟩, .slice none 0 0, .slice none 0 0] 36)) from (((Below.refl _ _).alloc (Nat.le_refl _) _).alloc (by rw [World.size_alloc]; omega) _).alloc (by rw [World.size_alloc, World.size_alloc]; omega) _)
 rw [hk] at c0 HBB
 go_enter Tryd.func109, Tryd.ntmps109
 go_wp2
 refine bodyPost_ret (v := (nvLeaf 2 f t.text 0).val) ?_ rfl ?_
 ·simp [results, Tryd.results109, go_sem, World.cell?_alloc_new, NV.val, nvLeaf, bd0, str]
 ·refine ⟨?_, _, _, _, _, rfl, rfl⟩
  repeat (first | with_reducible exact HBB.out | with_reducible refine Below.setCell ?_ (by first | (show w.heap.size ≤ w.heap.size; exact Nat.le_refl _) | (show w.heap.size ≤ w.heap.size + 1; omega) | (show w.heap.size ≤ w.heap.size + 1 + 1; omega)) _)
  exact (((Below.refl _ _).alloc (Nat.le_refl _) _).alloc (by rw [World.size_alloc]; omega) _).alloc (by rw [World.size_alloc, World.size_alloc]; omega) _
theorem rleaf_pat (t : Lt) (w : World) (B : Nat) (A : Option Addr) (n cap : Nat) (h : RdL ltS w B (.slice A n cap) [t]) (hB : B ≤ w.heap.size) (f : List UInt8) (hk : t.kind = 2) (hs : t.text.length ≤ 10000000) :
  Calls Tryd.prog 109 #[.slice A n cap, .string (str f)] w (LfRet [(0, patN f t.text)] w) := by
 have hn : n = 1 := by
  obtain ⟨A', cap', e, -, -⟩ := h.open_
  injection e with e1 e2 e3
 subst hn
 have HR := LH h; have HBW := LH hB
 have HR1 := LH (HR.out.belowW hB ((Below.refl _ _).alloc (Nat.le_refl _) zO))
 obtain ⟨a, rfl, hab, c0, c1, c2, c3, c4⟩ := at_lt HR1.out (show 0 < [t].length from Nat.zero_lt_one)
 have ea : a.add (0 * 5) = a := by simp [Addr.add]
 simp only [List.getElem_cons_zero, ea] at c0 c1 c2 c3 c4 hab
 clear ea h hB
 have HBB := LH (show Below w.heap.size w (((w.alloc zO).alloc (.cells #[.int .i64 t.kind, .string (str t.text), .int .i64 t.n, .int .i64 t.at_, .int .i64 t.end_] 49)).alloc (.cells #[.int .i64 0, .string (str f), .string (str t.text), .int .i64 0, .bool false, .bool false, .string ⟨#[]⟩, .bool false, .bool false, .string ⟨#[]⟩, .slice none 0 0, .slice none 0 0] 36)) from (((Below.refl _ _).alloc (Nat.le_refl _) _).alloc (by rw [World.size_alloc]; omega) _).alloc (by rw [World.size_alloc, World.size_alloc]; omega) _)
 rw [hk] at c0 HBB
 go_enter Tryd.func109, Tryd.ntmps109
 go_wp2_with fail
 have HSZ := LH (show (str t.text).size ≤ 10000000 from by rw [ba_size]; exact hs)
 refine (rpatterned_any f (str t.text) _ HSZ.out).mono ?_
 rintro e w2 ⟨hb2, kd, f2, tx, hpt, rfl⟩
 have HPT := LH (show patN f t.text = ndLeaf kd f2 tx 0 from hpt)
 have HPV := LH (HBB.out.trans (hb2.mono HBB.out.size))
 have hzz := (((Blk.new w 36 zA).alloc (.cells #[.int .i64 2, .string (str t.text), .int .i64 t.n, .int .i64 t.at_, .int .i64 t.end_] 49)).alloc (.cells #[.int .i64 0, .string (str f), .string (str t.text), .int .i64 0, .bool false, .bool false, .string ⟨#[]⟩, .bool false, .bool false, .string ⟨#[]⟩, .slice none 0 0, .slice none 0 0] 36)).below hb2 (by rw [World.size_alloc, World.size_alloc, World.size_alloc]; omega)
 obtain ⟨z0, z1, z2, z3, z4, z5, z6, z7, z8, z9, z10, z11, fz0, fz1, fz2, fz3, fz4, fz5, fz6, fz7, fz8, fz9, fz10, fz11, lz⟩ := blk12 hzz
 clear hb2 hzz hpt hk c0 c1 c2 c3 c4
 unfold NV.val nvLeaf
 go_wp2
 refine bodyPost_ret (v := (nvLeaf kd f2 tx 0).val) ?_ rfl ?_
 ·simp [results, Tryd.results109, go_sem, NV.val, nvLeaf, bd0, str, lz, fz0, fz1, fz2, fz3, fz4, fz5, fz6, fz7, fz8, fz9, fz10, fz11, z0, z1, z2, z3, z4, z5, z6, z7, z8, z9, z10, z11]
 ·refine ⟨?_, _, _, _, _, by rw [HPT.out], rfl⟩
  repeat (first | with_reducible exact HPV.out | with_reducible refine Below.setCell ?_ (by show w.heap.size ≤ w.heap.size; exact Nat.le_refl _) _)
theorem rleaf_slop (t u : Lt) (w : World) (B : Nat) (A : Option Addr) (n cap : Nat) (h : RdL ltS w B (.slice A n cap) [t, u]) (hB : B ≤ w.heap.size) (f : List UInt8) (hk : t.kind = 3)  :
  Calls Tryd.prog 109 #[.slice A n cap, .string (str f)] w (LfRet [(0, ndLeaf 2 f t.text u.n)] w) := by
 have hn : n = 2 := by
  obtain ⟨A', cap', e, -, -⟩ := h.open_
  injection e with e1 e2 e3
 subst hn
 have HR := LH h; have HBW := LH hB
 have HR1 := LH (HR.out.belowW hB ((Below.refl _ _).alloc (Nat.le_refl _) zO))
 obtain ⟨a, rfl, hab, c0, c1, c2, c3, c4⟩ := at_lt HR1.out (show 0 < [t, u].length from Nat.zero_lt_two)
 have ea : a.add (0 * 5) = a := by simp [Addr.add]
 have HBB := LH (show Below w.heap.size w (((w.alloc zO).alloc (.cells #[.int .i64 t.kind, .string (str t.text), .int .i64 t.n, .int .i64 t.at_, .int .i64 t.end_] 49)).alloc (.cells #[.int .i64 2, .string (str f), .string (str t.text), .int .i64 0, .bool false, .bool false, .string ⟨#[]⟩, .bool false, .bool false, .string ⟨#[]⟩, .slice none 0 0, .slice none 0 0] 36)) from (((Below.refl _ _).alloc (Nat.le_refl _) _).alloc (by rw [World.size_alloc]; omega) _).alloc (by rw [World.size_alloc, World.size_alloc]; omega) _)
 rw [show [t, u][0].kind = 3 from hk] at c0
 rw [hk] at HBB
 have HR5 := LH (HR.out.belowW hB HBB.out)
 obtain ⟨a', e', -, -, -, d2, -, -⟩ := at_lt HR5.out (show 1 < [t, u].length from Nat.one_lt_two)
 obtain rfl : a = a' := by injection e'
 simp only [List.getElem_cons_zero, ea] at c0 c1 c2 c3 c4 hab
 simp only [List.getElem_cons_zero, List.getElem_cons_succ, Nat.one_mul, Addr.add] at d2
 have h50 : ((5 : Nat) = 0) = False := by simp
 simp only [h50, if_false] at d2
 clear h50
 clear ea h hB e'
 go_enter Tryd.func109, Tryd.ntmps109
 go_wp2
 refine bodyPost_ret (v := (nvLeaf 2 f t.text (u.n)).val) ?_ rfl ?_
 ·simp [results, Tryd.results109, go_sem, World.cell?_alloc_new, NV.val, nvLeaf, bd0, str]
 ·refine ⟨?_, _, _, _, _, rfl, rfl⟩
  exact (((Below.refl _ _).alloc (Nat.le_refl _) _).alloc (by rw [World.size_alloc]; omega) _).alloc (by rw [World.size_alloc, World.size_alloc]; omega) _
theorem rleaf_editsN (t u : Lt) (w : World) (B : Nat) (A : Option Addr) (n cap : Nat) (h : RdL ltS w B (.slice A n cap) [t, u]) (hB : B ≤ w.heap.size) (f : List UInt8) (hk : t.kind = 1) (hu : u.n < 0) :
  Calls Tryd.prog 109 #[.slice A n cap, .string (str f)] w (LfRet [(0, ndLeaf 5 f t.text 2)] w) := by
 have hn : n = 2 := by
  obtain ⟨A', cap', e, -, -⟩ := h.open_
  injection e with e1 e2 e3
 subst hn
 have HR := LH h; have HBW := LH hB
 have HR1 := LH (HR.out.belowW hB ((Below.refl _ _).alloc (Nat.le_refl _) zO))
 obtain ⟨a, rfl, hab, c0, c1, c2, c3, c4⟩ := at_lt HR1.out (show 0 < [t, u].length from Nat.zero_lt_two)
 have ea : a.add (0 * 5) = a := by simp [Addr.add]
 have HBB := LH (show Below w.heap.size w (((w.alloc zO).alloc (.cells #[.int .i64 t.kind, .string (str t.text), .int .i64 t.n, .int .i64 t.at_, .int .i64 t.end_] 49)).alloc (.cells #[.int .i64 5, .string (str f), .string (str t.text), .int .i64 0, .bool false, .bool false, .string ⟨#[]⟩, .bool false, .bool false, .string ⟨#[]⟩, .slice none 0 0, .slice none 0 0] 36)) from (((Below.refl _ _).alloc (Nat.le_refl _) _).alloc (by rw [World.size_alloc]; omega) _).alloc (by rw [World.size_alloc, World.size_alloc]; omega) _)
 rw [show [t, u][0].kind = 1 from hk] at c0
 rw [hk] at HBB
 have HR5 := LH (HR.out.belowW hB HBB.out)
 obtain ⟨a', e', -, -, -, d2, -, -⟩ := at_lt HR5.out (show 1 < [t, u].length from Nat.one_lt_two)
 obtain rfl : a = a' := by injection e'
 simp only [List.getElem_cons_zero, ea] at c0 c1 c2 c3 c4 hab
 simp only [List.getElem_cons_zero, List.getElem_cons_succ, Nat.one_mul, Addr.add] at d2
 have h50 : ((5 : Nat) = 0) = False := by simp
 simp only [h50, if_false] at d2
 clear h50
 clear ea h hB e'
 have e7 : decide (u.n < 0) = true := decide_eq_true hu
 go_enter Tryd.func109, Tryd.ntmps109
 go_wp2
 refine bodyPost_ret (v := (nvLeaf 5 f t.text (2)).val) ?_ rfl ?_
 ·simp [results, Tryd.results109, go_sem, World.cell?_alloc_new, NV.val, nvLeaf, bd0, str]
 ·refine ⟨?_, _, _, _, _, rfl, rfl⟩
  exact (((Below.refl _ _).alloc (Nat.le_refl _) _).alloc (by rw [World.size_alloc]; omega) _).alloc (by rw [World.size_alloc, World.size_alloc]; omega) _
theorem rleaf_editsP (t u : Lt) (w : World) (B : Nat) (A : Option Addr) (n cap : Nat) (h : RdL ltS w B (.slice A n cap) [t, u]) (hB : B ≤ w.heap.size) (f : List UInt8) (hk : t.kind = 1) (hu : ¬ u.n < 0) :
  Calls Tryd.prog 109 #[.slice A n cap, .string (str f)] w (LfRet [(0, ndLeaf 5 f t.text u.n)] w) := by
 have hn : n = 2 := by
  obtain ⟨A', cap', e, -, -⟩ := h.open_
  injection e with e1 e2 e3
 subst hn
 have HR := LH h; have HBW := LH hB
 have HR1 := LH (HR.out.belowW hB ((Below.refl _ _).alloc (Nat.le_refl _) zO))
 obtain ⟨a, rfl, hab, c0, c1, c2, c3, c4⟩ := at_lt HR1.out (show 0 < [t, u].length from Nat.zero_lt_two)
 have ea : a.add (0 * 5) = a := by simp [Addr.add]
 have HBB := LH (show Below w.heap.size w (((w.alloc zO).alloc (.cells #[.int .i64 t.kind, .string (str t.text), .int .i64 t.n, .int .i64 t.at_, .int .i64 t.end_] 49)).alloc (.cells #[.int .i64 5, .string (str f), .string (str t.text), .int .i64 0, .bool false, .bool false, .string ⟨#[]⟩, .bool false, .bool false, .string ⟨#[]⟩, .slice none 0 0, .slice none 0 0] 36)) from (((Below.refl _ _).alloc (Nat.le_refl _) _).alloc (by rw [World.size_alloc]; omega) _).alloc (by rw [World.size_alloc, World.size_alloc]; omega) _)
 rw [show [t, u][0].kind = 1 from hk] at c0
 rw [hk] at HBB
 have HR5 := LH (HR.out.belowW hB HBB.out)
 obtain ⟨a', e', -, -, -, d2, -, -⟩ := at_lt HR5.out (show 1 < [t, u].length from Nat.one_lt_two)
 obtain rfl : a = a' := by injection e'
 simp only [List.getElem_cons_zero, ea] at c0 c1 c2 c3 c4 hab
 simp only [List.getElem_cons_zero, List.getElem_cons_succ, Nat.one_mul, Addr.add] at d2
 have h50 : ((5 : Nat) = 0) = False := by simp
 simp only [h50, if_false] at d2
 clear h50
 clear ea h hB e'
 have e7 : decide (u.n < 0) = false := decide_eq_false hu
 go_enter Tryd.func109, Tryd.ntmps109
 go_wp2
 refine bodyPost_ret (v := (nvLeaf 5 f t.text (u.n)).val) ?_ rfl ?_
 ·simp [results, Tryd.results109, go_sem, World.cell?_alloc_new, NV.val, nvLeaf, bd0, str]
 ·refine ⟨?_, _, _, _, _, rfl, rfl⟩
  exact (((Below.refl _ _).alloc (Nat.le_refl _) _).alloc (by rw [World.size_alloc]; omega) _).alloc (by rw [World.size_alloc, World.size_alloc]; omega) _
end Go.Proofs.YtcomdkejpaoneaaDoor
end
section
namespace Go.Proofs.YtcomdkejpaoneaaDoor
open Go.RowKit
set_option maxRecDepth 100000
set_option maxHeartbeats 4000000
set_option linter.unusedSimpArgs false
set_option linter.unusedVariables false
def RRet (v : List (Int × Nd)) (w : World) (e : Ending) (w' : World) : Prop :=
 Below w.heap.size w w' ∧ ∃ (x : NV) (t : Nd), e = .returned x.val ∧ v = [(0, t)] ∧ NdR w' (rng w.heap.size w'.heap.size) x t
theorem LfRet.r {l : List (Int × Nd)} {w w' : World} {e : Ending} (h : LfRet l w e w') : RRet l w e w' := by
 obtain ⟨hb, kd, f, tx, n, h1, h2⟩ := h
 exact ⟨hb, _, _, h2, h1, nd_leaf _ _ _ _ _ _⟩
def TnOk (ts : List Lt) : Prop := ∀ t ∈ ts, t.text.length ≤ 10000000 ∧ (t.kind = 21 → 0 ≤ t.n)
theorem TnOk.sub {ts us : List Lt} (h : TnOk ts) (hs : ∀ t ∈ us, t ∈ ts) : TnOk us := fun t ht => h t (hs t ht)
def RdOk (fn : Nat) (ex : List Value) (p : Pt) (g : List (Int × Nd) → List (Int × Nd)) (M : Nat) : Prop :=
 ∀ (A : List Lt) (n : Nat) (v : Vl), D p A n v → TnOk A → A.length < M → ∀ (w : World) (B : Nat) (a : Option Addr) (k cap : Nat) (f : List UInt8), RdL ltS w B (.slice a k cap) A → B ≤ w.heap.size →
  Calls Tryd.prog fn (.slice a k cap :: .string (str f) :: ex).toArray w (RRet (g (v f)) w)
def AtmOk (M : Nat) : Prop := RdOk 103 [] .atom id M
def NegOk (M : Nat) : Prop := RdOk 88 [] .unary id M
def JmOk (M : Nat) : Prop := RdOk 89 [.int .i64 17, .int .i64 12] .maxes (wrapN 12) M
def JaOk (M : Nat) : Prop := RdOk 89 [.int .i64 4, .int .i64 10] .ands (wrapN 10) M
def JoOk (M : Nat) : Prop := RdOk 89 [.int .i64 5, .int .i64 11] .ors (wrapN 11) M
def WhOk (M : Nat) : Prop := RdOk 58 [] .list (fun l => [(0, ndList 0 l)]) M
def TreOk (M : Nat) : Prop := RdOk 38 [] .list (fun l => [(0, treeN l)]) M
theorem RdOk.less {fn : Nat} {ex : List Value} {p : Pt} {g : List (Int × Nd) → List (Int × Nd)} {M N : Nat} (h : RdOk fn ex p g M) (hN : N ≤ M) : RdOk fn ex p g N :=
 fun A n v hD hT hl => h A n v hD hT (Nat.lt_of_lt_of_le hl hN)
theorem body_last {A : List Lt} {n : Nat} {v : Vl} (h : D .body A n v) : ∃ B t, A = B ++ [t] ∧ t.kind ≠ 18 ∧ t.kind ≠ 19 := by
 cases h with
 | leafB h =>
  cases h with
  | word h => exact ⟨[], _, rfl, by omega, by omega⟩
  | @edits t u h1 h2 _ => exact ⟨[t], u, rfl, by omega, by omega⟩
  | pat h => exact ⟨[], _, rfl, by omega, by omega⟩
  | quo h => exact ⟨[], _, rfl, by omega, by omega⟩
  | @slop t u h1 h2 _ => exact ⟨[t], u, rfl, by omega, by omega⟩
  | @span a b c d e h1 h2 _ _ h5 => exact ⟨[a, b, c, d], e, rfl, by omega, by omega⟩
 | groupB h =>
  cases h with
  | @group o c A n v h1 h2 h3 => exact ⟨o :: A, c, rfl, by omega, by omega⟩
  | @least o c l A n v h1 h2 h3 h4 => exact ⟨o :: (A ++ [c]), l, by simp, by omega, by omega⟩
theorem atom_last {A : List Lt} {n : Nat} {v : Vl} (h : D .atom A n v) : ∃ B t, A = B ++ [t] ∧ t.kind ≠ 18 ∧ t.kind ≠ 19 := by
 cases h with
 | bodyA h => exact body_last h
 | @field w c A n v h1 h2 h3 =>
  obtain ⟨B, t, rfl, h4⟩ := body_last h3
  exact ⟨w :: c :: B, t, rfl, h4⟩
 | @all s c t h1 h2 h3 => exact ⟨[s, c], t, rfl, by simp [starT] at h3; omega, by simp [starT] at h3; omega⟩
theorem piece_hd {A : List Lt} {n : Nat} {v : Vl} (h : D .piece A n v) : ∃ t r, A = t :: r ∧ t.kind ≠ 6 := by
 generalize hp : Pt.piece = p at h
 induction h with
 | atomP h _ => exact atom_hd h
 | @sfx b A n v h hb ih =>
  obtain ⟨t, r, rfl, ht⟩ := ih rfl
  exact ⟨t, r ++ [b], rfl, ht⟩
 | _ => cases hp
theorem pc_mid (X P Y : List Lt) : pc (X ++ (P ++ Y)) X.length (X.length + P.length) = P := by
 unfold pc
 rw [List.drop_left, Nat.add_sub_cancel_left, List.take_left]
structure Parts (ts : List Lt) (rs : List (Nat × Nat)) (P : List Cl) : Prop where
 len : rs.length = P.length
 at_ : ∀ (i : Nat) (x : Cl), P[i]? = some x → ∃ r : Nat × Nat, rs[i]? = some r ∧ pc ts r.1 r.2 = x.A ∧ r.2 - r.1 = x.A.length ∧ x.A.length ≤ ts.length ∧ ∀ t ∈ x.A, t ∈ ts
theorem Parts.nil (ts : List Lt) : Parts ts [] [] := ⟨rfl, fun i x h => by simp at h⟩
theorem Parts.cons {X : List Lt} {x : Cl} {Y : List Lt} {rs : List (Nat × Nat)} {P : List Cl} (h : Parts (X ++ (x.A ++ Y)) rs P) : Parts (X ++ (x.A ++ Y)) ((X.length, X.length + x.A.length) :: rs) (x :: P) := by
 refine ⟨by rw [List.length_cons, List.length_cons, h.len], fun i y hy => ?_⟩
 cases i with
 | zero =>
  simp only [List.getElem?_cons_zero, Option.some.injEq] at hy
  subst hy
  exact ⟨_, rfl, pc_mid _ _ _, Nat.add_sub_cancel_left _ _, by simp only [List.length_append]; omega, fun t ht => List.mem_append_right _ (List.mem_append_left _ ht)⟩
 | succ i =>
  rw [List.getElem?_cons_succ] at hy ⊢
  exact h.at_ i y hy
def cpCl (r : List Cp) : List Cl := r.map fun x => ⟨x.A, x.v⟩
theorem ch_parts (X : List Lt) (B0 : List Lt) (v0 : Vl) (r : List Cp) : Parts (X ++ chToks B0 r) (chRng X.length B0 r) (⟨B0, v0⟩ :: cpCl r) := by
 induction r generalizing X B0 v0 with
 | nil =>
  have h := Parts.cons (X := X) (x := ⟨B0, v0⟩) (Y := []) (Parts.nil _)
  simpa [chToks, chRng, cpCl] using h
 | cons y r ih =>
  have h := ih (X ++ (B0 ++ [y.b])) y.A y.v
  have e : X ++ (B0 ++ [y.b]) ++ chToks y.A r = X ++ (B0 ++ (y.b :: chToks y.A r)) := by simp
  rw [e] at h
  have e2 : chToks B0 (y :: r) = B0 ++ (y.b :: chToks y.A r) := by simp [chToks]
  rw [e2]
  have e3 : (X ++ (B0 ++ [y.b])).length = X.length + B0.length + 1 := by simp; omega
  rw [e3] at h
  exact Parts.cons (X := X) (x := ⟨B0, v0⟩) h
theorem cl_parts (X : List Lt) (l : List Cl) : Parts (X ++ l.flatMap (·.A)) (clRng X.length l) l := by
 induction l generalizing X with
 | nil => exact Parts.nil _
 | cons y l ih =>
  have h := ih (X ++ y.A)
  rw [List.append_assoc, List.length_append] at h
  rw [List.flatMap_cons, clRng]
  exact Parts.cons (X := X) (x := y) h
theorem chain_parts {q : Pt} {k : Int} {wr : List (Int × Nd) → List (Int × Nd)} {A B0 : List Lt} {v v0 : Vl} {r : List Cp} (h : Chain q k wr A v B0 v0 r) (hk : k = 4 ∨ k = 5 ∨ k = 17) (hq : okm q k) :
  ∃ P : List Cl, Parts A (cutI k 0 0 0 A) P ∧ (∀ x ∈ P, ∃ n, D q x.A n x.v) ∧ (∀ f, v f = P.flatMap fun x => wr (x.v f)) ∧ P.length ≤ A.length + 1 := by
 have h2 := chain_cut h hk hq 0
 obtain ⟨h1, h3, ⟨n, h4⟩, h5⟩ := h
 refine ⟨⟨B0, v0⟩ :: cpCl r, ?_, ?_, ?_, ?_⟩
 ·rw [h2, h1]
  exact ch_parts [] B0 v0 r
 ·intro x hx
  rcases List.mem_cons.1 hx with rfl | hx
  ·exact ⟨n, h4⟩
  ·obtain ⟨y, hy, rfl⟩ := List.mem_map.1 hx
   exact (h5 y hy).2
 ·intro f
  rw [h3]
  unfold chVal cpCl
  rw [List.flatMap_cons, List.flatMap_map]
 ·have h6 := (ch_parts [] B0 v0 r).len
  have h7 := cutI_len k A 0 0 0
  rw [h2] at h7
  have h8 : (chRng 0 B0 r).length = (({ A := B0, v := v0 } : Cl) :: cpCl r).length := h6
  omega
theorem list_parts {A : List Lt} {n : Nat} {v : Vl} (h : D .list A n v) :
  ∃ P : List Cl, Parts A (clI 0 0 0 0 A) P ∧ (∀ x ∈ P, ∃ n, D .clause x.A n x.v) ∧ (∀ f, v f = P.flatMap fun x => x.v f) ∧ P.length ≤ A.length := by
 obtain ⟨l, h0, rfl, rfl, h3⟩ := h.listC
 refine ⟨l, ?_, h3, fun f => rfl, ?_⟩
 ·rw [list_cl l h0 h3 0 0]
  exact cl_parts [] l
 ·have := clL_n (l := l) (fun x hx => by
   obtain ⟨m, hm⟩ := h3 x hx
   obtain ⟨⟨t, r, e, _⟩, _⟩ := hm.okk
   rw [e]; simp)
  exact this
theorem at_lt2 {w : World} {B : Nat} {A : Option Addr} {n cap : Nat} {ts : List Lt} (h : RdL ltS w B (.slice A n cap) ts) (a : Addr) (ha : A = some a) (k : Nat) (t : Lt) (hk : ts[k]? = some t) :
  (a.add (k * 5)).block < B ∧ w.cell? (a.add (k * 5)) = some (.int .i64 t.kind) ∧ w.cell? ⟨(a.add (k * 5)).block, (a.add (k * 5)).off + 1, none⟩ = some (.string (str t.text)) ∧ w.cell? ⟨(a.add (k * 5)).block, (a.add (k * 5)).off + 2, none⟩ = some (.int .i64 t.n) ∧ w.cell? ⟨(a.add (k * 5)).block, (a.add (k * 5)).off + 3, none⟩ = some (.int .i64 t.at_) ∧ w.cell? ⟨(a.add (k * 5)).block, (a.add (k * 5)).off + 4, none⟩ = some (.int .i64 t.end_) := by
 obtain ⟨hlt, e⟩ := List.getElem?_eq_some_iff.1 hk
 obtain ⟨b, hb, h1, c0, c1, c2, c3, c4⟩ := at_lt h hlt
 rw [ha] at hb
 injection hb with hb
 subst hb
 rw [e] at c0 c1 c2 c3 c4
 exact ⟨h1, c0, c1, c2, c3, c4⟩
theorem some_of_rd {w : World} {B : Nat} {A : Option Addr} {n cap : Nat} {t : Lt} {ts : List Lt} (h : RdL ltS w B (.slice A n cap) (t :: ts)) : ∃ a, A = some a := by
 obtain ⟨a, e, _⟩ := at_lt h (show 0 < (t :: ts).length from Nat.succ_pos _)
 exact ⟨a, e⟩
end Go.Proofs.YtcomdkejpaoneaaDoor
end
