/- Merged for a claim by shake.py: Ve Vb Vf Tm Vg Wa -/
import Derived.Lib.LaidTab
import Derived.MakeChecks
import Derived.Test.YtcomdkejpaoneaaDoorKc2
import Derived.Test.YtcomdkejpaoneaaDoorKc21
import Derived.Test.YtcomdkejpaoneaaDoorKc22
import Derived.Test.YtcomdkejpaoneaaDoorKc32
import Derived.Test.YtcomdkejpaoneaaDoorKc39
import Derived.Test.YtcomdkejpaoneaaDoorKc6
import Derived.Test.YtcomdkejpaoneaaDoorRows
section
namespace Go.Proofs.YtcomdkejpaoneaaDoor
open Go.RowKit
set_option maxRecDepth 100000
def clsLit : List Int := [0, 0, 0, 0, 0, 0, 0, 0, 0, 1, 1, 0, 0, 1, 0, 0, 0, 0, 0, 0, 0, 0, 0, 0, 0, 0, 0, 0, 0, 0, 0, 0, 1, 0, 2, 0, 0, 0, 0, 0, 2, 2, 3, 0, 0, 0, 0, 0, 0, 0, 0, 0, 0, 0, 0, 0, 0, 0, 2, 0, 0, 0, 0, 3, 2, 0, 0, 0, 0, 0, 0, 0, 0, 0, 0, 0, 0, 0, 0, 0, 0, 0, 0, 0, 0, 0, 0, 0, 0, 0, 0, 2, 4, 2, 2, 0, 0, 0, 0, 0, 0, 0, 0, 0, 0, 0, 0, 0, 0, 0, 0, 0, 0, 0, 0, 0, 0, 0, 0, 0, 0, 0, 0, 2, 2, 2, 2, 0]
theorem clsLit_eq : clsLit = clsTab := by decide
theorem gTab : Tryd.prog.globalNamed "concord/lexer.classes" = some 24 := by kernel_rfl
theorem gTabType : (Tryd.prog.globals[24]?).map (·.type) = some 117 := by kernel_rfl
theorem cellsTab : Tryd.prog.cellsOf 117 = 128 := by kernel_rfl
theorem cellsByte : Tryd.prog.cellsOf 5 = 1 := by kernel_rfl
theorem size_of_cell {w : World} {b o : Nat} {v : Value} (h : w.cell? ⟨b, o, none⟩ = some v) : b < w.heap.size := World.block_lt_of_cell? w ⟨b, o, none⟩ h
theorem cls_of_head {W : World} {rest : List (String × DataW Unit)} (h : laidMet Tryd.prog (("concord/lexer.classes", Rows.laid_concord_lexer_classes) :: rest) W) : ClsEnv W := by
  have ht : Lib.TabIs Tryd.prog W "concord/lexer.classes" .u8 clsLit := Lib.tabIs_of_head (rest := rest) gTab gTabType Tryd.underlying117 Tryd.underlying5 cellsByte cellsTab h
  have hc : ∀ j, j < 128 → W.cell? ⟨24, j, none⟩ = some (.int .u8 (clsTab.getD j 0)) := fun j hj => by
    rw [← clsLit_eq]; exact ht.cell gTab j (by rw [show clsLit.length = 128 from by decide]; exact hj)
  exact ⟨hc, size_of_cell (hc 0 (by decide))⟩
end Go.Proofs.YtcomdkejpaoneaaDoor
end
section
namespace Go.Proofs.YtcomdkejpaoneaaDoor
open Go.RowKit
set_option maxRecDepth 100000
set_option maxHeartbeats 4000000
set_option linter.unusedSimpArgs false
set_option linter.unusedVariables false
theorem checks_walk (q : ByteArray) (w : World) (ea : List Addr) (hq : q.size ≤ 10000000) (hE : ErrEnv w ea) (hc : ClsEnv w) :
    Calls Tryd.prog 3 #[.string q] w fun e w' => e = .returned (.bool true) ∧ Below w.heap.size w w' := by
  have HLV := Lib.hid (slives_any w ea hE hc)
  have HE := Lib.hid (fun (W : World) (hW : Below w.heap.size w W) => hE.below hW)
  have HCK := Lib.hid (fun (W : World) (hW : Below w.heap.size w W) => scheck_any q W ea 15 hq (hc.belowB hc.2 hW) ((errAt15 hE).below (errAt15 hE).2 hW))
  clear hE hc
  go_enter Tryd.func3, Tryd.ntmps3
  go_wp2_with fail
  refine HLV.out.mono ?_
  rintro e w1 ⟨rfl, hb1⟩
  have HB1 := Lib.hid hb1
  clear hb1
  go_wp2_with fail
  refine (HCK.out w1 HB1.out).mono ?_
  rintro e w2 ⟨hb2, he⟩
  have HB2 := Lib.hid (HB1.out.trans (hb2.mono HB1.out.size))
  clear hb2
  cases hr : checkS q.data.toList with
  | inl n =>
    rw [hr] at he
    subst he
    have HR := Lib.hid hr
    clear hr
    simp only []
    go_wp2_with fail
    refine (rcheck_any q w2 hq).mono ?_
    rintro e w3 ⟨hb3, he⟩
    rw [HR.out] at he
    subst he
    simp only []
    have HB3 := Lib.hid (HB2.out.trans (hb3.mono HB2.out.size))
    clear hb3
    go_wp2_with fail
    refine (Num_nil w3).mono ?_
    rintro e w5 ⟨rfl, rfl⟩
    go_wp2
    go_ret
    exact ⟨rfl, HB3.out⟩
  | inr p =>
    rw [hr] at he
    subst he
    have HR := Lib.hid hr
    clear hr
    simp only []
    go_wp2_with fail
    refine (rcheck_any q w2 hq).mono ?_
    rintro e w3 ⟨hb3, he⟩
    rw [HR.out] at he
    subst he
    simp only []
    have HB3 := Lib.hid (HB2.out.trans (hb3.mono HB2.out.size))
    have HE3 := Lib.hid (HE.out w3 HB3.out)
    clear hb3
    go_wp2_with fail
    refine (Num_any ea 15 (by omega) w3 HE3.out).mono ?_
    rintro e w5 ⟨rfl, rfl⟩
    go_wp2
    go_ret
    exact ⟨rfl, HB3.out⟩
theorem syntaxChecks_env {W : World} (h : laidMetH Tryd.prog Rows.syntaxChecksUptoRow.laid W) : ∃ ea, ErrEnv W ea ∧ ClsEnv W := by
  have h0 : laidMet Tryd.prog Rows.syntaxChecksUptoRow.laid W := h
  obtain ⟨ea, h1⟩ := errEnv_of h0 (by rfl)
  have h3 := h0.filter (fun x => x.1 == "concord/lexer.classes")
  exact ⟨ea, h1, cls_of_head (rest := []) h3⟩
theorem syntaxChecks_walk (a0 : ByteArray) (w0 : a0.size ≤ 1048576) (w : World) (hE : ∃ ea, ErrEnv w ea ∧ ClsEnv w) :
    Calls Tryd.prog 3 #[.string a0] w fun e w' => e = .returned (.bool true) ∧ Below w.heap.size w w' := by
  obtain ⟨ea, hE, hc⟩ := hE
  exact checks_walk a0 w ea (by omega) hE hc
end Go.Proofs.YtcomdkejpaoneaaDoor
end
section
namespace Go.Proofs.YtcomdkejpaoneaaDoor
open Go.RowKit Go.ChangeShapes Go.WideShapes Go.Deep
set_option maxRecDepth 100000
theorem lxOne : oneCellFields Tryd.prog (Tryd.prog.fieldsOf 49) = true := by kernel_rfl
theorem lxCells : Tryd.prog.cellsOf 49 = (Tryd.prog.fieldsOf 49).size := by kernel_rfl
theorem lxSize : (Tryd.prog.fieldsOf 49).size = 5 := by kernel_rfl
theorem lxStruct : Tryd.prog.underlying 49 = some (.struct (Tryd.prog.fieldsOf 49)) := by kernel_rfl
theorem lxTypes : ((Tryd.prog.fieldsOf 49).map (·.type)).toList = [3, 9, 3, 3, 3] := by kernel_rfl
theorem lx_type (j : Nat) (t : TypeId) (h : [3, 9, 3, 3, 3][j]? = some t) : ∃ f, (Tryd.prog.fieldsOf 49)[j]? = some f ∧ f.type = t := by
  rw [← lxTypes, Array.getElem?_toList, Array.getElem?_map] at h
  obtain ⟨f, h1, h2⟩ := Option.map_eq_some_iff.1 h
  exact ⟨f, h1, h2⟩
theorem open_lexes {H : Type} {enc : TypeId × Value → H} {W : World} {v : Value} {d : DataW H} {p : List MemPlace} (hv : Value.okWide Tryd.prog W .any 0 42 v) (h0 : DataW.Trod enc Tryd.prog W 0 (fun _ => true) true 42 v d p) :
    ∃ (l : List Lt), RdL ltS W W.heap.size v l ∧ l.length ≤ Rows.uptoBulk d := by
  obtain ⟨fuel, h⟩ := h0
  have hlt := DataW.trod_lt fuel _ _ _ h
  rcases open_slice_fields Tryd.underlying42 lxStruct lxOne lxCells h with ⟨hc, hx⟩ | ⟨a, len, cap, m, D, Pl, hc, _, hl, hm, hmm, hx, hf⟩
  · have := slice_of_ok Tryd.underlying42 hv hc
    subst this
    exact ⟨[], RdL.nil _ _ _, by simp⟩
  · rw [if_pos rfl] at hmm
    obtain rfl : cap = m := hmm.symm
    have := slice_of_ok Tryd.underlying42 hv hc
    subst this
    simp only [Prod.mk.injEq] at hx
    obtain ⟨hd, hp⟩ := hx
    by_cases h0 : len = 0
    · subst h0
      exact ⟨[], ⟨some a, cap, rfl, hl, hm, fun h => (by simp at h), fun h => by cases h⟩, by simp⟩
    have hblk : a.block < W.heap.size := hlt (.cell a.block a.off) (by
      show MemPlace.cell a.block a.off ∈ p
      rw [hp]
      simp only [List.mem_append]
      left
      have : 0 < cap * (Tryd.prog.fieldsOf 49).size := Nat.mul_pos (by omega) (by rw [lxSize]; decide)
      simp only [MemPlace.row, List.mem_map, List.mem_range]
      exact ⟨0, this, rfl⟩)
    obtain ⟨l, h1, h2, h3⟩ := RdL.of_cells (S := ltS) ltOk (w := W) (B := W.heap.size) (a := a) (len := len) (cap := cap) hblk hl hm (fun i f => True) (by
      intro i hi
      obtain ⟨ys, n, hD, _, hyl, hfl⟩ := hf i (by omega)
      rw [lxSize] at hfl hyl
      obtain ⟨f0, g0, t0⟩ := lx_type 0 _ rfl
      obtain ⟨f1, g1, t1⟩ := lx_type 1 _ rfl
      obtain ⟨f2, g2, t2⟩ := lx_type 2 _ rfl
      obtain ⟨f3, g3, t3⟩ := lx_type 3 _ rfl
      obtain ⟨f4, g4, t4⟩ := lx_type 4 _ rfl
      obtain ⟨v0, y0, c0, hy0, r0⟩ := hfl 0 f0 g0
      obtain ⟨v1, y1, c1, hy1, r1⟩ := hfl 1 f1 g1
      obtain ⟨v2, y2, c2, hy2, r2⟩ := hfl 2 f2 g2
      obtain ⟨v3, y3, c3, hy3, r3⟩ := hfl 3 f3 g3
      obtain ⟨v4, y4, c4, hy4, r4⟩ := hfl 4 f4 g4
      rw [t0] at r0; rw [t1] at r1; rw [t2] at r2; rw [t3] at r3; rw [t4] at r4
      obtain ⟨k, e0, rfl, _⟩ := DataW.trod_int Tryd.underlying3 r0
      obtain ⟨s, e1, rfl, hs⟩ := DataW.trod_string Tryd.underlying9 r1
      obtain ⟨n2, e2, rfl, _⟩ := DataW.trod_int Tryd.underlying3 r2
      obtain ⟨n3, e3, rfl, _⟩ := DataW.trod_int Tryd.underlying3 r3
      obtain ⟨n4, e4, rfl, _⟩ := DataW.trod_int Tryd.underlying3 r4
      cases e0; cases e1; cases e2; cases e3; cases e4
      refine ⟨⟨k, s.data.toList, n2, n3, n4⟩, trivial, fun j u hj hu => ?_⟩
      have es : str s.data.toList = s := by unfold str; exact ba_ext rfl
      match j, hj, hu with
      | 0, _, hu => cases hu; exact c0
      | 1, _, hu => cases hu; rw [es]; exact c1
      | 2, _, hu => cases hu; exact c2
      | 3, _, hu => cases hu; exact c3
      | 4, _, hu => cases hu; exact c4)
    refine ⟨l, h2, ?_⟩
    have e := bulk_len ((List.range len).map D)
    have := bulk_slice ((List.range len).map D) ((List.range (cap - len)).map fun j => D (len + j))
    rw [List.length_map, List.length_range] at e
    rw [hd]
    exact Nat.le_trans (show l.length ≤ Rows.uptoBulkAll ((List.range len).map D) + 1 by omega) this
end Go.Proofs.YtcomdkejpaoneaaDoor
end
section
namespace Go.Proofs.YtcomdkejpaoneaaDoor
open Go.RowKit
set_option maxRecDepth 100000
set_option maxHeartbeats 8000000
set_option linter.unusedSimpArgs false
set_option linter.unusedVariables false
def SomeRet (k : Int) (w : World) (e : Ending) (w' : World) : Prop := Below w.heap.size w w' ∧ ∃ sl, e = .returned sl ∧ OwnL ltS w' w.heap.size sl (someL k)
theorem someL_2 {k : Int} (h : k = 2) : someL k = [⟨k, [42], 0, 0, 0⟩, ⟨k, [97, 42], 0, 0, 0⟩] := by subst h; rfl
theorem someL_20 {k : Int} (h : k = 20) : someL k = [⟨k, [], -1, 0, 0⟩, ⟨k, [], 1, 0, 0⟩, ⟨k, [], 3, 0, 0⟩] := by subst h; rfl
theorem someL_ne {k : Int} (h : k ≠ 2) (h2 : k ≠ 20) : someL k = [⟨k, [], 0, 0, 0⟩] := by unfold someL; rw [if_neg h, if_neg h2]
theorem own_litA {w : World} {o : Obj} {cs : Array Value} {n : Nat} {l : List Lt} (h : cs.toList = ltS.cells l ∧ n = l.length) (hn : n ≤ 1000) : OwnL ltS ((w.alloc o).alloc (.cells cs 49)) (w.heap.size + 1) (.slice (some ⟨w.heap.size + 1, 0, none⟩) n n) l := by
  obtain ⟨h1, rfl⟩ := h
  have hs : cs.size = l.length * 5 := by
    rw [← Array.length_toList, h1]; exact Shape.cells_length ltOk l
  have h2 := World.ownsRow_lit (base := w.heap.size + 1) (w.alloc o) (e := 49) (size := 5) cs l.length (by rw [World.size_alloc]; omega) (by unfold maxLen; omega) hs
  rw [World.size_alloc] at h2
  rw [h1] at h2
  exact h2
theorem some_any (k : Int) (w : World) : Calls Tryd.prog 48 #[.int .i64 k] w (SomeRet k w) := by
  by_cases h2 : k = 2
  · have e2 : (k == 2) = true := by simpa using h2
    have HR := Lib.hid (someL_2 h2)
    clear h2
    go_enter Tryd.func48, Tryd.ntmps48
    go_wp2
    go_ret
    refine ⟨((Below.refl _ _).alloc (Nat.le_refl _) _).alloc (by rw [World.size_alloc]; omega) _, _, rfl, ?_⟩
    rw [HR.out]
    refine OwnL.more (B := w.heap.size + 1) ?_ (by omega)
    exact own_litA (n := 2) (cs := #[.int .i64 k, .string ⟨#[42]⟩, .int .i64 0, .int .i64 0, .int .i64 0, .int .i64 k, .string ⟨#[97, 42]⟩, .int .i64 0, .int .i64 0, .int .i64 0]) ⟨rfl, rfl⟩ (by omega)
  have e2 : (k == 2) = false := by simpa using h2
  by_cases h20 : k = 20
  · have e20 : (k == 20) = true := by simpa using h20
    have HR := Lib.hid (someL_20 h20)
    clear h2 h20
    go_enter Tryd.func48, Tryd.ntmps48
    go_wp2
    go_ret
    refine ⟨((Below.refl _ _).alloc (Nat.le_refl _) _).alloc (by rw [World.size_alloc]; omega) _, _, rfl, ?_⟩
    rw [HR.out]
    refine OwnL.more (B := w.heap.size + 1) ?_ (by omega)
    exact own_litA (n := 3) (cs := #[.int .i64 k, .string ⟨#[]⟩, .int .i64 (-1), .int .i64 0, .int .i64 0, .int .i64 k, .string ⟨#[]⟩, .int .i64 1, .int .i64 0, .int .i64 0, .int .i64 k, .string ⟨#[]⟩, .int .i64 3, .int .i64 0, .int .i64 0]) ⟨rfl, rfl⟩ (by omega)
  have e20 : (k == 20) = false := by simpa using h20
  have HR := Lib.hid (someL_ne h2 h20)
  clear h2 h20
  go_enter Tryd.func48, Tryd.ntmps48
  go_wp2
  go_ret
  refine ⟨((Below.refl _ _).alloc (Nat.le_refl _) _).alloc (by rw [World.size_alloc]; omega) _, _, rfl, ?_⟩
  rw [HR.out]
  refine OwnL.more (B := w.heap.size + 1) ?_ (by omega)
  exact own_litA (n := 1) (cs := #[.int .i64 k, .string ⟨#[]⟩, .int .i64 0, .int .i64 0, .int .i64 0]) ⟨rfl, rfl⟩ (by omega)
def rFolR (r : Sum Mc Nat) : List Int := match r with
  | .inl m => rFolL m.row 22
  | .inr _ => []
def RFolRet (ts : List Lt) (w : World) (e : Ending) (w' : World) : Prop :=
  Below w.heap.size w w' ∧ ∃ sl, e = .returned sl ∧ OwnL folS w' w.heap.size sl (rFolR (runI mc0 0 ts))
def FolRel2 (m : Mc) (g : Nat) (v : Value) (w : World) (ov kv : Value) (wr : World) : Prop :=
  ∃ i : Nat, i ≤ 22 ∧ kv = .int .i64 (i : Int) ∧ OwnL folS wr w.heap.size ov (rFolL m.row i) ∧ RowAt wr g (g + 1) v m ∧ Below w.heap.size w wr
def FolRel3 (l : List Lt) (r : Rw) (w2 : World) (mv jv : Value) (wr : World) : Prop :=
  ∃ j : Nat, j ≤ l.length ∧ jv = .int .i64 (j : Int) ∧ mv = .bool ((l.take j).any fun t => (rStep r t).isSome) ∧ Below w2.heap.size w2 wr
theorem RowAt.below {w w' : World} {g B : Nat} {v : Value} {m : Mc} (h : RowAt w g B v m) (hb : Below w.heap.size w w') : RowAt w' g B v m := ⟨h.blk.belowW hb, h.own.below hb, h.hg, Nat.le_trans h.hB hb.size⟩
theorem RowAt.kept {w w' : World} {g B B2 : Nat} {v u : Value} {m : Mc} {l : List Int} (h : RowAt w g B v m) (hu : OwnL folS w B2 u l) (hk : KeptBut w w' u) (hs : w.heap.size ≤ w'.heap.size) : RowAt w' g B v m :=
  ⟨h.blk.keptL hu (by decide) hk, h.own.keptL hu (by decide) hk, h.hg, Nat.le_trans h.hB hs⟩
theorem rfollow_any (x : Value) (ts : List Lt) (w : World) (hx : RdL ltS w w.heap.size x ts) (hl : ts.length ≤ 1000000000) :
    Calls Tryd.prog 29 #[x] w (RFolRet ts w) := by
  obtain ⟨A, cap, rfl, h1, h2⟩ := hx.open_
  have HX := Lib.hid hx
  clear hx
  have HO1 := Lib.hid (OwnL.lit0 folS w (Nat.le_refl _))
  have HBA := Lib.hid (show Below w.heap.size w (w.alloc (.cells #[] 3)) from (Below.refl _ _).alloc (Nat.le_refl _) _)
  go_enter Tryd.func29, Tryd.ntmps29
  go_upto_region 2 with (fail)
  have hwn : (w.alloc (.cells #[] 3)).heap.size = w.heap.size + 1 := World.size_alloc _ _
  have HWN := Lib.hid hwn
  clear hwn
  have HO := Lib.hid (show OwnL folS (w.alloc (.cells #[] 3)) w.heap.size (.slice (some ⟨w.heap.size, 0, none⟩) 0 0) [] from HO1.out)
  generalize w.alloc (.cells #[] 3) = w1 at *
  have HM0 := Lib.hid (show RowAt (w1.alloc (.cells #[.int .i64 0, .bool false, .slice none 0 0] 99)) w1.heap.size (w1.heap.size + 1) (.slice none 0 0) mc0 from ⟨Blk.new w1 _ _, OwnL.nil _ _ _, Nat.lt_succ_self _, by rw [World.size_alloc]; omega⟩)
  have HB0 := Lib.hid (show Below w1.heap.size w1 (w1.alloc (.cells #[.int .i64 0, .bool false, .slice none 0 0] 99)) from (Below.refl _ _).alloc (Nat.le_refl _) _)
  have hs1 : w.heap.size ≤ w1.heap.size := HBA.out.size
  go_wp2
  go_loopw [19] (fun iv wr => FltRel ts w1 iv wr) (fun iv _ => ts.length - (intOf iv).toNat)
  case atStart => exact ⟨0, mc0, _, Nat.zero_le _, rfl, rfl, inv0, HM0.out, HB0.out⟩
  case round =>
    obtain ⟨k, m, v, hk, rfl, hr, hi, hm, hb⟩ := hrel
    have HR := Lib.hid hr; have HI := Lib.hid hi; have HM := Lib.hid hm; have HB := Lib.hid hb
    have HXr := Lib.hid (HX.out.below (HBA.out.trans (hb.mono hs1)))
    have hsz : w1.heap.size ≤ wr.heap.size := hb.size
    clear hr hi hm hb
    by_cases hlt : k < ts.length
    · obtain ⟨a, rfl, hab, q0, q1, q2, q3, q4⟩ := at_lt HXr.out hlt
      have HS := Lib.hid (runI_at ts m k k hlt)
      have HTK := Lib.hid (show ts.take (k + 1) = ts.take k ++ [ts[k]] from List.take_succ_eq_append_getElem hlt)
      have hlk : m.row.open_.length ≤ 1000000000 := by
        have h1 := HI.out.belowL
        rw [List.length_take] at h1
        show (m.below.map (·.signed)).length ≤ _
        rw [List.length_map]; omega
      generalize htk : ts[k] = t at *
      obtain ⟨tk, tx, tn, ta, te⟩ := t
      simp only [] at q0 q1 q2 q3 q4
      clear htk
      have HLK := Lib.hid hlk
      have hwk : IntKind.i64.wrap ((k : Int) + 1) = (k : Int) + 1 := IntWalk.i64_in _ (by omega)
      have r0 := HM.out.blk.cell 0; have r1 := HM.out.blk.cell 1; have r2 := HM.out.blk.cell 2; have lr := HM.out.blk.lt
      simp only [List.getElem?_toArray, List.getElem?_cons_zero, List.getElem?_cons_succ] at r0 r1 r2
      have HMT := Lib.hid (HM.out.alloc (.cells #[.int .i64 tk, .string (str tx), .int .i64 tn, .int .i64 ta, .int .i64 te] 49))
      have HBX := Lib.hid (HB.out.alloc hsz (.cells #[.int .i64 tk, .string (str tx), .int .i64 tn, .int .i64 ta, .int .i64 te] 49))
      clear hlk
      go_wp2_with fail
      generalize wr.alloc (.cells #[.int .i64 tk, .string (str tx), .int .i64 tn, .int .i64 ta, .int .i64 te] 49) = wt at *
      refine (rquick_any m.row ⟨tk, tx, tn, ta, te⟩ wt (w1.heap.size + 1) v HMT.out.hB HMT.out.own HLK.out HI.out.st).mono ?_
      rintro e w5 ⟨hb5, x2, rfl, hX, hx2⟩
      rw [row_step ⟨tk, tx, tn, ta, te⟩ HI.out.st] at hx2 ⊢
      obtain ⟨a2, s2, A2, n2, c2, rfl⟩ := hX
      have HB5 := Lib.hid (HBX.out.trans (hb5.mono (Nat.le_succ _)))
      have HR5 := Lib.hid (HMT.out.blk.below hb5 (Nat.lt_succ_self _))
      have HS5 := Lib.hid (Nat.le_trans HMT.out.hB hb5.size)
      have HBF := Lib.hid (HB5.out.alloc HB5.out.size (.cells #[.int .i64 a2, .bool s2, .slice A2 n2 c2] 99))
      clear hb5 r0 r1 r2 lr
      cases hst : stepM m ⟨tk, tx, tn, ta, te⟩ with
      | none =>
        have HRR := Lib.hid (show runI mc0 0 ts = .inr k from by rw [HR.out, HS.out, hst])
        clear hx2 hst
        simp only [Option.map_none, Option.isSome_none]
        go_wp2
        go_ret
        exact ⟨HBA.out.trans (HBF.out.mono hs1), _, rfl, by rw [HRR.out]; exact HO.out.below HBF.out⟩
      | some m2 =>
        obtain ⟨v2, hx5, ho5⟩ := hx2 m2.row (by rw [hst]; rfl)
        injection hx5 with hx5
        injection hx5 with hx5
        simp only [List.cons.injEq, Value.int.injEq, Value.bool.injEq, true_and, and_true] at hx5
        obtain ⟨hx6, hx7, rfl⟩ := hx5
        obtain rfl : a2 = (m2.state : Int) := hx6
        obtain rfl : s2 = m2.at_.signed := hx7
        have HRR := Lib.hid (show runI mc0 0 ts = runI m2 (k + 1) (ts.drop (k + 1)) from by rw [HR.out, HS.out, hst])
        have HI2 := Lib.hid (show Inv m2 (ts.take (k + 1)) from by rw [HTK.out]; exact inv_step HI.out hst)
        have HO5 := Lib.hid (ho5.alloc (.cells #[.int .i64 (m2.state : Int), .bool m2.at_.signed, .slice A2 n2 c2] 99))
        have HR6 := Lib.hid (HR5.out.alloc (.cells #[.int .i64 (m2.state : Int), .bool m2.at_.signed, .slice A2 n2 c2] 99))
        have HN6 := Lib.hid (Blk.new w5 99 #[.int .i64 (m2.state : Int), .bool m2.at_.signed, .slice A2 n2 c2])
        have HS6 := Lib.hid (show w1.heap.size + 1 ≤ (w5.alloc (.cells #[.int .i64 (m2.state : Int), .bool m2.at_.signed, .slice A2 n2 c2] 99)).heap.size from by rw [World.size_alloc]; have := HS5.out; omega)
        clear hx2 hst ho5
        simp only [Option.map_some, Option.isSome_some]
        go_upto_region 7 with (fail)
        generalize w5.alloc (.cells #[.int .i64 (m2.state : Int), .bool m2.at_.signed, .slice A2 n2 c2] 99) = w6 at *
        have y0 := HN6.out.cell 0; have y1 := HN6.out.cell 1; have y2 := HN6.out.cell 2; have ly := HN6.out.lt
        have r0 := HR6.out.cell 0; have r1 := HR6.out.cell 1; have r2 := HR6.out.cell 2; have lr := HR6.out.lt
        have fr0 := HR6.out.frozen 0; have fr1 := HR6.out.frozen 1; have fr2 := HR6.out.frozen 2
        simp only [List.getElem?_toArray, List.getElem?_cons_zero, List.getElem?_cons_succ] at y0 y1 y2 r0 r1 r2
        go_wp2
        go_roundw
        case rel => exact ⟨k + 1, m2, _, by omega, by go_num, HRR.out, HI2.out, RowAt.set_ HR6.out HO5.out (Nat.lt_succ_self _) HS6.out, ((HBF.out.setCell (p := ⟨w1.heap.size, 0, none⟩) (Nat.le_refl _) _).setCell (p := ⟨w1.heap.size, 1, none⟩) (Nat.le_refl _) _).setCell (p := ⟨w1.heap.size, 2, none⟩) (Nat.le_refl _) _⟩
        case measure => simp [intOf]; omega
    · have hke : k = ts.length := by omega
      have HRR := Lib.hid (show runI mc0 0 ts = .inl m from by rw [HR.out, hke, List.drop_length]; rfl)
      have HI2 := Lib.hid (show Inv m ts from by have h := HI.out; rw [hke, List.take_length] at h; exact h)
      have HLK := Lib.hid (show m.row.open_.length ≤ 1000000000 from by
        have h1 := HI2.out.belowL
        show (m.below.map (·.signed)).length ≤ _
        rw [List.length_map]; omega)
      have HOr := Lib.hid (HO.out.below HB.out)
      have HBr := Lib.hid (HBA.out.trans (HB.out.mono hs1))
      clear hke
      go_wp2
      go_loopw [3, 9] (fun ov kv w2 => FolRel2 m w1.heap.size v w ov kv w2) (fun _ kv _ => 22 - (intOf kv).toNat)
      case atStart => exact ⟨0, by omega, rfl, HOr.out, HM.out, HBr.out⟩
      case round =>
        obtain ⟨w2, rfl⟩ : ∃ w2, w2 = wr := ⟨_, rfl⟩
        obtain ⟨i, hi2, rfl, ho, hm2, hb2⟩ := hrel
        have HO2 := Lib.hid ho; have HM2 := Lib.hid hm2; have HB2 := Lib.hid hb2
        have hsz2 : w.heap.size ≤ w2.heap.size := hb2.size
        obtain ⟨A2, cap2, rfl, -, -⟩ := ho.form
        have hle := rFolL_len m.row i
        have HLE := Lib.hid hle
        have hwi : IntKind.i64.wrap ((i : Int) + 1) = (i : Int) + 1 := IntWalk.i64_in _ (by omega)
        have HSM := Lib.hid (some_any (i : Int) w2)
        clear ho hm2 hb2 hle
        by_cases hlt2 : i < 22
        · go_wp2_with fail
          refine HSM.out.mono ?_
          rintro e w3 ⟨hb3, sl, rfl, hol⟩
          obtain ⟨A3, cap3, rfl, hl3, hm3⟩ := hol.form
          have HL3 := Lib.hid hol
          have HB3 := Lib.hid hb3
          have HM3 := Lib.hid (HM2.out.below hb3)
          obtain ⟨l, hl⟩ : ∃ l, l = someL (i : Int) := ⟨_, rfl⟩
          have HLL := Lib.hid hl
          have hll3 : l.length ≤ 3 := by rw [hl]; unfold someL; split; (exact by decide); split <;> simp
          rw [← hl] at HL3 hl3 ⊢
          clear hol hl hb3
          go_wp2
          go_loopw [10, 41] (fun mv jv w4 => FolRel3 l m.row w3 mv jv w4) (fun _ jv _ => l.length - (intOf jv).toNat)
          case atStart => exact ⟨0, Nat.zero_le _, rfl, rfl, Below.refl _ _⟩
          case round =>
            obtain ⟨w4, rfl⟩ : ∃ w4, w4 = wr := ⟨_, rfl⟩
            obtain ⟨j, hj, rfl, rfl, hb4⟩ := hrel
            have HB4 := Lib.hid hb4
            have HM4 := Lib.hid (HM3.out.below hb4)
            have HL4 := Lib.hid (RdL.of_own (HL3.out.below hb4))
            have hsz4 : w3.heap.size ≤ w4.heap.size := hb4.size
            obtain ⟨may, hmay⟩ : ∃ may, may = (l.take j).any fun t => (rStep m.row t).isSome := ⟨_, rfl⟩
            have HMAY := Lib.hid hmay
            rw [← hmay]
            clear hmay hb4
            by_cases hlt3 : j < l.length
            · obtain ⟨a, rfl, hab, q0, q1, q2, q3, q4⟩ := at_lt HL4.out hlt3
              have HTK := Lib.hid (show ((l.take (j + 1)).any fun t => (rStep m.row t).isSome) = (may || (rStep m.row l[j]).isSome) from by rw [List.take_succ_eq_append_getElem hlt3, List.any_append, ← HMAY.out]; simp)
              generalize htk : l[j] = t at *
              obtain ⟨tk, tx, tn, ta, te⟩ := t
              simp only [] at q0 q1 q2 q3 q4
              clear htk
              have hwk : IntKind.i64.wrap ((j : Int) + 1) = (j : Int) + 1 := IntWalk.i64_in _ (by omega)
              have r0 := HM4.out.blk.cell 0; have r1 := HM4.out.blk.cell 1; have r2 := HM4.out.blk.cell 2; have lr := HM4.out.blk.lt
              simp only [List.getElem?_toArray, List.getElem?_cons_zero, List.getElem?_cons_succ] at r0 r1 r2
              have HMT := Lib.hid (HM4.out.alloc (.cells #[.int .i64 tk, .string (str tx), .int .i64 tn, .int .i64 ta, .int .i64 te] 49))
              have HBX := Lib.hid (HB4.out.alloc hsz4 (.cells #[.int .i64 tk, .string (str tx), .int .i64 tn, .int .i64 ta, .int .i64 te] 49))
              go_wp2_with fail
              generalize w4.alloc (.cells #[.int .i64 tk, .string (str tx), .int .i64 tn, .int .i64 ta, .int .i64 te] 49) = wt at *
              refine (rstep_any _ m.row ⟨tk, tx, tn, ta, te⟩ wt wt.heap.size v ⟨Nat.le_refl _, rfl, RdL.of_own HMT.out.own⟩ HLK.out HI2.out.st).mono ?_
              rintro e w5 ⟨hb5, x2, rfl, hX, hx2⟩
              obtain ⟨a2, s2, B2, n2, c2, rfl⟩ := hX
              have HB5 := Lib.hid ((HBX.out.trans (hb5.mono HBX.out.size)).alloc (Nat.le_trans HBX.out.size hb5.size) (.cells #[.int .i64 a2, .bool s2, .slice B2 n2 c2] 99))
              obtain ⟨ok, hok⟩ : ∃ ok, ok = (rStep m.row ⟨tk, tx, tn, ta, te⟩).isSome := ⟨_, rfl⟩
              rw [← hok] at HTK ⊢
              clear hb5 hx2 hok r0 r1 r2 lr
              cases may with
              | true =>
                go_wp2
                go_roundw
                case rel => exact ⟨j + 1, by omega, by go_num, by rw [HTK.out]; rfl, HB5.out⟩
                case measure => simp [intOf]; omega
              | false =>
                go_wp2
                go_roundw
                case rel => exact ⟨j + 1, by omega, by go_num, by rw [HTK.out]; simp, HB5.out⟩
                case measure => simp [intOf]; omega
            · have hje : j = l.length := by omega
              have HA := Lib.hid (show may = rAny m.row (i : Int) from by rw [HMAY.out, hje, List.take_length, HLL.out]; rfl)
              have HB24 := Lib.hid (HB3.out.trans (HB4.out.mono HB3.out.size))
              have HO4 := Lib.hid (HO2.out.below HB24.out)
              have HBW := Lib.hid (HB2.out.trans (HB24.out.mono hsz2))
              have HNX := Lib.hid (rFolL_succ m.row i)
              have hsw4 : w.heap.size ≤ w4.heap.size := HBW.out.size
              clear hje
              cases may with
              | true =>
                go_wp2_with (at_builtin; refine OwnL.appendK folOk HO4.out (i : Int) w4.heap.size rfl _ _ rfl rfl rfl _ rfl rfl hsw4 (by have := HLE.out; omega) ?_)
                intro v7 w7 ho7 hb7 hk7
                have HO7 := Lib.hid ho7
                have HB7 := Lib.hid (HBW.out.trans hb7)
                have HM7 := Lib.hid (HM4.out.kept HO4.out hk7 hb7.size)
                clear ho7 hb7 hk7
                go_wp2
                go_roundw
                case rel => exact ⟨i + 1, by omega, by go_num, by rw [HNX.out, if_pos HA.out.symm]; exact HO7.out, HM7.out, HB7.out⟩
                case measure => simp [intOf]; omega
              | false =>
                go_wp2
                go_roundw
                case rel => exact ⟨i + 1, by omega, by go_num, by rw [HNX.out, if_neg (by rw [← HA.out]; decide), List.append_nil]; exact HO4.out, HM4.out, HBW.out⟩
                case measure => simp [intOf]; omega
        · have he : i = 22 := by omega
          subst he
          go_wp2
          go_ret
          exact ⟨HB2.out, _, rfl, by rw [HRR.out]; exact HO2.out⟩
end Go.Proofs.YtcomdkejpaoneaaDoor
end
section
namespace Go.Proofs.YtcomdkejpaoneaaDoor
open Go.RowKit
set_option maxRecDepth 100000
set_option maxHeartbeats 4000000
set_option linter.unusedSimpArgs false
set_option linter.unusedVariables false
theorem anyM_row {m : Mc} (hm : m.state ≤ 14) (k : Int) : anyM m k = rAny m.row k := by
  rw [← any_of]
  unfold anyM
  rw [show anyT 0 k = ⟨k, [42], 1, 0, 0⟩ from rfl, show anyT 1 k = ⟨k, [97, 42], 0, 0, 0⟩ from rfl, row_step _ hm, row_step _ hm]
  simp only [Option.isSome_map]
theorem folL_row {m : Mc} (hm : m.state ≤ 14) (n : Nat) : folL m n = rFolL m.row n := by
  unfold folL rFolL
  rw [List.filter_congr (fun i _ => anyM_row hm _)]
theorem inv_runM {l : List Lt} : ∀ {m m' : Mc} {pre : List Lt}, Inv m pre → runM m l = some m' → ∃ pre', Inv m' pre' := by
  induction l with
  | nil => intro m m' pre hi h; rw [runM] at h; injection h with h; subst h; exact ⟨_, hi⟩
  | cons t l ih =>
    intro m m' pre hi h
    rw [runM] at h
    cases hs : stepM m t with
    | none => rw [hs] at h; cases h
    | some m2 => rw [hs] at h; exact ih (inv_step hi hs) h
theorem fol_ways (ts : List Lt) : ∀ m, runI mc0 0 ts = .inl m → folL m 22 = rFolL m.row 22 := by
  intro m hm
  obtain ⟨pre, hi⟩ := inv_runM inv0 (runI_inv inv0 hm)
  obtain ⟨P, C, _, _, _, hst, _⟩ := hi
  exact folL_row (by omega) 22
def folA (ts : List Lt) : List Int := match runI mc0 0 ts with
  | .inl m => folL m 22
  | .inr _ => []
theorem folA_R (ts : List Lt) : rFolR (runI mc0 0 ts) = folA ts := by
  unfold folA rFolR
  cases h : runI mc0 0 ts with
  | inl m => exact (fol_ways ts m h).symm
  | inr j => rfl
theorem folA_len (ts : List Lt) : (folA ts).length ≤ 22 := by
  unfold folA
  cases runI mc0 0 ts with
  | inl m => exact folL_len m 22
  | inr j => simp
theorem FolRet.list {ts : List Lt} {w w' : World} {e : Ending} (h : FolRet ts w e w') : Below w.heap.size w w' ∧ ∃ sl, e = .returned sl ∧ OwnL folS w' w.heap.size sl (folA ts) := by
  unfold FolRet at h
  refine ⟨h.1, ?_⟩
  have h2 := h.2
  unfold folA
  cases hr : runI mc0 0 ts with
  | inl m => rw [hr] at h2; exact h2
  | inr j => rw [hr] at h2; exact ⟨_, h2, OwnL.nil _ _ _⟩
theorem at_fo {w : World} {B : Nat} {A : Option Addr} {n cap : Nat} {l : List Int} (h : RdL folS w B (.slice A n cap) l) {k : Nat} (hk : k < l.length) :
    ∃ a, A = some a ∧ (a.add k).block < B ∧ w.cell? (a.add k) = some (.int .i64 l[k]) := by
  obtain ⟨a, rfl, hb, h0, h⟩ := h.at2 folOk hk
  have e : k * folS.size = k := Nat.mul_one k
  rw [e] at hb h0
  exact ⟨a, rfl, hb, h0 _ rfl⟩
theorem follows_walk (v : Value) (l : List Lt) (w : World) (ea : List Addr) (hv : RdL ltS w w.heap.size v l) (hl : l.length ≤ 10000000) (hE : SynEnv w ea) (hc : ClsEnv w) :
    Calls Tryd.prog 12 #[v] w fun e w' => e = .returned (.bool true) ∧ Below w.heap.size w w' := by
  have HLV := Lib.hid (slives_at w ea 0 hE.1 hc)
  have HF := Lib.hid (fun (W : World) (hW : Below w.heap.size w W) => (sfollow_any v l W ((hv.belowW (Nat.le_refl _) hW).more hW.size) (by omega)).mono fun e w' h => h.list)
  have HR := Lib.hid (fun (W : World) (hW : Below w.heap.size w W) => rfollow_any v l W ((hv.belowW (Nat.le_refl _) hW).more hW.size) (by omega))
  obtain ⟨A0, cap0, rfl, _, _⟩ := hv.open_
  have hlen := folA_len l
  have hRe := folA_R l
  clear hE hc hv
  go_enter Tryd.func12, Tryd.ntmps12
  go_wp2_with fail
  refine HLV.out.mono ?_
  rintro e w1 ⟨rfl, hb1⟩
  have HB1 := Lib.hid hb1
  clear hb1
  go_wp2_with fail
  refine (HF.out w1 HB1.out).mono ?_
  rintro e w2 ⟨hb2, sl, rfl, ho⟩
  have HB2 := Lib.hid (HB1.out.trans (hb2.mono HB1.out.size))
  clear hb2
  go_wp2_with fail
  refine (HR.out w2 HB2.out).mono ?_
  rintro e w3 ⟨hb3, sl3, rfl, ho3⟩
  rw [hRe] at ho3
  have HO := Lib.hid (RdL.of_own (ho.below hb3))
  have HO3 := Lib.hid (RdL.of_own ho3)
  have HB3 := Lib.hid (HB2.out.trans (hb3.mono HB2.out.size))
  clear hb3 ho ho3 hRe
  generalize folA l = fl at *
  obtain ⟨A, ca, rfl, _, _⟩ := HO.out.open_
  obtain ⟨A', ca', rfl, _, _⟩ := HO3.out.open_
  have hne : ((fl.length : Int) != (fl.length : Int)) = false := by simp
  go_wp2
  go_loopw [19] (fun iv wr => ∃ k : Nat, k ≤ fl.length ∧ iv = .int .i64 (k : Int) ∧ Below w3.heap.size w3 wr) (fun iv _ => fl.length - (intOf iv).toNat)
  case atStart => exact ⟨0, by omega, rfl, Below.refl _ _⟩
  case round =>
    obtain ⟨k, hk, rfl, hbl⟩ := hrel
    have HBL := Lib.hid hbl
    have HA := Lib.hid (HO.out.below hbl)
    have HC := Lib.hid (HO3.out.below hbl)
    clear hbl
    by_cases hlt : k < fl.length
    · obtain ⟨g, rfl, hg, c0⟩ := at_fo HA.out hlt
      obtain ⟨g', rfl, hg', d0⟩ := at_fo HC.out hlt
      generalize fl[k] = x at *
      go_wp2
      go_region
      go_wp2
      go_roundw
      case rel => exact ⟨k + 1, by omega, by go_num, HBL.out.drew⟩
      case measure => simp [intOf]; omega
    · go_wp2
      go_ret
      exact ⟨rfl, HB3.out.trans (HBL.out.mono HB3.out.size)⟩
theorem syntaxFollows_env {W : World} (h : laidMetH Tryd.prog Rows.syntaxFollowsUptoRow.laid W) : ∃ ea, SynEnv W ea ∧ ClsEnv W := by
  have h0 : laidMet Tryd.prog Rows.syntaxFollowsUptoRow.laid W := h
  obtain ⟨ea, h1⟩ := synEnv_of h0 (by rfl)
  have h3 := h0.filter (fun x => x.1 == "concord/lexer.classes")
  exact ⟨ea, h1, cls_of_head (rest := []) h3⟩
theorem syntaxFollows_walk (w : World) (v : Value) (l : List Lt) (hv : RdL ltS w w.heap.size v l) (hl : l.length ≤ 1048576) (hE : ∃ ea, SynEnv w ea ∧ ClsEnv w) :
    Calls Tryd.prog 12 #[v] w fun e w' => e = .returned (.bool true) ∧ Below w.heap.size w w' := by
  obtain ⟨ea, hE, hc⟩ := hE
  exact follows_walk v l w ea hv (by omega) hE hc
end Go.Proofs.YtcomdkejpaoneaaDoor
end
section
namespace Go.Proofs.YtcomdkejpaoneaaDoor
set_option linter.unusedSimpArgs false
set_option linter.unusedVariables false
theorem kwd_le (l : List UInt8) : 0 ≤ kwd l ∧ kwd l ≤ 21 := by
  unfold kwd
  split
  · omega
  split
  · omega
  split
  · omega
  split <;> omega
theorem singleK_le (c : UInt8) : 0 ≤ singleK c ∧ singleK c ≤ 21 := by
  unfold singleK
  repeat' (first | (split <;> first | omega | skip) | omega)
theorem tok_kindW {l : List UInt8} {k : Tk} (h : tokOf l = some k) : 0 ≤ k.kind ∧ k.kind ≤ 21 := by
  cases l with
  | nil => simp [tokOf] at h
  | cons c t =>
    rw [tokOf] at h
    split at h
    · injection h with h; rw [← h]; exact singleK_le c
    split at h
    · obtain ⟨x, _, rfl⟩ := Option.map_eq_some_iff.1 h
      exact ⟨by simp, by simp⟩
    have hnum : ∀ {a : Int} {z : List UInt8} {n : Nat} {k : Tk}, numTk a z n = some k → k.kind = a := by
      intro a z n k hk
      unfold numTk at hk
      split at hk
      · injection hk with hk; rw [← hk]
      · cases hk
    split at h
    · split at h <;> (have := hnum h; omega)
    split at h
    · split at h
      · injection h with h; rw [← h]; exact ⟨by simp, by simp⟩
      · have := hnum h; omega
    split at h
    · have := hnum h; omega
    unfold runTk at h
    obtain ⟨x, _, rfl⟩ := Option.map_eq_some_iff.1 h
    split
    · exact ⟨by simp, by simp⟩
    · exact kwd_le _
theorem scanF_all {f : Nat} {l : List UInt8} {i : Nat} {la : List Lx} (h : scanF f l i = (la, none)) :
    (∀ x ∈ la, 0 ≤ x.kind ∧ x.kind ≤ 21 ∧ i ≤ x.at_) ∧ la.Pairwise (fun a b => a.at_ < b.at_) := by
  induction f generalizing l i la with
  | zero => simp [scanF] at h
  | succ f ih =>
    cases l with
    | nil =>
      simp only [scanF, Prod.mk.injEq] at h
      rw [← h.1]
      refine ⟨fun x hx => ?_, by simp⟩
      rw [List.mem_singleton] at hx
      subst hx
      exact ⟨by simp, by simp, Nat.le_refl _⟩
    | cons c t =>
      rw [scanF] at h
      split at h
      · obtain ⟨h1, h2⟩ := ih h
        exact ⟨fun x hx => by have := h1 x hx; omega, h2⟩
      · rename_i hc
        split at h
        · cases h
        · rename_i k ht
          have hl := tok_len ht (fun d hd => by simp only [List.head?_cons, Option.some.injEq] at hd; rw [← hd]; exact hc)
          rcases hr : scanF f ((c :: t).drop k.len) (i + k.len) with ⟨u, _ | z⟩
          · rw [hr] at h
            simp only [ahead, List.singleton_append, Prod.mk.injEq, and_true] at h
            obtain ⟨h1, h2⟩ := ih hr
            rw [← h]
            have hk := tok_kindW ht
            refine ⟨fun x hx => ?_, List.pairwise_cons.2 ⟨fun x hx => ?_, h2⟩⟩
            · rw [List.mem_cons] at hx
              rcases hx with rfl | hx
              · exact ⟨hk.1, hk.2, Nat.le_refl _⟩
              · have := h1 x hx; omega
            · have := h1 x hx
              show i < x.at_
              omega
          · rw [hr] at h
            simp [ahead] at h
theorem rAny_some {r : Rw} {t : Lt} (h : (rStep r t).isSome = true) : rAny r t.kind = true := by
  unfold rAny someL
  by_cases h2 : t.kind = 2
  · rw [if_pos h2]
    simp only [List.any_cons, List.any_nil, Bool.or_false]
    cases hs : starT t with
    | true => rw [← rStep_kind (t := t) (u := ⟨2, [42], 0, 0, 0⟩) h2 hs (by simp [editsT, h2]) (by simp [slopT, h2]), h]; rfl
    | false => rw [← rStep_kind (t := t) (u := ⟨2, [97, 42], 0, 0, 0⟩) h2 (hs.trans rfl) (by simp [editsT, h2]) (by simp [slopT, h2]), h, Bool.or_true]
  rw [if_neg h2]
  by_cases h20 : t.kind = 20
  · rw [if_pos h20]
    rw [rStep_20 h20] at h
    simp only [List.any_cons, List.any_nil, Bool.or_false]
    rw [rStep_20 rfl, rStep_20 rfl, rStep_20 rfl]
    rw [show editsT ⟨20, [], 1, 0, 0⟩ = true from rfl, show slopT ⟨20, [], 1, 0, 0⟩ = true from rfl]
    revert h
    cases editsT t <;> cases slopT t <;> cases decide (r.at_ = 4 ∨ r.at_ = 5) <;> cases decide (r.at_ = 7) <;> simp
  rw [if_neg h20]
  simp only [List.any_cons, List.any_nil, Bool.or_false]
  rw [← rStep_kind (t := t) (u := ⟨t.kind, [], 0, 0, 0⟩) rfl (by simp [starT, h2]) (by simp [editsT, h20]) (by simp [slopT, h20]), h]
theorem rAny_none {r : Rw} {t : Lt} (h2 : t.kind ≠ 2) (h20 : t.kind ≠ 20) (h : rStep r t = none) : rAny r t.kind = false := by
  unfold rAny someL
  rw [if_neg h2, if_neg h20]
  simp only [List.any_cons, List.any_nil, Bool.or_false]
  rw [← rStep_kind (t := t) (u := ⟨t.kind, [], 0, 0, 0⟩) rfl (by simp [starT, h2]) (by simp [editsT, h20]) (by simp [slopT, h20]), h]; rfl
theorem rFolL_mem {r : Rw} {n : Nat} {k : Int} : k ∈ rFolL r n ↔ (0 ≤ k ∧ k < n) ∧ rAny r k = true := by
  unfold rFolL
  simp only [List.mem_map, List.mem_filter, List.mem_range]
  constructor
  · rintro ⟨a, ⟨h1, h2⟩, rfl⟩
    exact ⟨⟨by omega, by omega⟩, h2⟩
  · rintro ⟨⟨h1, h2⟩, h3⟩
    exact ⟨k.toNat, ⟨by omega, by rw [show ((k.toNat : Nat) : Int) = k by omega]; exact h3⟩, by omega⟩
theorem runI_take {l : List Lt} : ∀ {m : Mc} {pre : List Lt} {i0 : Nat} (_ : Inv m pre) (i : Nat) (hi : i < l.length) (_ : ∀ j, runI m i0 l = .inr j → i0 + i ≤ j),
    ∃ mi prei, runI m i0 (l.take i) = .inl mi ∧ Inv mi prei ∧ (runI m i0 l = .inr (i0 + i) ↔ stepM mi l[i] = none) := by
  induction l with
  | nil => intro m pre i0 h i hi; cases hi
  | cons t l ih =>
    intro m pre i0 hinv i hi hj
    cases i with
    | zero =>
      refine ⟨m, pre, rfl, hinv, ?_⟩
      rw [runI]
      simp only [List.getElem_cons_zero]
      cases hs : stepM m t with
      | none => simp
      | some m2 =>
        simp only [reduceCtorEq, iff_false]
        intro h
        have : ∀ {l : List Lt} {m : Mc} {i j : Nat}, runI m i l = .inr j → i ≤ j := by
          intro l
          induction l with
          | nil => intro m i j h; rw [runI] at h; cases h
          | cons t l ih =>
            intro m i j h
            rw [runI] at h
            cases hs : stepM m t with
            | none => rw [hs] at h; injection h with h; omega
            | some m2 => rw [hs] at h; have := ih h; omega
        have := this h
        omega
    | succ i =>
      rw [List.length_cons] at hi
      cases hs : stepM m t with
      | none =>
        have := hj i0 (by rw [runI, hs])
        omega
      | some m2 =>
        obtain ⟨mi, prei, h1, h2, h3⟩ := ih (i0 := i0 + 1) (inv_step hinv hs) i (by omega) (fun j h => by have := hj j (by rw [runI, hs]; exact h); omega)
        refine ⟨mi, prei, ?_, h2, ?_⟩
        · rw [List.take_succ_cons, runI, hs]; exact h1
        · rw [runI, hs]
          simp only [List.getElem_cons_succ]
          rw [show i0 + (i + 1) = i0 + 1 + i by omega]
          exact h3
end Go.Proofs.YtcomdkejpaoneaaDoor
end
