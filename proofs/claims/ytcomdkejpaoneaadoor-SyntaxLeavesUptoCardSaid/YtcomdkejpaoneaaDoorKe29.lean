/- Merged for a claim by shake.py: Un Ta Tc Ti Tk Tl Va Zb Ve Zc Zi -/
import Derived.Deep.OwnRows
import Derived.Deep.RegionLaw
import Derived.Lib.LaidTab
import Derived.MakeChecks
import Derived.Test.YtcomdkejpaoneaaDoorKe1
import Derived.Test.YtcomdkejpaoneaaDoorKe17
import Derived.Test.YtcomdkejpaoneaaDoorKe18
import Derived.Test.YtcomdkejpaoneaaDoorKe2
import Derived.Test.YtcomdkejpaoneaaDoorKe20
import Derived.Test.YtcomdkejpaoneaaDoorKe21
import Derived.Test.YtcomdkejpaoneaaDoorKe28
import Derived.Test.YtcomdkejpaoneaaDoorKe5
import Derived.Test.YtcomdkejpaoneaaDoorKe7
import Derived.Test.YtcomdkejpaoneaaDoorKe8
import Derived.Test.YtcomdkejpaoneaaDoorKe9
import Derived.Test.YtcomdkejpaoneaaDoorRows
section
namespace Go.Proofs.YtcomdkejpaoneaaDoor
set_option linter.unusedSimpArgs false
set_option linter.unusedVariables false
theorem patOk_cons {c : UInt8} {b : List UInt8} (h : c ≠ 92) (hb : patOk b) : patOk (c :: b) := by
  cases b with
  | nil => exact h
  | cons d r => rw [patOk, if_neg h]; exact hb
theorem patOk_esc {d : UInt8} {b : List UInt8} (hb : patOk b) : patOk (92 :: d :: b) := by
  rw [patOk, if_pos rfl]; exact hb
theorem cls_92 : cls 92 = 4 := by decide +kernel
theorem ne92 {c : UInt8} (h : cls c ≠ 4) : c ≠ 92 := fun e => h (by rw [e]; exact cls_92)
theorem pe_ok {d : UInt8} {b : List UInt8} (hb : patOk b) : patOk (pe d ++ b) ∧ (pe d).length ≤ 2 := by
  unfold pe
  split
  · exact ⟨patOk_esc hb, by simp⟩
  · rename_i h
    exact ⟨patOk_cons (ne92 (fun e => h (.inr e))) hb, by simp⟩
theorem runL_pat : ∀ (l : List UInt8) (r : Rn), runL l = some r → patOk r.pat ∧ r.pat.length ≤ r.len ∧ r.text.length ≤ r.len
  | [], r, h => by simp [runL] at h; subst h; exact ⟨trivial, by simp, by simp⟩
  | [c], r, h => by
    unfold runL at h
    split at h
    · cases h; exact ⟨trivial, by simp, by simp⟩
    split at h
    · rename_i h3
      cases h; exact ⟨patOk_cons (ne92 (by omega)) trivial, by simp, by simp⟩
    split at h
    · cases h
    · rename_i h4
      cases h; exact ⟨patOk_cons (ne92 h4) trivial, by simp, by simp⟩
  | c :: d :: t, r, h => by
    unfold runL at h
    split at h
    · cases h; exact ⟨trivial, by simp, by simp⟩
    split at h
    · rename_i h3
      obtain ⟨y, hy, rfl⟩ := Option.map_eq_some_iff.1 h
      obtain ⟨h5, h6, h7⟩ := runL_pat (d :: t) y hy
      refine ⟨patOk_cons (ne92 (by omega)) h5, ?_, ?_⟩ <;> (simp [Rn.add]; omega)
    split at h
    · obtain ⟨y, hy, rfl⟩ := Option.map_eq_some_iff.1 h
      obtain ⟨h5, h6, h7⟩ := runL_pat t y hy
      obtain ⟨g1, g2⟩ := pe_ok (d := d) h5
      refine ⟨g1, ?_, ?_⟩ <;> (simp [Rn.add]; omega)
    · rename_i h4
      obtain ⟨y, hy, rfl⟩ := Option.map_eq_some_iff.1 h
      obtain ⟨h5, h6, h7⟩ := runL_pat (d :: t) y hy
      refine ⟨patOk_cons (ne92 h4) h5, ?_, ?_⟩ <;> (simp [Rn.add]; omega)
theorem quotedL_txt : ∀ (l : List UInt8) (x : List UInt8 × Nat), quotedL l = some x → x.1.length ≤ x.2
  | [], x, h => by simp [quotedL] at h
  | [c], x, h => by
    unfold quotedL at h
    split at h
    · cases h; simp
    · cases h
  | c :: d :: t, x, h => by
    unfold quotedL at h
    split at h
    · cases h; simp
    · split at h
      · obtain ⟨y, hy, rfl⟩ := Option.map_eq_some_iff.1 h
        have := quotedL_txt t y hy
        simp; omega
      · obtain ⟨y, hy, rfl⟩ := Option.map_eq_some_iff.1 h
        have := quotedL_txt (d :: t) y hy
        simp; omega
theorem tok_ok {l : List UInt8} {k : Tk} (h : tokOf l = some k) : (k.kind = 2 → patOk k.text) ∧ k.text.length ≤ k.len := by
  cases l with
  | nil => simp [tokOf] at h
  | cons c t =>
    rw [tokOf] at h
    split at h
    · injection h with h; rw [← h]
      exact ⟨fun _ => trivial, by simp⟩
    split at h
    · obtain ⟨x, hx, rfl⟩ := Option.map_eq_some_iff.1 h
      have := quotedL_txt t x hx
      exact ⟨fun h => by simp at h, by simp; omega⟩
    have hnum : ∀ {a : Int} {z : List UInt8} {n : Nat} {k : Tk}, numTk a z n = some k → (k.kind = 2 → patOk k.text) ∧ k.text.length ≤ k.len := by
      intro a z n k hk
      unfold numTk at hk
      split at hk
      · injection hk with hk; rw [← hk]; exact ⟨fun _ => trivial, by simp⟩
      · cases hk
    split at h
    · split at h <;> exact hnum h
    split at h
    · split at h
      · injection h with h; rw [← h]; exact ⟨fun _ => trivial, by simp⟩
      · exact hnum h
    split at h
    · exact hnum h
    unfold runTk at h
    obtain ⟨x, hx, rfl⟩ := Option.map_eq_some_iff.1 h
    obtain ⟨h5, h6, h7⟩ := runL_pat _ x hx
    split
    · exact ⟨fun _ => h5, h6⟩
    · refine ⟨fun h2 => ?_, ?_⟩
      · have h2' : kwd ((c :: t).take x.len) = 2 := h2
        unfold kwd at h2'
        repeat' split at h2'
        all_goals omega
      · show (if kwd ((c :: t).take x.len) = 1 then x.text else []).length ≤ x.len
        split
        · exact h7
        · simp
theorem scanF_ok {f : Nat} {l : List UInt8} {i : Nat} {la : List Lx} (h : scanF f l i = (la, none)) :
    ∀ x ∈ la, (x.kind = 2 → patOk x.text) ∧ x.text.length ≤ l.length := by
  induction f generalizing l i la with
  | zero => simp [scanF] at h
  | succ f ih =>
    cases l with
    | nil =>
      simp only [scanF, Prod.mk.injEq] at h
      rw [← h.1]
      intro x hx
      rw [List.mem_singleton] at hx
      subst hx
      exact ⟨fun h => by simp at h, by simp⟩
    | cons c t =>
      rw [scanF] at h
      split at h
      · intro x hx
        have := ih h x hx
        exact ⟨this.1, Nat.le_trans this.2 (by simp)⟩
      · rename_i hc
        split at h
        · cases h
        · rename_i k ht
          have hl := tok_len ht (fun d hd => by simp only [List.head?_cons, Option.some.injEq] at hd; rw [← hd]; exact hc)
          rcases hr : scanF f ((c :: t).drop k.len) (i + k.len) with ⟨u, _ | z⟩
          · rw [hr] at h
            simp only [ahead, List.singleton_append, Prod.mk.injEq, and_true] at h
            rw [← h]
            intro x hx
            rw [List.mem_cons] at hx
            rcases hx with rfl | hx
            · have := tok_ok ht
              exact ⟨this.1, Nat.le_trans this.2 hl.2⟩
            · have := ih hr x hx
              refine ⟨this.1, Nat.le_trans this.2 ?_⟩
              rw [List.length_drop]; omega
          · rw [hr] at h
            simp [ahead] at h
theorem scan_tkok {l : List UInt8} {la : List Lx} (h : scanL l = (la, none)) (hl : l.length ≤ 10000000) : TkOk (la.map Lx.lt) := by
  have hc := scanL_count l
  rw [h] at hc
  refine ⟨by rw [List.length_map]; simp only [] at hc; omega, fun t ht => ?_⟩
  obtain ⟨x, hx, rfl⟩ := List.mem_map.1 ht
  have := scanF_ok h x hx
  exact ⟨this.1, Nat.le_trans this.2 hl⟩
end Go.Proofs.YtcomdkejpaoneaaDoor
end
section
namespace Go.Proofs.YtcomdkejpaoneaaDoor
open Go.RowKit
set_option maxRecDepth 100000
set_option maxHeartbeats 4000000
set_option linter.unusedSimpArgs false
set_option linter.unusedVariables false
def rbS : Shape Bool := { tS := 97, tE := 4, size := 1, bytes := 1, enc := fun x => [.bool x], zero := .bool false }
def RwV (w : World) (B : Nat) (v x : Value) (r : Rw) : Prop := B ≤ w.heap.size ∧ x = .agg #[.int .i64 (r.at_ : Int), .bool r.signed, v] ∧ RdL rbS w B v r.open_
def RwO (w : World) (C : Nat) (v0 : Value) (ro : List Bool) (x : Value) (r : Rw) : Prop := ∃ v, x = .agg #[.int .i64 (r.at_ : Int), .bool r.signed, v] ∧ ((v = v0 ∧ r.open_ = ro) ∨ OwnL rbS w C v r.open_)
def RwX (x : Value) : Prop := ∃ (a : Int) (s : Bool) (A : Option Addr) (n c : Nat), x = .agg #[.int .i64 a, .bool s, .slice A n c]
def RwRet (r : Option Rw) (v0 : Value) (ro : List Bool) (w : World) (e : Ending) (w' : World) : Prop :=
  Below w.heap.size w w' ∧ ∃ x, e = .returned (.tuple #[x, .bool r.isSome]) ∧ RwX x ∧ ∀ r', r = some r' → RwO w' w.heap.size v0 ro x r'
end Go.Proofs.YtcomdkejpaoneaaDoor
end
section
namespace Go.Proofs.YtcomdkejpaoneaaDoor
open Go.RowKit
set_option maxRecDepth 100000
set_option maxHeartbeats 4000000
set_option linter.unusedSimpArgs false
set_option linter.unusedVariables false
theorem RwRet.good {r : Option Rw} {r' : Rw} {w w' : World} {e : Ending} {x v0 : Value} {ro : List Bool} (hb : Below w.heap.size w w') (hr : r = some r') (he : e = .returned (.tuple #[x, .bool true])) (hx : RwO w' w.heap.size v0 ro x r') (hX : RwX x := by exact ⟨_, _, _, _, _, rfl⟩) : RwRet r v0 ro w e w' := by
  subst hr
  exact ⟨hb, x, he, hX, fun r2 h => by cases h; exact hx⟩
theorem RwRet.bad {r : Option Rw} {w w' : World} {e : Ending} {x v0 : Value} {ro : List Bool} (hb : Below w.heap.size w w') (hr : r = none) (he : e = .returned (.tuple #[x, .bool false])) (hX : RwX x := by exact ⟨_, _, _, _, _, rfl⟩) : RwRet r v0 ro w e w' := by
  subst hr
  exact ⟨hb, x, he, hX, fun r2 h => by cases h⟩
theorem RwV.of {w w' : World} {v : Value} {ro : List Bool} {B C : Nat} (hv : RdL rbS w B v ro) (hB : B ≤ w.heap.size) (hb : Below w.heap.size w w') (a : Nat) (s : Bool) : RwO w' C v ro (.agg #[.int .i64 (a : Int), .bool s, v]) ⟨a, s, ro⟩ := ⟨v, rfl, .inl ⟨rfl, rfl⟩⟩
end Go.Proofs.YtcomdkejpaoneaaDoor
end
section
namespace Go.Proofs.YtcomdkejpaoneaaDoor
open Go.RowKit
set_option maxRecDepth 100000
set_option maxHeartbeats 4000000
set_option linter.unusedSimpArgs false
set_option linter.unusedVariables false
theorem RdL.pop {α : Type} {S : Shape α} {w : World} {B : Nat} {A : Option Addr} {n cap : Nat} {l : List α} {x : α} (h : RdL S w B (.slice A n cap) (l ++ [x])) : RdL S w B (.slice A l.length cap) l := by
  obtain ⟨A', cap', e, h1, h2, h3, h4⟩ := h
  injection e with e1 e2 e3
  subst e1 e3
  rw [List.length_append, List.length_singleton] at h1 h3
  refine ⟨A, cap, rfl, by omega, h2, fun hn => ?_, h4⟩
  obtain ⟨a, e, hb, hc⟩ := h3 (by omega)
  refine ⟨a, e, hb, fun j u hu => hc j u ?_⟩
  rw [Shape.cells_snoc, List.getElem?_append_left (List.getElem?_eq_some_iff.1 hu).1]
  exact hu
end Go.Proofs.YtcomdkejpaoneaaDoor
end
section
namespace Go.Proofs.YtcomdkejpaoneaaDoor
open Go.RowKit
set_option maxRecDepth 100000
set_option maxHeartbeats 8000000
set_option linter.unusedSimpArgs false
set_option linter.unusedVariables false
def QkRet (r : Option Rw) (B : Nat) (w : World) (e : Ending) (w' : World) : Prop :=
  Below B w w' ∧ ∃ x, e = .returned (.tuple #[x, .bool r.isSome]) ∧ RwX x ∧ ∀ r', r = some r' → ∃ v, x = .agg #[.int .i64 (r'.at_ : Int), .bool r'.signed, v] ∧ OwnL rbS w' B v r'.open_
theorem QkRet.of {r : Option Rw} {v : Value} {ro : List Bool} {B : Nat} {w w' : World} {e : Ending} (h : RwRet r v ro w e w') (ho : OwnL rbS w B v ro) (hB : B ≤ w.heap.size) : QkRet r B w e w' := by
  obtain ⟨hb, x, he, hX, hx⟩ := h
  refine ⟨hb.mono hB, x, he, hX, fun r' hr => ?_⟩
  obtain ⟨v', hx', h⟩ := hx r' hr
  refine ⟨v', hx', ?_⟩
  rcases h with ⟨rfl, hl⟩ | h
  · rw [hl]; exact ho.below hb
  · exact h.more hB
theorem QkRet.bad {r : Option Rw} {B : Nat} {w w' : World} {x : Value} {bb : Bool} (hb : Below B w w') (hr : r = none) (hbb : bb = false) (hX : RwX x := by exact ⟨_, _, _, _, _, rfl⟩) : QkRet r B w (.returned (.tuple #[x, .bool bb])) w' := by
  subst hr hbb
  exact ⟨hb, x, rfl, hX, fun r2 h => by cases h⟩
theorem QkRet.good {r : Option Rw} {B : Nat} {w w' : World} {a : Nat} {s bb : Bool} {v : Value} {l : List Bool} (hb : Below B w w') (hr : r = some ⟨a, s, l⟩) (hbb : bb = true) (ho : OwnL rbS w' B v l) (hX : RwX (.agg #[.int .i64 (a : Int), .bool s, v]) := by exact ⟨_, _, _, _, _, rfl⟩) : QkRet r B w (.returned (.tuple #[.agg #[.int .i64 (a : Int), .bool s, v], .bool bb])) w' := by
  subst hr hbb
  exact ⟨hb, _, rfl, hX, fun r2 h => by cases h; exact ⟨v, rfl, ho⟩⟩
end Go.Proofs.YtcomdkejpaoneaaDoor
end
section
namespace Go.Proofs.YtcomdkejpaoneaaDoor
open Go.RowKit
set_option maxRecDepth 100000
set_option maxHeartbeats 8000000
set_option linter.unusedSimpArgs false
set_option linter.unusedVariables false
structure RowAt (w : World) (g B : Nat) (v : Value) (m : Mc) : Prop where
  blk : Blk w g 99 #[.int .i64 (m.state : Int), .bool m.at_.signed, v]
  own : OwnL rbS w B v m.row.open_
  hg : g < B
  hB : B ≤ w.heap.size
theorem RowAt.alloc {w : World} {g B : Nat} {v : Value} {m : Mc} (h : RowAt w g B v m) (o : Obj) : RowAt (w.alloc o) g B v m := ⟨h.blk.alloc o, h.own.alloc o, h.hg, by rw [World.size_alloc]; have := h.hB; omega⟩
theorem RowAt.set_ {w : World} {g B : Nat} {v v2 : Value} {m m2 : Mc} (h : Blk w g 99 #[.int .i64 (m.state : Int), .bool m.at_.signed, v]) (ho : OwnL rbS w B v2 m2.row.open_) (hg : g < B) (hB : B ≤ w.heap.size) :
    RowAt (((w.setCell ⟨g, 0, none⟩ (.int .i64 (m2.state : Int))).setCell ⟨g, 1, none⟩ (.bool m2.at_.signed)).setCell ⟨g, 2, none⟩ v2) g B v2 m2 :=
  ⟨((h.set_ 0 _).set_ 1 _).set_ 2 _, ((ho.far (p := ⟨g, 0, none⟩) hg _).far (p := ⟨g, 1, none⟩) hg _).far (p := ⟨g, 2, none⟩) hg _, hg, by simp only [set_size]; exact hB⟩
end Go.Proofs.YtcomdkejpaoneaaDoor
end
section
namespace Go.Proofs.YtcomdkejpaoneaaDoor
open Go.RowKit
set_option maxRecDepth 100000
set_option maxHeartbeats 4000000
set_option linter.unusedSimpArgs false
set_option linter.unusedVariables false
theorem lives_chk : checkS [40, 40, 97, 41, 41, 94, 50, 94, 51] = .inl 4 := by kernel_rfl
theorem lives_scanP : scanL [43, 97] = ([⟨15, [], 0, 0, 1⟩, ⟨1, [97], 0, 1, 2⟩, ⟨0, [], 0, 2, 2⟩], none) := by kernel_rfl
theorem lives_chkP : checkS [43, 97] = .inl 0 := by kernel_rfl
theorem livesD : D .list [⟨15, [], 0, 0, 1⟩, ⟨1, [97], 0, 1, 2⟩] 0 (fun f => ((fun f => [(0, ndLeaf 1 f [97] 0)]) f).map fun x => ((if (15 : Int) = 15 then 1 else 2 : Int), x.2)) :=
  D.one (D.sign (s := ⟨15, [], 0, 0, 1⟩) (A := [⟨1, [97], 0, 1, 2⟩]) (.inl rfl) (D.pieceU (D.atomP (D.bodyA (D.leafB (D.word (t := ⟨1, [97], 0, 1, 2⟩) rfl))))))
theorem slives_at (w : World) (ea : List Addr) (n : Nat) (hE : ErrAt w 0 (errI ea n)) (hc : ClsEnv w) :
    Calls Tryd.prog 14 #[] w fun e w' => e = .returned (.bool true) ∧ Below w.heap.size w w' := by
  have HC1 := Lib.hid (scheck_any ⟨#[40, 40, 97, 41, 41, 94, 50, 94, 51]⟩ w ea n (by decide) hc hE)
  have HPR := Lib.hid (fun (W : World) (hW : Below w.heap.size w W) => pparse_ok ⟨#[43, 97]⟩ W ea n (by decide) (hc.belowB hc.2 hW) (hE.below hE.2 hW) _ 0 lives_scanP lives_chkP (by decide)
    ⟨by decide, fun t ht => by
      simp only [List.map_cons, List.map_nil, List.mem_cons, List.not_mem_nil, or_false] at ht
      rcases ht with rfl | rfl | rfl
      · exact ⟨fun h => absurd h (by decide), by decide⟩
      · exact ⟨fun h => absurd h (by decide), by decide⟩
      · exact ⟨fun h => absurd h (by decide), by decide⟩⟩ [⟨15, [], 0, 0, 1⟩, ⟨1, [97], 0, 1, 2⟩] ⟨0, [], 0, 2, 2⟩ 0 _ rfl rfl livesD)
  clear hE hc
  go_enter Tryd.func14, Tryd.ntmps14
  go_wp2_with fail
  refine HC1.out.mono ?_
  rintro e w1 ⟨hb1, he⟩
  rw [show checkS (⟨#[40, 40, 97, 41, 41, 94, 50, 94, 51]⟩ : ByteArray).data.toList = _ from lives_chk] at he
  subst he
  simp only []
  have HB1 := Lib.hid hb1
  clear hb1
  go_wp2_with fail
  refine (HPR.out w1 HB1.out).mono ?_
  rintro e w2 ⟨hb2, x, rfl, hx⟩
  have HB2 := Lib.hid (HB1.out.trans (hb2.mono HB1.out.size))
  clear hb2
  have hx2 : NdR w2 (rng w1.heap.size w2.heap.size) x (.mk 9 [] [] 0 bd0 bd0 [1] [ndLeaf 1 [] [97] 0]) := hx
  clear hx
  rcases hx2 with ⟨h1, h2, h3, h4⟩
  rename_i so sk nl
  obtain ⟨y, rfl⟩ := List.length_eq_one_iff.1 h3
  have hy := h4 0 y _ rfl rfl
  have hyt : y.text = [97] := by rcases hy with ⟨_, _, _, _⟩; rfl
  obtain ⟨oa, on, oc⟩ := so
  obtain ⟨ka, kn, kc⟩ := sk
  have hon : on = 1 := h1.1
  have hkn : kn = 1 := h2.1
  subst hon hkn
  obtain ⟨b, rfl, hbF, hbl, hc0, hcc⟩ := h2.nd0
  have hct := hcc 1 (.string (str y.text)) rfl
  rw [hyt] at hct
  have HCT := Lib.hid hct
  clear h1 h2 h3 h4 hy hyt hc0 hcc hct hbF
  have d2 : w2.cell? ⟨b.block, b.off + 2, none⟩ = some (.string ⟨#[97]⟩) := HCT.out
  unfold NV.val
  simp only []
  go_wp2
  go_ret
  exact ⟨rfl, HB2.out.alloc HB2.out.size _⟩
def SynEnv (w : World) (ea : List Addr) : Prop := ErrAt w 0 (errI ea 0) ∧ ErrAt w 16 (errI ea 1)
def synRows : List (String × List UInt8) := (errRows.filter fun x => x.1 == "concord/api.ErrSyntax") ++ (errRows.filter fun x => x.1 == "concord/api.ErrDeep")
theorem synEnv_of_rows {W : World} (h : laidMet Tryd.prog (synRows.map fun x => (x.1, errRow x.2)) W) : ∃ ea, SynEnv W ea := by
  obtain ⟨ps, h1, h2, h3⟩ := h
  obtain ⟨ea, g1, g2, g3, _⟩ := errsAt_of synRows [0, 16] ps (by kernel_rfl) (by
    have h : ([0, 16] : List Nat).all (fun g => (Tryd.prog.globals[g]?).map (·.type) == some 24) = true := by kernel_rfl
    intro g hg
    exact beq_iff_eq.1 (List.all_eq_true.1 h g hg)) h1 h2 h3
  match ea, g1 with
  | [a, b], g1 => exact ⟨[a, b], ⟨g1.1, World.block_lt_of_cell? W ⟨0, 0, none⟩ g1.1⟩, ⟨g1.2.2.1, World.block_lt_of_cell? W ⟨16, 0, none⟩ g1.2.2.1⟩⟩
theorem synEnv_of {W : World} {l : List (String × DataW Unit)} (h : laidMet Tryd.prog l W) (e : l.filter (fun x => (synRows.map (·.1)).contains x.1) = synRows.map fun x => (x.1, errRow x.2)) : ∃ ea, SynEnv W ea := by
  have := h.filter (fun x => (synRows.map (·.1)).contains x.1)
  rw [e] at this
  exact synEnv_of_rows this
end Go.Proofs.YtcomdkejpaoneaaDoor
end
section
namespace Go.Proofs.YtcomdkejpaoneaaDoor
open Go.RowKit
set_option maxRecDepth 100000
set_option maxHeartbeats 4000000
set_option linter.unusedSimpArgs false
set_option linter.unusedVariables false
theorem parse_der {s : ByteArray} {n : Nat} {t : Nd} (h : Der s.data.toList n t) (hn : n ≤ 64) (w : World) (ea : List Addr) (ei : Nat) (hs : s.size ≤ 10000000) (hE : ClsEnv w) (hv : ErrAt w 0 (errI ea ei)) :
    Calls Tryd.prog 18 #[.string s] w (ParRet t w) := by
  have hc := h.check
  obtain ⟨la, A, e, v, hs1, hA, he, hD, rfl⟩ := h.toks
  exact pparse_ok s w ea ei hs hE hv la n hs1 hc hn (scan_tkok hs1 (by rw [← ba_size]; exact hs)) A e n v hA he hD
theorem Der.le {l : List UInt8} {n : Nat} {t : Nd} (h : Der l n t) : n ≤ l.length := by
  obtain ⟨la, A, e, v, hs, hA, he, hD, _⟩ := h.toks
  have h1 := hD.nest_le
  have h2 := scanL_count l
  rw [hs] at h2
  have h3 := congrArg List.length hA
  rw [List.length_map, List.length_append, List.length_singleton] at h3
  simp only [] at h2
  omega
end Go.Proofs.YtcomdkejpaoneaaDoor
end
section
namespace Go.Proofs.YtcomdkejpaoneaaDoor
open Go.RowKit
set_option maxRecDepth 100000
def clsLit : List Int := [0, 0, 0, 0, 0, 0, 0, 0, 0, 1, 1, 0, 0, 1, 0, 0, 0, 0, 0, 0, 0, 0, 0, 0, 0, 0, 0, 0, 0, 0, 0, 0, 1, 0, 2, 0, 0, 0, 0, 0, 2, 2, 3, 0, 0, 0, 0, 0, 0, 0, 0, 0, 0, 0, 0, 0, 0, 0, 2, 0, 0, 0, 0, 3, 2, 0, 0, 0, 0, 0, 0, 0, 0, 0, 0, 0, 0, 0, 0, 0, 0, 0, 0, 0, 0, 0, 0, 0, 0, 0, 0, 2, 4, 2, 2, 0, 0, 0, 0, 0, 0, 0, 0, 0, 0, 0, 0, 0, 0, 0, 0, 0, 0, 0, 0, 0, 0, 0, 0, 0, 0, 0, 0, 2, 2, 2, 2, 0]
theorem clsLit_eq : clsLit = clsTab := by decide
theorem gTab : Tryd.prog.globalNamed "concord/lexer.classes" = some 24 := by kernel_rfl
theorem gTabType : (Tryd.prog.globals[24]?).map (·.type) = some 117 := by kernel_rfl
theorem cellsTab : Tryd.prog.cellsOf 117 = 128 := by kernel_rfl
theorem cellsByte : Tryd.prog.cellsOf 5 = 1 := by kernel_rfl
theorem size_of_cell {w : World} {b o : Nat} {v : Value} (h : w.cell? ⟨b, o, none⟩ = some v) : b < w.heap.size := World.block_lt_of_cell? w ⟨b, o, none⟩ h
theorem cls_of_head {W : World} {rest : List (String × DataW Unit)} (h : laidMet Tryd.prog (("concord/lexer.classes", Rows.laid_concord_lexer_classes) :: rest) W) : ClsEnv W := by
  have ht : Lib.TabIs Tryd.prog W "concord/lexer.classes" .u8 clsLit := Lib.tabIs_of_head (rest := rest) gTab gTabType Tryd.underlying117 Tryd.underlying5 cellsByte cellsTab h
  have hc : ∀ j, j < 128 → W.cell? ⟨24, j, none⟩ = some (.int .u8 (clsTab.getD j 0)) := fun j hj => by
    rw [← clsLit_eq]; exact ht.cell gTab j (by rw [show clsLit.length = 128 from by decide]; exact hj)
  exact ⟨hc, size_of_cell (hc 0 (by decide))⟩
end Go.Proofs.YtcomdkejpaoneaaDoor
end
section
namespace Go.Proofs.YtcomdkejpaoneaaDoor
open Go.RowKit
set_option maxRecDepth 100000
set_option maxHeartbeats 8000000
set_option linter.unusedSimpArgs false
set_option linter.unusedVariables false
theorem str_nil : str [] = ⟨#[]⟩ := rfl
end Go.Proofs.YtcomdkejpaoneaaDoor
end
section
namespace Go.Proofs.YtcomdkejpaoneaaDoor
open Go.RowKit
set_option maxRecDepth 100000
set_option maxHeartbeats 8000000
set_option linter.unusedSimpArgs false
set_option linter.unusedVariables false
theorem and_small (n : Int) (b : Nat) (hb : b < 4611686018427387904) : ∃ m : Nat, m ≤ b ∧ bits .and .i64 n (b : Int) = (m : Int) := by
  refine ⟨(BitVec.ofInt 64 n &&& BitVec.ofInt 64 (b : Int)).toNat, ?_, ?_⟩
  · rw [BitVec.toNat_and]
    refine Nat.le_trans Nat.and_le_right ?_
    rw [BitVec.toNat_ofInt]
    omega
  · have h : (BitVec.ofInt 64 n &&& BitVec.ofInt 64 (b : Int)).toNat ≤ b := by
      rw [BitVec.toNat_and]
      refine Nat.le_trans Nat.and_le_right ?_
      rw [BitVec.toNat_ofInt]
      omega
    show IntKind.i64.wrap ((BitVec.ofInt 64 n &&& BitVec.ofInt 64 (b : Int)).toNat : Int) = _
    exact IntWalk.i64_in _ (by omega)
def lvT (Wd : List UInt8) (ed sl : Nat) : List ByteArray :=
  [str (wordL Wd), str (wordL Wd) ++ ⟨#[126]⟩ ++ str (dgN ed), str (quoteL Wd) ++ ⟨#[126]⟩ ++ str (dgN sl), ⟨#[91]⟩ ++ str (wordL Wd) ++ ⟨#[32, 84, 79, 32, 42, 125]⟩, str (wordL Wd) ++ ⟨#[42]⟩, ⟨#[42]⟩]
def lvG (Wd : List UInt8) (ed sl : Nat) : List (List UInt8 → Nd) :=
  [fun f => ndLeaf 1 f Wd 0, fun f => ndLeaf 5 f Wd ed, fun f => ndLeaf 2 f Wd sl, fun f => .mk 6 f [] 0 ⟨false, true, Wd⟩ ⟨true, false, []⟩ [] [], fun f => ndLeaf 3 f Wd 0, fun f => ndLeaf 7 f [] 0]
def sl0 : Sl := ⟨none, 0, 0⟩
def lvN (F Wd : List UInt8) (ed sl : Nat) : List NV :=
  [⟨1, F, Wd, 0, bd0, bd0, sl0, sl0⟩, ⟨5, F, Wd, ed, bd0, bd0, sl0, sl0⟩, ⟨2, F, Wd, sl, bd0, bd0, sl0, sl0⟩, ⟨6, F, [], 0, ⟨false, true, Wd⟩, ⟨true, false, []⟩, sl0, sl0⟩, ⟨3, F, Wd, 0, bd0, bd0, sl0, sl0⟩, ⟨7, F, [], 0, bd0, bd0, sl0, sl0⟩]
theorem nd_nil (w : World) (G : Nat → Prop) (k n : Int) (f t : List UInt8) (lo hi : Bd) : NdR w G ⟨k, f, t, n, lo, hi, sl0, sl0⟩ (.mk k f t n lo hi [] []) := .mk (RdF.nil _ _ _) (RdF.nil _ _ _) rfl (fun i x t h => by simp at h)
theorem lv_rd (w : World) (F Wd : List UInt8) (ed sl : Nat) (i : Nat) (x : NV) (g : List UInt8 → Nd) (hx : (lvN F Wd ed sl)[i]? = some x) (hg : (lvG Wd ed sl)[i]? = some g) : NdR w (fun _ => True) x (g F) := by
  match i with
  | 0 => cases hx; cases hg; exact nd_nil _ _ _ _ _ _ _ _
  | 1 => cases hx; cases hg; exact nd_nil _ _ _ _ _ _ _ _
  | 2 => cases hx; cases hg; exact nd_nil _ _ _ _ _ _ _ _
  | 3 => cases hx; cases hg; exact nd_nil _ _ _ _ _ _ _ _
  | 4 => cases hx; cases hg; exact nd_nil _ _ _ _ _ _ _ _
  | 5 => cases hx; cases hg; exact nd_nil _ _ _ _ _ _ _ _
  | i + 6 => simp [lvN] at hx
theorem lv_field (F Wd : List UInt8) (ed sl : Nat) (i : Nat) (g : List UInt8 → Nd) (hg : (lvG Wd ed sl)[i]? = some g) : ∃ kd t n lo hi, ∀ f, g f = .mk kd f t n lo hi [] [] := by
  match i with
  | 0 => cases hg; exact ⟨_, _, _, _, _, fun f => rfl⟩
  | 1 => cases hg; exact ⟨_, _, _, _, _, fun f => rfl⟩
  | 2 => cases hg; exact ⟨_, _, _, _, _, fun f => rfl⟩
  | 3 => cases hg; exact ⟨_, _, _, _, _, fun f => rfl⟩
  | 4 => cases hg; exact ⟨_, _, _, _, _, fun f => rfl⟩
  | 5 => cases hg; exact ⟨_, _, _, _, _, fun f => rfl⟩
  | i + 6 => simp [lvG] at hg
theorem lv_leaf {Wd : List UInt8} (h0 : Wd ≠ []) {ed sl : Nat} (he : ed = 1 ∨ ed = 2) (hs : sl < 1024) (i : Nat) (s : ByteArray) (g : List UInt8 → Nd) (hx : (lvT Wd ed sl)[i]? = some s) (hg : (lvG Wd ed sl)[i]? = some g) : LeafT s.data.toList g := by
  match i with
  | 0 => cases hx; cases hg; exact leafT_word h0
  | 1 => cases hx; cases hg; have := leafT_edits h0 he; simpa [ba_append, str_data] using this
  | 2 => cases hx; cases hg; have := leafT_slop Wd hs; simpa [ba_append, str_data] using this
  | 3 => cases hx; cases hg; have := leafT_span h0; simpa [ba_append, str_data] using this
  | 4 => cases hx; cases hg; have := leafT_prefix h0; simpa [ba_append, str_data] using this
  | 5 => cases hx; cases hg; exact leafT_has
  | i + 6 => simp [lvT] at hx
theorem word_len (l : List UInt8) : (wordL l).length ≤ 2 * l.length + 1 := by
  unfold wordL
  split
  · simp only [List.length_cons]; omega
  · have := lettersTo_length true l l.length
    unfold lettersL; omega
theorem quote_len (l : List UInt8) : (quoteL l).length ≤ 2 * l.length + 2 := by
  have := quoteTo_length l l.length
  unfold quoteL
  rw [List.length_append, List.length_singleton]; omega
theorem dg_len (n : Nat) : (dgN n).length ≤ 5 := by
  have h : ∀ (k n : Nat) (s : List UInt8), (dgL k n s).length ≤ k + s.length := by
    intro k
    induction k with
    | zero => intro n s; simp [dgL]
    | succ k ih =>
      intro n s
      rw [dgL]
      split
      · have := ih (n / 10) (UInt8.ofNat (48 + n / 10 % 10) :: s)
        rw [List.length_cons] at this; omega
      · omega
  have := h 4 n [UInt8.ofNat (48 + n % 10)]
  unfold dgN
  simpa using this
theorem lv_size {Wd : List UInt8} (hw : Wd.length ≤ 1048576) {ed sl : Nat} (i : Nat) (s : ByteArray) (hx : (lvT Wd ed sl)[i]? = some s) : s.size ≤ 2200000 := by
  have h1 := word_len Wd; have h2 := quote_len Wd; have h3 := dg_len ed; have h4 := dg_len sl
  have b1 : (⟨#[126]⟩ : ByteArray).size = 1 := rfl
  have b2 : (⟨#[91]⟩ : ByteArray).size = 1 := rfl
  have b3 : (⟨#[32, 84, 79, 32, 42, 125]⟩ : ByteArray).size = 6 := rfl
  have b4 : (⟨#[42]⟩ : ByteArray).size = 1 := rfl
  match i with
  | 0 => cases hx; rw [str_size]; omega
  | 1 => cases hx; simp only [ba_append_size, str_size]; omega
  | 2 => cases hx; simp only [ba_append_size, str_size]; omega
  | 3 => cases hx; simp only [ba_append_size, str_size]; omega
  | 4 => cases hx; simp only [ba_append_size, str_size]; omega
  | 5 => cases hx; omega
  | i + 6 => simp [lvT] at hx
theorem lv_blk {w : World} {b : Nat} {arr : Array Value} {F Wd : List UInt8} {ed sl : Nat} (h : Blk w b 36 arr) (e : arr = (ndS.cells (lvN F Wd ed sl)).toArray) : RdF ndS w (fun _ => True) ⟨some ⟨b, 0, none⟩, 6, 6⟩ (lvN F Wd ed sl) := by
  subst e
  refine ⟨rfl, Nat.le_refl _, (by unfold maxLen; show 6 ≤ _; omega), fun _ => ⟨_, rfl, trivial, fun j u hu => ?_⟩, fun h => by cases h⟩
  have e : (⟨b, 0, none⟩ : Addr).add j = ⟨b, j, none⟩ := by unfold Addr.add; split <;> simp_all
  rw [e, h.cell j]
  simpa using hu
theorem lv_txt {w : World} {b : Nat} {Wd : List UInt8} {ed sl : Nat} (h : Blk w b 9 ((lvT Wd ed sl).map Value.string).toArray) {i : Nat} {s : ByteArray} (hs : (lvT Wd ed sl)[i]? = some s) : w.cell? ⟨b, i, none⟩ = some (.string s) := by
  rw [h.cell i]
  simp [hs]
theorem lv_get (Wd F : List UInt8) (ed sl : Nat) {i : Nat} (h : i < 6) : ∃ s g x, (lvT Wd ed sl)[i]? = some s ∧ (lvG Wd ed sl)[i]? = some g ∧ (lvN F Wd ed sl)[i]? = some x :=
  ⟨_, _, _, List.getElem?_eq_getElem (show i < (lvT Wd ed sl).length from h), List.getElem?_eq_getElem (show i < (lvG Wd ed sl).length from h), List.getElem?_eq_getElem (show i < (lvN F Wd ed sl).length from h)⟩
theorem lv_s1 (F : List UInt8) (s : ByteArray) : (str (wordL F) ++ ⟨#[58]⟩ ++ s : ByteArray).data.toList = wordL F ++ 58 :: s.data.toList := by simp [str_data]
theorem lv_s2 (F : List UInt8) (s : ByteArray) : (str (wordL F) ++ ⟨#[58, 40, 122, 32]⟩ ++ s ++ ⟨#[32, 111, 116, 104, 101, 114, 58]⟩ ++ s ++ ⟨#[41]⟩ : ByteArray).data.toList = wordL F ++ 58 :: (40 :: (([122] ++ 32 :: (s.data.toList ++ 32 :: ([111, 116, 104, 101, 114] ++ 58 :: s.data.toList))) ++ [41])) := by simp [str_data]
theorem lv_z1 (F : List UInt8) (s : ByteArray) (h1 : (str (wordL F)).size ≤ 2200000) (h2 : s.size ≤ 2200000) : (str (wordL F) ++ ⟨#[58]⟩ ++ s : ByteArray).size ≤ 10000000 := by
  have b : (⟨#[58]⟩ : ByteArray).size = 1 := rfl
  simp only [ba_append_size]; omega
theorem lv_z2 (F : List UInt8) (s : ByteArray) (h1 : (str (wordL F)).size ≤ 2200000) (h2 : s.size ≤ 2200000) : (str (wordL F) ++ ⟨#[58, 40, 122, 32]⟩ ++ s ++ ⟨#[32, 111, 116, 104, 101, 114, 58]⟩ ++ s ++ ⟨#[41]⟩ : ByteArray).size ≤ 10000000 := by
  have b1 : (⟨#[58, 40, 122, 32]⟩ : ByteArray).size = 4 := rfl
  have b2 : (⟨#[32, 111, 116, 104, 101, 114, 58]⟩ : ByteArray).size = 7 := rfl
  have b3 : (⟨#[41]⟩ : ByteArray).size = 1 := rfl
  simp only [ba_append_size]; omega
theorem lv_bel {z : Nat} {w w' : World} {y : NV} (h : Below z w w') : Below z w (set12 w' z y) := by
  unfold Go.Proofs.YtcomdkejpaoneaaDoor.set12
  exact (((((((((((h.setCell (p := ⟨z, 0, none⟩) (Nat.le_refl _) _).setCell (p := ⟨z, 1, none⟩) (Nat.le_refl _) _).setCell (p := ⟨z, 2, none⟩) (Nat.le_refl _) _).setCell (p := ⟨z, 3, none⟩) (Nat.le_refl _) _).setCell (p := ⟨z, 4, none⟩) (Nat.le_refl _) _).setCell (p := ⟨z, 5, none⟩) (Nat.le_refl _) _).setCell (p := ⟨z, 6, none⟩) (Nat.le_refl _) _).setCell (p := ⟨z, 7, none⟩) (Nat.le_refl _) _).setCell (p := ⟨z, 8, none⟩) (Nat.le_refl _) _).setCell (p := ⟨z, 9, none⟩) (Nat.le_refl _) _).setCell (p := ⟨z, 10, none⟩) (Nat.le_refl _) _).setCell (p := ⟨z, 11, none⟩) (Nat.le_refl _) _
theorem set12_cell {z : Nat} {w : World} {y : NV} {p : Addr} (h : p.block ≠ z) : (set12 w z y).cell? p = w.cell? p := World.cell?_of_block (set12_block h)
theorem len_three {α : Type} {l : List α} (h : l.length = 3) : ∃ a b c, l = [a, b, c] := by
  match l, h with
  | [a, b, c], _ => exact ⟨a, b, c, rfl⟩
def LvRel (w6 : World) (iv : Value) (wr : World) : Prop := ∃ i : Nat, i ≤ 6 ∧ iv = .int .i64 (i : Int) ∧ Below w6.heap.size w6 wr
end Go.Proofs.YtcomdkejpaoneaaDoor
end
