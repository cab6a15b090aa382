/- Merged for a claim: Og Oh Be Of Oz -/
import Derived.Test.YtmdpfikalekmlaaGreatDoorKo9
import Derived.Test.YtmdpfikalekmlaaGreatDoorKo2
import Derived.Deep.QuietTactic
import Derived.Test.YtmdpfikalekmlaaGreatDoorKo8
import Derived.Test.YtmdpfikalekmlaaGreatDoorKo5
import Derived.Test.YtmdpfikalekmlaaGreatDoorKo7
import Derived.Test.YtmdpfikalekmlaaGreatDoorEv
import Derived.Test.YtmdpfikalekmlaaGreatDoorKo6
import Derived.Test.YtmdpfikalekmlaaGreatDoorRq
import Derived.Test.YtmdpfikalekmlaaGreatDoorKo1
section
/- Layer 20: ownProg: the lists of both programs, in any order. -/
namespace Go.Proofs.YtmdpfikalekmlaaGreatDoor
open Go.RowKit
set_option maxRecDepth 100000
set_option maxHeartbeats 4000000
set_option linter.unusedSimpArgs false
set_option linter.unusedVariables false

def opgo0 : Oper := { dst := some 151, op := Go.Op.load 28 (Go.Operand.tmp 11), type := 28, pos := "law.go:336", after := #[], guard := none }
def opgo1 : Oper := { dst := some 152, op := Go.Op.call { callee := Go.Callee.value (Go.Operand.func 37), args := #[Go.Operand.tmp 151], argTypes := #[28] }, type := 90, pos := "law.go:336", after := #[{ on := 0, ground := Go.Ground.data }], guard := none }
def opgo2 : Oper := { dst := some 153, op := Go.Op.load 28 (Go.Operand.tmp 13), type := 28, pos := "law.go:336", after := #[], guard := none }
def opgo3 : Oper := { dst := some 154, op := Go.Op.call { callee := Go.Callee.value (Go.Operand.func 37), args := #[Go.Operand.tmp 153], argTypes := #[28] }, type := 90, pos := "law.go:336", after := #[{ on := 2, ground := Go.Ground.data }, { on := 1, ground := Go.Ground.chain }], guard := none }
def opgo4 : Oper := { dst := some 155, op := Go.Op.call { callee := Go.Callee.builtin Go.Builtin.append, args := #[Go.Operand.tmp 152, Go.Operand.tmp 154], argTypes := #[90, 90] }, type := 90, pos := "law.go:336", after := #[{ on := 1, ground := Go.Ground.data }, { on := 3, ground := Go.Ground.data }, { on := 3, ground := Go.Ground.chain }], guard := none }
def opgo5 : Oper := { dst := some 156, op := Go.Op.call { callee := Go.Callee.value (Go.Operand.func 36), args := #[Go.Operand.tmp 155], argTypes := #[90] }, type := 4, pos := "law.go:336", after := #[{ on := 4, ground := Go.Ground.data }, { on := 4, ground := Go.Ground.chain }], guard := none }
def opgo6 : Oper := { dst := some 157, op := Go.Op.unOp Go.UnOp.not 4 (Go.Operand.tmp 156), type := 4, pos := "law.go:336", after := #[{ on := 5, ground := Go.Ground.data }], guard := none }
def opgo7 : Oper := { dst := some 158, op := Go.Op.move (Go.Operand.tmp 157), type := 4, pos := "law.go:336", after := #[{ on := 6, ground := Go.Ground.data }, { on := 5, ground := Go.Ground.chain }], guard := none }
def opgo8 : Oper := { dst := some 159, op := Go.Op.fieldAddr 28 (Go.Operand.tmp 11) 5, type := 0, pos := "law.go:336", after := #[{ on := 7, ground := Go.Ground.guard }], guard := some (7, false) }
def opgo9 : Oper := { dst := some 160, op := Go.Op.load 26 (Go.Operand.tmp 159), type := 26, pos := "law.go:336", after := #[{ on := 8, ground := Go.Ground.data }, { on := 7, ground := Go.Ground.guard }], guard := some (7, false) }
def opgo10 : Oper := { dst := some 161, op := Go.Op.fieldAddr 28 (Go.Operand.tmp 13) 5, type := 0, pos := "law.go:336", after := #[{ on := 7, ground := Go.Ground.guard }], guard := some (7, false) }
def opgo11 : Oper := { dst := some 162, op := Go.Op.load 26 (Go.Operand.tmp 161), type := 26, pos := "law.go:336", after := #[{ on := 10, ground := Go.Ground.data }, { on := 7, ground := Go.Ground.guard }], guard := some (7, false) }
def opgo12 : Oper := { dst := some 163, op := Go.Op.buildSlice 48 2 #[(0, Go.Operand.tmp 160), (1, Go.Operand.tmp 162)], type := 48, pos := "law.go:336", after := #[{ on := 9, ground := Go.Ground.data }, { on := 11, ground := Go.Ground.data }, { on := 7, ground := Go.Ground.guard }], guard := some (7, false) }
def opgo13 : Oper := { dst := some 164, op := Go.Op.call { callee := Go.Callee.value (Go.Operand.func 13), args := #[Go.Operand.tmp 163], argTypes := #[48] }, type := 4, pos := "law.go:336", after := #[{ on := 12, ground := Go.Ground.data }, { on := 7, ground := Go.Ground.chain }, { on := 7, ground := Go.Ground.guard }], guard := some (7, false) }
def opgo14 : Oper := { dst := some 165, op := Go.Op.unOp Go.UnOp.not 4 (Go.Operand.tmp 164), type := 4, pos := "law.go:336", after := #[{ on := 13, ground := Go.Ground.data }, { on := 7, ground := Go.Ground.guard }], guard := some (7, false) }
def opgo15 : Oper := { dst := some 166, op := Go.Op.pick (Go.Operand.tmp 158) (Go.Operand.const (Go.Value.bool true)) (Go.Operand.tmp 165), type := 4, pos := "law.go:336", after := #[{ on := 7, ground := Go.Ground.data }, { on := 14, ground := Go.Ground.data }], guard := none }
def opgr : Array Oper := #[opgo0, opgo1, opgo2, opgo3, opgo4, opgo5, opgo6, opgo7, opgo8, opgo9, opgo10, opgo11, opgo12, opgo13, opgo14, opgo15]
theorem opg_o0 : opgr[0]? = some opgo0 := rfl
theorem opg_o1 : opgr[1]? = some opgo1 := rfl
theorem opg_o2 : opgr[2]? = some opgo2 := rfl
theorem opg_o3 : opgr[3]? = some opgo3 := rfl
theorem opg_o4 : opgr[4]? = some opgo4 := rfl
theorem opg_o5 : opgr[5]? = some opgo5 := rfl
theorem opg_o6 : opgr[6]? = some opgo6 := rfl
theorem opg_o7 : opgr[7]? = some opgo7 := rfl
theorem opg_o8 : opgr[8]? = some opgo8 := rfl
theorem opg_o9 : opgr[9]? = some opgo9 := rfl
theorem opg_o10 : opgr[10]? = some opgo10 := rfl
theorem opg_o11 : opgr[11]? = some opgo11 := rfl
theorem opg_o12 : opgr[12]? = some opgo12 := rfl
theorem opg_o13 : opgr[13]? = some opgo13 := rfl
theorem opg_o14 : opgr[14]? = some opgo14 := rfl
theorem opg_o15 : opgr[15]? = some opgo15 := rfl
def opuds : List Nat := [151, 152, 153, 154]
theorem opu_edge : (List.range 4).all (fun i => ((opgr[i]?).map fun o => o.after.all fun e => decide (e.on < i)).getD true) = true := by kernel_rfl
theorem opu_dst (i d : Nat) (h0 : 0 ≤ i) (hi : i < 4) (h : dstAt opgr i = some d) : d ∈ opuds := by
  have h1 := List.all_eq_true.1 (show (List.range 4).all (fun i => decide (i < 0) || match dstAt opgr i with | some d => decide (d ∈ opuds) | none => true) = true by kernel_rfl) i (List.mem_range.2 hi)
  rw [h] at h1
  simp only [Bool.or_eq_true, decide_eq_true_eq] at h1
  rcases h1 with h1 | h1
  · omega
  · exact h1
theorem opu_one (i j d : Nat) (h0 : 0 ≤ i) (hi : i < 4) (hj : j < opgr.size) (h : dstAt opgr i = some d) (k : dstAt opgr j = some d) : i = j := by
  have h1 := List.all_eq_true.1 (show (List.range 4).all (fun i => (List.range opgr.size).all fun j => match dstAt opgr i, dstAt opgr j with | some d, some e => decide (d = e → i = j) | _, _ => true) = true by kernel_rfl) i (List.mem_range.2 hi)
  have h2 := List.all_eq_true.1 h1 j (List.mem_range.2 hj)
  rw [h, k] at h2
  simpa using h2
theorem opu_cl0 (i j : Nat) (hi : i < 0) (h : Region.waitsFor .any opgr i j = true) : j < 0 := by
  have h1 := List.all_eq_true.1 (show (List.range 0).all (fun i => ((opgr[i]?).map fun o => o.after.all fun e => decide (e.on < 0)).getD true) = true by kernel_rfl) i (List.mem_range.2 hi)
  obtain ⟨o, ho, e, he, hb, hon⟩ := Region.waitsFor_spec h
  rw [ho] at h1
  simp only [Option.map_some, Option.getD_some] at h1
  have h2 := Array.all_eq_true_iff_forall_mem.1 h1 e he
  rw [← hon]; exact of_decide_eq_true h2
def opuG (y z : PgV) (p q : Pg) (ba bb E : Nat) : Nat → Value → (Nat → Value) → (Nat → Nat → Prop) → World → Prop
  | 0, v, f, t, w => v = .agg #[y.av, y.cv, y.nv, .bool p.all, y.dv, y.kv]
  | 1, v, f, t, w => OwnL goS w E v (pgSl y)
  | 2, v, f, t, w => v = .agg #[z.av, z.cv, z.nv, .bool q.all, z.dv, z.kv]
  | 3, v, f, t, w => OwnL goS w E v (pgSl z)
  | _, _, _, _, _ => True
theorem opu_st (y z : PgV) (p q : Pg) (ba bb E : Nat) (i : Nat) (v : Value) (f : Nat → Value) (t : Nat → Nat → Prop) (w w' : World) (h : opuG y z p q ba bb E i v f t w) (hb : Below w.heap.size w w') : opuG y z p q ba bb E i v f t w' :=
  match i, h with
  | 0, h => h
  | 1, h => h.below hb
  | 2, h => h
  | 3, h => h.below hb
  | _ + 4, _ => trivial
section
variable {Q : Exit → Act → World → Prop} {a0 : Act} {w0 : World}
theorem opu_s0 (y z : PgV) (p q : Pg) (ba bb E : Nat) (h11 : a0.tmps.getD 11 undef = .pointer (some ⟨ba, 0, none⟩)) (h13 : a0.tmps.getD 13 undef = .pointer (some ⟨bb, 0, none⟩)) (hya : Blk w0 ba 28 #[y.av, y.cv, y.nv, .bool p.all, y.dv, y.kv]) (hzb : Blk w0 bb 28 #[z.av, z.cv, z.nv, .bool q.all, z.dv, z.kv]) (hy : PgR w0 E y p) (hz : PgR w0 E z q) (hyl : y.nl.length ≤ 1048576) (hzl : z.nl.length ≤ 1048576) (hE : E = w0.heap.size) {listed : Array Bool} {T : Nat → Nat → Prop} {a : Act} {w : World} {K : Act → World → Prop} (hI : GrJ .any opgr 0 4 (opuG y z p q ba bb E) a0 w0 listed T a w) (hw : ∀ j, Region.waitsFor .any opgr 0 j = true → listed.getD j false = true) (hcl : ∀ i j, 0 ≤ i → i < 4 → listed.getD i false = true → Region.waitsFor .any opgr i j = true → listed.getD j false = true)
    (hK : ∀ v w', (opgo0.dst = none → v = undef) → Below w.heap.size w w' → opuG y z p q ba bb E 0 v (maskV .any opgr 0 (valOf opgr a)) (maskT .any opgr 0 (updT T 0 w.heap.size w'.heap.size)) w' → K (a.put opgo0.dst v) w') : wpOp Tryz.prog opgr Q 0 K a w := by
  refine wpOp_step opg_o0 fun K2 hK2 => ?_
  unfold opgo0
  have hbw : Below w0.heap.size w0 w := hI.bel
  have hEw : E ≤ w.heap.size := by rw [hE]; exact hbw.size
  have e11 := (hI.slot 11 (by kernel_rfl)).trans h11
  have hb := hya.belowW hbw
  have c0 := hb.cell 0; have c1 := hb.cell 1; have c2 := hb.cell 2; have c3 := hb.cell 3; have c4 := hb.cell 4; have c5 := hb.cell 5
  simp only [List.getElem?_toArray, List.getElem?_cons_zero, List.getElem?_cons_succ] at c0 c1 c2 c3 c4 c5
  have HK := Lib.hid (hK2 _ _ (hK (.agg #[y.av, y.cv, y.nv, .bool p.all, y.dv, y.kv]) w (fun h => by cases h) (Below.refl _ _) rfl))
  clear hK hK2 hI hw hcl hya hzb hy hz hb
  go_simp
  exact HK.out
theorem opu_s1 (y z : PgV) (p q : Pg) (ba bb E : Nat) (h11 : a0.tmps.getD 11 undef = .pointer (some ⟨ba, 0, none⟩)) (h13 : a0.tmps.getD 13 undef = .pointer (some ⟨bb, 0, none⟩)) (hya : Blk w0 ba 28 #[y.av, y.cv, y.nv, .bool p.all, y.dv, y.kv]) (hzb : Blk w0 bb 28 #[z.av, z.cv, z.nv, .bool q.all, z.dv, z.kv]) (hy : PgR w0 E y p) (hz : PgR w0 E z q) (hyl : y.nl.length ≤ 1048576) (hzl : z.nl.length ≤ 1048576) (hE : E = w0.heap.size) {listed : Array Bool} {T : Nat → Nat → Prop} {a : Act} {w : World} {K : Act → World → Prop} (hI : GrJ .any opgr 0 4 (opuG y z p q ba bb E) a0 w0 listed T a w) (hw : ∀ j, Region.waitsFor .any opgr 1 j = true → listed.getD j false = true) (hcl : ∀ i j, 0 ≤ i → i < 4 → listed.getD i false = true → Region.waitsFor .any opgr i j = true → listed.getD j false = true)
    (hK : ∀ v w', (opgo1.dst = none → v = undef) → Below w.heap.size w w' → opuG y z p q ba bb E 1 v (maskV .any opgr 1 (valOf opgr a)) (maskT .any opgr 1 (updT T 1 w.heap.size w'.heap.size)) w' → K (a.put opgo1.dst v) w') : wpOp Tryz.prog opgr Q 1 K a w := by
  have hbw : Below w0.heap.size w0 w := hI.bel
  have hEw : E ≤ w.heap.size := by rw [hE]; exact hbw.size
  have e151 : a.tmps.getD 151 undef = .agg #[y.av, y.cv, y.nv, .bool p.all, y.dv, y.kv] := hI.made 0 (Nat.zero_le _) (by decide) (hw 0 (by kernel_rfl))
  have hc := pints_any y p w ((hy.belowW (by rw [hE]; exact Nat.le_refl _) hbw).more hEw) hyl
  refine wpOp_step opg_o1 fun K2 hK2 => ?_
  unfold opgo1
  unfold PgV.val at hc
  have HK := Lib.hid (fun v' w' (h1 : OwnL goS w' w.heap.size v' (pgSl y)) (h2 : Below w.heap.size w w') => hK2 _ _ (hK v' w' (fun h => by cases h) h2 (h1.more hEw)))
  have HC := Lib.hid hc
  clear hK hK2 hI hw hcl hya hzb hy hz hc
  go_simp
  go_at_call 37
  refine HC.out.mono ?_
  rintro e w' ⟨v', rfl, h1, h2⟩
  exact HK.out v' w' h1 h2
theorem opu_s2 (y z : PgV) (p q : Pg) (ba bb E : Nat) (h11 : a0.tmps.getD 11 undef = .pointer (some ⟨ba, 0, none⟩)) (h13 : a0.tmps.getD 13 undef = .pointer (some ⟨bb, 0, none⟩)) (hya : Blk w0 ba 28 #[y.av, y.cv, y.nv, .bool p.all, y.dv, y.kv]) (hzb : Blk w0 bb 28 #[z.av, z.cv, z.nv, .bool q.all, z.dv, z.kv]) (hy : PgR w0 E y p) (hz : PgR w0 E z q) (hyl : y.nl.length ≤ 1048576) (hzl : z.nl.length ≤ 1048576) (hE : E = w0.heap.size) {listed : Array Bool} {T : Nat → Nat → Prop} {a : Act} {w : World} {K : Act → World → Prop} (hI : GrJ .any opgr 0 4 (opuG y z p q ba bb E) a0 w0 listed T a w) (hw : ∀ j, Region.waitsFor .any opgr 2 j = true → listed.getD j false = true) (hcl : ∀ i j, 0 ≤ i → i < 4 → listed.getD i false = true → Region.waitsFor .any opgr i j = true → listed.getD j false = true)
    (hK : ∀ v w', (opgo2.dst = none → v = undef) → Below w.heap.size w w' → opuG y z p q ba bb E 2 v (maskV .any opgr 2 (valOf opgr a)) (maskT .any opgr 2 (updT T 2 w.heap.size w'.heap.size)) w' → K (a.put opgo2.dst v) w') : wpOp Tryz.prog opgr Q 2 K a w := by
  refine wpOp_step opg_o2 fun K2 hK2 => ?_
  unfold opgo2
  have hbw : Below w0.heap.size w0 w := hI.bel
  have hEw : E ≤ w.heap.size := by rw [hE]; exact hbw.size
  have e13 := (hI.slot 13 (by kernel_rfl)).trans h13
  have hb := hzb.belowW hbw
  have c0 := hb.cell 0; have c1 := hb.cell 1; have c2 := hb.cell 2; have c3 := hb.cell 3; have c4 := hb.cell 4; have c5 := hb.cell 5
  simp only [List.getElem?_toArray, List.getElem?_cons_zero, List.getElem?_cons_succ] at c0 c1 c2 c3 c4 c5
  have HK := Lib.hid (hK2 _ _ (hK (.agg #[z.av, z.cv, z.nv, .bool q.all, z.dv, z.kv]) w (fun h => by cases h) (Below.refl _ _) rfl))
  clear hK hK2 hI hw hcl hya hzb hy hz hb
  go_simp
  exact HK.out
theorem opu_s3 (y z : PgV) (p q : Pg) (ba bb E : Nat) (h11 : a0.tmps.getD 11 undef = .pointer (some ⟨ba, 0, none⟩)) (h13 : a0.tmps.getD 13 undef = .pointer (some ⟨bb, 0, none⟩)) (hya : Blk w0 ba 28 #[y.av, y.cv, y.nv, .bool p.all, y.dv, y.kv]) (hzb : Blk w0 bb 28 #[z.av, z.cv, z.nv, .bool q.all, z.dv, z.kv]) (hy : PgR w0 E y p) (hz : PgR w0 E z q) (hyl : y.nl.length ≤ 1048576) (hzl : z.nl.length ≤ 1048576) (hE : E = w0.heap.size) {listed : Array Bool} {T : Nat → Nat → Prop} {a : Act} {w : World} {K : Act → World → Prop} (hI : GrJ .any opgr 0 4 (opuG y z p q ba bb E) a0 w0 listed T a w) (hw : ∀ j, Region.waitsFor .any opgr 3 j = true → listed.getD j false = true) (hcl : ∀ i j, 0 ≤ i → i < 4 → listed.getD i false = true → Region.waitsFor .any opgr i j = true → listed.getD j false = true)
    (hK : ∀ v w', (opgo3.dst = none → v = undef) → Below w.heap.size w w' → opuG y z p q ba bb E 3 v (maskV .any opgr 3 (valOf opgr a)) (maskT .any opgr 3 (updT T 3 w.heap.size w'.heap.size)) w' → K (a.put opgo3.dst v) w') : wpOp Tryz.prog opgr Q 3 K a w := by
  have hbw : Below w0.heap.size w0 w := hI.bel
  have hEw : E ≤ w.heap.size := by rw [hE]; exact hbw.size
  have e153 : a.tmps.getD 153 undef = .agg #[z.av, z.cv, z.nv, .bool q.all, z.dv, z.kv] := hI.made 2 (Nat.zero_le _) (by decide) (hw 2 (by kernel_rfl))
  have hc := pints_any z q w ((hz.belowW (by rw [hE]; exact Nat.le_refl _) hbw).more hEw) hzl
  refine wpOp_step opg_o3 fun K2 hK2 => ?_
  unfold opgo3
  unfold PgV.val at hc
  have HK := Lib.hid (fun v' w' (h1 : OwnL goS w' w.heap.size v' (pgSl z)) (h2 : Below w.heap.size w w') => hK2 _ _ (hK v' w' (fun h => by cases h) h2 (h1.more hEw)))
  have HC := Lib.hid hc
  clear hK hK2 hI hw hcl hya hzb hy hz hc
  go_simp
  go_at_call 37
  refine HC.out.mono ?_
  rintro e w' ⟨v', rfl, h1, h2⟩
  exact HK.out v' w' h1 h2
theorem opu_any (y z : PgV) (p q : Pg) (ba bb E : Nat) (h11 : a0.tmps.getD 11 undef = .pointer (some ⟨ba, 0, none⟩)) (h13 : a0.tmps.getD 13 undef = .pointer (some ⟨bb, 0, none⟩)) (hya : Blk w0 ba 28 #[y.av, y.cv, y.nv, .bool p.all, y.dv, y.kv]) (hzb : Blk w0 bb 28 #[z.av, z.cv, z.nv, .bool q.all, z.dv, z.kv]) (hy : PgR w0 E y p) (hz : PgR w0 E z q) (hyl : y.nl.length ≤ 1048576) (hzl : z.nl.length ≤ 1048576) (hE : E = w0.heap.size) (hsz : a0.tmps.size = 180)
    (hQ : ∀ (f : Nat → Value) (wx : World), OwnL goS wx E (f 152) (pgSl y) → OwnL goS wx E (f 154) (pgSl z) → Below w0.heap.size w0 wx → (putAll a0 opuds f).tmps.getD 152 undef = f 152 → (putAll a0 opuds f).tmps.getD 154 undef = f 154 → wpAny Tryz.prog .any opgr Q 12 (upTo 16 4) (putAll a0 opuds f) wx) : wpAny Tryz.prog .any opgr Q 16 (upTo 16 0) a0 w0 := by
  refine wpAny_growF (G := opuG y z p q ba bb E) 0 4 12 (by decide) rfl (opu_st y z p q ba bb E) (fun i d h0 hi h => ?_) opu_one opu_cl0 opu_edge ?_ ?_ ?_
  · rw [hsz]
    have := opu_dst i d h0 hi h
    exact List.all_eq_true.1 (show opuds.all (fun d => decide (d < 180)) = true by decide) d this |> of_decide_eq_true
  · exact Or.inr ⟨by kernel_rfl, by kernel_rfl⟩
  · intro listed T i o a w h0 hi hoo hI hw hcl K hK
    match i, h0, hi, hoo, hw, hK with
    | 0, _, _, hoo, hw, hK => cases hoo; exact opu_s0 y z p q ba bb E h11 h13 hya hzb hy hz hyl hzl hE hI hw hcl hK
    | 1, _, _, hoo, hw, hK => cases hoo; exact opu_s1 y z p q ba bb E h11 h13 hya hzb hy hz hyl hzl hE hI hw hcl hK
    | 2, _, _, hoo, hw, hK => cases hoo; exact opu_s2 y z p q ba bb E h11 h13 hya hzb hy hz hyl hzl hE hI hw hcl hK
    | 3, _, _, hoo, hw, hK => cases hoo; exact opu_s3 y z p q ba bb E h11 h13 hya hzb hy hz hyl hzl hE hI hw hcl hK
    | n + 4, _, hi, _, _, _ => exact absurd hi (by omega)
  · intro listed T a w hall hI
    have hds : a = putAll a0 opuds fun d => a.tmps.getD d undef := hI.lit opuds opu_dst
    have hbw : Below w0.heap.size w0 w := hI.bel
    have g1 : OwnL goS w E (a.tmps.getD 152 undef) (pgSl y) := hI.made 1 (Nat.zero_le _) (by decide) (hall 1 (by decide))
    have g3 : OwnL goS w E (a.tmps.getD 154 undef) (pgSl z) := hI.made 3 (Nat.zero_le _) (by decide) (hall 3 (by decide))
    have h := hQ (fun d => a.tmps.getD d undef) w g1 g3 hbw (by rw [← hds]) (by rw [← hds])
    rw [← hds] at h
    exact h
end

section
variable {Q : Exit → Act → World → Prop} {a : Act} {w : World}
theorem opm_any (y z : PgV) (E B : Nat) (v1 v3 : Value) (h152 : a.tmps.getD 152 undef = v1) (h154 : a.tmps.getD 154 undef = v3) (ho1 : OwnL goS w E v1 (pgSl y)) (ho3 : OwnL goS w E v3 (pgSl z)) (hE : E ≤ w.heap.size) (hl : (pgSl y).length + (pgSl z).length ≤ 970000000000) (hsz : a.tmps.size = 180)
    (hown : ∀ v4 w4, OwnL goS w4 E v4 (pgSl y ++ pgSl z) → Below E w w4 → Calls Tryz.prog 36 #[v4] w4 fun e w' => e = .returned (.bool true) ∧ Below B w4 w' ∧ KTy moS.tE w4 w')
    (hQ : ∀ v4 w4 w5, Below E w w4 → Below B w4 w5 → KTy moS.tE w4 w5 → wpAny Tryz.prog .any opgr Q 8 (upTo 16 8) ((((a.put (some 155) v4).put (some 156) (.bool true)).put (some 157) (.bool false)).put (some 158) (.bool false)) w5) : wpAny Tryz.prog .any opgr Q 12 (upTo 16 4) a w := by
  refine wpAny_one (k := 4) (f := 11) (ops := opgr) (by kernel_rfl) (by decide) ?_
  refine wpOp_of_list opg_o4 ?_
  refine OwnL.appendRd goS_ok ho1 (RdL.of_own ho3) rfl (.tmp 152) (.tmp 154) rfl h152 h154 hE hl fun v4 w4 ho4 hb4 => ?_
  show wpAny Tryz.prog .any opgr Q 11 (upTo 16 5) (a.put (some 155) v4) w4
  have e155 : (a.put (some 155) v4).tmps.getD 155 undef = v4 := put_same (by omega)
  have hs1 : (a.put (some 155) v4).tmps.size = 180 := by unfold Act.put; simp only [Array.size_setIfInBounds]; exact hsz
  have HC := Lib.hid (hown v4 w4 ho4 hb4)
  have HQ := Lib.hid (fun w5 => hQ v4 w4 w5 hb4)
  clear hown hQ ho1 ho3 ho4 hb4 h152 h154 hsz
  generalize a.put (some 155) v4 = a1 at *
  refine wpAny_one (k := 5) (f := 10) (ops := opgr) (by kernel_rfl) (by decide) ?_
  refine wpOp_step opg_o5 fun K2 hK2 => ?_
  have HK2 := Lib.hid (fun w' => hK2 (a1.put (some 156) (.bool true)) w')
  clear hK2
  unfold opgo5
  go_simp
  go_at_call 36
  refine HC.out.mono ?_
  rintro e w5 ⟨rfl, hb5, hk5⟩
  refine HK2.out w5 ?_
  have HQ := Lib.hid (HQ.out w5 hb5 hk5)
  clear HC HK2 hb5 hk5
  have e156 : (a1.put (some 156) (.bool true)).tmps.getD 156 undef = .bool true := put_same (by omega)
  have hs2 : (a1.put (some 156) (.bool true)).tmps.size = 180 := by unfold Act.put; simp only [Array.size_setIfInBounds]; exact hs1
  show wpAny Tryz.prog .any opgr Q 10 (upTo 16 6) (a1.put (some 156) (.bool true)) w5
  generalize a1.put (some 156) (.bool true) = a2 at *
  refine wpAny_one (k := 6) (f := 9) (ops := opgr) (by kernel_rfl) (by decide) ?_
  refine wpOp_step opg_o6 fun K2 hK2 => ?_
  have e157 : (a2.put (some 157) (.bool false)).tmps.getD 157 undef = .bool false := put_same (by omega)
  have HK2 := Lib.hid (hK2 (a2.put (some 157) (.bool false)) w5 (by
    show wpAny Tryz.prog .any opgr Q 9 (upTo 16 7) (a2.put (some 157) (.bool false)) w5
    clear hK2
    generalize a2.put (some 157) (.bool false) = a3 at *
    refine wpAny_one (k := 7) (f := 8) (ops := opgr) (by kernel_rfl) (by decide) ?_
    refine wpOp_step opg_o7 fun K3 hK3 => ?_
    have HK3 := Lib.hid (hK3 (a3.put (some 158) (.bool false)) w5 HQ.out)
    clear hK3 HQ
    unfold opgo7
    go_simp
    exact HK3.out))
  clear hK2 HQ e157
  unfold opgo6
  go_simp
  exact HK2.out
end

theorem lit2_gb (w : World) (s t : SlV) : OwnL MoB.goS (w.alloc (.cells #[.slice s.a s.n s.c, .slice t.a t.n t.c] 26)) w.heap.size (.slice (some ⟨w.heap.size, 0, none⟩) 2 2) [s, t] :=
  World.ownsRow_lit w #[.slice s.a s.n s.c, .slice t.a t.n t.c] 2 (Nat.le_refl _) (by unfold maxLen; omega) rfl
def opvds : List Nat := [159, 160, 161, 162, 163]
theorem opv_edge : (List.range 13).all (fun i => ((opgr[i]?).map fun o => o.after.all fun e => decide (e.on < i)).getD true) = true := by kernel_rfl
theorem opv_dst (i d : Nat) (h0 : 8 ≤ i) (hi : i < 13) (h : dstAt opgr i = some d) : d ∈ opvds := by
  have h1 := List.all_eq_true.1 (show (List.range 13).all (fun i => decide (i < 8) || match dstAt opgr i with | some d => decide (d ∈ opvds) | none => true) = true by kernel_rfl) i (List.mem_range.2 hi)
  rw [h] at h1
  simp only [Bool.or_eq_true, decide_eq_true_eq] at h1
  rcases h1 with h1 | h1
  · omega
  · exact h1
theorem opv_one (i j d : Nat) (h0 : 8 ≤ i) (hi : i < 13) (hj : j < opgr.size) (h : dstAt opgr i = some d) (k : dstAt opgr j = some d) : i = j := by
  have h1 := List.all_eq_true.1 (show (List.range 13).all (fun i => (List.range opgr.size).all fun j => match dstAt opgr i, dstAt opgr j with | some d, some e => decide (d = e → i = j) | _, _ => true) = true by kernel_rfl) i (List.mem_range.2 hi)
  have h2 := List.all_eq_true.1 h1 j (List.mem_range.2 hj)
  rw [h, k] at h2
  simpa using h2
theorem opv_cl0 (i j : Nat) (hi : i < 8) (h : Region.waitsFor .any opgr i j = true) : j < 8 := by
  have h1 := List.all_eq_true.1 (show (List.range 8).all (fun i => ((opgr[i]?).map fun o => o.after.all fun e => decide (e.on < 8)).getD true) = true by kernel_rfl) i (List.mem_range.2 hi)
  obtain ⟨o, ho, e, he, hb, hon⟩ := Region.waitsFor_spec h
  rw [ho] at h1
  simp only [Option.map_some, Option.getD_some] at h1
  have h2 := Array.all_eq_true_iff_forall_mem.1 h1 e he
  rw [← hon]; exact of_decide_eq_true h2
def opvG (y z : PgV) (p q : Pg) (ba bb E : Nat) (ka : Option Addr) (kn kc : Nat) (la : Option Addr) (ln lc : Nat) : Nat → Value → (Nat → Value) → (Nat → Nat → Prop) → World → Prop
  | 8, v, f, t, w => v = .pointer (some ⟨ba, 5, none⟩)
  | 9, v, f, t, w => v = .slice ka kn kc
  | 10, v, f, t, w => v = .pointer (some ⟨bb, 5, none⟩)
  | 11, v, f, t, w => v = .slice la ln lc
  | 12, v, f, t, w => OwnL MoB.goS w E v [⟨ka, kn, kc⟩, ⟨la, ln, lc⟩]
  | _, _, _, _, _ => True
theorem opv_st (y z : PgV) (p q : Pg) (ba bb E : Nat) (ka : Option Addr) (kn kc : Nat) (la : Option Addr) (ln lc : Nat) (i : Nat) (v : Value) (f : Nat → Value) (t : Nat → Nat → Prop) (w w' : World) (h : opvG y z p q ba bb E ka kn kc la ln lc i v f t w) (hb : Below w.heap.size w w') : opvG y z p q ba bb E ka kn kc la ln lc i v f t w' :=
  match i, h with
  | 0, h => trivial
  | 1, h => trivial
  | 2, h => trivial
  | 3, h => trivial
  | 4, h => trivial
  | 5, h => trivial
  | 6, h => trivial
  | 7, h => trivial
  | 8, h => h
  | 9, h => h
  | 10, h => h
  | 11, h => h
  | 12, h => h.below hb
  | _ + 13, _ => trivial
section
variable {Q : Exit → Act → World → Prop} {a0 : Act} {w0 : World}
theorem opv_s8 (y z : PgV) (p q : Pg) (ba bb E : Nat) (ka : Option Addr) (kn kc : Nat) (la : Option Addr) (ln lc : Nat) (h11 : a0.tmps.getD 11 undef = .pointer (some ⟨ba, 0, none⟩)) (h13 : a0.tmps.getD 13 undef = .pointer (some ⟨bb, 0, none⟩)) (h158 : a0.tmps.getD 158 undef = .bool false) (hs0 : a0.tmps.size = 180) (hya : Blk w0 ba 28 #[y.av, y.cv, y.nv, .bool p.all, y.dv, .slice ka kn kc]) (hzb : Blk w0 bb 28 #[z.av, z.cv, z.nv, .bool q.all, z.dv, .slice la ln lc]) (hE : E = w0.heap.size) {listed : Array Bool} {T : Nat → Nat → Prop} {a : Act} {w : World} {K : Act → World → Prop} (hI : GrJ .any opgr 8 13 (opvG y z p q ba bb E ka kn kc la ln lc) a0 w0 listed T a w) (hw : ∀ j, Region.waitsFor .any opgr 8 j = true → listed.getD j false = true) (hcl : ∀ i j, 8 ≤ i → i < 13 → listed.getD i false = true → Region.waitsFor .any opgr i j = true → listed.getD j false = true)
    (hK : ∀ v w', (opgo8.dst = none → v = undef) → Below w.heap.size w w' → opvG y z p q ba bb E ka kn kc la ln lc 8 v (maskV .any opgr 8 (valOf opgr a)) (maskT .any opgr 8 (updT T 8 w.heap.size w'.heap.size)) w' → K (a.put opgo8.dst v) w') : wpOp Tryz.prog opgr Q 8 K a w := by
  refine wpOp_step opg_o8 fun K2 hK2 => ?_
  have hwd : Region.wanted opgo8 (yielded opgr a.tmps) = true := wanted_of (k := 7) (s := 158) rfl rfl (by rw [hI.size, hs0]; decide) ((hI.slot 158 (by kernel_rfl)).trans h158)
  rw [if_pos hwd]
  clear hwd
  unfold opgo8
  have hbw : Below w0.heap.size w0 w := hI.bel
  have hEw : E ≤ w.heap.size := by rw [hE]; exact hbw.size
  have e11 := (hI.slot 11 (by kernel_rfl)).trans h11
  have HK := Lib.hid (hK2 _ _ (hK (.pointer (some ⟨ba, 5, none⟩)) w (fun h => by cases h) (Below.refl _ _) rfl))
  clear hK hK2 hI hw hcl hya hzb
  go_simp
  exact HK.out
theorem opv_s9 (y z : PgV) (p q : Pg) (ba bb E : Nat) (ka : Option Addr) (kn kc : Nat) (la : Option Addr) (ln lc : Nat) (h11 : a0.tmps.getD 11 undef = .pointer (some ⟨ba, 0, none⟩)) (h13 : a0.tmps.getD 13 undef = .pointer (some ⟨bb, 0, none⟩)) (h158 : a0.tmps.getD 158 undef = .bool false) (hs0 : a0.tmps.size = 180) (hya : Blk w0 ba 28 #[y.av, y.cv, y.nv, .bool p.all, y.dv, .slice ka kn kc]) (hzb : Blk w0 bb 28 #[z.av, z.cv, z.nv, .bool q.all, z.dv, .slice la ln lc]) (hE : E = w0.heap.size) {listed : Array Bool} {T : Nat → Nat → Prop} {a : Act} {w : World} {K : Act → World → Prop} (hI : GrJ .any opgr 8 13 (opvG y z p q ba bb E ka kn kc la ln lc) a0 w0 listed T a w) (hw : ∀ j, Region.waitsFor .any opgr 9 j = true → listed.getD j false = true) (hcl : ∀ i j, 8 ≤ i → i < 13 → listed.getD i false = true → Region.waitsFor .any opgr i j = true → listed.getD j false = true)
    (hK : ∀ v w', (opgo9.dst = none → v = undef) → Below w.heap.size w w' → opvG y z p q ba bb E ka kn kc la ln lc 9 v (maskV .any opgr 9 (valOf opgr a)) (maskT .any opgr 9 (updT T 9 w.heap.size w'.heap.size)) w' → K (a.put opgo9.dst v) w') : wpOp Tryz.prog opgr Q 9 K a w := by
  refine wpOp_step opg_o9 fun K2 hK2 => ?_
  have hwd : Region.wanted opgo9 (yielded opgr a.tmps) = true := wanted_of (k := 7) (s := 158) rfl rfl (by rw [hI.size, hs0]; decide) ((hI.slot 158 (by kernel_rfl)).trans h158)
  rw [if_pos hwd]
  clear hwd
  unfold opgo9
  have hbw : Below w0.heap.size w0 w := hI.bel
  have hEw : E ≤ w.heap.size := by rw [hE]; exact hbw.size
  have e159 : a.tmps.getD 159 undef = .pointer (some ⟨ba, 5, none⟩) := hI.made 8 (by decide) (by decide) (hw 8 (by kernel_rfl))
  have c5 : w.cell? ⟨ba, 5, none⟩ = some (.slice ka kn kc) := (hya.belowW hbw).cell 5
  have HK := Lib.hid (hK2 _ _ (hK (.slice ka kn kc) w (fun h => by cases h) (Below.refl _ _) rfl))
  clear hK hK2 hI hw hcl hya hzb
  go_simp
  exact HK.out
theorem opv_s10 (y z : PgV) (p q : Pg) (ba bb E : Nat) (ka : Option Addr) (kn kc : Nat) (la : Option Addr) (ln lc : Nat) (h11 : a0.tmps.getD 11 undef = .pointer (some ⟨ba, 0, none⟩)) (h13 : a0.tmps.getD 13 undef = .pointer (some ⟨bb, 0, none⟩)) (h158 : a0.tmps.getD 158 undef = .bool false) (hs0 : a0.tmps.size = 180) (hya : Blk w0 ba 28 #[y.av, y.cv, y.nv, .bool p.all, y.dv, .slice ka kn kc]) (hzb : Blk w0 bb 28 #[z.av, z.cv, z.nv, .bool q.all, z.dv, .slice la ln lc]) (hE : E = w0.heap.size) {listed : Array Bool} {T : Nat → Nat → Prop} {a : Act} {w : World} {K : Act → World → Prop} (hI : GrJ .any opgr 8 13 (opvG y z p q ba bb E ka kn kc la ln lc) a0 w0 listed T a w) (hw : ∀ j, Region.waitsFor .any opgr 10 j = true → listed.getD j false = true) (hcl : ∀ i j, 8 ≤ i → i < 13 → listed.getD i false = true → Region.waitsFor .any opgr i j = true → listed.getD j false = true)
    (hK : ∀ v w', (opgo10.dst = none → v = undef) → Below w.heap.size w w' → opvG y z p q ba bb E ka kn kc la ln lc 10 v (maskV .any opgr 10 (valOf opgr a)) (maskT .any opgr 10 (updT T 10 w.heap.size w'.heap.size)) w' → K (a.put opgo10.dst v) w') : wpOp Tryz.prog opgr Q 10 K a w := by
  refine wpOp_step opg_o10 fun K2 hK2 => ?_
  have hwd : Region.wanted opgo10 (yielded opgr a.tmps) = true := wanted_of (k := 7) (s := 158) rfl rfl (by rw [hI.size, hs0]; decide) ((hI.slot 158 (by kernel_rfl)).trans h158)
  rw [if_pos hwd]
  clear hwd
  unfold opgo10
  have hbw : Below w0.heap.size w0 w := hI.bel
  have hEw : E ≤ w.heap.size := by rw [hE]; exact hbw.size
  have e13 := (hI.slot 13 (by kernel_rfl)).trans h13
  have HK := Lib.hid (hK2 _ _ (hK (.pointer (some ⟨bb, 5, none⟩)) w (fun h => by cases h) (Below.refl _ _) rfl))
  clear hK hK2 hI hw hcl hya hzb
  go_simp
  exact HK.out
theorem opv_s11 (y z : PgV) (p q : Pg) (ba bb E : Nat) (ka : Option Addr) (kn kc : Nat) (la : Option Addr) (ln lc : Nat) (h11 : a0.tmps.getD 11 undef = .pointer (some ⟨ba, 0, none⟩)) (h13 : a0.tmps.getD 13 undef = .pointer (some ⟨bb, 0, none⟩)) (h158 : a0.tmps.getD 158 undef = .bool false) (hs0 : a0.tmps.size = 180) (hya : Blk w0 ba 28 #[y.av, y.cv, y.nv, .bool p.all, y.dv, .slice ka kn kc]) (hzb : Blk w0 bb 28 #[z.av, z.cv, z.nv, .bool q.all, z.dv, .slice la ln lc]) (hE : E = w0.heap.size) {listed : Array Bool} {T : Nat → Nat → Prop} {a : Act} {w : World} {K : Act → World → Prop} (hI : GrJ .any opgr 8 13 (opvG y z p q ba bb E ka kn kc la ln lc) a0 w0 listed T a w) (hw : ∀ j, Region.waitsFor .any opgr 11 j = true → listed.getD j false = true) (hcl : ∀ i j, 8 ≤ i → i < 13 → listed.getD i false = true → Region.waitsFor .any opgr i j = true → listed.getD j false = true)
    (hK : ∀ v w', (opgo11.dst = none → v = undef) → Below w.heap.size w w' → opvG y z p q ba bb E ka kn kc la ln lc 11 v (maskV .any opgr 11 (valOf opgr a)) (maskT .any opgr 11 (updT T 11 w.heap.size w'.heap.size)) w' → K (a.put opgo11.dst v) w') : wpOp Tryz.prog opgr Q 11 K a w := by
  refine wpOp_step opg_o11 fun K2 hK2 => ?_
  have hwd : Region.wanted opgo11 (yielded opgr a.tmps) = true := wanted_of (k := 7) (s := 158) rfl rfl (by rw [hI.size, hs0]; decide) ((hI.slot 158 (by kernel_rfl)).trans h158)
  rw [if_pos hwd]
  clear hwd
  unfold opgo11
  have hbw : Below w0.heap.size w0 w := hI.bel
  have hEw : E ≤ w.heap.size := by rw [hE]; exact hbw.size
  have e161 : a.tmps.getD 161 undef = .pointer (some ⟨bb, 5, none⟩) := hI.made 10 (by decide) (by decide) (hw 10 (by kernel_rfl))
  have c5 : w.cell? ⟨bb, 5, none⟩ = some (.slice la ln lc) := (hzb.belowW hbw).cell 5
  have HK := Lib.hid (hK2 _ _ (hK (.slice la ln lc) w (fun h => by cases h) (Below.refl _ _) rfl))
  clear hK hK2 hI hw hcl hya hzb
  go_simp
  exact HK.out
theorem opv_s12 (y z : PgV) (p q : Pg) (ba bb E : Nat) (ka : Option Addr) (kn kc : Nat) (la : Option Addr) (ln lc : Nat) (h11 : a0.tmps.getD 11 undef = .pointer (some ⟨ba, 0, none⟩)) (h13 : a0.tmps.getD 13 undef = .pointer (some ⟨bb, 0, none⟩)) (h158 : a0.tmps.getD 158 undef = .bool false) (hs0 : a0.tmps.size = 180) (hya : Blk w0 ba 28 #[y.av, y.cv, y.nv, .bool p.all, y.dv, .slice ka kn kc]) (hzb : Blk w0 bb 28 #[z.av, z.cv, z.nv, .bool q.all, z.dv, .slice la ln lc]) (hE : E = w0.heap.size) {listed : Array Bool} {T : Nat → Nat → Prop} {a : Act} {w : World} {K : Act → World → Prop} (hI : GrJ .any opgr 8 13 (opvG y z p q ba bb E ka kn kc la ln lc) a0 w0 listed T a w) (hw : ∀ j, Region.waitsFor .any opgr 12 j = true → listed.getD j false = true) (hcl : ∀ i j, 8 ≤ i → i < 13 → listed.getD i false = true → Region.waitsFor .any opgr i j = true → listed.getD j false = true)
    (hK : ∀ v w', (opgo12.dst = none → v = undef) → Below w.heap.size w w' → opvG y z p q ba bb E ka kn kc la ln lc 12 v (maskV .any opgr 12 (valOf opgr a)) (maskT .any opgr 12 (updT T 12 w.heap.size w'.heap.size)) w' → K (a.put opgo12.dst v) w') : wpOp Tryz.prog opgr Q 12 K a w := by
  refine wpOp_step opg_o12 fun K2 hK2 => ?_
  have hwd : Region.wanted opgo12 (yielded opgr a.tmps) = true := wanted_of (k := 7) (s := 158) rfl rfl (by rw [hI.size, hs0]; decide) ((hI.slot 158 (by kernel_rfl)).trans h158)
  rw [if_pos hwd]
  clear hwd
  unfold opgo12
  have hbw : Below w0.heap.size w0 w := hI.bel
  have hEw : E ≤ w.heap.size := by rw [hE]; exact hbw.size
  have e160 : a.tmps.getD 160 undef = .slice ka kn kc := hI.made 9 (by decide) (by decide) (hw 9 (by kernel_rfl))
  have e162 : a.tmps.getD 162 undef = .slice la ln lc := hI.made 11 (by decide) (by decide) (hw 11 (by kernel_rfl))
  have d160 := tmpQ e160; have d162 := tmpQ e162
  have HK := Lib.hid (hK2 _ _ (hK (.slice (some ⟨w.heap.size, 0, none⟩) 2 2) (w.alloc (.cells #[.slice ka kn kc, .slice la ln lc] 26)) (fun h => by cases h) ((Below.refl _ _).alloc (Nat.le_refl _) _) ((lit2_gb w ⟨ka, kn, kc⟩ ⟨la, ln, lc⟩).more hEw)))
  clear hK hK2 hI hw hcl hya hzb
  go_simp
  exact HK.out
theorem opv_any (y z : PgV) (p q : Pg) (ba bb E : Nat) (ka : Option Addr) (kn kc : Nat) (la : Option Addr) (ln lc : Nat) (h11 : a0.tmps.getD 11 undef = .pointer (some ⟨ba, 0, none⟩)) (h13 : a0.tmps.getD 13 undef = .pointer (some ⟨bb, 0, none⟩)) (h158 : a0.tmps.getD 158 undef = .bool false) (hs0 : a0.tmps.size = 180) (hya : Blk w0 ba 28 #[y.av, y.cv, y.nv, .bool p.all, y.dv, .slice ka kn kc]) (hzb : Blk w0 bb 28 #[z.av, z.cv, z.nv, .bool q.all, z.dv, .slice la ln lc]) (hE : E = w0.heap.size) (hsz : a0.tmps.size = 180)
    (hQ : ∀ (f : Nat → Value) (wx : World), OwnL MoB.goS wx E (f 163) [⟨ka, kn, kc⟩, ⟨la, ln, lc⟩] → Below w0.heap.size w0 wx → (putAll a0 opvds f).tmps.getD 163 undef = f 163 → wpAny Tryz.prog .any opgr Q 3 (upTo 16 13) (putAll a0 opvds f) wx) : wpAny Tryz.prog .any opgr Q 8 (upTo 16 8) a0 w0 := by
  refine wpAny_growF (G := opvG y z p q ba bb E ka kn kc la ln lc) 8 13 3 (by decide) rfl (opv_st y z p q ba bb E ka kn kc la ln lc) (fun i d h0 hi h => ?_) opv_one opv_cl0 opv_edge ?_ ?_ ?_
  · rw [hsz]
    have := opv_dst i d h0 hi h
    exact List.all_eq_true.1 (show opvds.all (fun d => decide (d < 180)) = true by decide) d this |> of_decide_eq_true
  · exact Or.inr ⟨by kernel_rfl, by kernel_rfl⟩
  · intro listed T i o a w h0 hi hoo hI hw hcl K hK
    match i, h0, hi, hoo, hw, hK with
    | 0, h0, _, _, _, _ => exact absurd h0 (by decide)
    | 1, h0, _, _, _, _ => exact absurd h0 (by decide)
    | 2, h0, _, _, _, _ => exact absurd h0 (by decide)
    | 3, h0, _, _, _, _ => exact absurd h0 (by decide)
    | 4, h0, _, _, _, _ => exact absurd h0 (by decide)
    | 5, h0, _, _, _, _ => exact absurd h0 (by decide)
    | 6, h0, _, _, _, _ => exact absurd h0 (by decide)
    | 7, h0, _, _, _, _ => exact absurd h0 (by decide)
    | 8, _, _, hoo, hw, hK => cases hoo; exact opv_s8 y z p q ba bb E ka kn kc la ln lc h11 h13 h158 hs0 hya hzb hE hI hw hcl hK
    | 9, _, _, hoo, hw, hK => cases hoo; exact opv_s9 y z p q ba bb E ka kn kc la ln lc h11 h13 h158 hs0 hya hzb hE hI hw hcl hK
    | 10, _, _, hoo, hw, hK => cases hoo; exact opv_s10 y z p q ba bb E ka kn kc la ln lc h11 h13 h158 hs0 hya hzb hE hI hw hcl hK
    | 11, _, _, hoo, hw, hK => cases hoo; exact opv_s11 y z p q ba bb E ka kn kc la ln lc h11 h13 h158 hs0 hya hzb hE hI hw hcl hK
    | 12, _, _, hoo, hw, hK => cases hoo; exact opv_s12 y z p q ba bb E ka kn kc la ln lc h11 h13 h158 hs0 hya hzb hE hI hw hcl hK
    | n + 13, _, hi, _, _, _ => exact absurd hi (by omega)
  · intro listed T a w hall hI
    have hds : a = putAll a0 opvds fun d => a.tmps.getD d undef := hI.lit opvds opv_dst
    have hbw : Below w0.heap.size w0 w := hI.bel
    have g1 : OwnL MoB.goS w E (a.tmps.getD 163 undef) [⟨ka, kn, kc⟩, ⟨la, ln, lc⟩] := hI.made 12 (by decide) (by decide) (hall 12 (by decide))
    have h := hQ (fun d => a.tmps.getD d undef) w g1 hbw (by rw [← hds])
    rw [← hds] at h
    exact h
end

section
variable {Q : Exit → Act → World → Prop} {a : Act} {w : World}
theorem ope_any (B : Nat) (v5 : Value) (h163 : a.tmps.getD 163 undef = v5) (h158 : a.tmps.getD 158 undef = .bool false) (hsz : a.tmps.size = 180)
    (hown : Calls Tryz.prog 13 #[v5] w fun e w' => e = .returned (.bool true) ∧ Below B w w')
    (hQ : ∀ w5, Below B w w5 → Q .normal (((a.put (some 164) (.bool true)).put (some 165) (.bool false)).put (some 166) (.bool false)) w5) : wpAny Tryz.prog .any opgr Q 3 (upTo 16 13) a w := by
  refine wpAny_one (k := 13) (f := 2) (ops := opgr) (by kernel_rfl) (by decide) ?_
  refine wpOp_step opg_o13 fun K2 hK2 => ?_
  rw [if_pos (wanted_of (k := 7) (s := 158) rfl rfl (by omega) h158)]
  have HK2 := Lib.hid (fun w' => hK2 (a.put (some 164) (.bool true)) w')
  have HC := Lib.hid hown; have HQ := Lib.hid hQ
  clear hK2 hown hQ
  unfold opgo13
  go_simp
  go_at_call 13
  refine HC.out.mono ?_
  rintro e w5 ⟨rfl, hb5⟩
  refine HK2.out w5 ?_
  have HQ := Lib.hid (HQ.out w5 hb5)
  clear HC HK2 hb5
  have e164 : (a.put (some 164) (.bool true)).tmps.getD 164 undef = .bool true := put_same (by omega)
  have e158 : (a.put (some 164) (.bool true)).tmps.getD 158 undef = .bool false := (put_getD (by decide)).trans h158
  have hs2 : (a.put (some 164) (.bool true)).tmps.size = 180 := by unfold Act.put; simp only [Array.size_setIfInBounds]; exact hsz
  show wpAny Tryz.prog .any opgr Q 2 (upTo 16 14) (a.put (some 164) (.bool true)) w5
  clear h158 h163 hsz
  generalize a.put (some 164) (.bool true) = a2 at *
  refine wpAny_one (k := 14) (f := 1) (ops := opgr) (by kernel_rfl) (by decide) ?_
  refine wpOp_step opg_o14 fun K2 hK2 => ?_
  rw [if_pos (wanted_of (k := 7) (s := 158) rfl rfl (by omega) e158)]
  have e165 : (a2.put (some 165) (.bool false)).tmps.getD 165 undef = .bool false := put_same (by omega)
  have e158b : (a2.put (some 165) (.bool false)).tmps.getD 158 undef = .bool false := (put_getD (by decide)).trans e158
  have HK2 := Lib.hid (hK2 (a2.put (some 165) (.bool false)) w5 (by
    show wpAny Tryz.prog .any opgr Q 1 (upTo 16 15) (a2.put (some 165) (.bool false)) w5
    clear hK2
    generalize a2.put (some 165) (.bool false) = a3 at *
    refine wpAny_one (k := 15) (f := 0) (ops := opgr) (by kernel_rfl) (by decide) ?_
    refine wpOp_step opg_o15 fun K3 hK3 => ?_
    have HK3 := Lib.hid (hK3 (a3.put (some 166) (.bool false)) w5 (wpAny_end (n := 16) rfl (by kernel_rfl) HQ.out))
    clear hK3 HQ
    unfold opgo15
    go_simp
    exact HK3.out))
  clear hK2 HQ e165 e158b
  unfold opgo14
  go_simp
  exact HK2.out
end

end Go.Proofs.YtmdpfikalekmlaaGreatDoor
end
section
/- Layer 20: both programs' lists are each other's strangers. -/
namespace Go.Proofs.YtmdpfikalekmlaaGreatDoor
open Go.RowKit
set_option maxRecDepth 100000
set_option maxHeartbeats 1000000
set_option linter.unusedSimpArgs false
set_option linter.unusedVariables false

/-- Slices with what they own, one by one. -/
inductive Owns {α : Type} (S : Shape α) (w : World) (B : Nat) : List SlV → List (List α) → Prop
  | nil : Owns S w B [] []
  | cons {t : SlV} {l : List α} {s : List SlV} {C : List (List α)} (h : OwnL S w B t.val l) (hr : Owns S w B s C) : Owns S w B (t :: s) (l :: C)
section
variable {α : Type} {S : Shape α} {w w' : World} {B B2 : Nat} {s s2 : List SlV} {C C2 : List (List α)}
theorem Owns.append (h : Owns S w B s C) (h2 : Owns S w B s2 C2) : Owns S w B (s ++ s2) (C ++ C2) := by
  induction h with
  | nil => exact h2
  | cons h hr ih => exact .cons h ih
theorem Owns.get (h : Owns S w B s C) : ∀ (q : Nat) (t : SlV), s[q]? = some t → OwnL S w B t.val (C.getD q []) := by
  induction h with
  | nil => intro q t ht; simp at ht
  | cons h hr ih =>
    intro q t ht
    cases q with
    | zero => simp at ht; subst ht; exact h
    | succ q => simpa using ih q t (by simpa using ht)
theorem Owns.more (h : Owns S w B s C) (hB : B2 ≤ B) : Owns S w B2 s C := by
  induction h with
  | nil => exact .nil
  | cons h hr ih => exact .cons (h.more hB) ih
theorem Owns.many (h : Owns S w B s C) (hp : List.Pairwise FarV (s.map SlV.val)) : Many S w B s (fun q => C.getD q []) := by
  refine ⟨h.get, fun p q t u hp1 hq1 hpq => ?_⟩
  obtain ⟨hpl, e1⟩ := List.getElem?_eq_some_iff.1 hp1
  obtain ⟨hql, e2⟩ := List.getElem?_eq_some_iff.1 hq1
  rw [List.pairwise_iff_getElem] at hp
  rcases Nat.lt_or_ge p q with h3 | h3
  · have := hp p q (by rw [List.length_map]; exact hpl) (by rw [List.length_map]; exact hql) h3
    rw [List.getElem_map, List.getElem_map, e1, e2] at this
    exact this
  · have := hp q p (by rw [List.length_map]; exact hql) (by rw [List.length_map]; exact hpl) (by omega)
    rw [List.getElem_map, List.getElem_map, e1, e2] at this
    exact this.symm
end
theorem sv_val {a : Option Addr} {n c : Nat} : (sv (.slice a n c)).val = .slice a n c := rfl
def nrCs (n : Nr) : List (List Int) := [n.cur, n.off]
/-- The contents of a program's lists of ints. -/
def pgCs (p : Pg) : List (List Int) := [p.avgs, p.drive] ++ p.nears.flatMap nrCs
theorem PgO.owns {w : World} {B : Nat} {x : PgV} {p : Pg} (h : PgO w B x p) : Owns moS w B (pgSl x) (pgCs p) ∧ (pgSl x).map SlV.val = x.av :: x.dv :: nearVs x.nl := by
  obtain ⟨av, cv, nv, dv, kv, nl⟩ := x
  obtain ⟨a, b, e1, -, -⟩ := h.avgs.form
  obtain ⟨c, d, e2, -, -⟩ := h.drive.form
  simp only [] at e1 e2
  subst e1 e2
  have key : ∀ l : List NrV, (∀ y ∈ l, OwnL intS w B y.cv y.n.cur ∧ OwnL intS w B y.ov y.n.off) → Owns moS w B (l.flatMap nrSl) ((l.map (·.n)).flatMap nrCs) ∧ (l.flatMap nrSl).map SlV.val = nearVs l := by
    intro l
    induction l with
    | nil => intro _; exact ⟨.nil, rfl⟩
    | cons y l ih =>
      intro hl
      have hy := hl y List.mem_cons_self
      have h2 := ih fun z hz => hl z (List.mem_cons_of_mem _ hz)
      refine ⟨?_, ?_⟩
      · show Owns moS w B (nrSl y ++ l.flatMap nrSl) (nrCs y.n ++ (l.map (·.n)).flatMap nrCs)
        exact Owns.append (.cons hy.1 (.cons hy.2 .nil)) h2.1
      · show (nrSl y ++ l.flatMap nrSl).map SlV.val = [y.cv, y.ov] ++ nearVs l
        rw [List.map_append, h2.2]; rfl
  have hk := key nl h.inner
  have hn : nl.map (·.n) = p.nears := h.nmap
  rw [hn] at hk
  refine ⟨Owns.append (.cons h.avgs (.cons h.drive .nil)) hk.1, ?_⟩
  show ([_, _] ++ nl.flatMap nrSl).map SlV.val = _
  rw [List.map_append, hk.2]
  rfl
theorem pgCs_small {p : Pg} (hs : SmallPg p) : ∀ l ∈ pgCs p, l.length ≤ 1048576 := by
  intro l hl
  rcases List.mem_append.1 hl with hl | hl
  · rcases List.mem_cons.1 hl with rfl | hl
    · exact hs.avgs.2
    · obtain rfl := List.mem_singleton.1 hl
      exact hs.drive.2
  · obtain ⟨n, hn, hl⟩ := List.mem_flatMap.1 hl
    have h := hs.nears.1 n hn
    rcases List.mem_cons.1 hl with rfl | hl
    · exact h.2.1.2
    · obtain rfl := List.mem_singleton.1 hl
      exact h.2.2.2
theorem getD_small {C : List (List Int)} {n : Nat} (h : ∀ l ∈ C, l.length ≤ n) (q : Nat) : (C.getD q []).length ≤ n := by
  rw [List.getD_eq_getElem?_getD]
  cases hq : C[q]? with
  | none => exact Nat.zero_le _
  | some l => exact h l (List.mem_of_getElem? hq)
theorem pgSl_len (x : PgV) : (pgSl x).length = 2 + 2 * x.nl.length := by
  unfold pgSl
  rw [List.length_append, nrSl_len]; rfl
/-- A program's lists of ints lie below, another's from there on. -/
theorem far_cross {w w2 : World} {B B2 : Nat} {x y : PgV} {p q : Pg} (h : PgO w B x p) (h2 : PgO w2 B2 y q) (hw : w.heap.size ≤ B2) (hx : Apart x.av x.dv x.nl) (hy : Apart y.av y.dv y.nl) : List.Pairwise FarV ((pgSl x ++ pgSl y).map SlV.val) := by
  rw [List.map_append, h.owns.2, h2.owns.2, List.pairwise_append]
  refine ⟨hx, hy, fun u hu v hv b h3 h4 => ?_⟩
  have g1 : b < w.heap.size := by
    rcases List.mem_cons.1 hu with rfl | hu
    · exact (h.avgs.lt b h3).2
    · rcases List.mem_cons.1 hu with rfl | hu
      · exact (h.drive.lt b h3).2
      · obtain ⟨z, hz, hu⟩ := List.mem_flatMap.1 hu
        rcases List.mem_cons.1 hu with rfl | hu
        · exact ((h.inner z hz).1.lt b h3).2
        · obtain rfl := List.mem_singleton.1 hu
          exact ((h.inner z hz).2.lt b h3).2
  have g2 : B2 ≤ b := by
    rcases List.mem_cons.1 hv with rfl | hv
    · exact (h2.avgs.lt b h4).1
    · rcases List.mem_cons.1 hv with rfl | hv
      · exact (h2.drive.lt b h4).1
      · obtain ⟨z, hz, hv⟩ := List.mem_flatMap.1 hv
        rcases List.mem_cons.1 hv with rfl | hv
        · exact ((h2.inner z hz).1.lt b h4).1
        · obtain rfl := List.mem_singleton.1 hv
          exact ((h2.inner z hz).2.lt b h4).1
  omega
theorem OwnL.kty {α : Type} {S : Shape α} {e : TypeId} {w w' : World} {B : Nat} {v : Value} {l : List α} (h : OwnL S w B v l) (hk : KTy e w w') (hne : S.tE ≠ e) : OwnL S w' B v l := by
  refine ⟨h.1, ?_⟩
  rcases h.2 with h2 | ⟨g, cap, cur, hv, hg, hh, r⟩
  · exact Or.inl h2
  · exact Or.inr ⟨g, cap, cur, hv, hg, hk.blk hh hne, r⟩
section
variable {Q : Exit → Act → World → Prop} {a0 : Act} {w0 : World}
def opzds : List Nat := [151, 152, 153, 154, 155, 156, 157, 158, 159, 160, 161, 162, 163, 164, 165, 166]
theorem opz_any (y z : PgV) (p q : Pg) (ba bb B : Nat) (ka : Option Addr) (kn kc : Nat) (la : Option Addr) (ln lc : Nat) (h11 : a0.tmps.getD 11 undef = .pointer (some ⟨ba, 0, none⟩)) (h13 : a0.tmps.getD 13 undef = .pointer (some ⟨bb, 0, none⟩))
    (hya : Blk w0 ba 28 #[y.av, y.cv, y.nv, .bool p.all, y.dv, y.kv]) (hzb : Blk w0 bb 28 #[z.av, z.cv, z.nv, .bool q.all, z.dv, z.kv]) (hky : y.kv = .slice ka kn kc) (hkz : z.kv = .slice la ln lc)
    (hy : PgR w0 w0.heap.size y p) (hz : PgR w0 w0.heap.size z q) (hyl : y.nl.length ≤ 1048576) (hzl : z.nl.length ≤ 1048576) (hB : B ≤ w0.heap.size) (hsz : a0.tmps.size = 180)
    (hown1 : ∀ v4 w4, OwnL goS w4 w0.heap.size v4 (pgSl y ++ pgSl z) → Below w0.heap.size w0 w4 → Calls Tryz.prog 36 #[v4] w4 fun e w' => e = .returned (.bool true) ∧ Below B w4 w' ∧ KTy moS.tE w4 w')
    (hown2 : ∀ v5 w5, OwnL MoB.goS w5 w0.heap.size v5 [⟨ka, kn, kc⟩, ⟨la, ln, lc⟩] → w0.heap.size ≤ w5.heap.size → KTy moS.tE w0 w5 → Calls Tryz.prog 13 #[v5] w5 fun e w' => e = .returned (.bool true) ∧ Below B w5 w')
    (hQ : ∀ (f : Nat → Value) (w' : World), f 166 = .bool false → Below B w0 w' → Q .normal (putAll a0 opzds f) w') : (Code.region 37 opgr true).wp Tryz.prog Q a0 w0 := by
  refine wp_region_any (by kernel_rfl) ?_
  have hbd : Below w0.heap.size w0 w0.drew := (Below.refl _ _).drew
  have hkd : KTy moS.tE w0 w0.drew := KTy.ofBelow hbd
  show wpAny Tryz.prog .any opgr Q 16 (Array.replicate 16 false) a0 w0.drew
  rw [← upTo_zero]
  refine opu_any y z p q ba bb w0.heap.size h11 h13 (hya.belowW hbd) (hzb.belowW hbd) (hy.below hbd) (hz.below hbd) hyl hzl rfl hsz fun f wx g1 g3 hb e1 e3 => ?_
  have hb1 : Below w0.heap.size w0 wx := hbd.trans hb
  have hA1 := (AgreeOff.refl a0 opzds).all (ds2 := opuds) f (by decide)
  have i11 : (putAll a0 opuds f).tmps.getD 11 undef = _ := (putAll_off (by decide)).trans h11
  have i13 : (putAll a0 opuds f).tmps.getD 13 undef = _ := (putAll_off (by decide)).trans h13
  have is : (putAll a0 opuds f).tmps.size = 180 := putAll_size.trans hsz
  generalize putAll a0 opuds f = a1 at *
  refine opm_any y z w0.heap.size B _ _ e1 e3 g1 g3 hb1.size (by rw [pgSl_len, pgSl_len]; omega) is (fun v4 w4 h1 h2 => hown1 v4 w4 h1 (hb1.trans h2)) fun v4 w4 w5 hb4 hb5 hk5 => ?_
  have hb4' : Below w0.heap.size w0 w4 := hb1.trans hb4
  have hk5' : KTy moS.tE w0 w5 := (KTy.ofBelow hb4').trans hk5 hb4'.size
  have hs5 : w0.heap.size ≤ w5.heap.size := Nat.le_trans hb4'.size hb5.size
  have hB5 : Below B w0 w5 := (hb4'.mono hB).trans hb5
  have hA2 := ((((hA1.put 155 v4 (by decide)).put 156 (.bool true) (by decide)).put 157 (.bool false) (by decide)).put 158 (.bool false) (by decide))
  have j11 : ((((a1.put (some 155) v4).put (some 156) (.bool true)).put (some 157) (.bool false)).put (some 158) (.bool false)).tmps.getD 11 undef = _ := (put_getD (by decide)).trans ((put_getD (by decide)).trans ((put_getD (by decide)).trans ((put_getD (by decide)).trans i11)))
  have j13 : ((((a1.put (some 155) v4).put (some 156) (.bool true)).put (some 157) (.bool false)).put (some 158) (.bool false)).tmps.getD 13 undef = _ := (put_getD (by decide)).trans ((put_getD (by decide)).trans ((put_getD (by decide)).trans ((put_getD (by decide)).trans i13)))
  have js : ((((a1.put (some 155) v4).put (some 156) (.bool true)).put (some 157) (.bool false)).put (some 158) (.bool false)).tmps.size = 180 := by rw [← hsz]; exact hA2.size
  have j158 : ((((a1.put (some 155) v4).put (some 156) (.bool true)).put (some 157) (.bool false)).put (some 158) (.bool false)).tmps.getD 158 undef = .bool false := by
    refine put_same ?_
    have : (((a1.put (some 155) v4).put (some 156) (.bool true)).put (some 157) (.bool false)).tmps.size = 180 := by
      rw [← hsz]; exact (((hA1.put 155 v4 (by decide)).put 156 (.bool true) (by decide)).put 157 (.bool false) (by decide)).size
    omega
  generalize (((a1.put (some 155) v4).put (some 156) (.bool true)).put (some 157) (.bool false)).put (some 158) (.bool false) = a2 at *
  refine opv_any y z p q ba bb w5.heap.size ka kn kc la ln lc j11 j13 j158 js ?_ ?_ rfl js fun f2 w6 g6 hb6 e6 => ?_
  · rw [← hky]; exact hk5'.blk hya (by decide)
  · rw [← hkz]; exact hk5'.blk hzb (by decide)
  have hA3 := hA2.all (ds2 := opvds) f2 (by decide)
  have k158 : (putAll a2 opvds f2).tmps.getD 158 undef = .bool false := (putAll_off (by decide)).trans j158
  have ks : (putAll a2 opvds f2).tmps.size = 180 := putAll_size.trans js
  generalize putAll a2 opvds f2 = a3 at *
  refine ope_any B _ e6 k158 ks (hown2 _ w6 (g6.more hs5) (Nat.le_trans hs5 hb6.size) (hk5'.below hs5 hb6)) fun w7 hb7 => ?_
  have hA4 := ((hA3.put 164 (.bool true) (by decide)).put 165 (.bool false) (by decide)).put 166 (.bool false) (by decide)
  have l166 : (((a3.put (some 164) (.bool true)).put (some 165) (.bool false)).put (some 166) (.bool false)).tmps.getD 166 undef = .bool false := by
    refine put_same ?_
    have : ((a3.put (some 164) (.bool true)).put (some 165) (.bool false)).tmps.size = 180 := by
      rw [← hsz]; exact ((hA3.put 164 (.bool true) (by decide)).put 165 (.bool false) (by decide)).size
    omega
  rw [hA4.lit]
  exact hQ _ _ l166 (hB5.trans ((hb6.mono (Nat.le_trans hB hs5)).trans hb7))
end
end Go.Proofs.YtmdpfikalekmlaaGreatDoor
end
section
/- Layer 20: what the laws of reading stand on. -/
namespace Go.Proofs.YtmdpfikalekmlaaGreatDoor
open Go.RowKit
set_option maxRecDepth 100000
set_option maxHeartbeats 40000000
set_option linter.unusedSimpArgs false
set_option linter.unusedVariables false

/-- The variables that reading looks at. -/
def IsaEnvB (w : World) (ea : List Addr) : Prop := ErrEnv w ea ∧ TabEnv w ∧ Pow10 w ∧ PuEnv w
theorem IsaEnvB.below {w w' : World} {ea : List Addr} (h : IsaEnvB w ea) (hb : Below w.heap.size w w') : IsaEnvB w' ea :=
  ⟨h.1.below hb, h.2.1.below hb, h.2.2.1.below hb, h.2.2.2.belowW hb⟩
theorem puEnv_of {W : World} {l : List (String × DataW Unit)} (h : laidMet Tryz.prog l W) (e : l.filter (fun x => x.1 == "strconv.ErrRange") = [("strconv.ErrRange", errRow [118, 97, 108, 117, 101, 32, 111, 117, 116, 32, 111, 102, 32, 114, 97, 110, 103, 101])]) : PuEnv W := by
  have := h.filter (fun x => x.1 == "strconv.ErrRange")
  rw [e] at this
  obtain ⟨ps, h1, h2, h3⟩ := this
  obtain ⟨ea, g1, -, -, -⟩ := errsAt_of [("strconv.ErrRange", [118, 97, 108, 117, 101, 32, 111, 117, 116, 32, 111, 102, 32, 114, 97, 110, 103, 101])] [32] ps (by kernel_rfl) (by
    intro g hg
    rw [List.mem_singleton.1 hg]; kernel_rfl) h1 h2 h3
  match ea, g1 with
  | [a], g1 => exact ⟨_, g1.1, .inr ⟨_, _, rfl⟩⟩
theorem isaB_env {W : World} {l : List (String × DataW Unit)} (h : laidMet Tryz.prog l W) (e1 : l.filter (fun x => (errRows.map (·.1)).contains x.1) = errRows.map fun x => (x.1, errRow x.2))
    (e2 : l.filter (fun x => x.1 == "concord/isa.table") = [("concord/isa.table", Rows.laid_concord_isa_table)]) (e3 : l.filter (fun x => x.1 == "internal/strconv.uint64pow10") = [("internal/strconv.uint64pow10", Lib.tabData .u64 Lib.pow10Tab)])
    (e4 : l.filter (fun x => x.1 == "strconv.ErrRange") = [("strconv.ErrRange", errRow [118, 97, 108, 117, 101, 32, 111, 117, 116, 32, 111, 102, 32, 114, 97, 110, 103, 101])]) : ∃ ea, IsaEnvB W ea := by
  obtain ⟨ea, hE⟩ := errEnv_of h e1
  exact ⟨ea, hE, isaTab_of h e2, pow10_of h e3, puEnv_of h e4⟩
def pgNone : Pg := ⟨[], [], [], false, [], []⟩
def pgvNone : PgV := ⟨.slice none 0 0, .slice none 0 0, .slice none 0 0, .slice none 0 0, .slice none 0 0, []⟩
theorem pgr_none (w : World) (B : Nat) : PgR w B pgvNone pgNone := ⟨RdL.nil _ _ _, RdL.nil _ _ _, RdL.nil _ _ _, rfl, fun y hy => (by cases hy), RdL.nil _ _ _, RdL.nil _ _ _⟩
theorem small_none : SmallPg pgNone := by
  refine ⟨⟨fun x hx => (by cases hx), Nat.zero_le _⟩, ⟨fun c hc => (by cases hc), Nat.zero_le _⟩, ⟨fun n hn => (by cases hn), Nat.zero_le _⟩, ⟨fun x hx => (by cases hx), Nat.zero_le _⟩, Nat.zero_le _⟩
theorem int_eq {a b : Int} (h : a = b) : Value.int .i64 a = Value.int .i64 b := by rw [h]
end Go.Proofs.YtmdpfikalekmlaaGreatDoor
end
section
/- Layer 20: ownProg walked. -/
namespace Go.Proofs.YtmdpfikalekmlaaGreatDoor
open Go.RowKit
set_option maxRecDepth 100000
set_option maxHeartbeats 8000000
set_option linter.unusedSimpArgs false
set_option linter.unusedVariables false

theorem opSmall {p : Pg} (hs : SmallPg p) {l' : List Int} {m' : List UInt8} (h1 : l'.length = p.avgs.length) (h2 : SmallInts l') (h3 : m'.length = p.code.length) : SmallPg { p with avgs := l', code := m' } :=
  ⟨⟨h2, by rw [h1]; exact hs.avgs.2⟩, hs.curs, hs.nears, hs.drive, by rw [h3]; exact hs.code⟩
theorem PgR.alloc {w : World} {x : PgV} {p : Pg} (h : PgR w w.heap.size x p) (o : Obj) : PgR (w.alloc o) (w.alloc o).heap.size x p :=
  (h.belowW (Nat.le_refl _) ((Below.refl _ _).alloc (Nat.le_refl _) o)).more (by rw [World.size_alloc]; omega)
theorem PgR.up {w w' : World} {x : PgV} {p : Pg} (h : PgR w w.heap.size x p) (hb : Below w.heap.size w w') : PgR w' w'.heap.size x p :=
  (h.below hb).more hb.size
theorem PgO.cval {w : World} {B : Nat} {y : PgV} {p : Pg} (h : PgO w B y p) : ∃ a b c d e f g i j k, y = ⟨.slice a p.avgs.length b, .slice c p.curs.length d, .slice e y.nl.length f, .slice g p.drive.length i, .slice j p.code.length k, y.nl⟩ := h.form
theorem nil_eq (W : World) : (binOp .neq 30 .nilIface .nilIface).run Tryz.prog W = .ok (.bool false) W := by kernel_rfl
theorem ownProg_any (x : PgV) (p : Pg) (w : World) (ea : List Addr) (hx : PgR w w.heap.size x p) (hs : SmallPg p) (hw : WtPg p) (hE : IsaEnvB w ea) :
    Calls Tryz.prog 15 #[x.val p] w fun e w' => e = .returned (.bool true) ∧ Below w.heap.size w w' := by
  obtain ⟨xav, xcv, xnv, xdv, xkv, xnl⟩ := x
  obtain ⟨a1, a2, h1, -, -⟩ := hx.avgs.open_
  obtain ⟨a3, a4, h2, hc1, hc2⟩ := hx.curs.open_
  obtain ⟨a5, a6, h3, -, -⟩ := hx.nears.open_
  obtain ⟨a7, a8, h4, -, -⟩ := hx.drive.open_
  obtain ⟨a9, a10, h5, -, -⟩ := hx.code.open_
  simp only [] at h1 h2 h3 h4 h5
  subst h1 h2 h3 h4 h5
  have HE := Lib.hid hE; have HX := Lib.hid hx; have HS := Lib.hid hs; have HW := Lib.hid hw
  have hcl : p.curs.length ≤ 1048576 := hs.curs.2
  have hal : p.avgs.length ≤ 1048576 := hs.avgs.2
  have hkl : p.code.length ≤ 1048576 := hs.code
  have hnl : xnl.length ≤ 1048576 := by
    have : xnl.length = p.nears.length := by rw [← hx.nmap, List.length_map]
    rw [this]; exact hs.nears.2
  have en3 := fun W => errI_nnil ea 20 W
  have eg1 := fun op x y W => errI_guard0 ea 20 op x y W
  have HB1 := Lib.hid ((Below.refl w.heap.size w).alloc (Nat.le_refl _) (.cells #[.slice a1 p.avgs.length a2, .slice a3 p.curs.length a4, .slice a5 xnl.length a6, .bool p.all, .slice a7 p.drive.length a8, .slice a9 p.code.length a10] 28))
  have HX1 := Lib.hid (Blk.new w 28 #[.slice a1 p.avgs.length a2, .slice a3 p.curs.length a4, .slice a5 xnl.length a6, .bool p.all, .slice a7 p.drive.length a8, .slice a9 p.code.length a10])
  have hz1 : (w.alloc (.cells #[.slice a1 p.avgs.length a2, .slice a3 p.curs.length a4, .slice a5 xnl.length a6, .bool p.all, .slice a7 p.drive.length a8, .slice a9 p.code.length a10] 28)).heap.size = w.heap.size + 1 := World.size_alloc _ _
  clear hE hx hs hw
  unfold PgV.val
  simp only []
  go_enter Tryz.func15, Tryz.ntmps15
  go_wp2_with fail
  generalize w.alloc (.cells #[.slice a1 p.avgs.length a2, .slice a3 p.curs.length a4, .slice a5 xnl.length a6, .bool p.all, .slice a7 p.drive.length a8, .slice a9 p.code.length a10] 28) = w1 at *
  have HR1 := Lib.hid (HX.out.up HB1.out)
  refine (rtext_any ⟨.slice a1 p.avgs.length a2, .slice a3 p.curs.length a4, .slice a5 xnl.length a6, .slice a7 p.drive.length a8, .slice a9 p.code.length a10, xnl⟩ p w1 HR1.out HS.out).mono ?_
  rintro e w2 ⟨hb2, rfl⟩
  have HB2 := Lib.hid hb2
  have HR2 := Lib.hid (HR1.out.up hb2)
  have HX2 := Lib.hid (HX1.out.belowW hb2)
  clear hb2
  cases htp : textP p with
  | none =>
    simp only []
    go_wp2
    go_ret
    exact ⟨rfl, HB1.out.trans (HB2.out.mono HB1.out.size)⟩
  | some t0 =>
  have HTP := Lib.hid htp
  simp only []
  clear htp
  have p0 := HX2.out.cell 0; have p1 := HX2.out.cell 1; have p2 := HX2.out.cell 2; have p3 := HX2.out.cell 3; have p4 := HX2.out.cell 4; have p5 := HX2.out.cell 5
  simp only [List.getElem?_toArray, List.getElem?_cons_zero, List.getElem?_cons_succ] at p0 p1 p2 p3 p4 p5
  go_wp2_with fail
  refine (deep_any ⟨.slice a1 p.avgs.length a2, .slice a3 p.curs.length a4, .slice a5 xnl.length a6, .slice a7 p.drive.length a8, .slice a9 p.code.length a10, xnl⟩ p w2 HR2.out HS.out).mono ?_
  rintro e w3 ⟨hb3, y, rfl, hy, hya⟩
  obtain ⟨b1, b2, b3, b4, b5, b6, b7, b8, b9, b10, hyf⟩ := hy.form
  obtain ⟨yav, ycv, ynv, ydv, ykv, ynl⟩ := y
  simp only [PgV.mk.injEq, and_true] at hyf
  obtain ⟨rfl, rfl, rfl, rfl, rfl⟩ := hyf
  have HY3 := Lib.hid hy; have HYA := Lib.hid hya
  have HB3 := Lib.hid (HB2.out.trans (hb3.mono HB2.out.size))
  have HR3 := Lib.hid (HR2.out.up hb3)
  have HX3 := Lib.hid (HX2.out.belowW hb3)
  have hz3 := hb3.size
  have hz2 := HB2.out.size
  clear hb3 hy hya p0 p1 p2 p3 p4 p5
  unfold PgV.val
  simp only []
  have HBA := Lib.hid ((Below.refl w3.heap.size w3).alloc (Nat.le_refl _) (.cells #[.slice b1 p.avgs.length b2, .slice b3 p.curs.length b4, .slice b5 ynl.length b6, .bool p.all, .slice b7 p.drive.length b8, .slice b9 p.code.length b10] 28))
  have HOP := Lib.hid (show OpAt w1 w2.heap.size w3.heap.size w.heap.size ⟨.slice a1 p.avgs.length a2, .slice a3 p.curs.length a4, .slice a5 xnl.length a6, .slice a7 p.drive.length a8, .slice a9 p.code.length a10, xnl⟩ ⟨.slice b1 p.avgs.length b2, .slice b3 p.curs.length b4, .slice b5 ynl.length b6, .slice b7 p.drive.length b8, .slice b9 p.code.length b10, ynl⟩ p (w3.alloc (.cells #[.slice b1 p.avgs.length b2, .slice b3 p.curs.length b4, .slice b5 ynl.length b6, .bool p.all, .slice b7 p.drive.length b8, .slice b9 p.code.length b10] 28)) from
    ⟨⟨p.avgs, p.code, rfl, HS.out.avgs.1, rfl, HY3.out.belowW HBA.out⟩, HYA.out, HX3.out.belowW HBA.out, Blk.new w3 _ _, HB3.out.alloc HB3.out.size _, hz2⟩)
  go_wp2_with fail
  generalize w3.alloc (.cells #[.slice b1 p.avgs.length b2, .slice b3 p.curs.length b4, .slice b5 ynl.length b6, .bool p.all, .slice b7 p.drive.length b8, .slice b9 p.code.length b10] 28) = w4 at *
  have HY4 := Lib.hid (HY3.out.belowW HBA.out).read
  have HB4 := Lib.hid HOP.out.bel
  have HR4 := Lib.hid (HR3.out.up HBA.out)
  have HE4 := Lib.hid (HE.out.below (HB1.out.trans (HB4.out.mono HB1.out.size)))
  refine (Text_any ⟨.slice b1 p.avgs.length b2, .slice b3 p.curs.length b4, .slice b5 ynl.length b6, .slice b7 p.drive.length b8, .slice b9 p.code.length b10, ynl⟩ p w4 ea HY4.out HS.out HE4.out.1.few HE4.out.2.1 HE4.out.2.2.1).mono ?_
  rintro e w5 ⟨hb5, rfl⟩
  rw [HTP.out]
  simp only []
  have HOP5 := Lib.hid (HOP.out.below hb5)
  have HY5 := Lib.hid (HY4.out.up hb5)
  have HR5 := Lib.hid (HR4.out.up hb5)
  clear hb5 HOP HY4 HR4 HX3 HX2 HY3
  have p0 := HOP5.out.bx.cell 0; have p1 := HOP5.out.bx.cell 1; have p2 := HOP5.out.bx.cell 2; have p3 := HOP5.out.bx.cell 3; have p4 := HOP5.out.bx.cell 4; have p5 := HOP5.out.bx.cell 5
  have q0 := HOP5.out.by_.cell 0; have q1 := HOP5.out.by_.cell 1; have q2 := HOP5.out.by_.cell 2; have q3 := HOP5.out.by_.cell 3; have q4 := HOP5.out.by_.cell 4; have q5 := HOP5.out.by_.cell 5
  simp only [List.getElem?_toArray, List.getElem?_cons_zero, List.getElem?_cons_succ] at p0 p1 p2 p3 p4 p5 q0 q1 q2 q3 q4 q5
  go_wp2_with fail
  refine (same20_any ⟨.slice b1 p.avgs.length b2, .slice b3 p.curs.length b4, .slice b5 ynl.length b6, .slice b7 p.drive.length b8, .slice b9 p.code.length b10, ynl⟩ ⟨.slice a1 p.avgs.length a2, .slice a3 p.curs.length a4, .slice a5 xnl.length a6, .slice a7 p.drive.length a8, .slice a9 p.code.length a10, xnl⟩ p p w5 HY5.out HR5.out HS.out HS.out).mono ?_
  rintro e w6 ⟨he, hb6⟩
  rw [decide_eq_true rfl] at he
  subst he
  have HOP6 := Lib.hid (HOP5.out.below hb6)
  clear hb6 HOP5 HY5 HR5 p0 p1 p2 p3 p4 p5 q0 q1 q2 q3 q4 q5
  have q0 := HOP6.out.by_.cell 0
  simp only [List.getElem?_toArray, List.getElem?_cons_zero, List.getElem?_cons_succ] at q0
  go_wp2
  obtain ⟨wb, rfl⟩ : ∃ wb, wb = w6 := ⟨_, rfl⟩
  go_loopw [50] (fun iv wr => ∃ k : Nat, k ≤ p.avgs.length ∧ iv = .int .i64 (k : Int) ∧ OpAt w1 w2.heap.size w3.heap.size w.heap.size ⟨.slice a1 p.avgs.length a2, .slice a3 p.curs.length a4, .slice a5 xnl.length a6, .slice a7 p.drive.length a8, .slice a9 p.code.length a10, xnl⟩ ⟨.slice b1 p.avgs.length b2, .slice b3 p.curs.length b4, .slice b5 ynl.length b6, .slice b7 p.drive.length b8, .slice b9 p.code.length b10, ynl⟩ p wr) (fun iv _ => p.avgs.length - (intOf iv).toNat)
  case atStart => exact ⟨0, Nat.zero_le _, rfl, HOP6.out⟩
  case round =>
    clear HOP6 q0
    obtain ⟨k, hk, rfl, ho⟩ := hrel
    have HO := Lib.hid ho
    clear ho
    have q0 := HO.out.by_.cell 0
    have q5 := HO.out.by_.cell 5
    have lq := HO.out.by_.lt
    simp only [List.getElem?_toArray, List.getElem?_cons_zero, List.getElem?_cons_succ] at q0 q5
    by_cases hlt : k < p.avgs.length
    · obtain ⟨l', m', e1, e2, e3, hpo⟩ := HO.out.ex
      have hoa := hpo.avgs
      simp only [] at hoa
      obtain ⟨ga, rfl, -⟩ := hoa.at_ intSOk (k := k) (by omega)
      obtain ⟨c0, f0⟩ : wr.cell? ⟨ga, k, none⟩ = some (.int .i64 (l'[k]'(by omega))) ∧ wr.frozen? ⟨ga, k, none⟩ = false := by
        obtain ⟨g', e, h1, h2⟩ := at_mo hoa (k := k) (by omega)
        injection e with e
        injection e with e _ _
        subst e
        exact ⟨h1, h2⟩
      have hga := hoa.lt ga rfl
      have HN := Lib.hid (HO.out.putAvg rfl k hlt ((k : Int) + 5) (by omega))
      generalize (l'[k]'(by omega)) = z at *
      have hw5 : IntKind.i64.wrap ((k : Int) + 5) = (k : Int) + 5 := IntWalk.i64_in _ (by omega)
      have hne : ¬ ga = w3.heap.size := fun e => by
        subst e
        obtain ⟨cur, hcur⟩ := own_block hoa rfl
        have := HO.out.by_
        unfold Blk at this
        rw [this] at hcur
        injection hcur with hcur
        injection hcur with _ hcur
        exact absurd hcur (by decide)
      clear hoa hpo e1 e2 e3 l' m' q5
      go_wp2
      go_roundw
      case rel => exact ⟨k + 1, by omega, by go_num, HN.out⟩
      case measure => simp [intOf]; omega
    · obtain rfl : k = p.avgs.length := by omega
      clear q0
      go_wp2
      obtain ⟨wc, rfl⟩ : ∃ wc, wc = wr := ⟨_, rfl⟩
      go_loopw [63] (fun iv wr => ∃ k : Nat, k ≤ p.code.length ∧ iv = .int .i64 (k : Int) ∧ OpAt w1 w2.heap.size w3.heap.size w.heap.size ⟨.slice a1 p.avgs.length a2, .slice a3 p.curs.length a4, .slice a5 xnl.length a6, .slice a7 p.drive.length a8, .slice a9 p.code.length a10, xnl⟩ ⟨.slice b1 p.avgs.length b2, .slice b3 p.curs.length b4, .slice b5 ynl.length b6, .slice b7 p.drive.length b8, .slice b9 p.code.length b10, ynl⟩ p wr) (fun iv _ => p.code.length - (intOf iv).toNat)
      case atStart => exact ⟨0, Nat.zero_le _, rfl, HO.out⟩
      case round =>
        clear HO q5
        obtain ⟨k, hk, rfl, ho⟩ := hrel
        have HO := Lib.hid ho
        clear ho
        by_cases hlt : k < p.code.length
        · have q5 := HO.out.by_.cell 5
          have lq := HO.out.by_.lt
          simp only [List.getElem?_toArray, List.getElem?_cons_zero, List.getElem?_cons_succ] at q5
          obtain ⟨l', m', e1, e2, e3, hpo⟩ := HO.out.ex
          have hoa := ownB_iff.1 hpo.code
          simp only [] at hoa
          obtain ⟨ga, rfl, hcc⟩ := hoa.at_ byteOk (k := k) (by omega)
          have c0 : wr.cell? ⟨ga, k, none⟩ = some (.int .u8 (m'[k]'(by omega)).toNat) := by
            have h := hcc 0 (.int .u8 (m'[k]'(by omega)).toNat) (by decide) rfl
            rw [show k * byteS.size + 0 = k from by show k * 1 + 0 = k; omega] at h
            exact h
          have f0 : wr.frozen? ⟨ga, k, none⟩ = false := World.ownsRow.frozenAt (show wr.ownsRow w2.heap.size byteS.tE byteS.size (.slice (some ⟨ga, 0, none⟩) m'.length b10) m'.length (byteS.cells m') from by have h := hoa; rw [← e3] at h; exact h) k
          have hga := hoa.lt ga rfl
          have HN := Lib.hid (show OpAt w1 w2.heap.size w3.heap.size w.heap.size ⟨.slice a1 p.avgs.length a2, .slice a3 p.curs.length a4, .slice a5 xnl.length a6, .slice a7 p.drive.length a8, .slice a9 p.code.length a10, xnl⟩ ⟨.slice b1 p.avgs.length b2, .slice b3 p.curs.length b4, .slice b5 ynl.length b6, .slice b7 p.drive.length b8, .slice (some ⟨ga, 0, none⟩) p.code.length b10, ynl⟩ p (wr.setCell ⟨ga, k, none⟩ (.int .u8 2)) from HO.out.putCode rfl k hlt 2)
          generalize (m'[k]'(by omega)).toNat = z at *
          have hne : ¬ ga = w3.heap.size := fun e => by
            subst e
            obtain ⟨cur, hcur⟩ := own_block hoa rfl
            have := HO.out.by_
            unfold Blk at this
            rw [this] at hcur
            injection hcur with hcur
            injection hcur with _ hcur
            exact absurd hcur (by decide)
          clear hoa hpo e1 e2 e3 hcc l' m'
          go_wp2
          go_roundw
          case rel => exact ⟨k + 1, by omega, by go_num, HN.out⟩
          case measure => simp [intOf]; omega
        · obtain rfl : k = p.code.length := by omega
          obtain ⟨l', m', e1, e2, e3, hpo⟩ := HO.out.ex
          have HSS := Lib.hid (opSmall HS.out e1 e2 e3)
          have HYR := Lib.hid hpo.read
          have HEW := Lib.hid (HE.out.below (HB1.out.trans (HO.out.bel.mono HB1.out.size)))
          have q0 := HO.out.by_.cell 0; have q1 := HO.out.by_.cell 1; have q2 := HO.out.by_.cell 2; have q3 := HO.out.by_.cell 3; have q4 := HO.out.by_.cell 4; have q5 := HO.out.by_.cell 5
          simp only [List.getElem?_toArray, List.getElem?_cons_zero, List.getElem?_cons_succ] at q0 q1 q2 q3 q4 q5
          have htx := Text_any ⟨.slice b1 p.avgs.length b2, .slice b3 p.curs.length b4, .slice b5 ynl.length b6, .slice b7 p.drive.length b8, .slice b9 p.code.length b10, ynl⟩ { p with avgs := l', code := m' } wr ea HYR.out HSS.out HEW.out.1.few HEW.out.2.1 HEW.out.2.2.1
          have HTX := Lib.hid htx
          clear hpo e1 e2 e3 htx
          go_wp2_with fail
          refine HTX.out.mono ?_
          rintro e w7 ⟨hb7, he7⟩
          have HO7 := Lib.hid (HO.out.below hb7)
          have HY7 := Lib.hid (HYR.out.up hb7)
          have HE7 := Lib.hid (HE.out.below (HB1.out.trans (HO7.out.bel.mono HB1.out.size)))
          clear hb7 HTX HEW q0 q1 q2 q3 q4 q5
          have q0 := HO7.out.by_.cell 0; have q1 := HO7.out.by_.cell 1; have q2 := HO7.out.by_.cell 2; have q3 := HO7.out.by_.cell 3; have q4 := HO7.out.by_.cell 4; have q5 := HO7.out.by_.cell 5
          simp only [List.getElem?_toArray, List.getElem?_cons_zero, List.getElem?_cons_succ] at q0 q1 q2 q3 q4 q5
          have hdp := deep_any ⟨.slice b1 p.avgs.length b2, .slice b3 p.curs.length b4, .slice b5 ynl.length b6, .slice b7 p.drive.length b8, .slice b9 p.code.length b10, ynl⟩ { p with avgs := l', code := m' } w7 HY7.out HSS.out
          have HDP := Lib.hid hdp
          clear hdp
          cases htq : textP { p with avgs := l', code := m' } with
          | none =>
            rw [htq] at he7
            simp only [] at he7
            subst he7
            have HTQ := Lib.hid htq
            clear htq
            go_wp2_with fail
            refine HDP.out.mono ?_
            rintro e w8 ⟨hb8, y2, rfl, hy2, -⟩
            have HO8 := Lib.hid (HO7.out.below hb8)
            have hrt := rtext_any y2 { p with avgs := l', code := m' } w8 hy2.read HSS.out
            have HRT := Lib.hid hrt
            clear hb8 hy2 hrt HDP
            go_wp2_with fail
            refine HRT.out.mono ?_
            rintro e w9 ⟨hb9, he9⟩
            rw [HTQ.out] at he9
            simp only [] at he9
            subst he9
            have HO9 := Lib.hid (HO8.out.below hb9)
            have hnum := Num_20 ea w9 (HE.out.below (HB1.out.trans (HO9.out.bel.mono HB1.out.size))).1
            have HNU := Lib.hid hnum
            clear hb9 HRT hnum
            go_wp2_with fail
            refine HNU.out.mono ?_
            rintro e w10 ⟨rfl, rfl⟩
            have htw := text_wt HS.out HW.out HTP.out
            have hrp : readP t0 = .inl p := readP_textP HTP.out (smallQ_of HS.out)
            have HRP := Lib.hid hrp
            have HE9 := Lib.hid (HE.out.below (HB1.out.trans (HO9.out.bel.mono HB1.out.size)))
            have hra := readA_any t0 w9 ea htw.1 htw.2 HE9.out.1 HE9.out.2.1 HE9.out.2.2.2
            have HRA := Lib.hid hra
            have HTW := Lib.hid htw
            clear hra hrp htw q0 q1 q2 q3 q4 q5
            go_wp2_with fail
            refine HRA.out.mono ?_
            intro e w11 h11
            unfold ReadRetA at h11
            rw [HRP.out] at h11
            simp only [] at h11
            obtain ⟨hb11, ya, rfl, hyo, hyap⟩ := h11
            obtain ⟨c1, c2, c3, c4, c5, c6, c7, c8, c9, c10, hyf⟩ := hyo.form
            obtain ⟨yav, ycv, ynv, ydv, ykv, yl⟩ := ya
            simp only [PgV.mk.injEq, and_true] at hyf
            obtain ⟨rfl, rfl, rfl, rfl, rfl⟩ := hyf
            have hz9 := HO9.out.bel.size
            have hz11 := hb11.size
            have HX9 := Lib.hid HO9.out.bx
            have HB11 := Lib.hid (HO9.out.bel.trans (hb11.mono hz9))
            have HX11 := Lib.hid (HX9.out.belowW hb11)
            have HYO11 := Lib.hid hyo; have HYAP := Lib.hid hyap
            clear hb11 hyo hyap HRA HO9 HO8 HO7 HO
            unfold PgV.val
            simp only []
            have HBC := Lib.hid ((Below.refl w11.heap.size w11).alloc (Nat.le_refl _) (.cells #[.slice c1 p.avgs.length c2, .slice c3 p.curs.length c4, .slice c5 yl.length c6, .bool p.all, .slice c7 p.drive.length c8, .slice c9 p.code.length c10] 28))
            have HBY12 := Lib.hid (Blk.new w11 28 #[.slice c1 p.avgs.length c2, .slice c3 p.curs.length c4, .slice c5 yl.length c6, .bool p.all, .slice c7 p.drive.length c8, .slice c9 p.code.length c10])
            go_wp2_with fail
            generalize w11.alloc (.cells #[.slice c1 p.avgs.length c2, .slice c3 p.curs.length c4, .slice c5 yl.length c6, .bool p.all, .slice c7 p.drive.length c8, .slice c9 p.code.length c10] 28) = w12 at *
            have HB12 := Lib.hid (HB11.out.trans (HBC.out.mono HB11.out.size))
            have HX12 := Lib.hid (HX11.out.belowW HBC.out)
            have HYO12 := Lib.hid (HYO11.out.belowW HBC.out)
            have hz12 := HBC.out.size
            have HE12 := Lib.hid (HE.out.below (HB1.out.trans (HB12.out.mono HB1.out.size)))
            have hra := readA_any t0 w12 ea HTW.out.1 HTW.out.2 HE12.out.1 HE12.out.2.1 HE12.out.2.2.2
            have HRA := Lib.hid hra
            clear hra
            refine HRA.out.mono ?_
            intro e w13 h13
            unfold ReadRetA at h13
            rw [HRP.out] at h13
            simp only [] at h13
            obtain ⟨hb13, zb, rfl, hzo, hzap⟩ := h13
            obtain ⟨d1, d2, d3, d4, d5, d6, d7, d8, d9, d10, hzf⟩ := hzo.form
            obtain ⟨zav, zcv, znv, zdv, zkv, zl⟩ := zb
            simp only [PgV.mk.injEq, and_true] at hzf
            obtain ⟨rfl, rfl, rfl, rfl, rfl⟩ := hzf
            have hz13 := hb13.size
            have HB13 := Lib.hid (HB12.out.trans (hb13.mono HB12.out.size))
            have HX13 := Lib.hid (HX12.out.belowW hb13)
            have HYO13 := Lib.hid (HYO12.out.belowW hb13)
            have HBY13 := Lib.hid (HBY12.out.belowW hb13)
            have HZO13 := Lib.hid hzo; have HZAP := Lib.hid hzap
            clear hb13 hzo hzap HRA HX11 HX12 HYO12 HBY12
            unfold PgV.val
            simp only []
            have HBD := Lib.hid ((Below.refl w13.heap.size w13).alloc (Nat.le_refl _) (.cells #[.slice d1 p.avgs.length d2, .slice d3 p.curs.length d4, .slice d5 zl.length d6, .bool p.all, .slice d7 p.drive.length d8, .slice d9 p.code.length d10] 28))
            have HOQ := Lib.hid (show OqAt w1 w9.heap.size w12.heap.size w11.heap.size w13.heap.size w.heap.size ⟨.slice a1 p.avgs.length a2, .slice a3 p.curs.length a4, .slice a5 xnl.length a6, .slice a7 p.drive.length a8, .slice a9 p.code.length a10, xnl⟩ ⟨.slice c1 p.avgs.length c2, .slice c3 p.curs.length c4, .slice c5 yl.length c6, .slice c7 p.drive.length c8, .slice c9 p.code.length c10, yl⟩ ⟨.slice d1 p.avgs.length d2, .slice d3 p.curs.length d4, .slice d5 zl.length d6, .slice d7 p.drive.length d8, .slice d9 p.code.length d10, zl⟩ p (w13.alloc (.cells #[.slice d1 p.avgs.length d2, .slice d3 p.curs.length d4, .slice d5 zl.length d6, .bool p.all, .slice d7 p.drive.length d8, .slice d9 p.code.length d10] 28)) from
              ⟨⟨p.curs, rfl, HYO13.out.belowW HBD.out⟩, HZO13.out.belowW HBD.out, fun b h1 h2 => by
                have g1 := (HZO13.out.curs.lt b h1).1
                have g2 := (HYO11.out.curs.lt b h2).2
                omega, HX13.out.belowW HBD.out, HBY13.out.belowW HBD.out, Blk.new w13 _ _, HB13.out.alloc HB13.out.size _, hz9⟩)
            have p0 := HOQ.out.bx.cell 0; have p1 := HOQ.out.bx.cell 1; have p2 := HOQ.out.bx.cell 2; have p3 := HOQ.out.bx.cell 3; have p4 := HOQ.out.bx.cell 4; have p5 := HOQ.out.bx.cell 5
            have q0 := HOQ.out.by_.cell 0; have q1 := HOQ.out.by_.cell 1; have q2 := HOQ.out.by_.cell 2; have q3 := HOQ.out.by_.cell 3; have q4 := HOQ.out.by_.cell 4; have q5 := HOQ.out.by_.cell 5
            simp only [List.getElem?_toArray, List.getElem?_cons_zero, List.getElem?_cons_succ] at p0 p1 p2 p3 p4 p5 q0 q1 q2 q3 q4 q5
            have HRX := Lib.hid ((HX.out.up HB1.out).up (HOQ.out.bel))
            have HRY := Lib.hid (HYO13.out.belowW HBD.out).read
            have HRZ := Lib.hid (HZO13.out.belowW HBD.out).read
            have HZB := Lib.hid (Blk.new w13 28 #[.slice d1 p.avgs.length d2, .slice d3 p.curs.length d4, .slice d5 zl.length d6, .bool p.all, .slice d7 p.drive.length d8, .slice d9 p.code.length d10])
            clear HX13 HYO13 HBY13
            go_wp2_with fail
            generalize w13.alloc (.cells #[.slice d1 p.avgs.length d2, .slice d3 p.curs.length d4, .slice d5 zl.length d6, .bool p.all, .slice d7 p.drive.length d8, .slice d9 p.code.length d10] 28) = w14 at *
            refine (same20_any ⟨.slice c1 p.avgs.length c2, .slice c3 p.curs.length c4, .slice c5 yl.length c6, .slice c7 p.drive.length c8, .slice c9 p.code.length c10, yl⟩ ⟨.slice a1 p.avgs.length a2, .slice a3 p.curs.length a4, .slice a5 xnl.length a6, .slice a7 p.drive.length a8, .slice a9 p.code.length a10, xnl⟩ p p w14 HRY.out HRX.out HS.out HS.out).mono ?_
            rintro e w15 ⟨he, hb15⟩
            rw [decide_eq_true rfl] at he
            subst he
            have HOQ15 := Lib.hid (HOQ.out.below hb15)
            have HRX15 := Lib.hid (HRX.out.up hb15)
            have HRZ15 := Lib.hid (HRZ.out.up hb15)
            clear hb15 HOQ HRX HRY HRZ HZB p0 p1 p2 p3 p4 p5 q0 q1 q2 q3 q4 q5
            have p0 := HOQ15.out.bx.cell 0; have p1 := HOQ15.out.bx.cell 1; have p2 := HOQ15.out.bx.cell 2; have p3 := HOQ15.out.bx.cell 3; have p4 := HOQ15.out.bx.cell 4; have p5 := HOQ15.out.bx.cell 5
            have q0 := HOQ15.out.bz.cell 0; have q1 := HOQ15.out.bz.cell 1; have q2 := HOQ15.out.bz.cell 2; have q3 := HOQ15.out.bz.cell 3; have q4 := HOQ15.out.bz.cell 4; have q5 := HOQ15.out.bz.cell 5
            simp only [List.getElem?_toArray, List.getElem?_cons_zero, List.getElem?_cons_succ] at p0 p1 p2 p3 p4 p5 q0 q1 q2 q3 q4 q5
            go_wp2_with fail
            refine (same20_any ⟨.slice d1 p.avgs.length d2, .slice d3 p.curs.length d4, .slice d5 zl.length d6, .slice d7 p.drive.length d8, .slice d9 p.code.length d10, zl⟩ ⟨.slice a1 p.avgs.length a2, .slice a3 p.curs.length a4, .slice a5 xnl.length a6, .slice a7 p.drive.length a8, .slice a9 p.code.length a10, xnl⟩ p p w15 HRZ15.out HRX15.out HS.out HS.out).mono ?_
            rintro e w16 ⟨he, hb16⟩
            rw [decide_eq_true rfl] at he
            subst he
            have HOQ16 := Lib.hid (HOQ15.out.below hb16)
            clear hb16 HOQ15 HRX15 HRZ15 p0 p1 p2 p3 p4 p5 q0 q1 q2 q3 q4 q5
            have q1 := HOQ16.out.by_.cell 1
            simp only [List.getElem?_toArray, List.getElem?_cons_zero, List.getElem?_cons_succ] at q1
            go_wp2
            obtain ⟨wd, rfl⟩ : ∃ wd, wd = w16 := ⟨_, rfl⟩
            go_loopw [124] (fun iv wr => ∃ k : Nat, k ≤ p.curs.length ∧ iv = .int .i64 (k : Int) ∧ OqAt w1 w9.heap.size w12.heap.size w11.heap.size w13.heap.size w.heap.size ⟨.slice a1 p.avgs.length a2, .slice a3 p.curs.length a4, .slice a5 xnl.length a6, .slice a7 p.drive.length a8, .slice a9 p.code.length a10, xnl⟩ ⟨.slice c1 p.avgs.length c2, .slice c3 p.curs.length c4, .slice c5 yl.length c6, .slice c7 p.drive.length c8, .slice c9 p.code.length c10, yl⟩ ⟨.slice d1 p.avgs.length d2, .slice d3 p.curs.length d4, .slice d5 zl.length d6, .slice d7 p.drive.length d8, .slice d9 p.code.length d10, zl⟩ p wr) (fun iv _ => p.curs.length - (intOf iv).toNat)
            case atStart => exact ⟨0, Nat.zero_le _, rfl, HOQ16.out⟩
            case round =>
              clear HOQ16 q1
              obtain ⟨k, hk, rfl, ho⟩ := hrel
              have HO := Lib.hid ho
              clear ho
              have q1 := HO.out.by_.cell 1
              have lq := HO.out.by_.lt
              simp only [List.getElem?_toArray, List.getElem?_cons_zero, List.getElem?_cons_succ] at q1
              by_cases hlt : k < p.curs.length
              · obtain ⟨cs, e1, hpo⟩ := HO.out.a
                have hoa := hpo.curs
                simp only [] at hoa
                obtain ⟨ga, rfl, hcc⟩ := hoa.at_ lfSOk (k := k) (by omega)
                have v1 : wr.cell? ⟨ga, k * 2 + 1, none⟩ = some (.string (str (cs[k]'(by omega)).term)) := hcc 1 _ (by decide) rfl
                have g1 : wr.frozen? ⟨ga, k * 2 + 1, none⟩ = false := World.ownsRow.frozenAt (show wr.ownsRow w9.heap.size lfS.tE lfS.size (.slice (some ⟨ga, 0, none⟩) cs.length c4) cs.length (lfS.cells cs) from by have h := hoa; rw [← e1] at h; exact h) _
                have hga := hoa.lt ga rfl
                have HN := Lib.hid (HO.out.put rfl k hlt [115, 112, 111, 105, 108, 116])
                generalize str (cs[k]'(by omega)).term = zz at *
                have hne : ¬ ga = w11.heap.size := fun e => by
                  subst e
                  obtain ⟨cur, hcur⟩ := own_block hoa rfl
                  have := HO.out.by_
                  unfold Blk at this
                  rw [this] at hcur
                  injection hcur with hcur
                  injection hcur with _ hcur
                  exact absurd hcur (by decide)
                clear hoa hpo e1 hcc cs
                go_wp2
                go_roundw
                case rel => exact ⟨k + 1, by omega, by go_num, HN.out⟩
                case measure => simp [intOf]; omega
              · obtain rfl : k = p.curs.length := by omega
                clear q1
                have r1 := HO.out.bz.cell 1
                simp only [List.getElem?_toArray, List.getElem?_cons_zero, List.getElem?_cons_succ] at r1
                go_wp2
                obtain ⟨we, rfl⟩ : ∃ we, we = wr := ⟨_, rfl⟩
                go_loopw [136] (fun iv wr => ∃ k : Nat, k ≤ p.curs.length ∧ iv = .int .i64 (k : Int) ∧ OqAt w1 w9.heap.size w12.heap.size w11.heap.size w13.heap.size w.heap.size ⟨.slice a1 p.avgs.length a2, .slice a3 p.curs.length a4, .slice a5 xnl.length a6, .slice a7 p.drive.length a8, .slice a9 p.code.length a10, xnl⟩ ⟨.slice c1 p.avgs.length c2, .slice c3 p.curs.length c4, .slice c5 yl.length c6, .slice c7 p.drive.length c8, .slice c9 p.code.length c10, yl⟩ ⟨.slice d1 p.avgs.length d2, .slice d3 p.curs.length d4, .slice d5 zl.length d6, .slice d7 p.drive.length d8, .slice d9 p.code.length d10, zl⟩ p wr) (fun iv _ => p.curs.length - (intOf iv).toNat)
                case atStart => exact ⟨0, Nat.zero_le _, rfl, HO.out⟩
                case round =>
                  clear HO r1
                  obtain ⟨k, hk, rfl, ho⟩ := hrel
                  have HO := Lib.hid ho
                  clear ho
                  by_cases hlt : k < p.curs.length
                  · have r1 := HO.out.bz.cell 1
                    have p1 := HO.out.bx.cell 1
                    simp only [List.getElem?_toArray, List.getElem?_cons_zero, List.getElem?_cons_succ] at r1 p1
                    obtain ⟨az, rfl, hab, v0, v1⟩ := at_lf (RdL.of_own HO.out.b.curs) hlt
                    obtain ⟨ax, rfl, hab2, u0, u1⟩ := at_lf ((HX.out.up HB1.out).up (HO.out.bel)).curs hlt
                    have hq := fun W => lf_neq p.curs[k] p.curs[k] W
                    have hg := fun op a b W => lf_guard p.curs[k] p.curs[k] op a b W
                    unfold lfVal at hq hg
                    rw [decide_eq_true rfl] at hq
                    generalize p.curs[k] = z at *
                    go_wp2
                    go_quiet (fail)
                    go_wp2
                    go_roundw
                    case rel => exact ⟨k + 1, by omega, by go_num, HO.out.below ⟨rfl, rfl, rfl, Nat.le_refl _, fun _ _ => rfl⟩⟩
                    case measure => simp [intOf]; omega
                  · obtain rfl : k = p.curs.length := by omega
                    obtain ⟨cs, e1, hpo⟩ := HO.out.a
                    have hyl : yl.length ≤ 1048576 := by
                      have : yl.length = p.nears.length := by rw [← hpo.nmap, List.length_map]
                      rw [this]; exact HS.out.nears.2
                    have hzl : zl.length ≤ 1048576 := by
                      have : zl.length = p.nears.length := by rw [← HO.out.b.nmap, List.length_map]
                      rw [this]; exact HS.out.nears.2
                    have hfarP := far_cross HYO11.out HO.out.b hz12 HYAP.out HZAP.out
                    have hB1w := HO.out.bel.size
                    have HSC := Lib.hid (show SmallPg { p with curs := p.curs } from HS.out)
                    have hown1 : ∀ v4 w4, OwnL goS w4 wr.heap.size v4 (pgSl ⟨.slice c1 p.avgs.length c2, .slice c3 p.curs.length c4, .slice c5 yl.length c6, .slice c7 p.drive.length c8, .slice c9 p.code.length c10, yl⟩ ++ pgSl ⟨.slice d1 p.avgs.length d2, .slice d3 p.curs.length d4, .slice d5 zl.length d6, .slice d7 p.drive.length d8, .slice d9 p.code.length d10, zl⟩) → Below wr.heap.size wr w4 → Calls Tryz.prog 36 #[v4] w4 fun e w' => e = .returned (.bool true) ∧ Below w1.heap.size w4 w' ∧ KTy moS.tE w4 w' := fun v4 w4 h1 h2 => by
                      have gy := (hpo.belowW h2).owns.1.more (B2 := w1.heap.size) hz9
                      have gz := (HO.out.b.belowW h2).owns.1.more (B2 := w1.heap.size) (by omega)
                      have hm := (gy.append gz).many hfarP
                      refine ownInts_any (B := w1.heap.size) (h1.more hB1w) hm (fun q => Nat.le_trans (getD_small (n := 1048576) (fun l hl => ?_) q) (by decide)) (Nat.le_trans hB1w h2.size) ?_
                      · rcases List.mem_append.1 hl with hl | hl
                        · exact pgCs_small (p := p) HS.out l hl
                        · exact pgCs_small (p := p) HS.out l hl
                      · rw [List.length_append, pgSl_len, pgSl_len]; simp only []; omega
                    have hown2 : ∀ v5 w5, OwnL MoB.goS w5 wr.heap.size v5 [⟨c9, p.code.length, c10⟩, ⟨d9, p.code.length, d10⟩] → wr.heap.size ≤ w5.heap.size → KTy moS.tE wr w5 → Calls Tryz.prog 13 #[v5] w5 fun e w' => e = .returned (.bool true) ∧ Below w1.heap.size w5 w' := fun v5 w5 h1 h2 h3 => by
                      have gy : OwnL MoB.moS w5 w1.heap.size (SlV.val ⟨c9, p.code.length, c10⟩) _ := ((MoB.own_iff.1 hpo.code).kty h3 (by decide)).more hz9
                      have gz : OwnL MoB.moS w5 w1.heap.size (SlV.val ⟨d9, p.code.length, d10⟩) _ := ((MoB.own_iff.1 HO.out.b.code).kty h3 (by decide)).more (by omega)
                      have hm := (Owns.cons gy (Owns.cons gz Owns.nil)).many (by
                        show List.Pairwise FarV [_, _]
                        rw [List.pairwise_cons]
                        refine ⟨fun u hu b h4 h5 => ?_, by simp⟩
                        obtain rfl := List.mem_singleton.1 hu
                        have g1 := ((MoB.own_iff.1 HYO11.out.code).lt b h4).2
                        have g2 := ((MoB.own_iff.1 HO.out.b.code).lt b h5).1
                        omega)
                      refine (MoB.own_any (B := w1.heap.size) (h1.more hB1w) hm (fun q => Nat.le_trans (getD_small (n := 1048576) (fun l hl => ?_) q) (by decide)) (Nat.le_trans hB1w h2) (by simp)).mono fun e w' h => ⟨h.1, h.2.1⟩
                      rcases List.mem_cons.1 hl with rfl | hl
                      · rw [List.length_map]; exact hkl
                      · obtain rfl := List.mem_singleton.1 hl
                        rw [List.length_map]; exact hkl
                    have HO1 := Lib.hid hown1; have HO2 := Lib.hid hown2; have HPO := Lib.hid hpo
                    clear hown1 hown2 hpo hfarP
                    go_upto_region 37 with (fail)
                    go_cut [166] (fun v wx => v = .bool false ∧ Below w1.heap.size w1 wx)
                    case first =>
                      refine opz_any ⟨.slice c1 p.avgs.length c2, .slice c3 p.curs.length c4, .slice c5 yl.length c6, .slice c7 p.drive.length c8, .slice c9 p.code.length c10, yl⟩ ⟨.slice d1 p.avgs.length d2, .slice d3 p.curs.length d4, .slice d5 zl.length d6, .slice d7 p.drive.length d8, .slice d9 p.code.length d10, zl⟩ { p with curs := cs } p w11.heap.size w13.heap.size w1.heap.size c9 p.code.length c10 d9 p.code.length d10 rfl rfl HO.out.by_ HO.out.bz rfl rfl HPO.out.read HO.out.b.read hyl hzl hB1w rfl HO1.out HO2.out ?_
                      intro f wx hf hb
                      have HR := Lib.hid (show f 166 = .bool false ∧ Below w1.heap.size w1 wx from ⟨hf, HO.out.bel.trans hb⟩)
                      clear hf hb
                      unfold putAll opzds
                      simp only [List.foldl_cons, List.foldl_nil, List.setIfInBounds_toArray, List.set_cons_zero, List.set_cons_succ]
                      go_wp2
                      go_meet
                      exact HR.out
                    case rest =>
                    obtain ⟨rfl, hb15⟩ := hcut
                    have HB15 := Lib.hid hb15
                    have HE15 := Lib.hid (HE.out.below (HB1.out.trans (hb15.mono HB1.out.size)))
                    have HX15 := Lib.hid (HX1.out.belowW hb15)
                    have HR15 := Lib.hid (HR1.out.up hb15)
                    have hra := readA_any t0 wc ea HTW.out.1 HTW.out.2 HE15.out.1 HE15.out.2.1 HE15.out.2.2.2
                    have HRA := Lib.hid hra
                    clear hra hb15 HO1 HO2 HPO HO e1
                    go_wp2_with fail
                    refine HRA.out.mono ?_
                    intro e w17 h17
                    unfold ReadRetA at h17
                    rw [HRP.out] at h17
                    simp only [] at h17
                    obtain ⟨hb17, vc, rfl, hvo, -⟩ := h17
                    obtain ⟨f1, f2, f3, f4, f5, f6, f7, f8, f9, f10, hvf⟩ := hvo.form
                    obtain ⟨vav, vcv, vnv, vdv, vkv, vl⟩ := vc
                    simp only [PgV.mk.injEq, and_true] at hvf
                    obtain ⟨rfl, rfl, rfl, rfl, rfl⟩ := hvf
                    have HB17 := Lib.hid (HB15.out.trans (hb17.mono HB15.out.size))
                    have HX17 := Lib.hid (HX15.out.belowW hb17)
                    have HR17 := Lib.hid (HR15.out.up hb17)
                    have HV17 := Lib.hid hvo.read
                    clear hb17 hvo HRA
                    unfold PgV.val
                    simp only []
                    have HBE := Lib.hid ((Below.refl w17.heap.size w17).alloc (Nat.le_refl _) (.cells #[.slice f1 p.avgs.length f2, .slice f3 p.curs.length f4, .slice f5 vl.length f6, .bool p.all, .slice f7 p.drive.length f8, .slice f9 p.code.length f10] 28))
                    have HBV := Lib.hid (Blk.new w17 28 #[.slice f1 p.avgs.length f2, .slice f3 p.curs.length f4, .slice f5 vl.length f6, .bool p.all, .slice f7 p.drive.length f8, .slice f9 p.code.length f10])
                    have HX18 := Lib.hid (HX17.out.belowW HBE.out)
                    have p0 := HX18.out.cell 0; have p1 := HX18.out.cell 1; have p2 := HX18.out.cell 2; have p3 := HX18.out.cell 3; have p4 := HX18.out.cell 4; have p5 := HX18.out.cell 5
                    simp only [List.getElem?_toArray, List.getElem?_cons_zero, List.getElem?_cons_succ] at p0 p1 p2 p3 p4 p5
                    have HR18 := Lib.hid (HR17.out.up HBE.out)
                    have HV18 := Lib.hid (HV17.out.up HBE.out)
                    have HB18 := Lib.hid (HB17.out.trans (HBE.out.mono HB17.out.size))
                    go_wp2_with fail
                    generalize w17.alloc (.cells #[.slice f1 p.avgs.length f2, .slice f3 p.curs.length f4, .slice f5 vl.length f6, .bool p.all, .slice f7 p.drive.length f8, .slice f9 p.code.length f10] 28) = w18 at *
                    refine (same20_any ⟨.slice f1 p.avgs.length f2, .slice f3 p.curs.length f4, .slice f5 vl.length f6, .slice f7 p.drive.length f8, .slice f9 p.code.length f10, vl⟩ ⟨.slice a1 p.avgs.length a2, .slice a3 p.curs.length a4, .slice a5 xnl.length a6, .slice a7 p.drive.length a8, .slice a9 p.code.length a10, xnl⟩ p p w18 HV18.out HR18.out HS.out HS.out).mono ?_
                    rintro e w19 ⟨he, hb19⟩
                    rw [decide_eq_true rfl] at he
                    subst he
                    have HB19 := Lib.hid (HB18.out.trans (hb19.mono HB18.out.size))
                    clear hb19 p0 p1 p2 p3 p4 p5
                    go_wp2
                    go_ret
                    exact ⟨rfl, HB1.out.trans (HB19.out.mono HB1.out.size)⟩
          | some t1 =>
            rw [htq] at he7
            simp only [] at he7
            subst he7
            have HTQ := Lib.hid htq
            clear htq
            go_wp2_with fail
            refine HDP.out.mono ?_
            rintro e w8 ⟨hb8, y2, rfl, hy2, -⟩
            have HO8 := Lib.hid (HO7.out.below hb8)
            have hrt := rtext_any y2 { p with avgs := l', code := m' } w8 hy2.read HSS.out
            have HRT := Lib.hid hrt
            clear hb8 hy2 hrt HDP
            go_wp2_with fail
            refine HRT.out.mono ?_
            rintro e w9 ⟨hb9, he9⟩
            rw [HTQ.out] at he9
            simp only [] at he9
            subst he9
            have HO9 := Lib.hid (HO8.out.below hb9)
            clear hb9 HRT
            go_wp2_with fail
            refine (Num_nil _).mono ?_
            rintro e w10 ⟨rfl, rfl⟩
            have htw := text_wt HS.out HW.out HTP.out
            have hrp : readP t0 = .inl p := readP_textP HTP.out (smallQ_of HS.out)
            have HRP := Lib.hid hrp
            have HE9 := Lib.hid (HE.out.below (HB1.out.trans (HO9.out.bel.mono HB1.out.size)))
            have hra := readA_any t0 w9 ea htw.1 htw.2 HE9.out.1 HE9.out.2.1 HE9.out.2.2.2
            have HRA := Lib.hid hra
            have HTW := Lib.hid htw
            clear hra hrp htw q0 q1 q2 q3 q4 q5
            go_wp2_with fail
            refine HRA.out.mono ?_
            intro e w11 h11
            unfold ReadRetA at h11
            rw [HRP.out] at h11
            simp only [] at h11
            obtain ⟨hb11, ya, rfl, hyo, hyap⟩ := h11
            obtain ⟨c1, c2, c3, c4, c5, c6, c7, c8, c9, c10, hyf⟩ := hyo.form
            obtain ⟨yav, ycv, ynv, ydv, ykv, yl⟩ := ya
            simp only [PgV.mk.injEq, and_true] at hyf
            obtain ⟨rfl, rfl, rfl, rfl, rfl⟩ := hyf
            have hz9 := HO9.out.bel.size
            have hz11 := hb11.size
            have HX9 := Lib.hid HO9.out.bx
            have HB11 := Lib.hid (HO9.out.bel.trans (hb11.mono hz9))
            have HX11 := Lib.hid (HX9.out.belowW hb11)
            have HYO11 := Lib.hid hyo; have HYAP := Lib.hid hyap
            clear hb11 hyo hyap HRA HO9 HO8 HO7 HO
            unfold PgV.val
            simp only []
            have HBC := Lib.hid ((Below.refl w11.heap.size w11).alloc (Nat.le_refl _) (.cells #[.slice c1 p.avgs.length c2, .slice c3 p.curs.length c4, .slice c5 yl.length c6, .bool p.all, .slice c7 p.drive.length c8, .slice c9 p.code.length c10] 28))
            have HBY12 := Lib.hid (Blk.new w11 28 #[.slice c1 p.avgs.length c2, .slice c3 p.curs.length c4, .slice c5 yl.length c6, .bool p.all, .slice c7 p.drive.length c8, .slice c9 p.code.length c10])
            go_wp2_with fail
            generalize w11.alloc (.cells #[.slice c1 p.avgs.length c2, .slice c3 p.curs.length c4, .slice c5 yl.length c6, .bool p.all, .slice c7 p.drive.length c8, .slice c9 p.code.length c10] 28) = w12 at *
            have HB12 := Lib.hid (HB11.out.trans (HBC.out.mono HB11.out.size))
            have HX12 := Lib.hid (HX11.out.belowW HBC.out)
            have HYO12 := Lib.hid (HYO11.out.belowW HBC.out)
            have hz12 := HBC.out.size
            have HE12 := Lib.hid (HE.out.below (HB1.out.trans (HB12.out.mono HB1.out.size)))
            have hra := readA_any t0 w12 ea HTW.out.1 HTW.out.2 HE12.out.1 HE12.out.2.1 HE12.out.2.2.2
            have HRA := Lib.hid hra
            clear hra
            refine HRA.out.mono ?_
            intro e w13 h13
            unfold ReadRetA at h13
            rw [HRP.out] at h13
            simp only [] at h13
            obtain ⟨hb13, zb, rfl, hzo, hzap⟩ := h13
            obtain ⟨d1, d2, d3, d4, d5, d6, d7, d8, d9, d10, hzf⟩ := hzo.form
            obtain ⟨zav, zcv, znv, zdv, zkv, zl⟩ := zb
            simp only [PgV.mk.injEq, and_true] at hzf
            obtain ⟨rfl, rfl, rfl, rfl, rfl⟩ := hzf
            have hz13 := hb13.size
            have HB13 := Lib.hid (HB12.out.trans (hb13.mono HB12.out.size))
            have HX13 := Lib.hid (HX12.out.belowW hb13)
            have HYO13 := Lib.hid (HYO12.out.belowW hb13)
            have HBY13 := Lib.hid (HBY12.out.belowW hb13)
            have HZO13 := Lib.hid hzo; have HZAP := Lib.hid hzap
            clear hb13 hzo hzap HRA HX11 HX12 HYO12 HBY12
            unfold PgV.val
            simp only []
            have HBD := Lib.hid ((Below.refl w13.heap.size w13).alloc (Nat.le_refl _) (.cells #[.slice d1 p.avgs.length d2, .slice d3 p.curs.length d4, .slice d5 zl.length d6, .bool p.all, .slice d7 p.drive.length d8, .slice d9 p.code.length d10] 28))
            have HOQ := Lib.hid (show OqAt w1 w9.heap.size w12.heap.size w11.heap.size w13.heap.size w.heap.size ⟨.slice a1 p.avgs.length a2, .slice a3 p.curs.length a4, .slice a5 xnl.length a6, .slice a7 p.drive.length a8, .slice a9 p.code.length a10, xnl⟩ ⟨.slice c1 p.avgs.length c2, .slice c3 p.curs.length c4, .slice c5 yl.length c6, .slice c7 p.drive.length c8, .slice c9 p.code.length c10, yl⟩ ⟨.slice d1 p.avgs.length d2, .slice d3 p.curs.length d4, .slice d5 zl.length d6, .slice d7 p.drive.length d8, .slice d9 p.code.length d10, zl⟩ p (w13.alloc (.cells #[.slice d1 p.avgs.length d2, .slice d3 p.curs.length d4, .slice d5 zl.length d6, .bool p.all, .slice d7 p.drive.length d8, .slice d9 p.code.length d10] 28)) from
              ⟨⟨p.curs, rfl, HYO13.out.belowW HBD.out⟩, HZO13.out.belowW HBD.out, fun b h1 h2 => by
                have g1 := (HZO13.out.curs.lt b h1).1
                have g2 := (HYO11.out.curs.lt b h2).2
                omega, HX13.out.belowW HBD.out, HBY13.out.belowW HBD.out, Blk.new w13 _ _, HB13.out.alloc HB13.out.size _, hz9⟩)
            have p0 := HOQ.out.bx.cell 0; have p1 := HOQ.out.bx.cell 1; have p2 := HOQ.out.bx.cell 2; have p3 := HOQ.out.bx.cell 3; have p4 := HOQ.out.bx.cell 4; have p5 := HOQ.out.bx.cell 5
            have q0 := HOQ.out.by_.cell 0; have q1 := HOQ.out.by_.cell 1; have q2 := HOQ.out.by_.cell 2; have q3 := HOQ.out.by_.cell 3; have q4 := HOQ.out.by_.cell 4; have q5 := HOQ.out.by_.cell 5
            simp only [List.getElem?_toArray, List.getElem?_cons_zero, List.getElem?_cons_succ] at p0 p1 p2 p3 p4 p5 q0 q1 q2 q3 q4 q5
            have HRX := Lib.hid ((HX.out.up HB1.out).up (HOQ.out.bel))
            have HRY := Lib.hid (HYO13.out.belowW HBD.out).read
            have HRZ := Lib.hid (HZO13.out.belowW HBD.out).read
            have HZB := Lib.hid (Blk.new w13 28 #[.slice d1 p.avgs.length d2, .slice d3 p.curs.length d4, .slice d5 zl.length d6, .bool p.all, .slice d7 p.drive.length d8, .slice d9 p.code.length d10])
            clear HX13 HYO13 HBY13
            go_wp2_with fail
            generalize w13.alloc (.cells #[.slice d1 p.avgs.length d2, .slice d3 p.curs.length d4, .slice d5 zl.length d6, .bool p.all, .slice d7 p.drive.length d8, .slice d9 p.code.length d10] 28) = w14 at *
            refine (same20_any ⟨.slice c1 p.avgs.length c2, .slice c3 p.curs.length c4, .slice c5 yl.length c6, .slice c7 p.drive.length c8, .slice c9 p.code.length c10, yl⟩ ⟨.slice a1 p.avgs.length a2, .slice a3 p.curs.length a4, .slice a5 xnl.length a6, .slice a7 p.drive.length a8, .slice a9 p.code.length a10, xnl⟩ p p w14 HRY.out HRX.out HS.out HS.out).mono ?_
            rintro e w15 ⟨he, hb15⟩
            rw [decide_eq_true rfl] at he
            subst he
            have HOQ15 := Lib.hid (HOQ.out.below hb15)
            have HRX15 := Lib.hid (HRX.out.up hb15)
            have HRZ15 := Lib.hid (HRZ.out.up hb15)
            clear hb15 HOQ HRX HRY HRZ HZB p0 p1 p2 p3 p4 p5 q0 q1 q2 q3 q4 q5
            have p0 := HOQ15.out.bx.cell 0; have p1 := HOQ15.out.bx.cell 1; have p2 := HOQ15.out.bx.cell 2; have p3 := HOQ15.out.bx.cell 3; have p4 := HOQ15.out.bx.cell 4; have p5 := HOQ15.out.bx.cell 5
            have q0 := HOQ15.out.bz.cell 0; have q1 := HOQ15.out.bz.cell 1; have q2 := HOQ15.out.bz.cell 2; have q3 := HOQ15.out.bz.cell 3; have q4 := HOQ15.out.bz.cell 4; have q5 := HOQ15.out.bz.cell 5
            simp only [List.getElem?_toArray, List.getElem?_cons_zero, List.getElem?_cons_succ] at p0 p1 p2 p3 p4 p5 q0 q1 q2 q3 q4 q5
            go_wp2_with fail
            refine (same20_any ⟨.slice d1 p.avgs.length d2, .slice d3 p.curs.length d4, .slice d5 zl.length d6, .slice d7 p.drive.length d8, .slice d9 p.code.length d10, zl⟩ ⟨.slice a1 p.avgs.length a2, .slice a3 p.curs.length a4, .slice a5 xnl.length a6, .slice a7 p.drive.length a8, .slice a9 p.code.length a10, xnl⟩ p p w15 HRZ15.out HRX15.out HS.out HS.out).mono ?_
            rintro e w16 ⟨he, hb16⟩
            rw [decide_eq_true rfl] at he
            subst he
            have HOQ16 := Lib.hid (HOQ15.out.below hb16)
            clear hb16 HOQ15 HRX15 HRZ15 p0 p1 p2 p3 p4 p5 q0 q1 q2 q3 q4 q5
            have q1 := HOQ16.out.by_.cell 1
            simp only [List.getElem?_toArray, List.getElem?_cons_zero, List.getElem?_cons_succ] at q1
            go_wp2
            obtain ⟨wd, rfl⟩ : ∃ wd, wd = w16 := ⟨_, rfl⟩
            go_loopw [124] (fun iv wr => ∃ k : Nat, k ≤ p.curs.length ∧ iv = .int .i64 (k : Int) ∧ OqAt w1 w9.heap.size w12.heap.size w11.heap.size w13.heap.size w.heap.size ⟨.slice a1 p.avgs.length a2, .slice a3 p.curs.length a4, .slice a5 xnl.length a6, .slice a7 p.drive.length a8, .slice a9 p.code.length a10, xnl⟩ ⟨.slice c1 p.avgs.length c2, .slice c3 p.curs.length c4, .slice c5 yl.length c6, .slice c7 p.drive.length c8, .slice c9 p.code.length c10, yl⟩ ⟨.slice d1 p.avgs.length d2, .slice d3 p.curs.length d4, .slice d5 zl.length d6, .slice d7 p.drive.length d8, .slice d9 p.code.length d10, zl⟩ p wr) (fun iv _ => p.curs.length - (intOf iv).toNat)
            case atStart => exact ⟨0, Nat.zero_le _, rfl, HOQ16.out⟩
            case round =>
              clear HOQ16 q1
              obtain ⟨k, hk, rfl, ho⟩ := hrel
              have HO := Lib.hid ho
              clear ho
              have q1 := HO.out.by_.cell 1
              have lq := HO.out.by_.lt
              simp only [List.getElem?_toArray, List.getElem?_cons_zero, List.getElem?_cons_succ] at q1
              by_cases hlt : k < p.curs.length
              · obtain ⟨cs, e1, hpo⟩ := HO.out.a
                have hoa := hpo.curs
                simp only [] at hoa
                obtain ⟨ga, rfl, hcc⟩ := hoa.at_ lfSOk (k := k) (by omega)
                have v1 : wr.cell? ⟨ga, k * 2 + 1, none⟩ = some (.string (str (cs[k]'(by omega)).term)) := hcc 1 _ (by decide) rfl
                have g1 : wr.frozen? ⟨ga, k * 2 + 1, none⟩ = false := World.ownsRow.frozenAt (show wr.ownsRow w9.heap.size lfS.tE lfS.size (.slice (some ⟨ga, 0, none⟩) cs.length c4) cs.length (lfS.cells cs) from by have h := hoa; rw [← e1] at h; exact h) _
                have hga := hoa.lt ga rfl
                have HN := Lib.hid (HO.out.put rfl k hlt [115, 112, 111, 105, 108, 116])
                generalize str (cs[k]'(by omega)).term = zz at *
                have hne : ¬ ga = w11.heap.size := fun e => by
                  subst e
                  obtain ⟨cur, hcur⟩ := own_block hoa rfl
                  have := HO.out.by_
                  unfold Blk at this
                  rw [this] at hcur
                  injection hcur with hcur
                  injection hcur with _ hcur
                  exact absurd hcur (by decide)
                clear hoa hpo e1 hcc cs
                go_wp2
                go_roundw
                case rel => exact ⟨k + 1, by omega, by go_num, HN.out⟩
                case measure => simp [intOf]; omega
              · obtain rfl : k = p.curs.length := by omega
                clear q1
                have r1 := HO.out.bz.cell 1
                simp only [List.getElem?_toArray, List.getElem?_cons_zero, List.getElem?_cons_succ] at r1
                go_wp2
                obtain ⟨we, rfl⟩ : ∃ we, we = wr := ⟨_, rfl⟩
                go_loopw [136] (fun iv wr => ∃ k : Nat, k ≤ p.curs.length ∧ iv = .int .i64 (k : Int) ∧ OqAt w1 w9.heap.size w12.heap.size w11.heap.size w13.heap.size w.heap.size ⟨.slice a1 p.avgs.length a2, .slice a3 p.curs.length a4, .slice a5 xnl.length a6, .slice a7 p.drive.length a8, .slice a9 p.code.length a10, xnl⟩ ⟨.slice c1 p.avgs.length c2, .slice c3 p.curs.length c4, .slice c5 yl.length c6, .slice c7 p.drive.length c8, .slice c9 p.code.length c10, yl⟩ ⟨.slice d1 p.avgs.length d2, .slice d3 p.curs.length d4, .slice d5 zl.length d6, .slice d7 p.drive.length d8, .slice d9 p.code.length d10, zl⟩ p wr) (fun iv _ => p.curs.length - (intOf iv).toNat)
                case atStart => exact ⟨0, Nat.zero_le _, rfl, HO.out⟩
                case round =>
                  clear HO r1
                  obtain ⟨k, hk, rfl, ho⟩ := hrel
                  have HO := Lib.hid ho
                  clear ho
                  by_cases hlt : k < p.curs.length
                  · have r1 := HO.out.bz.cell 1
                    have p1 := HO.out.bx.cell 1
                    simp only [List.getElem?_toArray, List.getElem?_cons_zero, List.getElem?_cons_succ] at r1 p1
                    obtain ⟨az, rfl, hab, v0, v1⟩ := at_lf (RdL.of_own HO.out.b.curs) hlt
                    obtain ⟨ax, rfl, hab2, u0, u1⟩ := at_lf ((HX.out.up HB1.out).up (HO.out.bel)).curs hlt
                    have hq := fun W => lf_neq p.curs[k] p.curs[k] W
                    have hg := fun op a b W => lf_guard p.curs[k] p.curs[k] op a b W
                    unfold lfVal at hq hg
                    rw [decide_eq_true rfl] at hq
                    generalize p.curs[k] = z at *
                    go_wp2
                    go_quiet (fail)
                    go_wp2
                    go_roundw
                    case rel => exact ⟨k + 1, by omega, by go_num, HO.out.below ⟨rfl, rfl, rfl, Nat.le_refl _, fun _ _ => rfl⟩⟩
                    case measure => simp [intOf]; omega
                  · obtain rfl : k = p.curs.length := by omega
                    obtain ⟨cs, e1, hpo⟩ := HO.out.a
                    have hyl : yl.length ≤ 1048576 := by
                      have : yl.length = p.nears.length := by rw [← hpo.nmap, List.length_map]
                      rw [this]; exact HS.out.nears.2
                    have hzl : zl.length ≤ 1048576 := by
                      have : zl.length = p.nears.length := by rw [← HO.out.b.nmap, List.length_map]
                      rw [this]; exact HS.out.nears.2
                    have hfarP := far_cross HYO11.out HO.out.b hz12 HYAP.out HZAP.out
                    have hB1w := HO.out.bel.size
                    have HSC := Lib.hid (show SmallPg { p with curs := p.curs } from HS.out)
                    have hown1 : ∀ v4 w4, OwnL goS w4 wr.heap.size v4 (pgSl ⟨.slice c1 p.avgs.length c2, .slice c3 p.curs.length c4, .slice c5 yl.length c6, .slice c7 p.drive.length c8, .slice c9 p.code.length c10, yl⟩ ++ pgSl ⟨.slice d1 p.avgs.length d2, .slice d3 p.curs.length d4, .slice d5 zl.length d6, .slice d7 p.drive.length d8, .slice d9 p.code.length d10, zl⟩) → Below wr.heap.size wr w4 → Calls Tryz.prog 36 #[v4] w4 fun e w' => e = .returned (.bool true) ∧ Below w1.heap.size w4 w' ∧ KTy moS.tE w4 w' := fun v4 w4 h1 h2 => by
                      have gy := (hpo.belowW h2).owns.1.more (B2 := w1.heap.size) hz9
                      have gz := (HO.out.b.belowW h2).owns.1.more (B2 := w1.heap.size) (by omega)
                      have hm := (gy.append gz).many hfarP
                      refine ownInts_any (B := w1.heap.size) (h1.more hB1w) hm (fun q => Nat.le_trans (getD_small (n := 1048576) (fun l hl => ?_) q) (by decide)) (Nat.le_trans hB1w h2.size) ?_
                      · rcases List.mem_append.1 hl with hl | hl
                        · exact pgCs_small (p := p) HS.out l hl
                        · exact pgCs_small (p := p) HS.out l hl
                      · rw [List.length_append, pgSl_len, pgSl_len]; simp only []; omega
                    have hown2 : ∀ v5 w5, OwnL MoB.goS w5 wr.heap.size v5 [⟨c9, p.code.length, c10⟩, ⟨d9, p.code.length, d10⟩] → wr.heap.size ≤ w5.heap.size → KTy moS.tE wr w5 → Calls Tryz.prog 13 #[v5] w5 fun e w' => e = .returned (.bool true) ∧ Below w1.heap.size w5 w' := fun v5 w5 h1 h2 h3 => by
                      have gy : OwnL MoB.moS w5 w1.heap.size (SlV.val ⟨c9, p.code.length, c10⟩) _ := ((MoB.own_iff.1 hpo.code).kty h3 (by decide)).more hz9
                      have gz : OwnL MoB.moS w5 w1.heap.size (SlV.val ⟨d9, p.code.length, d10⟩) _ := ((MoB.own_iff.1 HO.out.b.code).kty h3 (by decide)).more (by omega)
                      have hm := (Owns.cons gy (Owns.cons gz Owns.nil)).many (by
                        show List.Pairwise FarV [_, _]
                        rw [List.pairwise_cons]
                        refine ⟨fun u hu b h4 h5 => ?_, by simp⟩
                        obtain rfl := List.mem_singleton.1 hu
                        have g1 := ((MoB.own_iff.1 HYO11.out.code).lt b h4).2
                        have g2 := ((MoB.own_iff.1 HO.out.b.code).lt b h5).1
                        omega)
                      refine (MoB.own_any (B := w1.heap.size) (h1.more hB1w) hm (fun q => Nat.le_trans (getD_small (n := 1048576) (fun l hl => ?_) q) (by decide)) (Nat.le_trans hB1w h2) (by simp)).mono fun e w' h => ⟨h.1, h.2.1⟩
                      rcases List.mem_cons.1 hl with rfl | hl
                      · rw [List.length_map]; exact hkl
                      · obtain rfl := List.mem_singleton.1 hl
                        rw [List.length_map]; exact hkl
                    have HO1 := Lib.hid hown1; have HO2 := Lib.hid hown2; have HPO := Lib.hid hpo
                    clear hown1 hown2 hpo hfarP
                    go_upto_region 37 with (fail)
                    go_cut [166] (fun v wx => v = .bool false ∧ Below w1.heap.size w1 wx)
                    case first =>
                      refine opz_any ⟨.slice c1 p.avgs.length c2, .slice c3 p.curs.length c4, .slice c5 yl.length c6, .slice c7 p.drive.length c8, .slice c9 p.code.length c10, yl⟩ ⟨.slice d1 p.avgs.length d2, .slice d3 p.curs.length d4, .slice d5 zl.length d6, .slice d7 p.drive.length d8, .slice d9 p.code.length d10, zl⟩ { p with curs := cs } p w11.heap.size w13.heap.size w1.heap.size c9 p.code.length c10 d9 p.code.length d10 rfl rfl HO.out.by_ HO.out.bz rfl rfl HPO.out.read HO.out.b.read hyl hzl hB1w rfl HO1.out HO2.out ?_
                      intro f wx hf hb
                      have HR := Lib.hid (show f 166 = .bool false ∧ Below w1.heap.size w1 wx from ⟨hf, HO.out.bel.trans hb⟩)
                      clear hf hb
                      unfold putAll opzds
                      simp only [List.foldl_cons, List.foldl_nil, List.setIfInBounds_toArray, List.set_cons_zero, List.set_cons_succ]
                      go_wp2
                      go_meet
                      exact HR.out
                    case rest =>
                    obtain ⟨rfl, hb15⟩ := hcut
                    have HB15 := Lib.hid hb15
                    have HE15 := Lib.hid (HE.out.below (HB1.out.trans (hb15.mono HB1.out.size)))
                    have HX15 := Lib.hid (HX1.out.belowW hb15)
                    have HR15 := Lib.hid (HR1.out.up hb15)
                    have hra := readA_any t0 wc ea HTW.out.1 HTW.out.2 HE15.out.1 HE15.out.2.1 HE15.out.2.2.2
                    have HRA := Lib.hid hra
                    clear hra hb15 HO1 HO2 HPO HO e1
                    go_wp2_with fail
                    refine HRA.out.mono ?_
                    intro e w17 h17
                    unfold ReadRetA at h17
                    rw [HRP.out] at h17
                    simp only [] at h17
                    obtain ⟨hb17, vc, rfl, hvo, -⟩ := h17
                    obtain ⟨f1, f2, f3, f4, f5, f6, f7, f8, f9, f10, hvf⟩ := hvo.form
                    obtain ⟨vav, vcv, vnv, vdv, vkv, vl⟩ := vc
                    simp only [PgV.mk.injEq, and_true] at hvf
                    obtain ⟨rfl, rfl, rfl, rfl, rfl⟩ := hvf
                    have HB17 := Lib.hid (HB15.out.trans (hb17.mono HB15.out.size))
                    have HX17 := Lib.hid (HX15.out.belowW hb17)
                    have HR17 := Lib.hid (HR15.out.up hb17)
                    have HV17 := Lib.hid hvo.read
                    clear hb17 hvo HRA
                    unfold PgV.val
                    simp only []
                    have HBE := Lib.hid ((Below.refl w17.heap.size w17).alloc (Nat.le_refl _) (.cells #[.slice f1 p.avgs.length f2, .slice f3 p.curs.length f4, .slice f5 vl.length f6, .bool p.all, .slice f7 p.drive.length f8, .slice f9 p.code.length f10] 28))
                    have HBV := Lib.hid (Blk.new w17 28 #[.slice f1 p.avgs.length f2, .slice f3 p.curs.length f4, .slice f5 vl.length f6, .bool p.all, .slice f7 p.drive.length f8, .slice f9 p.code.length f10])
                    have HX18 := Lib.hid (HX17.out.belowW HBE.out)
                    have p0 := HX18.out.cell 0; have p1 := HX18.out.cell 1; have p2 := HX18.out.cell 2; have p3 := HX18.out.cell 3; have p4 := HX18.out.cell 4; have p5 := HX18.out.cell 5
                    simp only [List.getElem?_toArray, List.getElem?_cons_zero, List.getElem?_cons_succ] at p0 p1 p2 p3 p4 p5
                    have HR18 := Lib.hid (HR17.out.up HBE.out)
                    have HV18 := Lib.hid (HV17.out.up HBE.out)
                    have HB18 := Lib.hid (HB17.out.trans (HBE.out.mono HB17.out.size))
                    go_wp2_with fail
                    generalize w17.alloc (.cells #[.slice f1 p.avgs.length f2, .slice f3 p.curs.length f4, .slice f5 vl.length f6, .bool p.all, .slice f7 p.drive.length f8, .slice f9 p.code.length f10] 28) = w18 at *
                    refine (same20_any ⟨.slice f1 p.avgs.length f2, .slice f3 p.curs.length f4, .slice f5 vl.length f6, .slice f7 p.drive.length f8, .slice f9 p.code.length f10, vl⟩ ⟨.slice a1 p.avgs.length a2, .slice a3 p.curs.length a4, .slice a5 xnl.length a6, .slice a7 p.drive.length a8, .slice a9 p.code.length a10, xnl⟩ p p w18 HV18.out HR18.out HS.out HS.out).mono ?_
                    rintro e w19 ⟨he, hb19⟩
                    rw [decide_eq_true rfl] at he
                    subst he
                    have HB19 := Lib.hid (HB18.out.trans (hb19.mono HB18.out.size))
                    clear hb19 p0 p1 p2 p3 p4 p5
                    go_wp2
                    go_ret
                    exact ⟨rfl, HB1.out.trans (HB19.out.mono HB1.out.size)⟩
end Go.Proofs.YtmdpfikalekmlaaGreatDoor
end
section
/- Layer 20: IsaOwns: rule 5, call by call. -/
namespace Go.Proofs.YtmdpfikalekmlaaGreatDoor
open Go.RowKit
set_option maxRecDepth 100000
set_option maxHeartbeats 2000000
set_option linter.unusedSimpArgs false
set_option linter.unusedVariables false

theorem isaOwns_env {W : World} (h : laidMetH Tryz.prog Rows.isaOwnsUptoRow.laid W) : ∃ ea, IsaEnvB W ea :=
  isaB_env (l := Rows.isaOwnsUptoRow.laid) h (by rfl) (by rfl) (by rfl) (by rfl)
theorem OwnL.front {α : Type} {S : Shape α} {w : World} {B g n cap : Nat} {l r : List α} (h : OwnL S w B (.slice (some ⟨g, 0, none⟩) n cap) (l ++ r)) : RdL S w w.heap.size (.slice (some ⟨g, 0, none⟩) l.length cap) l := by
  obtain ⟨A, cap', e, h1, h2, h3, h4⟩ := RdL.of_own h
  injection e with e1 e2 e3
  subst e1 e3
  rw [List.length_append] at h1 h3
  refine ⟨_, _, rfl, by omega, h2, fun hn => ?_, h4⟩
  obtain ⟨a, ha, hb, hc⟩ := h3 (by omega)
  refine ⟨a, ha, hb, fun j u hu => hc j u ?_⟩
  rw [Shape.cells_append, List.getElem?_append_left]
  · exact hu
  · rcases Nat.lt_or_ge j (S.cells l).length with h | h
    · exact h
    · rw [List.getElem?_eq_none h] at hu; cases hu
theorem encI_le {l : List Ins} (h : SmallIns l) : (encI l).length ≤ 21 * l.length := by
  have := encI_len h l.length
  rw [List.take_of_length_le (Nat.le_refl _)] at this
  exact this
theorem isaOwns_walk (vl : Value) (l : List Ins) (x : PgV) (p : Pg) (w : World) (hl : RdL insS w w.heap.size vl l) (hsl : SmallIns l) (hln : l.length ≤ 1048576) (hx : PgR w w.heap.size x p) (hs : SmallPg p) (hw : WtPg p) (hE : ∃ ea, IsaEnvB w ea) :
    Calls Tryz.prog 4 #[vl, x.val p] w fun e w' => e = .returned (.bool true) ∧ Below w.heap.size w w' := by
  obtain ⟨ea, hE⟩ := hE
  obtain ⟨lA, lc, rfl, hl1, hl2⟩ := hl.open_
  unfold maxLen at hl2
  obtain ⟨xav, xcv, xnv, xdv, xkv, xnl⟩ := x
  have HE := Lib.hid hE; have HX := Lib.hid hx; have HS := Lib.hid hs; have HW := Lib.hid hw; have HL := Lib.hid hl; have HSL := Lib.hid hsl
  have en3 := fun W => errI_nnil ea 20 W
  have eg1 := fun op x y W => errI_guard0 ea 20 op x y W
  have HB1 := Lib.hid ((Below.refl w.heap.size w).alloc (Nat.le_refl _) (.cells #[xav, xcv, xnv, .bool p.all, xdv, xkv] 28))
  have HX1 := Lib.hid (Blk.new w 28 #[xav, xcv, xnv, .bool p.all, xdv, xkv])
  have hz1 : (w.alloc (.cells #[xav, xcv, xnv, .bool p.all, xdv, xkv] 28)).heap.size = w.heap.size + 1 := World.size_alloc _ _
  clear hE hx hs hw hl hsl
  unfold PgV.val
  simp only []
  go_enter Tryz.func4, Tryz.ntmps4
  go_wp2_with fail
  generalize w.alloc (.cells #[xav, xcv, xnv, .bool p.all, xdv, xkv] 28) = w1 at *
  have HE1 := Lib.hid (HE.out.below HB1.out)
  refine (lives_any w1 ea HE1.out.1.few HE1.out.2.1 HE1.out.2.2.1).mono ?_
  rintro e w2 ⟨rfl, hb2⟩
  have HB2 := Lib.hid hb2
  have hz2 := hb2.size
  have HL2 := Lib.hid ((HL.out.below HB1.out).belowW (by rw [hz1]; omega) hb2)
  clear hb2
  have hre := riencode_any (.slice lA l.length lc) l w2 w.heap.size (by omega) HL2.out (by omega) HSL.out
  have HRE := Lib.hid hre
  clear hre
  go_wp2_with fail
  refine HRE.out.mono ?_
  rintro e w3 ⟨v0, rfl, ho0, hb3⟩
  have HB3 := Lib.hid (HB2.out.trans (hb3.mono HB2.out.size))
  have HL3 := Lib.hid (HL2.out.belowW (by omega) hb3)
  have hz3 := hb3.size
  clear hb3 HRE HL2
  have hfin : ∀ (W : World), Below w1.heap.size w1 W → Calls Tryz.prog 15 #[.agg #[xav, xcv, xnv, .bool p.all, xdv, xkv]] W fun e w' => e = .returned (.bool true) ∧ Below W.heap.size W w' := fun W hW =>
    ownProg_any ⟨xav, xcv, xnv, xdv, xkv, xnl⟩ p W ea ((HX.out.up HB1.out).up hW) HS.out HW.out (HE.out.below (HB1.out.trans (hW.mono HB1.out.size)))
  have HFIN := Lib.hid hfin
  clear hfin
  cases hok : l.all insOk with
  | false =>
    rw [hok] at ho0
    simp only [Bool.false_eq_true, if_false] at ho0 ⊢
    have hblk := HX1.out.belowW HB3.out
    have p0 := hblk.cell 0; have p1 := hblk.cell 1; have p2 := hblk.cell 2; have p3 := hblk.cell 3; have p4 := hblk.cell 4; have p5 := hblk.cell 5
    simp only [List.getElem?_toArray, List.getElem?_cons_zero, List.getElem?_cons_succ] at p0 p1 p2 p3 p4 p5
    clear ho0 hblk hok
    go_wp2_with fail
    refine (HFIN.out _ HB3.out).mono ?_
    rintro e w4 ⟨rfl, hb4⟩
    go_wp2
    go_ret
    exact ⟨rfl, HB1.out.trans ((HB3.out.trans (hb4.mono HB3.out.size)).mono HB1.out.size)⟩
  | true =>
    rw [hok] at ho0
    simp only [if_true] at ho0 ⊢
    have HO0 := Lib.hid ho0
    have HOK := Lib.hid hok
    have henl := encI_le HSL.out
    obtain ⟨A0, c0, rfl, -, -⟩ := (ownB_iff.1 ho0).form
    have HR0 := Lib.hid (OwnL.lit0 insS w3 (Nat.le_refl _))
    have HLA := Lib.hid (HL3.out.alloc (by omega) (.cells #[] 43))
    have hBA : w3.heap.size ≤ (w3.alloc (.cells #[] 43)).heap.size := by rw [World.size_alloc]; omega
    have hap : ([] : List Ins).length + l.length ≤ 970000000000 := by simp; omega
    have HBA := Lib.hid ((Below.refl w3.heap.size w3).alloc (Nat.le_refl _) (.cells #[] 43))
    clear ho0 hok
    have hap2 : l.length + 1 ≤ 970000000000 := by omega
    go_wp2_with (first
      | (refine OwnL.appendRd insSOk HR0.out HLA.out rfl _ _ rfl rfl rfl hBA hap ?_; intro v4 w4 ho4 hb4; rw [List.nil_append] at ho4; have HO4 := Lib.hid ho4; have HB4 := Lib.hid (HBA.out.trans hb4); have hz4 := HB4.out.size; clear ho4 hb4)
      | (refine OwnL.append insSOk HO4.out ⟨1, 77, 0⟩ rfl _ _ rfl rfl rfl _ rfl hz4 hap2 ?_; intro v5 w5 ho5 hb5; have HO5 := Lib.hid ho5; have HB5 := Lib.hid (HB4.out.trans hb5); obtain ⟨A5, c5, hv5, hc5, hc6⟩ := ho5.form; rw [List.length_append, List.length_singleton] at hv5 hc5; subst hv5; obtain ⟨g5, hg5, -⟩ := ho5.at_ insSOk (k := l.length) (by rw [List.length_append, List.length_singleton]; exact Nat.lt_succ_self _); subst hg5; unfold maxLen at hc6; clear ho5 hb5))
    have HE5 := Lib.hid (HE1.out.below (HB3.out.trans (HB5.out.mono HB3.out.size)))
    have HM5 := Lib.hid (OwnL.front HO5.out)
    have hz5 := HB5.out.size
    have hw5 := HB3.out.size
    have HO05 := Lib.hid (HO0.out.below HB5.out)
    have hen := iencode_any (.slice (some ⟨g5, 0, none⟩) l.length c5) l ea w5 w5.heap.size (Nat.le_refl _) HM5.out (by omega) HSL.out HE5.out.1.few HE5.out.2.1
    have HEN := Lib.hid hen
    clear hen
    refine HEN.out.mono ?_
    rintro e w6 ⟨v1, rfl, ho1, hb6⟩
    rw [HOK.out] at ho1
    simp only [if_true, HOK.out] at ho1 ⊢
    obtain ⟨A1, c1, rfl, -, -⟩ := (ownB_iff.1 ho1).form
    have HO1 := Lib.hid ho1
    have HB6 := Lib.hid (HB5.out.trans (hb6.mono HB5.out.size))
    have HB56 := Lib.hid hb6
    have HO6 := Lib.hid (HO5.out.below hb6)
    have HO06 := Lib.hid (HO05.out.below hb6)
    have hz6 := hb6.size
    have HE6 := Lib.hid (HE5.out.below hb6)
    clear ho1 hb6 HEN
    have hen := iencode_any (.slice (some ⟨g5, 0, none⟩) l.length c5) l ea w6 w6.heap.size (Nat.le_refl _) (OwnL.front HO6.out) (by omega) HSL.out HE6.out.1.few HE6.out.2.1
    have HEN := Lib.hid hen
    clear hen
    go_wp2_with fail
    refine HEN.out.mono ?_
    rintro e w7 ⟨v2, rfl, ho2, hb7⟩
    rw [HOK.out] at ho2
    simp only [if_true, HOK.out] at ho2 ⊢
    obtain ⟨A2, c2, rfl, -, -⟩ := (ownB_iff.1 ho2).form
    have HO2 := Lib.hid ho2
    have HO1b := Lib.hid (HO1.out.below hb7)
    have HB7 := Lib.hid (HB6.out.trans (hb7.mono HB6.out.size))
    have HB57 := Lib.hid (HB56.out.trans (hb7.mono HB56.out.size))
    have HO7 := Lib.hid (HO6.out.below hb7)
    have HO07 := Lib.hid (HO06.out.below hb7)
    have hz7 := hb7.size
    have hcv0 := HO07.out.conv
    have hcv1 := HO1b.out.conv
    have hcv2 := HO2.out.conv
    have HL7 := Lib.hid (HL3.out.belowW (by omega) HB7.out)
    clear ho2 hb7 HEN
    have hsc := sameCode_yes (.slice (some ⟨g5, 0, none⟩) l.length c5) (.slice lA l.length lc) l w7 w7.heap.size w.heap.size (OwnL.front HO7.out) HL7.out (Nat.le_refl _) (by omega)
    have HSC := Lib.hid hsc
    clear hsc
    go_wp2_with fail
    refine HSC.out.mono ?_
    rintro e w8 ⟨rfl, hb8⟩
    have HB8 := Lib.hid (HB7.out.trans (hb8.mono HB7.out.size))
    have HB58b := Lib.hid (HB57.out.trans (hb8.mono HB57.out.size))
    have HO8 := Lib.hid (HO7.out.below hb8)
    have HO08 := Lib.hid (HO07.out.below hb8)
    have HO18 := Lib.hid (HO1b.out.below hb8)
    have HO28 := Lib.hid (HO2.out.below hb8)
    have hz8 := hb8.size
    have c77 : w8.cell? ⟨g5, l.length * 3 + 1, none⟩ = some (.int .u64 77) := by
      have h := ((own_ins HO8.out (i := l.length) (by rw [List.length_append]; exact Nat.lt_succ_self _)).1).2.1
      rw [h]
      have : (l ++ [(⟨1, 77, 0⟩ : Ins)])[l.length]? = some ⟨1, 77, 0⟩ := by simp
      rw [List.getElem?_eq_getElem (by rw [List.length_append]; exact Nat.lt_succ_self _)] at this
      injection this with this
      rw [this]; rfl
    have hlt8 : l.length < l.length + 1 := Nat.lt_succ_self _
    clear hb8 HSC hcv0 hcv1 hcv2
    have hown : Calls Tryz.prog 13 #[.slice (some ⟨w8.heap.size, 0, none⟩) 2 2] (w8.alloc (.cells #[.slice A1 (encI l).length c1, .slice A2 (encI l).length c2] 26)) fun e w' => e = .returned (.bool true) ∧ Below w5.heap.size (w8.alloc (.cells #[.slice A1 (encI l).length c1, .slice A2 (encI l).length c2] 26)) w' := by
      have gy : OwnL MoB.moS (w8.alloc (.cells #[.slice A1 (encI l).length c1, .slice A2 (encI l).length c2] 26)) w5.heap.size (SlV.val ⟨A1, (encI l).length, c1⟩) _ := (MoB.own_iff.1 HO18.out).alloc _
      have gz : OwnL MoB.moS (w8.alloc (.cells #[.slice A1 (encI l).length c1, .slice A2 (encI l).length c2] 26)) w5.heap.size (SlV.val ⟨A2, (encI l).length, c2⟩) _ := ((MoB.own_iff.1 HO28.out).alloc _).more (by omega)
      have hm := (Owns.cons gy (Owns.cons gz Owns.nil)).many (by
        show List.Pairwise FarV [_, _]
        rw [List.pairwise_cons]
        refine ⟨fun u hu b h4 h5 => ?_, by simp⟩
        obtain rfl := List.mem_singleton.1 hu
        have g1 := ((MoB.own_iff.1 HO1.out).lt b h4).2
        have g2 := ((MoB.own_iff.1 HO2.out).lt b h5).1
        omega)
      refine (MoB.own_any (B := w5.heap.size) ((lit2_gb w8 ⟨A1, (encI l).length, c1⟩ ⟨A2, (encI l).length, c2⟩).more (by omega)) hm (fun q => Nat.le_trans (getD_small (n := (encI l).length) (fun z hz => ?_) q) (by omega)) (by rw [World.size_alloc]; omega) (by simp)).mono fun e w' h => ⟨h.1, h.2.1⟩
      rcases List.mem_cons.1 hz with rfl | hz
      · rw [List.length_map]; exact Nat.le_refl _
      · obtain rfl := List.mem_singleton.1 hz
        rw [List.length_map]; exact Nat.le_refl _
    have HOW := Lib.hid hown
    have HB8a := Lib.hid (HB8.out.alloc HB8.out.size (.cells #[.slice A1 (encI l).length c1, .slice A2 (encI l).length c2] 26))
    have HB58 := Lib.hid ((Below.refl w8.heap.size w8).alloc (Nat.le_refl _) (.cells #[.slice A1 (encI l).length c1, .slice A2 (encI l).length c2] 26))
    clear hown HO7 HO07 HO06 HO6 HO1b HO18 HO28 HL7
    go_wp2_with fail
    refine HOW.out.mono ?_
    rintro e w9 ⟨rfl, hb9⟩
    have HB9 := Lib.hid (HB8a.out.trans (hb9.mono (by omega)))
    have HB59 := Lib.hid ((HB58b.out.alloc (by have := HB58b.out.size; exact this) (.cells #[.slice A1 (encI l).length c1, .slice A2 (encI l).length c2] 26)).trans hb9)
    have HO9 := Lib.hid (HO5.out.below HB59.out)
    clear hb9 HOW HO8 HO5 c77 HB58
    go_wp2
    obtain ⟨wb, rfl⟩ : ∃ wb, wb = w9 := ⟨_, rfl⟩
    go_loopw [89] (fun iv wr => ∃ k : Nat, k ≤ l.length ∧ iv = .int .i64 (k : Int) ∧ OwnL insS wr w3.heap.size (.slice (some ⟨g5, 0, none⟩) (l.length + 1) c5) (List.replicate k ⟨11, 0, 0⟩ ++ l.drop k ++ [(⟨1, 77, 0⟩ : Ins)]) ∧ Below w3.heap.size w3 wr) (fun iv _ => l.length - (intOf iv).toNat)
    case atStart => exact ⟨0, Nat.zero_le _, rfl, by simpa using HO9.out, HB9.out⟩
    case round =>
      clear HO9 HB9 HB59
      obtain ⟨k, hk, rfl, ho, hb⟩ := hrel
      have HO := Lib.hid ho; have HB := Lib.hid hb
      have hrl : (List.replicate k (⟨11, 0, 0⟩ : Ins) ++ l.drop k ++ [(⟨1, 77, 0⟩ : Ins)]).length = l.length + 1 := by rw [List.length_append, List.length_append, List.length_replicate, List.length_drop]; simp only [List.length_singleton]; omega
      clear ho hb
      by_cases hlt : k < l.length
      · obtain ⟨⟨v0, v1, v2⟩, f0, f1, f2⟩ := own_ins HO.out (i := k) (by rw [hrl]; omega)
        have hput := OwnL.putIns (show OwnL insS wr w3.heap.size (.slice (some ⟨g5, 0, none⟩) (List.replicate k (⟨11, 0, 0⟩ : Ins) ++ l.drop k ++ [(⟨1, 77, 0⟩ : Ins)]).length c5) _ from by rw [hrl]; exact HO.out) k ⟨11, 0, 0⟩ (by rw [hrl]; omega)
        rw [set_front (⟨11, 0, 0⟩ : Ins) l _ k l.length rfl hlt, hrl] at hput
        have hgl := HO.out.lt g5 rfl
        have HN := Lib.hid (show OwnL insS (((wr.setCell ⟨g5, k * 3, none⟩ (.int .i64 11)).setCell ⟨g5, k * 3 + 1, none⟩ (.int .u64 0)).setCell ⟨g5, k * 3 + 2, none⟩ (.int .u64 0)) w3.heap.size (.slice (some ⟨g5, 0, none⟩) (l.length + 1) c5) (List.replicate (k + 1) ⟨11, 0, 0⟩ ++ l.drop (k + 1) ++ [⟨1, 77, 0⟩]) ∧ Below w3.heap.size w3 (((wr.setCell ⟨g5, k * 3, none⟩ (.int .i64 11)).setCell ⟨g5, k * 3 + 1, none⟩ (.int .u64 0)).setCell ⟨g5, k * 3 + 2, none⟩ (.int .u64 0)) from
          ⟨hput, ((HB.out.setCell (p := ⟨g5, k * 3, none⟩) hgl.1 _).setCell (p := ⟨g5, k * 3 + 1, none⟩) hgl.1 _).setCell (p := ⟨g5, k * 3 + 2, none⟩) hgl.1 _⟩)
        generalize (List.replicate k (⟨11, 0, 0⟩ : Ins) ++ l.drop k ++ [(⟨1, 77, 0⟩ : Ins)])[k] = yy at *
        have hcap5 : k < c5 := by omega
        clear hput hrl
        go_wp2
        go_roundw
        case rel => exact ⟨k + 1, by omega, by go_num, HN.out⟩
        case measure => simp [intOf]; omega
      · obtain rfl : k = l.length := by omega
        have hO : OwnL insS wr w3.heap.size (.slice (some ⟨g5, 0, none⟩) (l.length + 1) c5) (List.replicate l.length ⟨11, 0, 0⟩ ++ [⟨1, 77, 0⟩]) := by
          have h := HO.out
          rw [List.drop_eq_nil_of_le (Nat.le_refl _), List.append_nil] at h
          exact h
        have hF := OwnL.front hO
        rw [List.length_replicate] at hF
        have HEr := Lib.hid (HE1.out.below (HB3.out.trans (HB.out.mono HB3.out.size)))
        have hen := iencode_any (.slice (some ⟨g5, 0, none⟩) l.length c5) (List.replicate l.length ⟨11, 0, 0⟩) ea wr wr.heap.size (Nat.le_refl _) hF (by rw [List.length_replicate]; omega) (rep_small 11 _) HEr.out.1.few HEr.out.2.1
        have HEN := Lib.hid hen
        have e11 : encI (List.replicate l.length ⟨11, 0, 0⟩) = List.replicate l.length 11 := encI_rep 11 (by kernel_rfl) l.length
        have o11 : (List.replicate l.length (⟨11, 0, 0⟩ : Ins)).all insOk = true := rep_ok 11 (by kernel_rfl) l.length
        have E11 := Lib.hid e11; have O11 := Lib.hid o11
        clear hO hF hen hrl HO e11 o11
        go_wp2_with fail
        refine HEN.out.mono ?_
        rintro e w10 ⟨v3, rfl, ho3, hb10⟩
        rw [O11.out] at ho3
        simp only [if_true, O11.out] at ho3 ⊢
        rw [E11.out] at ho3
        obtain ⟨A3, c3, rfl, -, -⟩ := (ownB_iff.1 ho3).form
        rw [List.length_replicate]
        have HB10 := Lib.hid (HB.out.trans (hb10.mono HB.out.size))
        have HO3 := Lib.hid ho3
        have HB1x := Lib.hid (HB3.out.trans (HB10.out.mono HB3.out.size))
        clear ho3 hb10 HEN
        have hoc := ownCode_any (.slice A0 (encI l).length c0) (encI l) (.slice lA l.length lc) l w10 ea w3.heap.size w.heap.size (((RdL.of_own (ownB_iff.1 HO0.out))).below HB10.out) HB10.out.size ((HL3.out.belowW (by omega) HB10.out)) (by have := HB10.out.size; omega) (by omega) (decI_encI HOK.out HSL.out) (by omega) (HE1.out.below HB1x.out).1.few (HE1.out.below HB1x.out).2.1
        have HOC := Lib.hid hoc
        clear hoc
        have hend : ∀ w11, Below w10.heap.size w10 w11 → Blk w11 w.heap.size 28 #[xav, xcv, xnv, .bool p.all, xdv, xkv] ∧ Below w1.heap.size w1 w11 := fun w11 h => by
          have hh := HB1x.out.trans (h.mono HB1x.out.size)
          exact ⟨HX1.out.belowW hh, hh⟩
        have HEND := Lib.hid hend
        clear hend
        by_cases h0 : l.length = 0
        · have z0 : decide (0 < l.length) = false := by rw [h0]; rfl
          clear h0
          go_wp2_with fail
          refine HOC.out.mono ?_
          rintro e w11 ⟨rfl, hb11⟩
          obtain ⟨hblk, hb1⟩ := HEND.out w11 hb11
          have p0 := hblk.cell 0; have p1 := hblk.cell 1; have p2 := hblk.cell 2; have p3 := hblk.cell 3; have p4 := hblk.cell 4; have p5 := hblk.cell 5
          simp only [List.getElem?_toArray, List.getElem?_cons_zero, List.getElem?_cons_succ] at p0 p1 p2 p3 p4 p5
          have HBF := Lib.hid hb1
          clear hb11 hblk hb1 HOC
          go_wp2_with fail
          refine (HFIN.out _ HBF.out).mono ?_
          rintro e w12 ⟨rfl, hb12⟩
          go_wp2
          go_ret
          exact ⟨rfl, HB1.out.trans ((HBF.out.trans (hb12.mono HBF.out.size)).mono HB1.out.size)⟩
        · have z0 : decide (0 < l.length) = true := decide_eq_true (by omega)
          have z2 : 0 < l.length := by omega
          clear h0
          obtain ⟨gc, rfl, hcc⟩ := (ownB_iff.1 HO3.out).at_ byteOk (k := 0) (by rw [List.length_replicate]; exact z2)
          have v11 : w10.cell? ⟨gc, 0, none⟩ = some (.int .u8 11) := by
            have h := hcc 0 (.int .u8 11) (by decide) (by rw [List.getElem_replicate]; rfl)
            rw [Nat.zero_mul] at h
            exact h
          clear hcc
          go_wp2_with fail
          refine HOC.out.mono ?_
          rintro e w11 ⟨rfl, hb11⟩
          obtain ⟨hblk, hb1⟩ := HEND.out w11 hb11
          have p0 := hblk.cell 0; have p1 := hblk.cell 1; have p2 := hblk.cell 2; have p3 := hblk.cell 3; have p4 := hblk.cell 4; have p5 := hblk.cell 5
          simp only [List.getElem?_toArray, List.getElem?_cons_zero, List.getElem?_cons_succ] at p0 p1 p2 p3 p4 p5
          have HBF := Lib.hid hb1
          clear hb11 hblk hb1 HOC v11
          go_wp2_with fail
          refine (HFIN.out _ HBF.out).mono ?_
          rintro e w12 ⟨rfl, hb12⟩
          go_wp2
          go_ret
          exact ⟨rfl, HB1.out.trans ((HBF.out.trans (hb12.mono HBF.out.size)).mono HB1.out.size)⟩
end Go.Proofs.YtmdpfikalekmlaaGreatDoor
end
