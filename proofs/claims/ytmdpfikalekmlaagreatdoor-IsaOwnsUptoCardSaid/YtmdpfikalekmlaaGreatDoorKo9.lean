/- Merged for a claim: Dq Od Dz Iz Oe -/
import Derived.Test.YtmdpfikalekmlaaGreatDoorKo8
import Derived.Deep.QuietTactic
import Derived.Test.YtmdpfikalekmlaaGreatDoorKo2
section
/- Layer 20: deep: phrases; the whole. -/
namespace Go.Proofs.YtmdpfikalekmlaaGreatDoor
open Go.RowKit
set_option maxRecDepth 100000
set_option maxHeartbeats 4000000
set_option linter.unusedSimpArgs false
set_option linter.unusedVariables false

theorem nrcellD {w : World} {nb : Nat} {x : NrV} {c0 c1 : Value} (h : Blk w nb 68 #[c0, c1, .int .i64 x.n.slop]) (h0 : c0 = x.cv) (h1 : c1 = x.ov) : ∀ j u, (nrS.enc x)[j]? = some u → w.cell? ⟨nb, j, none⟩ = some u := by
  subst h0 h1
  exact nrcell (h.cell 0) (h.cell 1) (h.cell 2)
/-- A program's lists behind an append of a phrase. -/
theorem PgO.push {w w' : World} {B : Nat} {x : PgV} {p : Pg} {v : Value} (h : PgO w B x p) (c : NrV) (h1 : OwnL intS w B c.cv c.n.cur) (h2 : OwnL intS w B c.ov c.n.off) (ho : OwnL nrS w' B v (x.nl ++ [c])) (hk : KeptBut w w' x.nv) : PgO w' B { x with nv := v, nl := x.nl ++ [c] } { p with nears := p.nears ++ [c.n] } := by
  have hc := ownB_iff.1 h.code
  refine ⟨h.avgs.keptL h.nears (by decide) hk, h.curs.keptL h.nears (by decide) hk, ho, ?_, fun y hy => ?_, h.drive.keptL h.nears (by decide) hk, ownB_iff.2 (hc.keptL h.nears (by decide) hk)⟩
  · show (x.nl ++ [c]).map (·.n) = p.nears ++ [c.n]
    rw [List.map_append, h.nmap]; rfl
  · rcases List.mem_append.1 hy with hy | hy
    · exact ⟨(h.inner y hy).1.keptL h.nears (by decide) hk, (h.inner y hy).2.keptL h.nears (by decide) hk⟩
    · obtain rfl := List.mem_singleton.1 hy
      exact ⟨h1.keptL h.nears (by decide) hk, h2.keptL h.nears (by decide) hk⟩
theorem PgO.more {w : World} {B B2 : Nat} {x : PgV} {p : Pg} (h : PgO w B x p) (hB : B2 ≤ B) : PgO w B2 x p :=
  ⟨h.avgs.more hB, h.curs.more hB, h.nears.more hB, h.nmap, fun y hy => ⟨(h.inner y hy).1.more hB, (h.inner y hy).2.more hB⟩, h.drive.more hB, ownB_iff.2 ((ownB_iff.1 h.code).more hB)⟩
theorem PgO.belowW {w w' : World} {B : Nat} {x : PgV} {p : Pg} (h : PgO w B x p) (hb : Below w.heap.size w w') : PgO w' B x p :=
  ⟨h.avgs.below hb, h.curs.below hb, h.nears.below hb, h.nmap, fun y hy => ⟨(h.inner y hy).1.below hb, (h.inner y hy).2.below hb⟩, h.drive.below hb, ownB_iff.2 ((ownB_iff.1 h.code).below hb)⟩

/-- Two slots more. -/
def putF46 (f : Nat → Value) (u v : Value) (d : Nat) : Value := if d = 46 then u else if d = 47 then v else f d
theorem put46 {a a0 : Act} {ds : List Nat} {f : Nat → Value} (h : a = putAll a0 ds f) (u v : Value) (h46 : 46 ∉ ds := by decide) (h47 : 47 ∉ ds := by decide) : (a.put (some 46) u).put (some 47) v = putAll a0 (ds ++ [46, 47]) (putF46 f u v) := by
  subst h
  unfold putAll Act.put
  simp only [List.foldl_append, List.foldl_cons, List.foldl_nil, Act.mk.injEq, and_true]
  have e : ∀ (ds : List Nat) (l : Array Value), 46 ∉ ds → 47 ∉ ds → ds.foldl (fun l d => l.setIfInBounds d (putF46 f u v d)) l = ds.foldl (fun l d => l.setIfInBounds d (f d)) l := by
    intro ds
    induction ds with
    | nil => intro l _ _; rfl
    | cons d ds ih =>
      intro l h1 h2
      rw [List.foldl_cons, List.foldl_cons, ih _ (fun h => h1 (List.mem_cons_of_mem _ h)) (fun h => h2 (List.mem_cons_of_mem _ h))]
      have : putF46 f u v d = f d := by
        unfold putF46
        rw [if_neg (fun e => h1 (by rw [e]; exact List.mem_cons_self)), if_neg (fun e => h2 (by rw [e]; exact List.mem_cons_self))]
      rw [this]
  rw [e ds a0.tmps h46 h47]
  rfl

def dpbds : List Nat := [32, 33, 34, 35, 36, 37, 38, 39, 40, 41, 42, 43, 44, 45]
def dpbo0 : Oper := { dst := some 32, op := Go.Op.fieldAddr 28 (Go.Operand.tmp 3) 2, type := 0, pos := "law.go:296", after := #[], guard := none }
def dpbo1 : Oper := { dst := some 33, op := Go.Op.load 25 (Go.Operand.tmp 32), type := 25, pos := "law.go:296", after := #[{ on := 0, ground := Go.Ground.data }], guard := none }
def dpbo2 : Oper := { dst := some 34, op := Go.Op.fieldAddr 68 (Go.Operand.tmp 5) 2, type := 0, pos := "law.go:296", after := #[], guard := none }
def dpbo3 : Oper := { dst := some 35, op := Go.Op.load 3 (Go.Operand.tmp 34), type := 3, pos := "law.go:296", after := #[{ on := 2, ground := Go.Ground.data }], guard := none }
def dpbo4 : Oper := { dst := some 36, op := Go.Op.buildSlice 23 0 #[], type := 23, pos := "law.go:296", after := #[], guard := none }
def dpbo5 : Oper := { dst := some 37, op := Go.Op.fieldAddr 68 (Go.Operand.tmp 5) 0, type := 0, pos := "law.go:296", after := #[], guard := none }
def dpbo6 : Oper := { dst := some 38, op := Go.Op.load 23 (Go.Operand.tmp 37), type := 23, pos := "law.go:296", after := #[{ on := 5, ground := Go.Ground.data }], guard := none }
def dpbo7 : Oper := { dst := some 39, op := Go.Op.call { callee := Go.Callee.builtin Go.Builtin.append, args := #[Go.Operand.tmp 36, Go.Operand.tmp 38], argTypes := #[23, 23] }, type := 23, pos := "law.go:296", after := #[{ on := 4, ground := Go.Ground.data }, { on := 6, ground := Go.Ground.data }], guard := none }
def dpbo8 : Oper := { dst := some 40, op := Go.Op.buildSlice 23 0 #[], type := 23, pos := "law.go:296", after := #[], guard := none }
def dpbo9 : Oper := { dst := some 41, op := Go.Op.fieldAddr 68 (Go.Operand.tmp 5) 1, type := 0, pos := "law.go:296", after := #[], guard := none }
def dpbo10 : Oper := { dst := some 42, op := Go.Op.load 23 (Go.Operand.tmp 41), type := 23, pos := "law.go:296", after := #[{ on := 9, ground := Go.Ground.data }], guard := none }
def dpbo11 : Oper := { dst := some 43, op := Go.Op.call { callee := Go.Callee.builtin Go.Builtin.append, args := #[Go.Operand.tmp 40, Go.Operand.tmp 42], argTypes := #[23, 23] }, type := 23, pos := "law.go:296", after := #[{ on := 8, ground := Go.Ground.data }, { on := 10, ground := Go.Ground.data }, { on := 7, ground := Go.Ground.chain }], guard := none }
def dpbo12 : Oper := { dst := some 44, op := Go.Op.build 68 #[(2, Go.Operand.tmp 35), (0, Go.Operand.tmp 39), (1, Go.Operand.tmp 43)], type := 68, pos := "law.go:296", after := #[{ on := 3, ground := Go.Ground.data }, { on := 7, ground := Go.Ground.data }, { on := 11, ground := Go.Ground.data }], guard := none }
def dpbo13 : Oper := { dst := some 45, op := Go.Op.buildSlice 25 1 #[(0, Go.Operand.tmp 44)], type := 25, pos := "law.go:296", after := #[{ on := 12, ground := Go.Ground.data }], guard := none }
def dpbo14 : Oper := { dst := some 46, op := Go.Op.call { callee := Go.Callee.builtin Go.Builtin.append, args := #[Go.Operand.tmp 33, Go.Operand.tmp 45], argTypes := #[25, 25] }, type := 25, pos := "law.go:296", after := #[{ on := 1, ground := Go.Ground.data }, { on := 13, ground := Go.Ground.data }, { on := 11, ground := Go.Ground.chain }], guard := none }
def dpbo15 : Oper := { dst := some 47, op := Go.Op.fieldAddr 28 (Go.Operand.tmp 3) 2, type := 0, pos := "law.go:296", after := #[{ on := 0, ground := Go.Ground.phase }, { on := 1, ground := Go.Ground.phase }, { on := 2, ground := Go.Ground.phase }, { on := 3, ground := Go.Ground.phase }, { on := 4, ground := Go.Ground.phase }, { on := 5, ground := Go.Ground.phase }, { on := 6, ground := Go.Ground.phase }, { on := 7, ground := Go.Ground.phase }, { on := 8, ground := Go.Ground.phase }, { on := 9, ground := Go.Ground.phase }, { on := 10, ground := Go.Ground.phase }, { on := 11, ground := Go.Ground.phase }, { on := 12, ground := Go.Ground.phase }, { on := 13, ground := Go.Ground.phase }, { on := 14, ground := Go.Ground.phase }], guard := none }
def dpbo16 : Oper := { dst := none, op := Go.Op.store 25 (Go.Operand.tmp 47) (Go.Operand.tmp 46), type := 0, pos := "law.go:296", after := #[{ on := 15, ground := Go.Ground.data }, { on := 14, ground := Go.Ground.data }, { on := 14, ground := Go.Ground.chain }, { on := 0, ground := Go.Ground.phase }, { on := 1, ground := Go.Ground.phase }, { on := 2, ground := Go.Ground.phase }, { on := 3, ground := Go.Ground.phase }, { on := 4, ground := Go.Ground.phase }, { on := 5, ground := Go.Ground.phase }, { on := 6, ground := Go.Ground.phase }, { on := 7, ground := Go.Ground.phase }, { on := 8, ground := Go.Ground.phase }, { on := 9, ground := Go.Ground.phase }, { on := 10, ground := Go.Ground.phase }, { on := 11, ground := Go.Ground.phase }, { on := 12, ground := Go.Ground.phase }, { on := 13, ground := Go.Ground.phase }, { on := 14, ground := Go.Ground.phase }], guard := none }
def dpbr : Array Oper := #[dpbo0, dpbo1, dpbo2, dpbo3, dpbo4, dpbo5, dpbo6, dpbo7, dpbo8, dpbo9, dpbo10, dpbo11, dpbo12, dpbo13, dpbo14, dpbo15, dpbo16]
theorem dpb_o0 : dpbr[0]? = some dpbo0 := rfl
theorem dpb_o1 : dpbr[1]? = some dpbo1 := rfl
theorem dpb_o2 : dpbr[2]? = some dpbo2 := rfl
theorem dpb_o3 : dpbr[3]? = some dpbo3 := rfl
theorem dpb_o4 : dpbr[4]? = some dpbo4 := rfl
theorem dpb_o5 : dpbr[5]? = some dpbo5 := rfl
theorem dpb_o6 : dpbr[6]? = some dpbo6 := rfl
theorem dpb_o7 : dpbr[7]? = some dpbo7 := rfl
theorem dpb_o8 : dpbr[8]? = some dpbo8 := rfl
theorem dpb_o9 : dpbr[9]? = some dpbo9 := rfl
theorem dpb_o10 : dpbr[10]? = some dpbo10 := rfl
theorem dpb_o11 : dpbr[11]? = some dpbo11 := rfl
theorem dpb_o12 : dpbr[12]? = some dpbo12 := rfl
theorem dpb_o13 : dpbr[13]? = some dpbo13 := rfl
theorem dpb_o14 : dpbr[14]? = some dpbo14 := rfl
theorem dpb_o15 : dpbr[15]? = some dpbo15 := rfl
theorem dpb_o16 : dpbr[16]? = some dpbo16 := rfl
theorem dpb_rg : (Tryz.f35.body.bind (regAt 5)).getD .skip = .region 5 dpbr true := by kernel_rfl
theorem dpb_seq : Region.seqB .any dpbr 3 14 (upTo dpbr.size 14) = true := by kernel_rfl
theorem dpb_edge : (List.range 14).all (fun i => ((dpbr[i]?).map fun o => o.after.all fun e => decide (e.on < i)).getD true) = true := by kernel_rfl
theorem dpb_dst (i d : Nat) (hi : i < 14) (h : dstAt dpbr i = some d) : d ∈ dpbds := by
  have h1 := List.all_eq_true.1 (show (List.range 14).all (fun i => match dstAt dpbr i with | some d => decide (d ∈ dpbds) | none => true) = true by kernel_rfl) i (List.mem_range.2 hi)
  rw [h] at h1
  simpa using h1
theorem dpb_one (i j d : Nat) (hi : i < 14) (hj : j < dpbr.size) (h : dstAt dpbr i = some d) (k : dstAt dpbr j = some d) : i = j := by
  have h1 := List.all_eq_true.1 (show (List.range 14).all (fun i => (List.range dpbr.size).all fun j => match dstAt dpbr i, dstAt dpbr j with | some d, some e => decide (d = e → i = j) | _, _ => true) = true by kernel_rfl) i (List.mem_range.2 hi)
  have h2 := List.all_eq_true.1 h1 j (List.mem_range.2 hj)
  rw [h, k] at h2
  simpa using h2
def dpbG (q : PgV) (r : Pg) (y : NrV) (b3 bn B C E : Nat) : Nat → Value → (Nat → Value) → (Nat → Nat → Prop) → World → Prop
  | 0, v, f, t, w => v = .pointer (some ⟨b3, 2, none⟩)
  | 1, v, f, t, w => v = q.nv
  | 2, v, f, t, w => v = .pointer (some ⟨bn, 2, none⟩)
  | 3, v, f, t, w => v = .int .i64 y.n.slop
  | 4, v, f, t, w => LitS intS E 4 v t w
  | 5, v, f, t, w => v = .pointer (some ⟨bn, 0, none⟩)
  | 6, v, f, t, w => v = .slice y.ca y.n.cur.length y.cc
  | 7, v, f, t, w => AppS intS E 4 7 y.n.cur v t w
  | 8, v, f, t, w => LitS intS E 8 v t w
  | 9, v, f, t, w => v = .pointer (some ⟨bn, 1, none⟩)
  | 10, v, f, t, w => v = .slice y.oa y.n.off.length y.oc
  | 11, v, f, t, w => AppS intS E 8 11 y.n.off v t w
  | 12, v, f, t, w => v = .agg #[f 7, f 11, .int .i64 y.n.slop]
  | 13, v, f, t, w => ∃ b A7 n7 c7 A11 n11 c11, f 12 = .agg #[.slice A7 n7 c7, .slice A11 n11 c11, .int .i64 y.n.slop] ∧ v = .slice (some ⟨b, 0, none⟩) 1 1 ∧ Blk w b 68 #[.slice A7 n7 c7, .slice A11 n11 c11, .int .i64 y.n.slop]
  | _, _, _, _, _ => True
theorem dpb_st (q : PgV) (r : Pg) (y : NrV) (b3 bn B C E : Nat) (i : Nat) (v : Value) (f : Nat → Value) (t : Nat → Nat → Prop) (w w' : World) (h : dpbG q r y b3 bn B C E i v f t w) (hb : Below w.heap.size w w') : dpbG q r y b3 bn B C E i v f t w' :=
  match i, h with
  | 0, h => h
  | 1, h => h
  | 2, h => h
  | 3, h => h
  | 4, h => h.below hb
  | 5, h => h
  | 6, h => h
  | 7, h => h.below hb
  | 8, h => h.below hb
  | 9, h => h
  | 10, h => h
  | 11, h => h.below hb
  | 12, h => h
  | 13, h => by obtain ⟨b, A7, n7, c7, A11, n11, c11, h1, h2, h3⟩ := h; exact ⟨b, A7, n7, c7, A11, n11, c11, h1, h2, h3.belowW hb⟩
  | _ + 14, _ => trivial
section
variable {Q : Exit → Act → World → Prop} {a0 : Act} {w0 : World}
theorem dpb_s0 (q : PgV) (r : Pg) (y : NrV) (b3 bn B C E : Nat) (h3 : a0.tmps.getD 3 undef = .pointer (some ⟨b3, 0, none⟩)) (h5 : a0.tmps.getD 5 undef = .pointer (some ⟨bn, 0, none⟩)) (hq : Blk w0 b3 28 #[q.av, q.cv, q.nv, .bool r.all, q.dv, q.kv]) (hn : Blk w0 bn 68 #[.slice y.ca y.n.cur.length y.cc, .slice y.oa y.n.off.length y.oc, .int .i64 y.n.slop]) (hP : PgO w0 B q r) (hA : Apart q.av q.dv q.nl) (hc : RdL intS w0 C (.slice y.ca y.n.cur.length y.cc) y.n.cur) (ho : RdL intS w0 C (.slice y.oa y.n.off.length y.oc) y.n.off) (hC : C ≤ w0.heap.size) (hl : y.n.cur.length ≤ 1048576 ∧ y.n.off.length ≤ 1048576 ∧ q.nl.length ≤ 1048576) (hB : B ≤ w0.heap.size) (hne : b3 ≠ bn) (hb3 : B ≤ b3) (hE : E = w0.heap.size) {listed : Array Bool} {T : Nat → Nat → Prop} {a : Act} {w : World} {K : Act → World → Prop} (hI : GrI .any dpbr 14 (dpbG q r y b3 bn B C E) a0 w0.drew listed T a w) (hw : ∀ j, Region.waitsFor .any dpbr 0 j = true → listed.getD j false = true) (hcl : ∀ i j, i < 14 → listed.getD i false = true → Region.waitsFor .any dpbr i j = true → listed.getD j false = true)
    (hK : ∀ v w', (dpbo0.dst = none → v = undef) → Below w.heap.size w w' → dpbG q r y b3 bn B C E 0 v (maskV .any dpbr 0 (valOf dpbr a)) (maskT .any dpbr 0 (updT T 0 w.heap.size w'.heap.size)) w' → K (a.put dpbo0.dst v) w') : wpOp Tryz.prog dpbr Q 0 K a w := by
  refine wpOp_step dpb_o0 fun K2 hK2 => ?_
  unfold dpbo0
  have hbw : Below w0.heap.size w0 w := ((Below.refl _ _).drew).trans hI.bel
  have hEw : E ≤ w.heap.size := by rw [hE]; exact hbw.size
  have e3 := (hI.slot 3 (by kernel_rfl)).trans h3
  have HK := Lib.hid (hK2 _ _ (hK (.pointer (some ⟨b3, 2, none⟩)) w (fun h => by cases h) (Below.refl _ _) rfl))
  clear hK hK2 hI hw hcl hq hn hP hA hc ho
  go_simp
  exact HK.out
theorem dpb_s1 (q : PgV) (r : Pg) (y : NrV) (b3 bn B C E : Nat) (h3 : a0.tmps.getD 3 undef = .pointer (some ⟨b3, 0, none⟩)) (h5 : a0.tmps.getD 5 undef = .pointer (some ⟨bn, 0, none⟩)) (hq : Blk w0 b3 28 #[q.av, q.cv, q.nv, .bool r.all, q.dv, q.kv]) (hn : Blk w0 bn 68 #[.slice y.ca y.n.cur.length y.cc, .slice y.oa y.n.off.length y.oc, .int .i64 y.n.slop]) (hP : PgO w0 B q r) (hA : Apart q.av q.dv q.nl) (hc : RdL intS w0 C (.slice y.ca y.n.cur.length y.cc) y.n.cur) (ho : RdL intS w0 C (.slice y.oa y.n.off.length y.oc) y.n.off) (hC : C ≤ w0.heap.size) (hl : y.n.cur.length ≤ 1048576 ∧ y.n.off.length ≤ 1048576 ∧ q.nl.length ≤ 1048576) (hB : B ≤ w0.heap.size) (hne : b3 ≠ bn) (hb3 : B ≤ b3) (hE : E = w0.heap.size) {listed : Array Bool} {T : Nat → Nat → Prop} {a : Act} {w : World} {K : Act → World → Prop} (hI : GrI .any dpbr 14 (dpbG q r y b3 bn B C E) a0 w0.drew listed T a w) (hw : ∀ j, Region.waitsFor .any dpbr 1 j = true → listed.getD j false = true) (hcl : ∀ i j, i < 14 → listed.getD i false = true → Region.waitsFor .any dpbr i j = true → listed.getD j false = true)
    (hK : ∀ v w', (dpbo1.dst = none → v = undef) → Below w.heap.size w w' → dpbG q r y b3 bn B C E 1 v (maskV .any dpbr 1 (valOf dpbr a)) (maskT .any dpbr 1 (updT T 1 w.heap.size w'.heap.size)) w' → K (a.put dpbo1.dst v) w') : wpOp Tryz.prog dpbr Q 1 K a w := by
  refine wpOp_step dpb_o1 fun K2 hK2 => ?_
  unfold dpbo1
  have hbw : Below w0.heap.size w0 w := ((Below.refl _ _).drew).trans hI.bel
  have hEw : E ≤ w.heap.size := by rw [hE]; exact hbw.size
  have e32 : a.tmps.getD 32 undef = .pointer (some ⟨b3, 2, none⟩) := hI.made 0 (by decide) (hw 0 (by kernel_rfl))
  have cb : w.cell? ⟨b3, 2, none⟩ = some q.nv := (hq.belowW hbw).cell 2
  have HK := Lib.hid (hK2 _ _ (hK (q.nv) w (fun h => by cases h) (Below.refl _ _) rfl))
  clear hK hK2 hI hw hcl hq hn hP hA hc ho
  go_simp
  exact HK.out
theorem dpb_s2 (q : PgV) (r : Pg) (y : NrV) (b3 bn B C E : Nat) (h3 : a0.tmps.getD 3 undef = .pointer (some ⟨b3, 0, none⟩)) (h5 : a0.tmps.getD 5 undef = .pointer (some ⟨bn, 0, none⟩)) (hq : Blk w0 b3 28 #[q.av, q.cv, q.nv, .bool r.all, q.dv, q.kv]) (hn : Blk w0 bn 68 #[.slice y.ca y.n.cur.length y.cc, .slice y.oa y.n.off.length y.oc, .int .i64 y.n.slop]) (hP : PgO w0 B q r) (hA : Apart q.av q.dv q.nl) (hc : RdL intS w0 C (.slice y.ca y.n.cur.length y.cc) y.n.cur) (ho : RdL intS w0 C (.slice y.oa y.n.off.length y.oc) y.n.off) (hC : C ≤ w0.heap.size) (hl : y.n.cur.length ≤ 1048576 ∧ y.n.off.length ≤ 1048576 ∧ q.nl.length ≤ 1048576) (hB : B ≤ w0.heap.size) (hne : b3 ≠ bn) (hb3 : B ≤ b3) (hE : E = w0.heap.size) {listed : Array Bool} {T : Nat → Nat → Prop} {a : Act} {w : World} {K : Act → World → Prop} (hI : GrI .any dpbr 14 (dpbG q r y b3 bn B C E) a0 w0.drew listed T a w) (hw : ∀ j, Region.waitsFor .any dpbr 2 j = true → listed.getD j false = true) (hcl : ∀ i j, i < 14 → listed.getD i false = true → Region.waitsFor .any dpbr i j = true → listed.getD j false = true)
    (hK : ∀ v w', (dpbo2.dst = none → v = undef) → Below w.heap.size w w' → dpbG q r y b3 bn B C E 2 v (maskV .any dpbr 2 (valOf dpbr a)) (maskT .any dpbr 2 (updT T 2 w.heap.size w'.heap.size)) w' → K (a.put dpbo2.dst v) w') : wpOp Tryz.prog dpbr Q 2 K a w := by
  refine wpOp_step dpb_o2 fun K2 hK2 => ?_
  unfold dpbo2
  have hbw : Below w0.heap.size w0 w := ((Below.refl _ _).drew).trans hI.bel
  have hEw : E ≤ w.heap.size := by rw [hE]; exact hbw.size
  have e5 := (hI.slot 5 (by kernel_rfl)).trans h5
  have HK := Lib.hid (hK2 _ _ (hK (.pointer (some ⟨bn, 2, none⟩)) w (fun h => by cases h) (Below.refl _ _) rfl))
  clear hK hK2 hI hw hcl hq hn hP hA hc ho
  go_simp
  exact HK.out
theorem dpb_s3 (q : PgV) (r : Pg) (y : NrV) (b3 bn B C E : Nat) (h3 : a0.tmps.getD 3 undef = .pointer (some ⟨b3, 0, none⟩)) (h5 : a0.tmps.getD 5 undef = .pointer (some ⟨bn, 0, none⟩)) (hq : Blk w0 b3 28 #[q.av, q.cv, q.nv, .bool r.all, q.dv, q.kv]) (hn : Blk w0 bn 68 #[.slice y.ca y.n.cur.length y.cc, .slice y.oa y.n.off.length y.oc, .int .i64 y.n.slop]) (hP : PgO w0 B q r) (hA : Apart q.av q.dv q.nl) (hc : RdL intS w0 C (.slice y.ca y.n.cur.length y.cc) y.n.cur) (ho : RdL intS w0 C (.slice y.oa y.n.off.length y.oc) y.n.off) (hC : C ≤ w0.heap.size) (hl : y.n.cur.length ≤ 1048576 ∧ y.n.off.length ≤ 1048576 ∧ q.nl.length ≤ 1048576) (hB : B ≤ w0.heap.size) (hne : b3 ≠ bn) (hb3 : B ≤ b3) (hE : E = w0.heap.size) {listed : Array Bool} {T : Nat → Nat → Prop} {a : Act} {w : World} {K : Act → World → Prop} (hI : GrI .any dpbr 14 (dpbG q r y b3 bn B C E) a0 w0.drew listed T a w) (hw : ∀ j, Region.waitsFor .any dpbr 3 j = true → listed.getD j false = true) (hcl : ∀ i j, i < 14 → listed.getD i false = true → Region.waitsFor .any dpbr i j = true → listed.getD j false = true)
    (hK : ∀ v w', (dpbo3.dst = none → v = undef) → Below w.heap.size w w' → dpbG q r y b3 bn B C E 3 v (maskV .any dpbr 3 (valOf dpbr a)) (maskT .any dpbr 3 (updT T 3 w.heap.size w'.heap.size)) w' → K (a.put dpbo3.dst v) w') : wpOp Tryz.prog dpbr Q 3 K a w := by
  refine wpOp_step dpb_o3 fun K2 hK2 => ?_
  unfold dpbo3
  have hbw : Below w0.heap.size w0 w := ((Below.refl _ _).drew).trans hI.bel
  have hEw : E ≤ w.heap.size := by rw [hE]; exact hbw.size
  have e34 : a.tmps.getD 34 undef = .pointer (some ⟨bn, 2, none⟩) := hI.made 2 (by decide) (hw 2 (by kernel_rfl))
  have cb : w.cell? ⟨bn, 2, none⟩ = some (.int .i64 y.n.slop) := (hn.belowW hbw).cell 2
  have HK := Lib.hid (hK2 _ _ (hK (.int .i64 y.n.slop) w (fun h => by cases h) (Below.refl _ _) rfl))
  clear hK hK2 hI hw hcl hq hn hP hA hc ho
  go_simp
  exact HK.out
theorem dpb_s4 (q : PgV) (r : Pg) (y : NrV) (b3 bn B C E : Nat) (h3 : a0.tmps.getD 3 undef = .pointer (some ⟨b3, 0, none⟩)) (h5 : a0.tmps.getD 5 undef = .pointer (some ⟨bn, 0, none⟩)) (hq : Blk w0 b3 28 #[q.av, q.cv, q.nv, .bool r.all, q.dv, q.kv]) (hn : Blk w0 bn 68 #[.slice y.ca y.n.cur.length y.cc, .slice y.oa y.n.off.length y.oc, .int .i64 y.n.slop]) (hP : PgO w0 B q r) (hA : Apart q.av q.dv q.nl) (hc : RdL intS w0 C (.slice y.ca y.n.cur.length y.cc) y.n.cur) (ho : RdL intS w0 C (.slice y.oa y.n.off.length y.oc) y.n.off) (hC : C ≤ w0.heap.size) (hl : y.n.cur.length ≤ 1048576 ∧ y.n.off.length ≤ 1048576 ∧ q.nl.length ≤ 1048576) (hB : B ≤ w0.heap.size) (hne : b3 ≠ bn) (hb3 : B ≤ b3) (hE : E = w0.heap.size) {listed : Array Bool} {T : Nat → Nat → Prop} {a : Act} {w : World} {K : Act → World → Prop} (hI : GrI .any dpbr 14 (dpbG q r y b3 bn B C E) a0 w0.drew listed T a w) (hw : ∀ j, Region.waitsFor .any dpbr 4 j = true → listed.getD j false = true) (hcl : ∀ i j, i < 14 → listed.getD i false = true → Region.waitsFor .any dpbr i j = true → listed.getD j false = true)
    (hK : ∀ v w', (dpbo4.dst = none → v = undef) → Below w.heap.size w w' → dpbG q r y b3 bn B C E 4 v (maskV .any dpbr 4 (valOf dpbr a)) (maskT .any dpbr 4 (updT T 4 w.heap.size w'.heap.size)) w' → K (a.put dpbo4.dst v) w') : wpOp Tryz.prog dpbr Q 4 K a w := by
  refine wpOp_step dpb_o4 fun K2 hK2 => ?_
  unfold dpbo4
  have hbw : Below w0.heap.size w0 w := ((Below.refl _ _).drew).trans hI.bel
  have hEw : E ≤ w.heap.size := by rw [hE]; exact hbw.size
  have HK := Lib.hid (hK2 _ _ (hK (.slice (some ⟨w.heap.size, 0, none⟩) 0 0) (w.alloc (.cells #[] 3)) (fun h => by cases h) ((Below.refl _ _).alloc (Nat.le_refl _) _) ⟨w.heap.size, rfl, OwnL.lit0 intS w hEw, maskT_new (Nat.le_refl _) (by rw [World.size_alloc]; exact Nat.lt_succ_self _)⟩))
  clear hK hK2 hI hw hcl hq hn hP hA hc ho
  go_simp
  exact HK.out
theorem dpb_s5 (q : PgV) (r : Pg) (y : NrV) (b3 bn B C E : Nat) (h3 : a0.tmps.getD 3 undef = .pointer (some ⟨b3, 0, none⟩)) (h5 : a0.tmps.getD 5 undef = .pointer (some ⟨bn, 0, none⟩)) (hq : Blk w0 b3 28 #[q.av, q.cv, q.nv, .bool r.all, q.dv, q.kv]) (hn : Blk w0 bn 68 #[.slice y.ca y.n.cur.length y.cc, .slice y.oa y.n.off.length y.oc, .int .i64 y.n.slop]) (hP : PgO w0 B q r) (hA : Apart q.av q.dv q.nl) (hc : RdL intS w0 C (.slice y.ca y.n.cur.length y.cc) y.n.cur) (ho : RdL intS w0 C (.slice y.oa y.n.off.length y.oc) y.n.off) (hC : C ≤ w0.heap.size) (hl : y.n.cur.length ≤ 1048576 ∧ y.n.off.length ≤ 1048576 ∧ q.nl.length ≤ 1048576) (hB : B ≤ w0.heap.size) (hne : b3 ≠ bn) (hb3 : B ≤ b3) (hE : E = w0.heap.size) {listed : Array Bool} {T : Nat → Nat → Prop} {a : Act} {w : World} {K : Act → World → Prop} (hI : GrI .any dpbr 14 (dpbG q r y b3 bn B C E) a0 w0.drew listed T a w) (hw : ∀ j, Region.waitsFor .any dpbr 5 j = true → listed.getD j false = true) (hcl : ∀ i j, i < 14 → listed.getD i false = true → Region.waitsFor .any dpbr i j = true → listed.getD j false = true)
    (hK : ∀ v w', (dpbo5.dst = none → v = undef) → Below w.heap.size w w' → dpbG q r y b3 bn B C E 5 v (maskV .any dpbr 5 (valOf dpbr a)) (maskT .any dpbr 5 (updT T 5 w.heap.size w'.heap.size)) w' → K (a.put dpbo5.dst v) w') : wpOp Tryz.prog dpbr Q 5 K a w := by
  refine wpOp_step dpb_o5 fun K2 hK2 => ?_
  unfold dpbo5
  have hbw : Below w0.heap.size w0 w := ((Below.refl _ _).drew).trans hI.bel
  have hEw : E ≤ w.heap.size := by rw [hE]; exact hbw.size
  have e5 := (hI.slot 5 (by kernel_rfl)).trans h5
  have HK := Lib.hid (hK2 _ _ (hK (.pointer (some ⟨bn, 0, none⟩)) w (fun h => by cases h) (Below.refl _ _) rfl))
  clear hK hK2 hI hw hcl hq hn hP hA hc ho
  go_simp
  exact HK.out
theorem dpb_s6 (q : PgV) (r : Pg) (y : NrV) (b3 bn B C E : Nat) (h3 : a0.tmps.getD 3 undef = .pointer (some ⟨b3, 0, none⟩)) (h5 : a0.tmps.getD 5 undef = .pointer (some ⟨bn, 0, none⟩)) (hq : Blk w0 b3 28 #[q.av, q.cv, q.nv, .bool r.all, q.dv, q.kv]) (hn : Blk w0 bn 68 #[.slice y.ca y.n.cur.length y.cc, .slice y.oa y.n.off.length y.oc, .int .i64 y.n.slop]) (hP : PgO w0 B q r) (hA : Apart q.av q.dv q.nl) (hc : RdL intS w0 C (.slice y.ca y.n.cur.length y.cc) y.n.cur) (ho : RdL intS w0 C (.slice y.oa y.n.off.length y.oc) y.n.off) (hC : C ≤ w0.heap.size) (hl : y.n.cur.length ≤ 1048576 ∧ y.n.off.length ≤ 1048576 ∧ q.nl.length ≤ 1048576) (hB : B ≤ w0.heap.size) (hne : b3 ≠ bn) (hb3 : B ≤ b3) (hE : E = w0.heap.size) {listed : Array Bool} {T : Nat → Nat → Prop} {a : Act} {w : World} {K : Act → World → Prop} (hI : GrI .any dpbr 14 (dpbG q r y b3 bn B C E) a0 w0.drew listed T a w) (hw : ∀ j, Region.waitsFor .any dpbr 6 j = true → listed.getD j false = true) (hcl : ∀ i j, i < 14 → listed.getD i false = true → Region.waitsFor .any dpbr i j = true → listed.getD j false = true)
    (hK : ∀ v w', (dpbo6.dst = none → v = undef) → Below w.heap.size w w' → dpbG q r y b3 bn B C E 6 v (maskV .any dpbr 6 (valOf dpbr a)) (maskT .any dpbr 6 (updT T 6 w.heap.size w'.heap.size)) w' → K (a.put dpbo6.dst v) w') : wpOp Tryz.prog dpbr Q 6 K a w := by
  refine wpOp_step dpb_o6 fun K2 hK2 => ?_
  unfold dpbo6
  have hbw : Below w0.heap.size w0 w := ((Below.refl _ _).drew).trans hI.bel
  have hEw : E ≤ w.heap.size := by rw [hE]; exact hbw.size
  have e37 : a.tmps.getD 37 undef = .pointer (some ⟨bn, 0, none⟩) := hI.made 5 (by decide) (hw 5 (by kernel_rfl))
  have cb : w.cell? ⟨bn, 0, none⟩ = some (.slice y.ca y.n.cur.length y.cc) := (hn.belowW hbw).cell 0
  have HK := Lib.hid (hK2 _ _ (hK (.slice y.ca y.n.cur.length y.cc) w (fun h => by cases h) (Below.refl _ _) rfl))
  clear hK hK2 hI hw hcl hq hn hP hA hc ho
  go_simp
  exact HK.out
theorem dpb_s7 (q : PgV) (r : Pg) (y : NrV) (b3 bn B C E : Nat) (h3 : a0.tmps.getD 3 undef = .pointer (some ⟨b3, 0, none⟩)) (h5 : a0.tmps.getD 5 undef = .pointer (some ⟨bn, 0, none⟩)) (hq : Blk w0 b3 28 #[q.av, q.cv, q.nv, .bool r.all, q.dv, q.kv]) (hn : Blk w0 bn 68 #[.slice y.ca y.n.cur.length y.cc, .slice y.oa y.n.off.length y.oc, .int .i64 y.n.slop]) (hP : PgO w0 B q r) (hA : Apart q.av q.dv q.nl) (hc : RdL intS w0 C (.slice y.ca y.n.cur.length y.cc) y.n.cur) (ho : RdL intS w0 C (.slice y.oa y.n.off.length y.oc) y.n.off) (hC : C ≤ w0.heap.size) (hl : y.n.cur.length ≤ 1048576 ∧ y.n.off.length ≤ 1048576 ∧ q.nl.length ≤ 1048576) (hB : B ≤ w0.heap.size) (hne : b3 ≠ bn) (hb3 : B ≤ b3) (hE : E = w0.heap.size) {listed : Array Bool} {T : Nat → Nat → Prop} {a : Act} {w : World} {K : Act → World → Prop} (hI : GrI .any dpbr 14 (dpbG q r y b3 bn B C E) a0 w0.drew listed T a w) (hw : ∀ j, Region.waitsFor .any dpbr 7 j = true → listed.getD j false = true) (hcl : ∀ i j, i < 14 → listed.getD i false = true → Region.waitsFor .any dpbr i j = true → listed.getD j false = true)
    (hK : ∀ v w', (dpbo7.dst = none → v = undef) → Below w.heap.size w w' → dpbG q r y b3 bn B C E 7 v (maskV .any dpbr 7 (valOf dpbr a)) (maskT .any dpbr 7 (updT T 7 w.heap.size w'.heap.size)) w' → K (a.put dpbo7.dst v) w') : wpOp Tryz.prog dpbr Q 7 K a w := by
  have hbw : Below w0.heap.size w0 w := ((Below.refl _ _).drew).trans hI.bel
  have hEw : E ≤ w.heap.size := by rw [hE]; exact hbw.size
  obtain ⟨b, e36, hob, ht⟩ : LitS intS E 4 (a.tmps.getD 36 undef) (maskT .any dpbr 4 T) w := hI.made 4 (by decide) (hw 4 (by kernel_rfl))
  have e38 : a.tmps.getD 38 undef = .slice y.ca y.n.cur.length y.cc := hI.made 6 (by decide) (hw 6 (by kernel_rfl))
  rw [e36] at hob
  refine OwnL.opLit intSOk hob (hc.belowW hC hbw) hEw dpb_o7 rfl (.tmp 36) (.tmp 38) rfl e36 e38 (Nat.le_trans hl.1 (by decide)) fun v' w' h1 h2 h3 => hK v' w' (fun h => by cases h) h2 ⟨h1, fun z hz => ?_⟩
  rcases h3 with rfl | ⟨h3, h4⟩
  · injection hz with hz
    subst hz
    exact Or.inl (maskT_old (by kernel_rfl) (by decide) ht.2)
  · rw [h3] at hz
    injection hz with hz
    subst hz
    exact Or.inr (maskT_new (Nat.le_refl _) h4)
theorem dpb_s8 (q : PgV) (r : Pg) (y : NrV) (b3 bn B C E : Nat) (h3 : a0.tmps.getD 3 undef = .pointer (some ⟨b3, 0, none⟩)) (h5 : a0.tmps.getD 5 undef = .pointer (some ⟨bn, 0, none⟩)) (hq : Blk w0 b3 28 #[q.av, q.cv, q.nv, .bool r.all, q.dv, q.kv]) (hn : Blk w0 bn 68 #[.slice y.ca y.n.cur.length y.cc, .slice y.oa y.n.off.length y.oc, .int .i64 y.n.slop]) (hP : PgO w0 B q r) (hA : Apart q.av q.dv q.nl) (hc : RdL intS w0 C (.slice y.ca y.n.cur.length y.cc) y.n.cur) (ho : RdL intS w0 C (.slice y.oa y.n.off.length y.oc) y.n.off) (hC : C ≤ w0.heap.size) (hl : y.n.cur.length ≤ 1048576 ∧ y.n.off.length ≤ 1048576 ∧ q.nl.length ≤ 1048576) (hB : B ≤ w0.heap.size) (hne : b3 ≠ bn) (hb3 : B ≤ b3) (hE : E = w0.heap.size) {listed : Array Bool} {T : Nat → Nat → Prop} {a : Act} {w : World} {K : Act → World → Prop} (hI : GrI .any dpbr 14 (dpbG q r y b3 bn B C E) a0 w0.drew listed T a w) (hw : ∀ j, Region.waitsFor .any dpbr 8 j = true → listed.getD j false = true) (hcl : ∀ i j, i < 14 → listed.getD i false = true → Region.waitsFor .any dpbr i j = true → listed.getD j false = true)
    (hK : ∀ v w', (dpbo8.dst = none → v = undef) → Below w.heap.size w w' → dpbG q r y b3 bn B C E 8 v (maskV .any dpbr 8 (valOf dpbr a)) (maskT .any dpbr 8 (updT T 8 w.heap.size w'.heap.size)) w' → K (a.put dpbo8.dst v) w') : wpOp Tryz.prog dpbr Q 8 K a w := by
  refine wpOp_step dpb_o8 fun K2 hK2 => ?_
  unfold dpbo8
  have hbw : Below w0.heap.size w0 w := ((Below.refl _ _).drew).trans hI.bel
  have hEw : E ≤ w.heap.size := by rw [hE]; exact hbw.size
  have HK := Lib.hid (hK2 _ _ (hK (.slice (some ⟨w.heap.size, 0, none⟩) 0 0) (w.alloc (.cells #[] 3)) (fun h => by cases h) ((Below.refl _ _).alloc (Nat.le_refl _) _) ⟨w.heap.size, rfl, OwnL.lit0 intS w hEw, maskT_new (Nat.le_refl _) (by rw [World.size_alloc]; exact Nat.lt_succ_self _)⟩))
  clear hK hK2 hI hw hcl hq hn hP hA hc ho
  go_simp
  exact HK.out
theorem dpb_s9 (q : PgV) (r : Pg) (y : NrV) (b3 bn B C E : Nat) (h3 : a0.tmps.getD 3 undef = .pointer (some ⟨b3, 0, none⟩)) (h5 : a0.tmps.getD 5 undef = .pointer (some ⟨bn, 0, none⟩)) (hq : Blk w0 b3 28 #[q.av, q.cv, q.nv, .bool r.all, q.dv, q.kv]) (hn : Blk w0 bn 68 #[.slice y.ca y.n.cur.length y.cc, .slice y.oa y.n.off.length y.oc, .int .i64 y.n.slop]) (hP : PgO w0 B q r) (hA : Apart q.av q.dv q.nl) (hc : RdL intS w0 C (.slice y.ca y.n.cur.length y.cc) y.n.cur) (ho : RdL intS w0 C (.slice y.oa y.n.off.length y.oc) y.n.off) (hC : C ≤ w0.heap.size) (hl : y.n.cur.length ≤ 1048576 ∧ y.n.off.length ≤ 1048576 ∧ q.nl.length ≤ 1048576) (hB : B ≤ w0.heap.size) (hne : b3 ≠ bn) (hb3 : B ≤ b3) (hE : E = w0.heap.size) {listed : Array Bool} {T : Nat → Nat → Prop} {a : Act} {w : World} {K : Act → World → Prop} (hI : GrI .any dpbr 14 (dpbG q r y b3 bn B C E) a0 w0.drew listed T a w) (hw : ∀ j, Region.waitsFor .any dpbr 9 j = true → listed.getD j false = true) (hcl : ∀ i j, i < 14 → listed.getD i false = true → Region.waitsFor .any dpbr i j = true → listed.getD j false = true)
    (hK : ∀ v w', (dpbo9.dst = none → v = undef) → Below w.heap.size w w' → dpbG q r y b3 bn B C E 9 v (maskV .any dpbr 9 (valOf dpbr a)) (maskT .any dpbr 9 (updT T 9 w.heap.size w'.heap.size)) w' → K (a.put dpbo9.dst v) w') : wpOp Tryz.prog dpbr Q 9 K a w := by
  refine wpOp_step dpb_o9 fun K2 hK2 => ?_
  unfold dpbo9
  have hbw : Below w0.heap.size w0 w := ((Below.refl _ _).drew).trans hI.bel
  have hEw : E ≤ w.heap.size := by rw [hE]; exact hbw.size
  have e5 := (hI.slot 5 (by kernel_rfl)).trans h5
  have HK := Lib.hid (hK2 _ _ (hK (.pointer (some ⟨bn, 1, none⟩)) w (fun h => by cases h) (Below.refl _ _) rfl))
  clear hK hK2 hI hw hcl hq hn hP hA hc ho
  go_simp
  exact HK.out
theorem dpb_s10 (q : PgV) (r : Pg) (y : NrV) (b3 bn B C E : Nat) (h3 : a0.tmps.getD 3 undef = .pointer (some ⟨b3, 0, none⟩)) (h5 : a0.tmps.getD 5 undef = .pointer (some ⟨bn, 0, none⟩)) (hq : Blk w0 b3 28 #[q.av, q.cv, q.nv, .bool r.all, q.dv, q.kv]) (hn : Blk w0 bn 68 #[.slice y.ca y.n.cur.length y.cc, .slice y.oa y.n.off.length y.oc, .int .i64 y.n.slop]) (hP : PgO w0 B q r) (hA : Apart q.av q.dv q.nl) (hc : RdL intS w0 C (.slice y.ca y.n.cur.length y.cc) y.n.cur) (ho : RdL intS w0 C (.slice y.oa y.n.off.length y.oc) y.n.off) (hC : C ≤ w0.heap.size) (hl : y.n.cur.length ≤ 1048576 ∧ y.n.off.length ≤ 1048576 ∧ q.nl.length ≤ 1048576) (hB : B ≤ w0.heap.size) (hne : b3 ≠ bn) (hb3 : B ≤ b3) (hE : E = w0.heap.size) {listed : Array Bool} {T : Nat → Nat → Prop} {a : Act} {w : World} {K : Act → World → Prop} (hI : GrI .any dpbr 14 (dpbG q r y b3 bn B C E) a0 w0.drew listed T a w) (hw : ∀ j, Region.waitsFor .any dpbr 10 j = true → listed.getD j false = true) (hcl : ∀ i j, i < 14 → listed.getD i false = true → Region.waitsFor .any dpbr i j = true → listed.getD j false = true)
    (hK : ∀ v w', (dpbo10.dst = none → v = undef) → Below w.heap.size w w' → dpbG q r y b3 bn B C E 10 v (maskV .any dpbr 10 (valOf dpbr a)) (maskT .any dpbr 10 (updT T 10 w.heap.size w'.heap.size)) w' → K (a.put dpbo10.dst v) w') : wpOp Tryz.prog dpbr Q 10 K a w := by
  refine wpOp_step dpb_o10 fun K2 hK2 => ?_
  unfold dpbo10
  have hbw : Below w0.heap.size w0 w := ((Below.refl _ _).drew).trans hI.bel
  have hEw : E ≤ w.heap.size := by rw [hE]; exact hbw.size
  have e41 : a.tmps.getD 41 undef = .pointer (some ⟨bn, 1, none⟩) := hI.made 9 (by decide) (hw 9 (by kernel_rfl))
  have cb : w.cell? ⟨bn, 1, none⟩ = some (.slice y.oa y.n.off.length y.oc) := (hn.belowW hbw).cell 1
  have HK := Lib.hid (hK2 _ _ (hK (.slice y.oa y.n.off.length y.oc) w (fun h => by cases h) (Below.refl _ _) rfl))
  clear hK hK2 hI hw hcl hq hn hP hA hc ho
  go_simp
  exact HK.out
theorem dpb_s11 (q : PgV) (r : Pg) (y : NrV) (b3 bn B C E : Nat) (h3 : a0.tmps.getD 3 undef = .pointer (some ⟨b3, 0, none⟩)) (h5 : a0.tmps.getD 5 undef = .pointer (some ⟨bn, 0, none⟩)) (hq : Blk w0 b3 28 #[q.av, q.cv, q.nv, .bool r.all, q.dv, q.kv]) (hn : Blk w0 bn 68 #[.slice y.ca y.n.cur.length y.cc, .slice y.oa y.n.off.length y.oc, .int .i64 y.n.slop]) (hP : PgO w0 B q r) (hA : Apart q.av q.dv q.nl) (hc : RdL intS w0 C (.slice y.ca y.n.cur.length y.cc) y.n.cur) (ho : RdL intS w0 C (.slice y.oa y.n.off.length y.oc) y.n.off) (hC : C ≤ w0.heap.size) (hl : y.n.cur.length ≤ 1048576 ∧ y.n.off.length ≤ 1048576 ∧ q.nl.length ≤ 1048576) (hB : B ≤ w0.heap.size) (hne : b3 ≠ bn) (hb3 : B ≤ b3) (hE : E = w0.heap.size) {listed : Array Bool} {T : Nat → Nat → Prop} {a : Act} {w : World} {K : Act → World → Prop} (hI : GrI .any dpbr 14 (dpbG q r y b3 bn B C E) a0 w0.drew listed T a w) (hw : ∀ j, Region.waitsFor .any dpbr 11 j = true → listed.getD j false = true) (hcl : ∀ i j, i < 14 → listed.getD i false = true → Region.waitsFor .any dpbr i j = true → listed.getD j false = true)
    (hK : ∀ v w', (dpbo11.dst = none → v = undef) → Below w.heap.size w w' → dpbG q r y b3 bn B C E 11 v (maskV .any dpbr 11 (valOf dpbr a)) (maskT .any dpbr 11 (updT T 11 w.heap.size w'.heap.size)) w' → K (a.put dpbo11.dst v) w') : wpOp Tryz.prog dpbr Q 11 K a w := by
  have hbw : Below w0.heap.size w0 w := ((Below.refl _ _).drew).trans hI.bel
  have hEw : E ≤ w.heap.size := by rw [hE]; exact hbw.size
  obtain ⟨b, e40, hob, ht⟩ : LitS intS E 8 (a.tmps.getD 40 undef) (maskT .any dpbr 8 T) w := hI.made 8 (by decide) (hw 8 (by kernel_rfl))
  have e42 : a.tmps.getD 42 undef = .slice y.oa y.n.off.length y.oc := hI.made 10 (by decide) (hw 10 (by kernel_rfl))
  rw [e40] at hob
  refine OwnL.opLit intSOk hob (ho.belowW hC hbw) hEw dpb_o11 rfl (.tmp 40) (.tmp 42) rfl e40 e42 (Nat.le_trans hl.2.1 (by decide)) fun v' w' h1 h2 h3 => hK v' w' (fun h => by cases h) h2 ⟨h1, fun z hz => ?_⟩
  rcases h3 with rfl | ⟨h3, h4⟩
  · injection hz with hz
    subst hz
    exact Or.inl (maskT_old (by kernel_rfl) (by decide) ht.2)
  · rw [h3] at hz
    injection hz with hz
    subst hz
    exact Or.inr (maskT_new (Nat.le_refl _) h4)
theorem dpb_s12 (q : PgV) (r : Pg) (y : NrV) (b3 bn B C E : Nat) (h3 : a0.tmps.getD 3 undef = .pointer (some ⟨b3, 0, none⟩)) (h5 : a0.tmps.getD 5 undef = .pointer (some ⟨bn, 0, none⟩)) (hq : Blk w0 b3 28 #[q.av, q.cv, q.nv, .bool r.all, q.dv, q.kv]) (hn : Blk w0 bn 68 #[.slice y.ca y.n.cur.length y.cc, .slice y.oa y.n.off.length y.oc, .int .i64 y.n.slop]) (hP : PgO w0 B q r) (hA : Apart q.av q.dv q.nl) (hc : RdL intS w0 C (.slice y.ca y.n.cur.length y.cc) y.n.cur) (ho : RdL intS w0 C (.slice y.oa y.n.off.length y.oc) y.n.off) (hC : C ≤ w0.heap.size) (hl : y.n.cur.length ≤ 1048576 ∧ y.n.off.length ≤ 1048576 ∧ q.nl.length ≤ 1048576) (hB : B ≤ w0.heap.size) (hne : b3 ≠ bn) (hb3 : B ≤ b3) (hE : E = w0.heap.size) {listed : Array Bool} {T : Nat → Nat → Prop} {a : Act} {w : World} {K : Act → World → Prop} (hI : GrI .any dpbr 14 (dpbG q r y b3 bn B C E) a0 w0.drew listed T a w) (hw : ∀ j, Region.waitsFor .any dpbr 12 j = true → listed.getD j false = true) (hcl : ∀ i j, i < 14 → listed.getD i false = true → Region.waitsFor .any dpbr i j = true → listed.getD j false = true)
    (hK : ∀ v w', (dpbo12.dst = none → v = undef) → Below w.heap.size w w' → dpbG q r y b3 bn B C E 12 v (maskV .any dpbr 12 (valOf dpbr a)) (maskT .any dpbr 12 (updT T 12 w.heap.size w'.heap.size)) w' → K (a.put dpbo12.dst v) w') : wpOp Tryz.prog dpbr Q 12 K a w := by
  refine wpOp_step dpb_o12 fun K2 hK2 => ?_
  unfold dpbo12
  have g7 : AppS intS E 4 7 y.n.cur (a.tmps.getD 39 undef) (maskT .any dpbr 7 T) w := hI.made 7 (by decide) (hw 7 (by kernel_rfl))
  obtain ⟨A7, c7, e39, -, -, -⟩ := g7.1.open_
  have g11 : AppS intS E 8 11 y.n.off (a.tmps.getD 43 undef) (maskT .any dpbr 11 T) w := hI.made 11 (by decide) (hw 11 (by kernel_rfl))
  obtain ⟨A11, c11, e43, -, -, -⟩ := g11.1.open_
  have e35 : a.tmps.getD 35 undef = .int .i64 y.n.slop := hI.made 3 (by decide) (hw 3 (by kernel_rfl))
  have HK := Lib.hid (hK2 _ _ (hK (.agg #[a.tmps.getD 39 undef, a.tmps.getD 43 undef, .int .i64 y.n.slop]) w (fun h => by cases h) (Below.refl _ _) (by
    have m7 : maskV .any dpbr 12 (valOf dpbr a) 7 = a.tmps.getD 39 undef := maskV_of (by kernel_rfl)
    have m11 : maskV .any dpbr 12 (valOf dpbr a) 11 = a.tmps.getD 43 undef := maskV_of (by kernel_rfl)
    show Value.agg _ = Value.agg #[maskV .any dpbr 12 (valOf dpbr a) 7, maskV .any dpbr 12 (valOf dpbr a) 11, .int .i64 y.n.slop]
    rw [m7, m11])))
  rw [e39, e43] at HK
  have d35 := tmpQ e35; have d39 := tmpQ e39; have d43 := tmpQ e43
  clear hK hK2 hI hw hcl hq hn hP hA hc ho
  clear g7 g11
  go_simp
  exact HK.out
theorem dpb_s13 (q : PgV) (r : Pg) (y : NrV) (b3 bn B C E : Nat) (h3 : a0.tmps.getD 3 undef = .pointer (some ⟨b3, 0, none⟩)) (h5 : a0.tmps.getD 5 undef = .pointer (some ⟨bn, 0, none⟩)) (hq : Blk w0 b3 28 #[q.av, q.cv, q.nv, .bool r.all, q.dv, q.kv]) (hn : Blk w0 bn 68 #[.slice y.ca y.n.cur.length y.cc, .slice y.oa y.n.off.length y.oc, .int .i64 y.n.slop]) (hP : PgO w0 B q r) (hA : Apart q.av q.dv q.nl) (hc : RdL intS w0 C (.slice y.ca y.n.cur.length y.cc) y.n.cur) (ho : RdL intS w0 C (.slice y.oa y.n.off.length y.oc) y.n.off) (hC : C ≤ w0.heap.size) (hl : y.n.cur.length ≤ 1048576 ∧ y.n.off.length ≤ 1048576 ∧ q.nl.length ≤ 1048576) (hB : B ≤ w0.heap.size) (hne : b3 ≠ bn) (hb3 : B ≤ b3) (hE : E = w0.heap.size) {listed : Array Bool} {T : Nat → Nat → Prop} {a : Act} {w : World} {K : Act → World → Prop} (hI : GrI .any dpbr 14 (dpbG q r y b3 bn B C E) a0 w0.drew listed T a w) (hw : ∀ j, Region.waitsFor .any dpbr 13 j = true → listed.getD j false = true) (hcl : ∀ i j, i < 14 → listed.getD i false = true → Region.waitsFor .any dpbr i j = true → listed.getD j false = true)
    (hK : ∀ v w', (dpbo13.dst = none → v = undef) → Below w.heap.size w w' → dpbG q r y b3 bn B C E 13 v (maskV .any dpbr 13 (valOf dpbr a)) (maskT .any dpbr 13 (updT T 13 w.heap.size w'.heap.size)) w' → K (a.put dpbo13.dst v) w') : wpOp Tryz.prog dpbr Q 13 K a w := by
  refine wpOp_step dpb_o13 fun K2 hK2 => ?_
  unfold dpbo13
  have g7 : AppS intS E 4 7 y.n.cur (a.tmps.getD 39 undef) (maskT .any dpbr 7 T) w := hI.made 7 (by decide) (hcl 12 7 (by decide) (hw 12 (by kernel_rfl)) (by kernel_rfl))
  obtain ⟨A7, c7, e39, -, -, -⟩ := g7.1.open_
  have g11 : AppS intS E 8 11 y.n.off (a.tmps.getD 43 undef) (maskT .any dpbr 11 T) w := hI.made 11 (by decide) (hcl 12 11 (by decide) (hw 12 (by kernel_rfl)) (by kernel_rfl))
  obtain ⟨A11, c11, e43, -, -, -⟩ := g11.1.open_
  have e44 : a.tmps.getD 44 undef = .agg #[a.tmps.getD 39 undef, a.tmps.getD 43 undef, .int .i64 y.n.slop] := by
    have m7 : maskV .any dpbr 12 (valOf dpbr a) 7 = a.tmps.getD 39 undef := maskV_of (by kernel_rfl)
    have m11 : maskV .any dpbr 12 (valOf dpbr a) 11 = a.tmps.getD 43 undef := maskV_of (by kernel_rfl)
    have h12 : a.tmps.getD 44 undef = .agg #[maskV .any dpbr 12 (valOf dpbr a) 7, maskV .any dpbr 12 (valOf dpbr a) 11, .int .i64 y.n.slop] := hI.made 12 (by decide) (hw 12 (by kernel_rfl))
    rw [m7, m11] at h12
    exact h12
  rw [e39, e43] at e44
  have HK := Lib.hid (hK2 _ _ (hK (.slice (some ⟨w.heap.size, 0, none⟩) 1 1) (w.alloc (.cells #[.slice A7 y.n.cur.length c7, .slice A11 y.n.off.length c11, .int .i64 y.n.slop] 68)) (fun h => by cases h) ((Below.refl _ _).alloc (Nat.le_refl _) _) ⟨w.heap.size, A7, y.n.cur.length, c7, A11, y.n.off.length, c11, (maskV_of (by kernel_rfl)).trans e44, rfl, Blk.new w _ _⟩))
  have d44 := tmpQ e44
  clear hK hK2 hI hw hcl hq hn hP hA hc ho
  clear g7 g11
  go_simp
  exact HK.out
theorem dpb_any (q : PgV) (r : Pg) (y : NrV) (b3 bn B C E : Nat) (h3 : a0.tmps.getD 3 undef = .pointer (some ⟨b3, 0, none⟩)) (h5 : a0.tmps.getD 5 undef = .pointer (some ⟨bn, 0, none⟩)) (hq : Blk w0 b3 28 #[q.av, q.cv, q.nv, .bool r.all, q.dv, q.kv]) (hn : Blk w0 bn 68 #[.slice y.ca y.n.cur.length y.cc, .slice y.oa y.n.off.length y.oc, .int .i64 y.n.slop]) (hP : PgO w0 B q r) (hA : Apart q.av q.dv q.nl) (hc : RdL intS w0 C (.slice y.ca y.n.cur.length y.cc) y.n.cur) (ho : RdL intS w0 C (.slice y.oa y.n.off.length y.oc) y.n.off) (hC : C ≤ w0.heap.size) (hl : y.n.cur.length ≤ 1048576 ∧ y.n.off.length ≤ 1048576 ∧ q.nl.length ≤ 1048576) (hB : B ≤ w0.heap.size) (hne : b3 ≠ bn) (hb3 : B ≤ b3) (hE : E = w0.heap.size) (hsz : a0.tmps.size = 50)
    (hQ : ∀ (f : Nat → Value) (g6 c6 : Nat) (A7 : Option Addr) (c7 : Nat) (A11 : Option Addr) (c11 : Nat) (wx : World), Blk wx b3 28 #[q.av, q.cv, .slice (some ⟨g6, 0, none⟩) (q.nl.length + 1) c6, .bool r.all, q.dv, q.kv] → PgO wx B { q with nv := .slice (some ⟨g6, 0, none⟩) (q.nl.length + 1) c6, nl := q.nl ++ [⟨A7, c7, A11, c11, y.n⟩] } { r with nears := r.nears ++ [y.n] } → Apart q.av q.dv (q.nl ++ [⟨A7, c7, A11, c11, y.n⟩]) → Below B w0 wx → (∀ z, z < w0.heap.size → q.nv.ownBlock ≠ some z → z ≠ b3 → wx.heap[z]? = w0.heap[z]?) → Q .normal (putAll a0 (dpbds ++ [46, 47]) f) wx) : (Code.region 5 dpbr true).wp Tryz.prog Q a0 w0 := by
  refine wp_region_any (by kernel_rfl) ?_
  refine wpAny_grow (G := dpbG q r y b3 bn B C E) (w0 := w0.drew) 14 3 rfl (dpb_st q r y b3 bn B C E) (fun i d hi h => ?_) dpb_one dpb_seq dpb_edge ?_ ?_ ?_
  · rw [hsz]
    have := dpb_dst i d hi h
    exact List.all_eq_true.1 (show dpbds.all (fun d => decide (d < 50)) = true by decide) d this |> of_decide_eq_true
  · exact Or.inr ⟨by kernel_rfl, by kernel_rfl⟩
  · intro listed T i o a w hi hoo hI hw hcl K hK
    match i, hi, hoo, hw, hK with
    | 0, _, hoo, hw, hK => cases hoo; exact dpb_s0 q r y b3 bn B C E h3 h5 hq hn hP hA hc ho hC hl hB hne hb3 hE hI hw hcl hK
    | 1, _, hoo, hw, hK => cases hoo; exact dpb_s1 q r y b3 bn B C E h3 h5 hq hn hP hA hc ho hC hl hB hne hb3 hE hI hw hcl hK
    | 2, _, hoo, hw, hK => cases hoo; exact dpb_s2 q r y b3 bn B C E h3 h5 hq hn hP hA hc ho hC hl hB hne hb3 hE hI hw hcl hK
    | 3, _, hoo, hw, hK => cases hoo; exact dpb_s3 q r y b3 bn B C E h3 h5 hq hn hP hA hc ho hC hl hB hne hb3 hE hI hw hcl hK
    | 4, _, hoo, hw, hK => cases hoo; exact dpb_s4 q r y b3 bn B C E h3 h5 hq hn hP hA hc ho hC hl hB hne hb3 hE hI hw hcl hK
    | 5, _, hoo, hw, hK => cases hoo; exact dpb_s5 q r y b3 bn B C E h3 h5 hq hn hP hA hc ho hC hl hB hne hb3 hE hI hw hcl hK
    | 6, _, hoo, hw, hK => cases hoo; exact dpb_s6 q r y b3 bn B C E h3 h5 hq hn hP hA hc ho hC hl hB hne hb3 hE hI hw hcl hK
    | 7, _, hoo, hw, hK => cases hoo; exact dpb_s7 q r y b3 bn B C E h3 h5 hq hn hP hA hc ho hC hl hB hne hb3 hE hI hw hcl hK
    | 8, _, hoo, hw, hK => cases hoo; exact dpb_s8 q r y b3 bn B C E h3 h5 hq hn hP hA hc ho hC hl hB hne hb3 hE hI hw hcl hK
    | 9, _, hoo, hw, hK => cases hoo; exact dpb_s9 q r y b3 bn B C E h3 h5 hq hn hP hA hc ho hC hl hB hne hb3 hE hI hw hcl hK
    | 10, _, hoo, hw, hK => cases hoo; exact dpb_s10 q r y b3 bn B C E h3 h5 hq hn hP hA hc ho hC hl hB hne hb3 hE hI hw hcl hK
    | 11, _, hoo, hw, hK => cases hoo; exact dpb_s11 q r y b3 bn B C E h3 h5 hq hn hP hA hc ho hC hl hB hne hb3 hE hI hw hcl hK
    | 12, _, hoo, hw, hK => cases hoo; exact dpb_s12 q r y b3 bn B C E h3 h5 hq hn hP hA hc ho hC hl hB hne hb3 hE hI hw hcl hK
    | 13, _, hoo, hw, hK => cases hoo; exact dpb_s13 q r y b3 bn B C E h3 h5 hq hn hP hA hc ho hC hl hB hne hb3 hE hI hw hcl hK
    | n + 14, hi, _, _, _ => exact absurd hi (by omega)
  · intro listed T a w hall hI
    have hds : a = putAll a0 dpbds fun d => a.tmps.getD d undef := hI.lit dpbds dpb_dst
    have hbw : Below w0.heap.size w0 w := ((Below.refl _ _).drew).trans hI.bel
    have hEw : E ≤ w.heap.size := by rw [hE]; exact hbw.size
    have hBw : B ≤ w.heap.size := Nat.le_trans hB hbw.size
    have hBE : B ≤ E := by rw [hE]; exact hB
    have g7 : AppS intS E 4 7 y.n.cur (a.tmps.getD 39 undef) (maskT .any dpbr 7 T) w := hI.made 7 (by decide) (hall 7 (by decide))
    obtain ⟨A7, c7, e39, -, -, -⟩ := g7.1.open_
    have g11 : AppS intS E 8 11 y.n.off (a.tmps.getD 43 undef) (maskT .any dpbr 11 T) w := hI.made 11 (by decide) (hall 11 (by decide))
    obtain ⟨A11, c11, e43, -, -, -⟩ := g11.1.open_
    have e44 : a.tmps.getD 44 undef = .agg #[a.tmps.getD 39 undef, a.tmps.getD 43 undef, .int .i64 y.n.slop] := by
      have m7 : maskV .any dpbr 12 (valOf dpbr a) 7 = a.tmps.getD 39 undef := maskV_of (by kernel_rfl)
      have m11 : maskV .any dpbr 12 (valOf dpbr a) 11 = a.tmps.getD 43 undef := maskV_of (by kernel_rfl)
      have h12 : a.tmps.getD 44 undef = .agg #[maskV .any dpbr 12 (valOf dpbr a) 7, maskV .any dpbr 12 (valOf dpbr a) 11, .int .i64 y.n.slop] := hI.made 12 (by decide) (hall 12 (by decide))
      rw [m7, m11] at h12
      exact h12
    have e33 : a.tmps.getD 33 undef = q.nv := hI.made 1 (by decide) (hall 1 (by decide))
    have e3 := (hI.slot 3 (by kernel_rfl)).trans h3
    obtain ⟨b, A7', n7', c7', A11', n11', c11', hf, e45, hz⟩ : ∃ b A7 n7 c7 A11 n11 c11, maskV .any dpbr 13 (valOf dpbr a) 12 = .agg #[.slice A7 n7 c7, .slice A11 n11 c11, .int .i64 y.n.slop] ∧ a.tmps.getD 45 undef = .slice (some ⟨b, 0, none⟩) 1 1 ∧ Blk w b 68 #[.slice A7 n7 c7, .slice A11 n11 c11, .int .i64 y.n.slop] := hI.made 13 (by decide) (hall 13 (by decide))
    have m12 : maskV .any dpbr 13 (valOf dpbr a) 12 = a.tmps.getD 44 undef := maskV_of (by kernel_rfl)
    rw [m12, e44, e39, e43] at hf
    injection hf with hf
    have hf0 : Value.slice A7 y.n.cur.length c7 = .slice A7' n7' c7' := by have := congrArg (fun l => l[0]?) hf; simpa using this
    have hf1 : Value.slice A11 y.n.off.length c11 = .slice A11' n11' c11' := by have := congrArg (fun l => l[1]?) hf; simpa using this
    rw [← hf0, ← hf1] at hz
    clear hf hf0 hf1 m12
    have hfar : FarV (a.tmps.getD 39 undef) (a.tmps.getD 43 undef) := fun b h1 h2 => by
      rcases g7.2 b h1 with h1 | h1 <;> rcases g11.2 b h2 with h2 | h2 <;> exact absurd (hI.tdis _ _ b h1.2 h2.2) (by decide)
    have hPw := hP.belowW hbw
    have hQw := hq.belowW hbw
    have key : ∀ {v : Value} {l : List Int}, OwnL intS w E v l → ∀ u ∈ q.av :: q.dv :: nearVs q.nl, FarV v u := fun ho u hu b h1 h2 => by
      have g1 := (ho.lt b h1).1
      have g2 : b < w0.heap.size := by
        rcases List.mem_cons.1 hu with rfl | hu
        · exact (hP.avgs.lt b h2).2
        · rcases List.mem_cons.1 hu with rfl | hu
          · exact (hP.drive.lt b h2).2
          · obtain ⟨z, hz, hu⟩ := List.mem_flatMap.1 hu
            rcases List.mem_cons.1 hu with rfl | hu
            · exact ((hP.inner z hz).1.lt b h2).2
            · obtain rfl := List.mem_singleton.1 hu
              exact ((hP.inner z hz).2.lt b h2).2
      omega
    have hapt := hA.near ⟨A7, c7, A11, c11, y.n⟩ (by show ∀ u ∈ _, FarV (.slice A7 y.n.cur.length c7) u; rw [← e39]; exact key g7.1) (by show ∀ u ∈ _, FarV (.slice A11 y.n.off.length c11) u; rw [← e43]; exact key g11.1) (by show FarV (.slice A7 y.n.cur.length c7) (.slice A11 y.n.off.length c11); rw [← e39, ← e43]; exact hfar)
    have hown7 : OwnL intS w B (.slice A7 y.n.cur.length c7) y.n.cur := by rw [← e39]; exact g7.1.more hBE
    have hown11 : OwnL intS w B (.slice A11 y.n.off.length c11) y.n.off := by rw [← e43]; exact g11.1.more hBE
    have HDS := Lib.hid hds
    have hsa : a.tmps.size = 50 := hI.size.trans hsz
    clear hds key hA hc ho hI hall g7 g11 hP hq hn e39 e43 e44 hfar
    show wpList Tryz.prog dpbr Q [dpbo14, dpbo15, dpbo16] a w
    refine OwnL.appGs nrSOk hPw.nears ⟨A7, c7, A11, c11, y.n⟩ b rfl (.tmp 33) (.tmp 45) rfl e33 e45 (nrcellD hz rfl rfl) hBw (by have := hl.2.2; omega) fun g6 c6 w6 h6 hb6 hk6 hg6 hlt6 => ?_
    have hP6 := hPw.push ⟨A7, c7, A11, c11, y.n⟩ hown7 hown11 h6 hk6
    have hq6 := hQw.keptL hPw.nears (by decide) hk6
    have hPs := hP6.set_ ⟨_, hq6⟩ 2 (.slice (some ⟨g6, 0, none⟩) (q.nl.length + 1) c6)
    have hZs := hq6.set_ 2 (.slice (some ⟨g6, 0, none⟩) (q.nl.length + 1) c6)
    have hbB : Below B w0 w6 := (hbw.mono hB).trans hb6
    have hkk : ∀ z, z < w0.heap.size → q.nv.ownBlock ≠ some z → z ≠ b3 → (w6.setCell ⟨b3, 2, none⟩ (.slice (some ⟨g6, 0, none⟩) (q.nl.length + 1) c6)).heap[z]? = w0.heap[z]? := fun z h1 h2 h3 => by
      rw [Below.heap_setCell w6 _ _ z h3, hk6 z (Nat.lt_of_lt_of_le h1 hbw.size) h2, hbw.block z h1]
    have hfin := hQ (putF46 (fun d => a.tmps.getD d undef) (.slice (some ⟨g6, 0, none⟩) (q.nl.length + 1) c6) (.pointer (some ⟨b3, 2, none⟩))) g6 c6 A7 c7 A11 c11 _ hZs hPs hapt (hbB.setCell (p := ⟨b3, 2, none⟩) hb3 _) hkk
    have e1 := hq6.cell 2; have f1 := hq6.frozen 2; have l1 := hq6.lt
    simp only [List.getElem?_toArray, List.getElem?_cons_zero, List.getElem?_cons_succ] at e1
    clear hQ hPw hQw hapt hown7 hown11 h6 hb6 hk6 hP6 hq6 hPs hZs hbB hz hkk
    have HF := Lib.hid hfin
    clear hfin
    have eP : ((a.put (some 46) (.slice (some ⟨g6, 0, none⟩) (q.nl.length + 1) c6)).put (some 47) (.pointer (some ⟨b3, 2, none⟩))) = putAll a0 (dpbds ++ [46, 47]) (putF46 (fun d => a.tmps.getD d undef) (.slice (some ⟨g6, 0, none⟩) (q.nl.length + 1) c6) (.pointer (some ⟨b3, 2, none⟩))) := put46 HDS.out _ _
    rw [← eP] at HF
    have e3b : (a.put (some 46) (.slice (some ⟨g6, 0, none⟩) (q.nl.length + 1) c6)).tmps.getD 3 undef = .pointer (some ⟨b3, 0, none⟩) := (put_getD (by decide)).trans e3
    have e46 : (a.put (some 46) (.slice (some ⟨g6, 0, none⟩) (q.nl.length + 1) c6)).tmps.getD 46 undef = .slice (some ⟨g6, 0, none⟩) (q.nl.length + 1) c6 := put_same (by omega)
    have hsA : (a.put (some 46) (.slice (some ⟨g6, 0, none⟩) (q.nl.length + 1) c6)).tmps.size = 50 := by unfold Act.put; simp only [Array.size_setIfInBounds]; exact hsa
    show wpList Tryz.prog dpbr Q [dpbo15, dpbo16] (a.put (some 46) (.slice (some ⟨g6, 0, none⟩) (q.nl.length + 1) c6)) w6
    clear eP
    generalize a.put (some 46) (.slice (some ⟨g6, 0, none⟩) (q.nl.length + 1) c6) = aA at *
    refine wpList_plain rfl fun K2 hK2 => ?_
    have e47 : (aA.put (some 47) (.pointer (some ⟨b3, 2, none⟩))).tmps.getD 47 undef = .pointer (some ⟨b3, 2, none⟩) := put_same (by omega)
    have e46b : (aA.put (some 47) (.pointer (some ⟨b3, 2, none⟩))).tmps.getD 46 undef = .slice (some ⟨g6, 0, none⟩) (q.nl.length + 1) c6 := (put_getD (by decide)).trans e46
    have HK2 := Lib.hid (hK2 (aA.put (some 47) (.pointer (some ⟨b3, 2, none⟩))) w6 (by
      clear hK2
      generalize aA.put (some 47) (.pointer (some ⟨b3, 2, none⟩)) = aB at *
      refine wpList_plain rfl fun K3 hK3 => ?_
      have HK3 := Lib.hid (hK3 aB _ (show wpList Tryz.prog dpbr Q [] aB _ from HF.out))
      clear hK3 HF
      unfold dpbo16
      go_simp
      exact HK3.out))
    clear hK2 HF e47 e46b
    unfold dpbo15
    go_simp
    exact HK2.out
end

end Go.Proofs.YtmdpfikalekmlaaGreatDoor
end
section
/- Layer 20: ownCode walked. -/
namespace Go.Proofs.YtmdpfikalekmlaaGreatDoor
open Go.RowKit
set_option maxRecDepth 100000
set_option maxHeartbeats 4000000
set_option linter.unusedSimpArgs false
set_option linter.unusedVariables false

/-- What both decoded lists and the room are while the first is written over. -/
structure OcAt (w w4 : World) (Ba Bb Bf : Nat) (va vb : Value) (g cap : Nat) (m : List UInt8) (n : Nat) (l : List Ins) (wr : World) : Prop where
  a : ∃ la : List Ins, la.length = n ∧ OwnL insS wr Ba va la
  b : OwnL insS wr Bb vb l
  ne : FarV va vb
  f : OwnL MoB.moS wr Bf (.slice (some ⟨g, 0, none⟩) (m.length + 80) cap) (nums m ++ MoB.marks8 7 80)
  bel : Below w.heap.size w wr
  sz : Bb ≤ wr.heap.size
theorem ownCode_any (vb : Value) (m : List UInt8) (vl : Value) (l : List Ins) (w : World) (ea : List Addr) (C D : Nat) (hb : RdL byteS w C vb m) (hC : C ≤ w.heap.size) (hl : RdL insS w D vl l) (hD : D ≤ w.heap.size) (hm : m.length ≤ 50000000) (hd : decI m = some l) (hln : l.length ≤ 50000000) (hE : ErrFew w ea) (hT : TabEnv w) :
    Calls Tryz.prog 14 #[vb, vl] w fun e w' => e = .returned (.bool true) ∧ Below w.heap.size w w' := by
  obtain ⟨lA, lc, rfl, hl1, hl2⟩ := hl.open_
  have HVB := Lib.hid hb; have HVL := Lib.hid hl; have HD := Lib.hid hd; have HE := Lib.hid hE; have HT := Lib.hid hT
  have hsp := spare_any vb m w C hb hC (by omega)
  have HSP := Lib.hid hsp
  unfold maxLen at hl2
  clear hb hl hd hE hT hsp
  go_enter Tryz.func14, Tryz.ntmps14
  go_wp2_with fail
  refine HSP.out.mono ?_
  rintro e w1 ⟨g, cap, rfl, hf1, hb1⟩
  have hle1 : m.length ≤ cap := by
    obtain ⟨A', c', e, h1, h2⟩ := hf1.form
    injection e with _ e2 e3
    rw [List.length_append, nums_len, MoB.marks8_len] at h1
    omega
  have hcapm : cap ≤ 9223372036854775807 := by
    obtain ⟨A', c', e, h1, h2⟩ := hf1.form
    injection e with _ e2 e3
    subst e3
    unfold maxLen at h2
    omega
  have HF1 := Lib.hid hf1; have HB1 := Lib.hid hb1
  have HA1 := Lib.hid (own_front hf1)
  clear hf1 hb1 HSP
  have hdec1 := idecode_any (.slice (some ⟨g, 0, none⟩) m.length cap) m w1 ea HA1.out (by omega) (HE.out.below HB1.out) (HT.out.below HB1.out)
  have HC1 := Lib.hid hdec1
  clear hdec1
  go_wp2_with fail
  refine HC1.out.mono ?_
  intro e w2 h2
  unfold DiRet at h2
  rw [HD.out] at h2
  obtain ⟨hb2, va, rfl, hoa⟩ := h2
  obtain ⟨aA, aC, rfl, ha1, ha2⟩ := hoa.form
  have HB2 := Lib.hid (HB1.out.trans (hb2.mono HB1.out.size))
  have HF2 := Lib.hid (HF1.out.below hb2)
  have HA2 := Lib.hid hoa
  have HR2 := Lib.hid (own_front HF2.out)
  have hz2 := hb2.size
  clear hb2 hoa HC1
  have hdec2 := idecode_any (.slice (some ⟨g, 0, none⟩) m.length cap) m w2 ea HR2.out (by omega) (HE.out.below HB2.out) (HT.out.below HB2.out)
  have HC2 := Lib.hid hdec2
  clear hdec2
  go_wp2_with fail
  refine HC2.out.mono ?_
  intro e w3 h3
  unfold DiRet at h3
  rw [HD.out] at h3
  obtain ⟨hb3, vb3, rfl, hob⟩ := h3
  obtain ⟨bA, bC, rfl, hbb1, hbb2⟩ := hob.form
  have HB3 := Lib.hid (HB2.out.trans (hb3.mono HB2.out.size))
  have HF3 := Lib.hid (HF2.out.below hb3)
  have HA3 := Lib.hid (HA2.out.below hb3)
  have HBo3 := Lib.hid hob
  have HFAR := Lib.hid (show FarV (.slice aA l.length aC) (.slice bA l.length bC) from fun b h1 h2 => by
    have g1 := (HA2.out.lt b h1).2
    have g2 := (hob.lt b h2).1
    omega)
  have hz3 := hb3.size
  clear hb3 hob HC2
  have hsc1 := sameCode_yes (.slice aA l.length aC) (.slice lA l.length lc) l w3 w3.heap.size D (RdL.of_own HA3.out) (HVL.out.belowW hD HB3.out) (Nat.le_refl _) (Nat.le_trans hD HB3.out.size)
  have HS1 := Lib.hid hsc1
  clear hsc1
  go_wp2_with fail
  refine HS1.out.mono ?_
  rintro e w4 ⟨rfl, hb4⟩
  have hz4 := hb4.size
  have HB4 := Lib.hid (HB3.out.trans (hb4.mono HB3.out.size))
  have HF4 := Lib.hid (HF3.out.below hb4)
  have HA4 := Lib.hid (HA3.out.below hb4)
  have HBo4 := Lib.hid (HBo3.out.below hb4)
  clear hb4 HS1
  have hsc2 := sameCode_yes (.slice bA l.length bC) (.slice lA l.length lc) l w4 w4.heap.size D (RdL.of_own HBo4.out) (HVL.out.belowW hD HB4.out) (Nat.le_refl _) (Nat.le_trans hD HB4.out.size)
  have HS2 := Lib.hid hsc2
  clear hsc2
  go_wp2_with fail
  refine HS2.out.mono ?_
  rintro e w5 ⟨rfl, hb5⟩
  have hz5 := hb5.size
  have HB5 := Lib.hid (HB4.out.trans (hb5.mono HB4.out.size))
  have HF5 := Lib.hid (HF4.out.below hb5)
  have HA5 := Lib.hid (HA4.out.below hb5)
  have HBo5 := Lib.hid (HBo4.out.below hb5)
  clear hb5 HS2
  have hkp := kept_any vb m w5 w.heap.size C g cap (HVB.out.belowW hC HB5.out) (Nat.le_trans hC HB5.out.size) HF5.out (by omega)
  have HKP := Lib.hid hkp
  clear hkp
  go_wp2_with fail
  refine HKP.out.mono ?_
  rintro e w6 ⟨rfl, hb6⟩
  have hz6 := hb6.size
  have HO6 := Lib.hid (show OcAt w w w1.heap.size w2.heap.size w.heap.size (.slice aA l.length aC) (.slice bA l.length bC) g cap m l.length l w6 from ⟨⟨l, rfl, HA5.out.below hb6⟩, HBo5.out.below hb6, HFAR.out, HF5.out.below hb6, HB5.out.trans (hb6.mono HB5.out.size), by omega⟩)
  clear hb6 HKP HF1 HF2 HF3 HF4 HF5 HA1 HA2 HA3 HA4 HA5 HBo3 HBo4 HBo5 HR2 HB2 HB3 HB4 HB5 HFAR
  unfold maxLen at ha2 hbb2
  go_wp2
  obtain ⟨wb, rfl⟩ : ∃ wb, wb = w6 := ⟨_, rfl⟩
  go_loopw [55] (fun iv wr => ∃ k : Nat, k ≤ l.length ∧ iv = .int .i64 (k : Int) ∧ OcAt w w w1.heap.size w2.heap.size w.heap.size (.slice aA l.length aC) (.slice bA l.length bC) g cap m l.length l wr) (fun iv _ => l.length - (intOf iv).toNat)
  case atStart => exact ⟨0, Nat.zero_le _, rfl, HO6.out⟩
  case round =>
    clear HO6
    obtain ⟨k, hk, rfl, ho⟩ := hrel
    have HO := Lib.hid ho
    clear ho
    by_cases hlt : k < l.length
    · obtain ⟨la, hla, hoa⟩ := HO.out.a
      have hoa' : OwnL insS wr w1.heap.size (.slice aA la.length aC) la := by rw [hla]; exact hoa
      obtain ⟨ga, rfl, -⟩ := hoa.at_ insSOk (k := k) (by omega)
      obtain ⟨⟨c0, c1, c2⟩, f0, f1, f2⟩ := own_ins hoa (i := k) (by omega)
      have hput := hoa'.putIns k ⟨99, k, 0⟩ (by omega)
      have hkp := keptSet3 wr ga (k * 3) (k * 3 + 1) (k * 3 + 2) (.int .i64 99) (.int .u64 (k : Int)) (.int .u64 0) l.length aC
      have hga := (hoa.lt ga rfl)
      have HN := Lib.hid (show OcAt w w w1.heap.size w2.heap.size w.heap.size (.slice (some ⟨ga, 0, none⟩) l.length aC) (.slice bA l.length bC) g cap m l.length l (((wr.setCell ⟨ga, k * 3, none⟩ (.int .i64 99)).setCell ⟨ga, k * 3 + 1, none⟩ (.int .u64 (k : Int))).setCell ⟨ga, k * 3 + 2, none⟩ (.int .u64 0)) from
        ⟨⟨la.set k ⟨99, k, 0⟩, by rw [List.length_set]; exact hla, by rw [hla] at hput; exact hput⟩, HO.out.b.keptNe hkp (fun z h1 h2 => HO.out.ne z h2 h1), HO.out.ne, HO.out.f.keptL hoa (by decide) hkp, by
          have hgw : w.heap.size ≤ ga := Nat.le_trans HB1.out.size hga.1
          exact ((HO.out.bel.setCell (p := ⟨ga, k * 3, none⟩) hgw _).setCell (p := ⟨ga, k * 3 + 1, none⟩) hgw _).setCell (p := ⟨ga, k * 3 + 2, none⟩) hgw _, by rw [World.size_setCell, World.size_setCell, World.size_setCell]; exact HO.out.sz⟩)
      generalize la[k] = y at *
      have hku : IntKind.u64.wrap (k : Int) = (k : Int) := by
        have : k < 18446744073709551616 := by omega
        unfold IntKind.wrap IntKind.bits
        simp
        omega
      clear hoa hoa' hput hkp
      go_wp2
      go_roundw
      case rel => exact ⟨k + 1, by omega, by go_num, HN.out⟩
      case measure => simp [intOf]; omega
    · obtain rfl : k = l.length := by omega
      obtain ⟨la, hla, hoa⟩ := HO.out.a
      have HL := Lib.hid hla
      have HA := Lib.hid hoa
      have hz1 : w1.heap.size ≤ wr.heap.size := Nat.le_trans hz2 HO.out.sz
      have hap : la.length + 1 ≤ 970000000000 := by omega
      clear hla hoa
      go_wp2_with (first
        | (refine OwnL.appendK insSOk HA.out ⟨98, 0, 0⟩ _ rfl _ _ rfl rfl rfl _ rfl rfl hz1 hap ?_; intro v7 w7 ho7 hb7 hk7; have HO7 := Lib.hid ho7; have HB7 := Lib.hid (HO.out.bel.trans (hb7.mono HB1.out.size)); have HBo7 := Lib.hid (HO.out.b.keptNe hk7 (fun z h1 h2 => HO.out.ne z h2 h1)); have HF7 := Lib.hid (HO.out.f.keptL HA.out (by decide) hk7); have hz7 := hb7.size; clear ho7 hb7 hk7)
        | fail)
      have e7 : (la ++ [(⟨98, 0, 0⟩ : Ins)]).length = l.length + 1 := by rw [List.length_append, HL.out]; rfl
      obtain ⟨A7, c7, rfl, hc7, hc8⟩ := HO7.out.form
      rw [e7] at hc7
      rw [e7]
      have HO7b := HO7.out
      rw [e7] at HO7b
      obtain ⟨g7, rfl, -⟩ := HO7.out.at_ insSOk (k := l.length) (by rw [e7]; exact Nat.lt_succ_self _)
      have HO7 := Lib.hid HO7b
      unfold maxLen at hc8
      clear HO7b e7 HO HA
      have hsc3 := sameCode_yes (.slice bA l.length bC) (.slice lA l.length lc) l w7 w7.heap.size D (RdL.of_own HBo7.out) (HVL.out.belowW hD HB7.out) (Nat.le_refl _) (Nat.le_trans hD HB7.out.size)
      have HS3 := Lib.hid hsc3
      clear hsc3
      go_wp2_with fail
      refine HS3.out.mono ?_
      rintro e w8 ⟨rfl, hb8⟩
      have HB8 := Lib.hid (HB7.out.trans (hb8.mono HB7.out.size))
      have HF8 := Lib.hid (HF7.out.below hb8)
      have HBo8 := Lib.hid (HBo7.out.below hb8)
      have hz8 := hb8.size
      have c98 : w8.cell? ⟨g7, l.length * 3, none⟩ = some (.int .i64 98) := by
        have h := ((own_ins (HO7.out.below hb8) (i := l.length) (by rw [List.length_append, HL.out]; exact Nat.lt_succ_self _)).1).1
        rw [h]
        have : (la ++ [(⟨98, 0, 0⟩ : Ins)])[l.length]? = some ⟨98, 0, 0⟩ := by rw [← HL.out]; simp
        rw [List.getElem?_eq_getElem (by rw [List.length_append, HL.out]; exact Nat.lt_succ_self _)] at this
        injection this with this
        rw [this]
      have hw7 : IntKind.i64.wrap ((l.length : Int) + 1 - 1) = (l.length : Int) := by rw [IntWalk.i64_in _ (by omega)]; omega
      have hw8 : (l.length : Int) + 1 - 1 = (l.length : Int) := by omega
      have hlt7 : l.length < l.length + 1 := Nat.lt_succ_self _
      clear hb8 HS3 HB7 HF7 HBo7 HO7
      go_wp2
      obtain ⟨wc, rfl⟩ : ∃ wc, wc = w8 := ⟨_, rfl⟩
      go_loopw [85] (fun iv wr => ∃ k : Nat, k ≤ m.length ∧ iv = .int .i64 (k : Int) ∧ OwnL MoB.moS wr w.heap.size (.slice (some ⟨g, 0, none⟩) (m.length + 80) cap) (List.replicate k 1 ++ (nums m).drop k ++ MoB.marks8 7 80) ∧ OwnL insS wr w2.heap.size (.slice bA l.length bC) l ∧ Below w.heap.size w wr) (fun iv _ => m.length - (intOf iv).toNat)
      case atStart => exact ⟨0, Nat.zero_le _, rfl, by simpa using HF8.out, HBo8.out, HB8.out⟩
      case round =>
        clear HF8 HBo8 HB8 c98
        obtain ⟨k, hk, rfl, hf, hb, hbl⟩ := hrel
        by_cases hlt : k < m.length
        · have hfl : (List.replicate k (1 : Int) ++ (nums m).drop k ++ MoB.marks8 7 80).length = m.length + 80 := by rw [List.length_append, List.length_append, List.length_replicate, List.length_drop, nums_len, MoB.marks8_len]; omega
          obtain ⟨g', e, c0, f0⟩ := MoB.at_mo hf (k := k) (by rw [hfl]; omega)
          injection e with e
          injection e with e _ _
          subst e
          have hput := hf.putNum k 1
          rw [set_front 1 (nums m) _ k m.length (nums_len m) hlt] at hput
          have hkp := keptSet1 wr g k (.int .u8 1) (m.length + 80) cap
          have hgl := hf.lt g rfl
          have HN := Lib.hid (show OwnL MoB.moS (wr.setCell ⟨g, k, none⟩ (.int .u8 1)) w.heap.size (.slice (some ⟨g, 0, none⟩) (m.length + 80) cap) (List.replicate (k + 1) 1 ++ (nums m).drop (k + 1) ++ MoB.marks8 7 80) ∧ OwnL insS (wr.setCell ⟨g, k, none⟩ (.int .u8 1)) w2.heap.size (.slice bA l.length bC) l ∧ Below w.heap.size w (wr.setCell ⟨g, k, none⟩ (.int .u8 1)) from ⟨hput, hb.keptL hf (by decide) hkp, hbl.setCell (p := ⟨g, k, none⟩) hgl.1 _⟩)
          generalize (List.replicate k (1 : Int) ++ (nums m).drop k ++ MoB.marks8 7 80)[k] = y at *
          clear hf hb hbl hput hkp hfl
          go_wp2
          go_roundw
          case rel => exact ⟨k + 1, by omega, by go_num, HN.out⟩
          case measure => simp [intOf]; omega
        · obtain rfl : k = m.length := by omega
          have hf2 : OwnL MoB.moS wr w.heap.size (.slice (some ⟨g, 0, none⟩) (m.length + 80) cap) (nums (List.replicate m.length 1) ++ MoB.marks8 7 80) := by
            have e1 : (nums m).drop m.length = [] := List.drop_eq_nil_of_le (by rw [nums_len]; exact Nat.le_refl _)
            have e2 : nums (List.replicate m.length 1) = List.replicate m.length (1 : Int) := by unfold nums; rw [List.map_replicate]; rfl
            rw [e1, List.append_nil] at hf
            rw [e2]
            exact hf
          have hrd := own_front hf2
          rw [List.length_replicate] at hrd
          have HBL := Lib.hid hbl; have HBo := Lib.hid hb
          have hdec3 := idecode_any (.slice (some ⟨g, 0, none⟩) m.length cap) (List.replicate m.length 1) wr ea hrd (by rw [List.length_replicate]; omega) (HE.out.below hbl) (HT.out.below hbl)
          have HC3 := Lib.hid hdec3
          clear hdec3 hf hf2 hb hbl hrd
          go_wp2_with fail
          refine HC3.out.mono ?_
          intro e w9 h9
          unfold DiRet at h9
          rw [decI_one] at h9
          obtain ⟨hb9, vc, rfl, hoc⟩ := h9
          obtain ⟨cA, cC, rfl, hcc1, hcc2⟩ := hoc.form
          rw [List.length_replicate] at hcc1
          have HCO := Lib.hid hoc
          rw [List.length_replicate]
          have HB9 := Lib.hid (HBL.out.trans (hb9.mono HBL.out.size))
          have HBo9 := Lib.hid (HBo.out.below hb9)
          clear hb9 hoc HC3
          have hsc4 := sameCode_yes (.slice bA l.length bC) (.slice lA l.length lc) l w9 w9.heap.size D (RdL.of_own HBo9.out) (HVL.out.belowW hD HB9.out) (Nat.le_refl _) (Nat.le_trans hD HB9.out.size)
          have HS4 := Lib.hid hsc4
          clear hsc4
          go_wp2_with fail
          refine HS4.out.mono ?_
          rintro e w10 ⟨rfl, hb10⟩
          have HB10 := Lib.hid (HB9.out.trans (hb10.mono HB9.out.size))
          by_cases h0 : m.length = 0
          · have z0 : ((m.length : Int) == 0) = true := by rw [h0]; rfl
            clear hb10 HS4
            go_wp2
            go_ret
            exact ⟨rfl, HB10.out⟩
          · have z0 : ((m.length : Int) == 0) = false := beq_eq_false_iff_ne.2 (by omega)
            have hpos : 0 < m.length := by omega
            have hoc := HCO.out.below hb10
            obtain ⟨gc, rfl, -⟩ := hoc.at_ insSOk (k := 0) (by rw [List.length_replicate]; exact hpos)
            have c1 := ((own_ins hoc (i := 0) (by rw [List.length_replicate]; exact hpos)).1).1
            rw [List.getElem_replicate, Nat.zero_mul] at c1
            simp only [] at c1
            clear hb10 HS4 hoc
            go_wp2
            go_ret
            exact ⟨rfl, HB10.out⟩
end Go.Proofs.YtmdpfikalekmlaaGreatDoor
end
section
/- Layer 20: deep walked. -/
namespace Go.Proofs.YtmdpfikalekmlaaGreatDoor
open Go.RowKit
set_option maxRecDepth 100000
set_option maxHeartbeats 4000000
set_option linter.unusedSimpArgs false
set_option linter.unusedVariables false

/-- While the phrases are copied. -/
structure DpAt (x : PgV) (p : Pg) (w2 : World) (B b3 : Nat) (k : Nat) (q : PgV) (wr : World) : Prop where
  len : q.nl.length = k
  own : PgO wr B q ⟨p.avgs, p.curs, p.nears.take k, p.all, p.drive, p.code⟩
  blk : Blk wr b3 28 #[q.av, q.cv, q.nv, .bool p.all, q.dv, q.kv]
  apart : Apart q.av q.dv q.nl
  bel : Below B w2 wr
def DpRel (x : PgV) (p : Pg) (w2 : World) (B b3 : Nat) (iv : Value) (wr : World) : Prop := ∃ (k : Nat) (q : PgV), k ≤ x.nl.length ∧ iv = .int .i64 (k : Int) ∧ DpAt x p w2 B b3 k q wr
theorem nears_take {l : List NrV} {m : List Nr} (h : l.map (·.n) = m) {k : Nat} (hk : k < l.length) : m.take (k + 1) = m.take k ++ [l[k].n] := by
  subst h
  rw [List.take_succ_eq_append_getElem (by rw [List.length_map]; exact hk), List.getElem_map]
theorem deep_any (x : PgV) (p : Pg) (w : World) (hx : PgR w w.heap.size x p) (hs : SmallPg p) :
    Calls Tryz.prog 35 #[x.val p] w fun e w' => Below w.heap.size w w' ∧ ∃ y : PgV, e = .returned (y.val p) ∧ PgO w' w.heap.size y p ∧ Apart y.av y.dv y.nl := by
  have hnl : x.nl.length = p.nears.length := by rw [← hx.nmap, List.length_map]
  have hnl2 : x.nl.length ≤ 1048576 := by rw [hnl]; exact hs.nears.2
  obtain ⟨xA, xc, hnv, hx1, hx2⟩ := hx.nears.open_
  unfold maxLen at hx2
  have hz2 : ((w.alloc (.cells #[x.av, x.cv, x.nv, .bool p.all, x.dv, x.kv] 28)).alloc (.cells #[.slice none 0 0, .slice none 0 0, .slice none 0 0, .bool false, .slice none 0 0, .slice none 0 0] 28)).heap.size = w.heap.size + 2 := by rw [World.size_alloc, World.size_alloc]
  have hb2 : Below w.heap.size w ((w.alloc (.cells #[x.av, x.cv, x.nv, .bool p.all, x.dv, x.kv] 28)).alloc (.cells #[.slice none 0 0, .slice none 0 0, .slice none 0 0, .bool false, .slice none 0 0, .slice none 0 0] 28)) := ((Below.refl _ _).alloc (Nat.le_refl _) _).alloc (by rw [World.size_alloc]; omega) _
  have hk1 : Blk ((w.alloc (.cells #[x.av, x.cv, x.nv, .bool p.all, x.dv, x.kv] 28)).alloc (.cells #[.slice none 0 0, .slice none 0 0, .slice none 0 0, .bool false, .slice none 0 0, .slice none 0 0] 28)) w.heap.size 28 #[x.av, x.cv, x.nv, .bool p.all, x.dv, x.kv] := (Blk.new w _ _).alloc _
  have hk2 : Blk ((w.alloc (.cells #[x.av, x.cv, x.nv, .bool p.all, x.dv, x.kv] 28)).alloc (.cells #[.slice none 0 0, .slice none 0 0, .slice none 0 0, .bool false, .slice none 0 0, .slice none 0 0] 28)) (w.heap.size + 1) 28 #[.slice none 0 0, .slice none 0 0, .slice none 0 0, .bool false, .slice none 0 0, .slice none 0 0] := by
    have := Blk.new (w.alloc (.cells #[x.av, x.cv, x.nv, .bool p.all, x.dv, x.kv] 28)) 28 #[.slice none 0 0, .slice none 0 0, .slice none 0 0, .bool false, .slice none 0 0, .slice none 0 0]
    rw [World.size_alloc] at this
    exact this
  have HX := Lib.hid hx; have HS := Lib.hid hs; have HZ2 := Lib.hid hz2; have HB2 := Lib.hid hb2; have HK1 := Lib.hid hk1; have HK2 := Lib.hid hk2; have HNV := Lib.hid hnv
  clear hx hs hz2 hb2 hk1 hk2 hnv
  unfold PgV.val
  go_enter Tryz.func35, Tryz.ntmps35
  go_upto_region 1 with (fail)
  generalize (w.alloc (.cells #[x.av, x.cv, x.nv, .bool p.all, x.dv, x.kv] 28)).alloc (.cells #[.slice none 0 0, .slice none 0 0, .slice none 0 0, .bool false, .slice none 0 0, .slice none 0 0] 28) = w2 at *
  go_cut [3] (fun v3 wx => ∃ b3, v3 = .pointer (some ⟨b3, 0, none⟩) ∧ w2.heap.size ≤ b3 ∧ ∃ q, DpAt x p w2 w2.heap.size b3 0 q wx)
  case first =>
    refine dpa_any x p w.heap.size w2.heap.size rfl HK1.out ((HX.out.below HB2.out).more HB2.out.size) HS.out rfl rfl ?_
    intro f b3 v5 v9 v13 v17 wx hf hz hP hfar hB hb
    have HR := Lib.hid (show ∃ b, f 3 = .pointer (some ⟨b, 0, none⟩) ∧ w2.heap.size ≤ b ∧ ∃ q, DpAt x p w2 w2.heap.size b 0 q wx from ⟨b3, hf, hB, ⟨v5, v13, .slice none 0 0, v9, v17, []⟩, rfl, hP, hz, (show List.Pairwise FarV [v5, v9] from by simp [hfar]), hb⟩)
    clear hf hz hP hfar hB hb
    unfold putAll dpads
    simp only [List.foldl_cons, List.foldl_nil, List.setIfInBounds_toArray, List.set_cons_zero, List.set_cons_succ]
    go_wp2
    go_meet
    exact HR.out
  case rest =>
  obtain ⟨b3, rfl, hB3, q0, h0⟩ := hcut
  have H0 := Lib.hid h0
  have hb0 := h0.bel
  have HB0 := Lib.hid (h0.bel)
  have e2 : wc.cell? ⟨w.heap.size, 2, none⟩ = some (.slice xA x.nl.length xc) := ((HK1.out.below hb0 (by rw [HZ2.out]; omega)).cell 2).trans (by rw [HNV.out]; rfl)
  clear h0 hb0
  go_wp2
  go_loopw [28] (fun iv wr => DpRel x p w2 w2.heap.size b3 iv wr) (fun iv _ => x.nl.length - (intOf iv).toNat)
  case atStart => exact ⟨0, q0, Nat.zero_le _, rfl, H0.out⟩
  case round =>
    clear H0 e2 HB0
    obtain ⟨k, q, hk, rfl, hat⟩ := hrel
    have HA := Lib.hid hat
    clear hat
    by_cases hlt : k < x.nl.length
    · have hbW : Below w.heap.size w wr := HB2.out.trans (HA.out.bel.mono HB2.out.size)
      have hnr := HX.out.nears.below hbW
      rw [HNV.out] at hnr
      obtain ⟨a, rfl, hab, c0, c1, c2⟩ := at_nr hnr hlt
      have HI := Lib.hid ((HX.out.below hbW).inner x.nl[k] (List.getElem_mem hlt))
      have HT := Lib.hid (nears_take HX.out.nmap hlt)
      have HL := Lib.hid (show x.nl[k].n.cur.length ≤ 1048576 ∧ x.nl[k].n.off.length ≤ 1048576 ∧ q.nl.length ≤ 1048576 from by
        have hm : x.nl[k].n ∈ p.nears := by rw [← HX.out.nmap]; exact List.mem_map.2 ⟨_, List.getElem_mem hlt, rfl⟩
        have h1 := (HS.out.nears.1 _ hm).2
        exact ⟨h1.1.2, h1.2.2, by rw [HA.out.len]; omega⟩)
      generalize x.nl[k] = y at *
      have HBW := Lib.hid hbW
      clear hbW hnr
      have hbk := HA.out.blk
      have l3 := hbk.lt
      have hzr := HA.out.bel.size
      have hwr : w.heap.size ≤ wr.heap.size := HBW.out.size
      have HBN := Lib.hid (Blk.new wr 68 #[.slice y.ca y.n.cur.length y.cc, .slice y.oa y.n.off.length y.oc, .int .i64 y.n.slop])
      have hba : Below wr.heap.size wr (wr.alloc (.cells #[.slice y.ca y.n.cur.length y.cc, .slice y.oa y.n.off.length y.oc, .int .i64 y.n.slop] 68)) := (Below.refl _ _).alloc (Nat.le_refl _) _
      have HBA := Lib.hid hba
      clear hba hbk
      go_upto_region 5 with (fail)
      refine dpb_any q ⟨p.avgs, p.curs, p.nears.take k, p.all, p.drive, p.code⟩ y b3 wr.heap.size w2.heap.size w.heap.size (wr.heap.size + 1) rfl rfl (HA.out.blk.belowW HBA.out) HBN.out (HA.out.own.belowW HBA.out) HA.out.apart (HI.out.1.belowW hwr HBA.out) (HI.out.2.belowW hwr HBA.out) (Nat.le_trans hwr HBA.out.size) HL.out (Nat.le_trans hzr HBA.out.size) (by omega) hB3 (by rw [World.size_alloc]) rfl ?_
      intro f g6 c6 A7 c7 A11 c11 wx hz hP hap hb hkk
      have HR := Lib.hid (show DpAt x p w2 w2.heap.size b3 (k + 1) { q with nv := .slice (some ⟨g6, 0, none⟩) (q.nl.length + 1) c6, nl := q.nl ++ [⟨A7, c7, A11, c11, y.n⟩] } wx from ⟨by rw [List.length_append, HA.out.len]; rfl, by rw [HT.out]; exact hP, hz, hap, HA.out.bel.trans ((HBA.out.mono hzr).trans hb)⟩)
      clear hz hP hap hb hkk
      unfold putAll dpbds
      simp only [List.cons_append, List.nil_append, List.foldl_cons, List.foldl_nil, List.setIfInBounds_toArray, List.set_cons_zero, List.set_cons_succ]
      go_wp2
      go_roundw
      case rel => exact ⟨k + 1, _, by omega, by go_num, HR.out⟩
      case measure => simp [intOf]; omega
    · obtain rfl : k = x.nl.length := by omega
      obtain ⟨qa, qc, qn, qd, qk, qnl⟩ := q
      have hA := HA.out
      have hown := hA.own
      rw [List.take_of_length_le (by rw [hnl]; exact Nat.le_refl _)] at hown
      have HO := Lib.hid (hown.more (B2 := w.heap.size) HB2.out.size)
      have HAP := Lib.hid hA.apart
      have hbW : Below w.heap.size w wr := HB2.out.trans (hA.bel.mono HB2.out.size)
      have hres : Blk wr (w.heap.size + 1) 28 #[.slice none 0 0, .slice none 0 0, .slice none 0 0, .bool false, .slice none 0 0, .slice none 0 0] := HK2.out.below hA.bel (by rw [HZ2.out]; omega)
      have hbk := hA.blk
      have HBW := Lib.hid hbW
      have HRES := Lib.hid hres
      obtain ⟨a1, c1, a2, c2, a3, c3, a4, c4, a5, c5, hq⟩ := hown.form
      injection hq with hq1 hq2 hq3 hq4 hq5 _
      simp only [] at hq1 hq2 hq3 hq4 hq5
      subst hq1 hq2 hq3 hq4 hq5
      have p0 := hbk.cell 0; have p1 := hbk.cell 1; have p2 := hbk.cell 2; have p3 := hbk.cell 3; have p4 := hbk.cell 4; have p5 := hbk.cell 5
      have s0 := hres.cell 0; have s1 := hres.cell 1; have s2 := hres.cell 2; have s3 := hres.cell 3; have s4 := hres.cell 4; have s5 := hres.cell 5
      have f0 := hres.frozen 0; have f1 := hres.frozen 1; have f2 := hres.frozen 2; have f3 := hres.frozen 3; have f4 := hres.frozen 4; have f5 := hres.frozen 5
      simp only [List.getElem?_toArray, List.getElem?_cons_zero, List.getElem?_cons_succ] at p0 p1 p2 p3 p4 p5 s0 s1 s2 s3 s4 s5
      have hq1 : PgBlk wr (w.heap.size + 1) := ⟨_, hres⟩
      have lres := hres.lt
      clear hA hown hbW hres hbk HA
      have hne1 : ¬ b3 = w.heap.size + 1 := by rw [HZ2.out] at hB3; omega
      go_wp2
      have hP1 := HO.out.set_ hq1 0 (.slice a1 p.avgs.length c1)
      have hq2 := hq1.set_ (w.heap.size + 1) 0 (.slice a1 p.avgs.length c1)
      have hP2 := hP1.set_ hq2 1 (.slice a2 p.curs.length c2)
      have hq3 := hq2.set_ (w.heap.size + 1) 1 (.slice a2 p.curs.length c2)
      have hP3 := hP2.set_ hq3 2 (.slice a3 qnl.length c3)
      have hq4 := hq3.set_ (w.heap.size + 1) 2 (.slice a3 qnl.length c3)
      have hP4 := hP3.set_ hq4 3 (.bool p.all)
      have hq5 := hq4.set_ (w.heap.size + 1) 3 (.bool p.all)
      have hP5 := hP4.set_ hq5 4 (.slice a4 p.drive.length c4)
      have hq6 := hq5.set_ (w.heap.size + 1) 4 (.slice a4 p.drive.length c4)
      have hP6 := hP5.set_ hq6 5 (.slice a5 p.code.length c5)
      have hle1 : w.heap.size ≤ w.heap.size + 1 := Nat.le_succ _
      have hB6 := (((((HBW.out.setCell (p := ⟨w.heap.size + 1, 0, none⟩) hle1 (.slice a1 p.avgs.length c1)).setCell (p := ⟨w.heap.size + 1, 1, none⟩) hle1 (.slice a2 p.curs.length c2)).setCell (p := ⟨w.heap.size + 1, 2, none⟩) hle1 (.slice a3 qnl.length c3)).setCell (p := ⟨w.heap.size + 1, 3, none⟩) hle1 (.bool p.all)).setCell (p := ⟨w.heap.size + 1, 4, none⟩) hle1 (.slice a4 p.drive.length c4)).setCell (p := ⟨w.heap.size + 1, 5, none⟩) hle1 (.slice a5 p.code.length c5)
      refine bodyPost_ret (v := PgV.val ⟨.slice a1 p.avgs.length c1, .slice a2 p.curs.length c2, .slice a3 qnl.length c3, .slice a4 p.drive.length c4, .slice a5 p.code.length c5, qnl⟩ p) ?_ rfl ?_
      · simp [results, Tryz.results35, go_sem, PgV.val, s0, s1, s2, s3, s4, s5]
      · exact ⟨hB6, _, rfl, hP6, HAP.out⟩
end Go.Proofs.YtmdpfikalekmlaaGreatDoor
end
section
/- Layer 20: ints: a program's lists of ints. -/
namespace Go.Proofs.YtmdpfikalekmlaaGreatDoor
open Go.RowKit
set_option maxRecDepth 100000
set_option maxHeartbeats 4000000
set_option linter.unusedSimpArgs false
set_option linter.unusedVariables false

/-- A slice by its parts. -/
def sv : Value → SlV
  | .slice a n c => ⟨a, n, c⟩
  | _ => ⟨none, 0, 0⟩
def nrSl (y : NrV) : List SlV := [⟨y.ca, y.n.cur.length, y.cc⟩, ⟨y.oa, y.n.off.length, y.oc⟩]
/-- The lists of ints of a program, as they lie. -/
def pgSl (x : PgV) : List SlV := [sv x.av, sv x.dv] ++ x.nl.flatMap nrSl
theorem lit2_go (w : World) (s t : SlV) : OwnL goS (w.alloc (.cells #[.slice s.a s.n s.c, .slice t.a t.n t.c] 23)) w.heap.size (.slice (some ⟨w.heap.size, 0, none⟩) 2 2) [s, t] :=
  World.ownsRow_lit w #[.slice s.a s.n s.c, .slice t.a t.n t.c] 2 (Nat.le_refl _) (by unfold maxLen; omega) rfl
theorem nrSl_len (l : List NrV) : (l.flatMap nrSl).length = 2 * l.length := by
  induction l with
  | nil => rfl
  | cons y l ih => simp only [List.flatMap_cons, List.length_append, ih, List.length_cons]; show 2 + _ = _; omega
theorem nrSl_take {l : List NrV} {k : Nat} (h : k < l.length) : (l.take (k + 1)).flatMap nrSl = (l.take k).flatMap nrSl ++ nrSl l[k] := by
  rw [List.take_succ_eq_append_getElem h, List.flatMap_append]; simp
theorem pints_any (x : PgV) (p : Pg) (w : World) (hx : PgR w w.heap.size x p) (hnl : x.nl.length ≤ 1048576) :
    Calls Tryz.prog 37 #[x.val p] w fun e w' => ∃ v, e = .returned v ∧ OwnL goS w' w.heap.size v (pgSl x) ∧ Below w.heap.size w w' := by
  obtain ⟨av, cv, nv, dv, kv, nl⟩ := x
  obtain ⟨aA, ac, h1, -, -⟩ := hx.avgs.open_
  obtain ⟨dA, dc, h2, -, -⟩ := hx.drive.open_
  obtain ⟨nA, nc, h3, hn1, hn2⟩ := hx.nears.open_
  simp only [] at h1 h2 h3 hn1 hn2
  subst h1 h2 h3
  unfold maxLen at hn2
  have HX := Lib.hid hx
  simp only [] at hnl
  clear hx
  unfold PgV.val
  simp only []
  have HL2 := Lib.hid (lit2_go (w.alloc (.cells #[.slice aA p.avgs.length ac, cv, .slice nA nl.length nc, .bool p.all, .slice dA p.drive.length dc, kv] 28)) ⟨aA, p.avgs.length, ac⟩ ⟨dA, p.drive.length, dc⟩)
  have hbA : Below w.heap.size w ((w.alloc (.cells #[.slice aA p.avgs.length ac, cv, .slice nA nl.length nc, .bool p.all, .slice dA p.drive.length dc, kv] 28)).alloc (.cells #[.slice aA p.avgs.length ac, .slice dA p.drive.length dc] 23)) := ((Below.refl _ _).alloc (Nat.le_refl _) _).alloc (by rw [World.size_alloc]; omega) _
  have HK1 := Lib.hid ((Blk.new w 28 #[.slice aA p.avgs.length ac, cv, .slice nA nl.length nc, .bool p.all, .slice dA p.drive.length dc, kv]).alloc (.cells #[.slice aA p.avgs.length ac, .slice dA p.drive.length dc] 23))
  have hz2 : ((w.alloc (.cells #[.slice aA p.avgs.length ac, cv, .slice nA nl.length nc, .bool p.all, .slice dA p.drive.length dc, kv] 28)).alloc (.cells #[.slice aA p.avgs.length ac, .slice dA p.drive.length dc] 23)).heap.size = w.heap.size + 2 := by rw [World.size_alloc, World.size_alloc]
  rw [World.size_alloc] at HL2
  have HBA := Lib.hid hbA
  clear hbA
  go_enter Tryz.func37, Tryz.ntmps37
  go_upto_region 2 with (fail)
  generalize (w.alloc (.cells #[.slice aA p.avgs.length ac, cv, .slice nA nl.length nc, .bool p.all, .slice dA p.drive.length dc, kv] 28)).alloc (.cells #[.slice aA p.avgs.length ac, .slice dA p.drive.length dc] 23) = w2 at *
  have e2 : w2.cell? ⟨w.heap.size, 2, none⟩ = some (.slice nA nl.length nc) := HK1.out.cell 2
  go_wp2
  go_loopw [3, 14] (fun ov iv wr => ∃ k : Nat, k ≤ nl.length ∧ iv = .int .i64 (k : Int) ∧ OwnL goS wr w.heap.size ov ([⟨aA, p.avgs.length, ac⟩, ⟨dA, p.drive.length, dc⟩] ++ (nl.take k).flatMap nrSl) ∧ Below w.heap.size w wr) (fun _ iv _ => nl.length - (intOf iv).toNat)
  case atStart => exact ⟨0, Nat.zero_le _, rfl, by simpa using HL2.out.more (Nat.le_succ _), HBA.out⟩
  case round =>
    clear e2 HL2
    obtain ⟨k, hk, rfl, ho, hb⟩ := hrel
    have HO := Lib.hid ho; have HB := Lib.hid hb
    clear ho hb
    by_cases hlt : k < nl.length
    · have hnr : RdL nrS wr w.heap.size (.slice nA nl.length nc) nl := HX.out.nears.below HB.out
      obtain ⟨a, rfl, hab, c0, c1, c2⟩ := at_nr hnr hlt
      have HT := Lib.hid (nrSl_take hlt)
      generalize nl[k] = y at *
      clear hnr
      have hbz := HB.out.size
      have HL := Lib.hid (lit2_go (wr.alloc (.cells #[.slice y.ca y.n.cur.length y.cc, .slice y.oa y.n.off.length y.oc, .int .i64 y.n.slop] 68)) ⟨y.ca, y.n.cur.length, y.cc⟩ ⟨y.oa, y.n.off.length, y.oc⟩)
      rw [World.size_alloc] at HL
      have HR := Lib.hid (RdL.of_own HL.out)
      have hbB : Below w.heap.size w ((wr.alloc (.cells #[.slice y.ca y.n.cur.length y.cc, .slice y.oa y.n.off.length y.oc, .int .i64 y.n.slop] 68)).alloc (.cells #[.slice y.ca y.n.cur.length y.cc, .slice y.oa y.n.off.length y.oc] 23)) := (HB.out.alloc hbz _).alloc (by rw [World.size_alloc]; omega) _
      have HBB := Lib.hid hbB
      have HOB := Lib.hid ((HO.out.alloc (.cells #[.slice y.ca y.n.cur.length y.cc, .slice y.oa y.n.off.length y.oc, .int .i64 y.n.slop] 68)).alloc (.cells #[.slice y.ca y.n.cur.length y.cc, .slice y.oa y.n.off.length y.oc] 23))
      have hBs := hbB.size
      have hln : ([⟨aA, p.avgs.length, ac⟩, ⟨dA, p.drive.length, dc⟩] ++ (nl.take k).flatMap nrSl : List SlV).length + ([⟨y.ca, y.n.cur.length, y.cc⟩, ⟨y.oa, y.n.off.length, y.oc⟩] : List SlV).length ≤ 970000000000 := by rw [List.length_append, nrSl_len, List.length_take]; show 2 + _ + 2 ≤ _; omega
      clear hbB
      go_wp2_with (refine OwnL.appendRd goS_ok HOB.out HR.out rfl _ _ rfl rfl rfl hBs hln ?_; intro v5 w5 ho5 hb5; have HO5 := Lib.hid ho5; have HB5 := Lib.hid (HBB.out.trans hb5); clear ho5 hb5)
      go_roundw
      case rel => exact ⟨k + 1, by omega, by go_num, by rw [HT.out, ← List.append_assoc]; exact HO5.out, HB5.out⟩
      case measure => simp [intOf]; omega
    · obtain rfl : k = nl.length := by omega
      rw [List.take_of_length_le (Nat.le_refl _)] at HO
      obtain ⟨oA, oc, ho, -, -⟩ := HO.out.form
      subst ho
      go_wp2
      go_ret
      exact ⟨_, rfl, HO.out, HB.out⟩
end Go.Proofs.YtmdpfikalekmlaaGreatDoor
end
section
/- Layer 20: a program's own lists, written over. -/
namespace Go.Proofs.YtmdpfikalekmlaaGreatDoor
open Go.RowKit
set_option maxRecDepth 100000
set_option maxHeartbeats 1000000
set_option linter.unusedSimpArgs false
set_option linter.unusedVariables false

theorem OwnL.putOne {α : Type} {S : Shape α} (h1 : ∀ y, ∃ v, S.enc y = [v]) (hS1 : S.size = 1) {w : World} {B g n c : Nat} {l : List α} (h : OwnL S w B (.slice (some ⟨g, 0, none⟩) n c) l) (i : Nat) (x : α) (e : Value) (he : S.enc x = [e]) (hi : i < l.length) : OwnL S (w.setCell ⟨g, i, none⟩ e) B (.slice (some ⟨g, 0, none⟩) n c) (l.set i x) := by
  have hm : Many S w B [⟨some ⟨g, 0, none⟩, n, c⟩] (fun _ => l) := ⟨fun q u hu => by
    rcases q with _ | q
    · simp at hu; subst hu; exact h
    · simp at hu, fun p q a b hp hq hpq => by
    rcases p with _ | p <;> rcases q with _ | q <;> simp at hp hq hpq⟩
  have hp := hm.put hS1 (q := 0) rfl i x e he h1 hi
  have := hp.own 0 _ rfl
  rw [updC_same] at this
  exact this
theorem Apart.av {a d : Value} {l : List NrV} (h : Apart a d l) : FarV a d ∧ ∀ y ∈ l, FarV a y.cv ∧ FarV a y.ov := by
  unfold Apart at h
  rw [List.pairwise_cons] at h
  refine ⟨h.1 d List.mem_cons_self, fun y hy => ⟨h.1 _ (List.mem_cons_of_mem _ (List.mem_flatMap.2 ⟨y, hy, by simp⟩)), h.1 _ (List.mem_cons_of_mem _ (List.mem_flatMap.2 ⟨y, hy, by simp⟩))⟩⟩
theorem PgO.putAvg {w : World} {B g c n : Nat} {y : PgV} {p : Pg} (h : PgO w B y p) (ha : Apart y.av y.dv y.nl) (hv : y.av = .slice (some ⟨g, 0, none⟩) n c) (i : Nat) (hi : i < p.avgs.length) (v : Int) : PgO (w.setCell ⟨g, i, none⟩ (.int .i64 v)) B y { p with avgs := p.avgs.set i v } := by
  have hk : KeptBut w (w.setCell ⟨g, i, none⟩ (.int .i64 v)) y.av := by rw [hv]; exact keptSet1 w g i _ n c
  have hp := OwnL.putOne (fun y => ⟨_, rfl⟩) rfl (by rw [← hv]; exact h.avgs) i v (.int .i64 v) rfl hi
  have hc := ownB_iff.1 h.code
  refine ⟨by rw [hv]; exact hp, h.curs.keptL h.avgs (by decide) hk, h.nears.keptL h.avgs (by decide) hk, h.nmap, fun z hz => ?_, h.drive.keptNe hk (fun b h1 h2 => ha.av.1 b h2 h1), ownB_iff.2 (hc.keptL h.avgs (by decide) hk)⟩
  exact ⟨(h.inner z hz).1.keptNe hk (fun b h1 h2 => (ha.av.2 z hz).1 b h2 h1), (h.inner z hz).2.keptNe hk (fun b h1 h2 => (ha.av.2 z hz).2 b h2 h1)⟩
theorem PgO.putCode {w : World} {B g c n : Nat} {y : PgV} {p : Pg} (h : PgO w B y p) (hv : y.kv = .slice (some ⟨g, 0, none⟩) n c) (i : Nat) (hi : i < p.code.length) (v : UInt8) : PgO (w.setCell ⟨g, i, none⟩ (.int .u8 v.toNat)) B y { p with code := p.code.set i v } := by
  have hk : KeptBut w (w.setCell ⟨g, i, none⟩ (.int .u8 v.toNat)) y.kv := by rw [hv]; exact keptSet1 w g i _ n c
  have hc := ownB_iff.1 h.code
  have hp := OwnL.putOne (fun y => ⟨_, rfl⟩) rfl (by rw [← hv]; exact hc) i v (.int .u8 v.toNat) rfl hi
  exact ⟨h.avgs.keptL hc (by decide) hk, h.curs.keptL hc (by decide) hk, h.nears.keptL hc (by decide) hk, h.nmap, fun z hz => ⟨(h.inner z hz).1.keptL hc (by decide) hk, (h.inner z hz).2.keptL hc (by decide) hk⟩, h.drive.keptL hc (by decide) hk, ownB_iff.2 (by rw [hv]; exact hp)⟩
theorem lf_cells (l : List Lf) (i : Nat) (x : Lf) (hi : i < l.length) (hf : l[i].field = x.field) : (lfS.cells l).set (i * 2 + 1) (.string (str x.term)) = lfS.cells (l.set i x) := by
  induction l generalizing i with
  | nil => simp at hi
  | cons y l ih =>
    have e1 : lfS.cells (y :: l) = .int .i64 y.field :: .string (str y.term) :: lfS.cells l := by simp [Shape.cells, lfS]
    cases i with
    | zero =>
      have e2 : lfS.cells (x :: l) = .int .i64 x.field :: .string (str x.term) :: lfS.cells l := by simp [Shape.cells, lfS]
      have hf' : y.field = x.field := hf
      rw [e1, show (y :: l).set 0 x = x :: l from rfl, e2, hf']
      rfl
    | succ i =>
      have e2 : lfS.cells (y :: l.set i x) = .int .i64 y.field :: .string (str y.term) :: lfS.cells (l.set i x) := by simp [Shape.cells, lfS]
      rw [e1, show (y :: l).set (i + 1) x = y :: l.set i x from rfl, e2, ← ih i (by simpa using hi) hf, show (i + 1) * 2 + 1 = (i * 2 + 1) + 1 + 1 by omega]
      rfl
theorem OwnL.putTerm {w : World} {B g n c : Nat} {l : List Lf} (h : OwnL lfS w B (.slice (some ⟨g, 0, none⟩) n c) l) (i : Nat) (s : List UInt8) (hi : i < l.length) : OwnL lfS (w.setCell ⟨g, i * 2 + 1, none⟩ (.string (str s))) B (.slice (some ⟨g, 0, none⟩) n c) (l.set i ⟨l[i].field, s⟩) := by
  have hn : n = l.length := by
    obtain ⟨A', cap', e, _⟩ := h.form
    injection e
  subst hn
  have hst := World.ownsRow.stored (show w.ownsRow B lfS.tE lfS.size (.slice (some ⟨g, 0, none⟩) l.length c) l.length (lfS.cells l) from h) (i * 2 + 1) (.string (str s))
  unfold OwnL
  rw [List.length_set, ← lf_cells l i ⟨l[i].field, s⟩ hi rfl]
  exact hst.1
/-- A program's lists behind a store into a list of leaves that is none of its. -/
theorem PgO.keptCur {β : Type} {w w' : World} {B B2 : Nat} {x : PgV} {p : Pg} {u : Value} {m : List Lf} (h : PgO w B x p) (hu : OwnL lfS w B2 u m) (hk : KeptBut w w' u) (hf : FarV x.cv u) : PgO w' B x p :=
  ⟨h.avgs.keptL hu (by decide) hk, h.curs.keptNe hk (fun b h1 h2 => hf b h1 h2), h.nears.keptL hu (by decide) hk, h.nmap, fun z hz => ⟨(h.inner z hz).1.keptL hu (by decide) hk, (h.inner z hz).2.keptL hu (by decide) hk⟩, h.drive.keptL hu (by decide) hk, ownB_iff.2 ((ownB_iff.1 h.code).keptL hu (by decide) hk)⟩
theorem PgO.putTerm {w : World} {B g c n : Nat} {y : PgV} {p : Pg} (h : PgO w B y p) (hv : y.cv = .slice (some ⟨g, 0, none⟩) n c) (i : Nat) (hi : i < p.curs.length) (s : List UInt8) : PgO (w.setCell ⟨g, i * 2 + 1, none⟩ (.string (str s))) B y { p with curs := p.curs.set i ⟨p.curs[i].field, s⟩ } := by
  have hk : KeptBut w (w.setCell ⟨g, i * 2 + 1, none⟩ (.string (str s))) y.cv := by rw [hv]; exact keptSet1 w g _ _ n c
  have hc := h.curs
  have hp := OwnL.putTerm (by rw [← hv]; exact hc) i s hi
  exact ⟨h.avgs.keptL hc (by decide) hk, by rw [hv]; exact hp, h.nears.keptL hc (by decide) hk, h.nmap, fun z hz => ⟨(h.inner z hz).1.keptL hc (by decide) hk, (h.inner z hz).2.keptL hc (by decide) hk⟩, h.drive.keptL hc (by decide) hk, ownB_iff.2 ((ownB_iff.1 h.code).keptL hc (by decide) hk)⟩
/-- The program that is written over: its averages and its code. -/
structure OpAt (w : World) (Bm bm bp : Nat) (x y : PgV) (p : Pg) (wr : World) : Prop where
  ex : ∃ (l' : List Int) (m' : List UInt8), l'.length = p.avgs.length ∧ SmallInts l' ∧ m'.length = p.code.length ∧ PgO wr Bm y { p with avgs := l', code := m' }
  ap : Apart y.av y.dv y.nl
  bx : Blk wr bp 28 #[x.av, x.cv, x.nv, .bool p.all, x.dv, x.kv]
  by_ : Blk wr bm 28 #[y.av, y.cv, y.nv, .bool p.all, y.dv, y.kv]
  bel : Below w.heap.size w wr
  hB : w.heap.size ≤ Bm
theorem OpAt.putAvg {w wr : World} {Bm bm bp g n c : Nat} {x y : PgV} {p : Pg} (h : OpAt w Bm bm bp x y p wr) (hv : y.av = .slice (some ⟨g, 0, none⟩) n c) (i : Nat) (hi : i < p.avgs.length) (v : Int) (hs : -9223372036854775808 ≤ v ∧ v ≤ 9223372036854775807) : OpAt w Bm bm bp x y p (wr.setCell ⟨g, i, none⟩ (.int .i64 v)) := by
  obtain ⟨l', m', h1, h2, h3, ho⟩ := h.ex
  have hk : KeptBut wr (wr.setCell ⟨g, i, none⟩ (.int .i64 v)) y.av := by rw [hv]; exact keptSet1 wr g i _ n c
  have hoa := ho.avgs
  refine ⟨⟨l'.set i v, m', by rw [List.length_set]; exact h1, fun z hz => ?_, h3, ho.putAvg h.ap hv i (by simp only []; omega) v⟩, h.ap, h.bx.keptL hoa (by decide) hk, h.by_.keptL hoa (by decide) hk, h.bel.setCell (p := ⟨g, i, none⟩) ?_ _, h.hB⟩
  · rcases List.mem_or_eq_of_mem_set hz with hz | rfl
    · exact h2 z hz
    · exact hs
  · rw [hv] at hoa
    exact Nat.le_trans h.hB (hoa.lt g rfl).1
theorem OpAt.putCode {w wr : World} {Bm bm bp g n c : Nat} {x y : PgV} {p : Pg} (h : OpAt w Bm bm bp x y p wr) (hv : y.kv = .slice (some ⟨g, 0, none⟩) n c) (i : Nat) (hi : i < p.code.length) (v : UInt8) : OpAt w Bm bm bp x y p (wr.setCell ⟨g, i, none⟩ (.int .u8 v.toNat)) := by
  obtain ⟨l', m', h1, h2, h3, ho⟩ := h.ex
  have hk : KeptBut wr (wr.setCell ⟨g, i, none⟩ (.int .u8 v.toNat)) y.kv := by rw [hv]; exact keptSet1 wr g i _ n c
  have hoa := ownB_iff.1 ho.code
  refine ⟨⟨l', m'.set i v, h1, h2, by rw [List.length_set]; exact h3, ho.putCode hv i (by simp only []; omega) v⟩, h.ap, h.bx.keptL hoa (by decide) hk, h.by_.keptL hoa (by decide) hk, h.bel.setCell (p := ⟨g, i, none⟩) ?_ _, h.hB⟩
  rw [hv] at hoa
  exact Nat.le_trans h.hB (hoa.lt g rfl).1
theorem OpAt.below {w wr w' : World} {Bm bm bp : Nat} {x y : PgV} {p : Pg} (h : OpAt w Bm bm bp x y p wr) (hb : Below wr.heap.size wr w') : OpAt w Bm bm bp x y p w' := by
  obtain ⟨l', m', h1, h2, h3, ho⟩ := h.ex
  exact ⟨⟨l', m', h1, h2, h3, ho.belowW hb⟩, h.ap, h.bx.belowW hb, h.by_.belowW hb, h.bel.trans (hb.mono h.bel.size), h.hB⟩
/-- Two programs read: the first's terms are written over. -/
structure OqAt (w : World) (Ba Bb ba bb bp : Nat) (x y z : PgV) (p : Pg) (wr : World) : Prop where
  a : ∃ cs : List Lf, cs.length = p.curs.length ∧ PgO wr Ba y { p with curs := cs }
  b : PgO wr Bb z p
  far : FarV z.cv y.cv
  bx : Blk wr bp 28 #[x.av, x.cv, x.nv, .bool p.all, x.dv, x.kv]
  by_ : Blk wr ba 28 #[y.av, y.cv, y.nv, .bool p.all, y.dv, y.kv]
  bz : Blk wr bb 28 #[z.av, z.cv, z.nv, .bool p.all, z.dv, z.kv]
  bel : Below w.heap.size w wr
  hB : w.heap.size ≤ Ba
theorem OqAt.put {w wr : World} {Ba Bb ba bb bp g n c : Nat} {x y z : PgV} {p : Pg} (h : OqAt w Ba Bb ba bb bp x y z p wr) (hv : y.cv = .slice (some ⟨g, 0, none⟩) n c) (i : Nat) (hi : i < p.curs.length) (s : List UInt8) : OqAt w Ba Bb ba bb bp x y z p (wr.setCell ⟨g, i * 2 + 1, none⟩ (.string (str s))) := by
  obtain ⟨cs, h1, ho⟩ := h.a
  have hk : KeptBut wr (wr.setCell ⟨g, i * 2 + 1, none⟩ (.string (str s))) y.cv := by rw [hv]; exact keptSet1 wr g _ _ n c
  have hoa := ho.curs
  refine ⟨⟨cs.set i ⟨(cs[i]'(by omega)).field, s⟩, by rw [List.length_set]; exact h1, ho.putTerm hv i (by simp only []; omega) s⟩, h.b.keptCur (β := Lf) hoa hk h.far, h.far, h.bx.keptL hoa (by decide) hk, h.by_.keptL hoa (by decide) hk, h.bz.keptL hoa (by decide) hk, h.bel.setCell (p := ⟨g, i * 2 + 1, none⟩) ?_ _, h.hB⟩
  rw [hv] at hoa
  exact Nat.le_trans h.hB (hoa.lt g rfl).1
theorem OqAt.below {w wr w' : World} {Ba Bb ba bb bp : Nat} {x y z : PgV} {p : Pg} (h : OqAt w Ba Bb ba bb bp x y z p wr) (hb : Below wr.heap.size wr w') : OqAt w Ba Bb ba bb bp x y z p w' := by
  obtain ⟨cs, h1, ho⟩ := h.a
  exact ⟨⟨cs, h1, ho.belowW hb⟩, h.b.belowW hb, h.far, h.bx.belowW hb, h.by_.belowW hb, h.bz.belowW hb, h.bel.trans (hb.mono h.bel.size), h.hB⟩
end Go.Proofs.YtmdpfikalekmlaaGreatDoor
end
