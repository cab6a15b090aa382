/- Layer 20: two programs compared. -/
import Derived.Test.YtmdpfikalekmlaaDoorPa
import Derived.Test.YtmdpfikalekmlaaDoorCv
import Derived.Test.YtmdpfikalekmlaaDoorRow
namespace Go.Proofs.YtmdpfikalekmlaaDoor
open Go.RowKit
set_option maxRecDepth 100000
set_option maxHeartbeats 2000000
set_option linter.unusedSimpArgs false
set_option linter.unusedVariables false

def SiRel (l m : List Int) (iv : Value) : Prop := ∃ k : Nat, k ≤ l.length ∧ l.take k = m.take k ∧ iv = .int .i64 (k : Int)
theorem sameInts_any (a b : Value) (l m : List Int) (w : World) (B B' : Nat) (ha : RdL intS w B a l) (hb : RdL intS w B' b m) (hB : B ≤ w.heap.size) (hB' : B' ≤ w.heap.size) :
    Calls Tryd.prog 50 #[a, b] w fun e w' => e = .returned (.bool (decide (l = m))) ∧ Below w.heap.size w w' := by
  obtain ⟨A, ca, rfl, hca, hca2⟩ := ha.open_
  obtain ⟨A', cb, rfl, hcb, hcb2⟩ := hb.open_
  unfold maxLen at hca2 hcb2
  have HA := Lib.hid ha; have HB := Lib.hid hb
  clear ha hb
  by_cases hlen : l.length = m.length
  · have hlb : ((l.length : Int) != (m.length : Int)) = false := by rw [hlen]; simp
    go_enter Tryd.func50, Tryd.ntmps50
    go_wp2
    go_loopw [13] (fun iv wr => SiRel l m iv ∧ Below w.heap.size w wr) (fun iv _ => l.length - (intOf iv).toNat)
    case atStart => exact ⟨⟨0, by omega, by simp, rfl⟩, Below.refl _ _⟩
    case round =>
      obtain ⟨⟨k, hk, htk, rfl⟩, hbl⟩ := hrel
      have HT := Lib.hid htk; have HBL := Lib.hid hbl
      clear htk hbl
      by_cases hlt : k < l.length
      · have hlt2 : k < m.length := by omega
        obtain ⟨g, rfl, z0, c0⟩ := at_int (HA.out.below (HBL.out.mono hB)) hlt
        obtain ⟨g', rfl, z1, d0⟩ := at_int (HB.out.below (HBL.out.mono hB')) hlt2
        by_cases hx : l[k] = m[k]
        · have HN := Lib.hid (show l.take (k + 1) = m.take (k + 1) from by
            rw [List.take_succ_eq_append_getElem hlt, List.take_succ_eq_append_getElem hlt2, HT.out, hx])
          rw [← hx] at d0
          clear hx
          generalize l[k] = x at *
          go_wp2
          go_region
          go_wp2
          go_roundw
          case rel => exact ⟨⟨k + 1, by omega, HN.out, by go_num⟩, HBL.out.drew⟩
          case measure => simp [intOf]; omega
        · have HN := Lib.hid (show decide (l = m) = false from by rw [decide_eq_false_iff_not]; intro h; subst h; exact hx rfl)
          have hxb : (l[k] != m[k]) = true := by simpa using hx
          clear hx
          generalize l[k] = x at *
          generalize m[k] = y at *
          go_wp2
          go_region
          go_wp2
          go_ret
          exact ⟨congrArg (fun b => Ending.returned (.bool b)) HN.out.symm, HBL.out.drew⟩
      · have HN := Lib.hid (show decide (l = m) = true from by
          rw [decide_eq_true_iff]
          have h := HT.out
          rw [List.take_of_length_le (by omega), List.take_of_length_le (by omega)] at h
          exact h)
        go_wp2
        go_ret
        exact ⟨congrArg (fun b => Ending.returned (.bool b)) HN.out.symm, HBL.out⟩
  · have hlb : ((l.length : Int) != (m.length : Int)) = true := by simp; omega
    have HN := Lib.hid (show decide (l = m) = false from by rw [decide_eq_false_iff_not]; intro h; exact hlen (by rw [h]))
    go_enter Tryd.func50, Tryd.ntmps50
    go_wp2
    go_ret
    exact ⟨congrArg (fun b => Ending.returned (.bool b)) HN.out.symm, Below.refl _ _⟩
theorem ftypeLf : Tryd.prog.stoodInHeld 93 = false := by kernel_rfl
theorem guardLf : Tryd.prog.eqGuardType Tryd.prog.depth 93 = false := by kernel_rfl
theorem structLf : Tryd.prog.underlying 93 = some (.struct (Tryd.prog.fieldsOf 93)) := by kernel_rfl
def lfVal (x : Lf) : Value := .agg #[.int .i64 x.field, .string (str x.term)]
theorem lf_eqIn (x y : Lf) (W : World) : (Op.equalIn 10000 93 (lfVal x) (lfVal y)).run Tryd.prog W = .ok (decide (x = y)) W := by
  unfold lfVal
  rw [run_equalIn_agg W 9999 93 _ _ structLf ftypeLf]
  simp only [Program.fieldsOf, Tryd.underlying93]
  simp [Op.eqFields, go_sem, Tryd.underlying3, Tryd.underlying9]
  have ht : ((str x.term).toList = (str y.term).toList) ↔ x.term = y.term := by
    rw [ByteArray.toList_eq, ByteArray.toList_eq]; simp [str]
  obtain ⟨xf, xt⟩ := x
  obtain ⟨yf, yt⟩ := y
  simp only [ht, Lf.mk.injEq]
  by_cases h1 : xf = yf <;> by_cases h2 : xt = yt <;> simp [h1, h2]
theorem lf_neq (x y : Lf) (W : World) : (binOp .neq 93 (lfVal x) (lfVal y)).run Tryd.prog W = .ok (.bool (!decide (x = y))) W := by
  have h := lf_eqIn x y W
  unfold lfVal at h ⊢
  rw [run_neq_struct, h]; rfl
theorem lf_guard (x y : Lf) (op : BinOp) (a b : Operand) (W : World) : (eqGuard op 93 a b (lfVal x) (lfVal y)).run Tryd.prog W = .ok () W := by
  unfold lfVal
  exact run_eqGuard_agg W op 93 a b _ _ guardLf
theorem str_inj2 {a b : List UInt8} (e : str a = str b) : a = b := by
  have := congrArg (fun s : ByteArray => s.data.toList) e
  simpa [str] using this
theorem str_ne_beq2 {a b : List UInt8} (h : a ≠ b) : ((str a).toList == (str b).toList) = false := by
  rw [beq_eq_false_iff_ne]
  intro e
  rw [ByteArray.toList_eq, ByteArray.toList_eq] at e
  exact h (by simpa [str] using e)
end Go.Proofs.YtmdpfikalekmlaaDoor
/- Layer 20: two programs compared, whole. -/
namespace Go.Proofs.YtmdpfikalekmlaaDoor
open Go.RowKit
set_option maxRecDepth 100000
set_option maxHeartbeats 2000000
set_option linter.unusedSimpArgs false
set_option linter.unusedVariables false

theorem pg_ne {p q : Pg} (h : p.avgs ≠ q.avgs ∨ p.curs ≠ q.curs ∨ p.nears ≠ q.nears ∨ p.all ≠ q.all ∨ p.drive ≠ q.drive ∨ p.code ≠ q.code) : decide (p = q) = false := by
  rw [decide_eq_false_iff_not]
  rintro rfl
  rcases h with h | h | h | h | h | h <;> exact h rfl
theorem pg_eq {p q : Pg} (h1 : p.avgs = q.avgs) (h2 : p.curs = q.curs) (h3 : p.nears = q.nears) (h4 : p.all = q.all) (h5 : p.drive = q.drive) (h6 : p.code = q.code) : decide (p = q) = true := by
  rw [decide_eq_true_iff]
  obtain ⟨_, _, _, _, _, _⟩ := p
  obtain ⟨_, _, _, _, _, _⟩ := q
  simp only [] at h1 h2 h3 h4 h5 h6
  rw [h1, h2, h3, h4, h5, h6]
theorem two_new (w : World) (xs ys : Array Value) (t u : TypeId) (j : Nat) : (((w.alloc (.cells xs t)).alloc (.cells ys u)).drew).cell? ⟨w.heap.size, j, none⟩ = xs[j]? ∧ (((w.alloc (.cells xs t)).alloc (.cells ys u)).drew).cell? ⟨w.heap.size + 1, j, none⟩ = ys[j]? ∧ w.heap.size + 1 < (((w.alloc (.cells xs t)).alloc (.cells ys u)).drew).heap.size := by
  refine ⟨?_, ?_, ?_⟩
  · show ((w.alloc (.cells xs t)).alloc (.cells ys u)).cell? _ = _
    rw [World.cell?_alloc_lt _ _ _ (by rw [World.size_alloc]; exact Nat.lt_succ_self _), World.cell?_alloc_new]
  · show ((w.alloc (.cells xs t)).alloc (.cells ys u)).cell? _ = _
    have h := World.cell?_alloc_new (w.alloc (.cells xs t)) ys u j
    rw [World.size_alloc] at h
    exact h
  · show _ < ((w.alloc (.cells xs t)).alloc (.cells ys u)).heap.size
    rw [World.size_alloc, World.size_alloc]; omega
def SlRel (l m : List Lf) (w0 : World) (iv : Value) (wr : World) : Prop := ∃ k : Nat, k ≤ l.length ∧ l.take k = m.take k ∧ iv = .int .i64 (k : Int) ∧ Below w0.heap.size w0 wr
def SnRel (l m : List Nr) (w0 : World) (iv : Value) (wr : World) : Prop := ∃ k : Nat, k ≤ l.length ∧ l.take k = m.take k ∧ iv = .int .i64 (k : Int) ∧ Below w0.heap.size w0 wr
theorem same20_any (x y : PgV) (p q : Pg) (w : World) (hx : PgR w w.heap.size x p) (hy : PgR w w.heap.size y q) (hs : SmallPg p) (ht : SmallPg q) :
    Calls Tryd.prog 20 #[x.val p, y.val q] w fun e w' => e = .returned (.bool (decide (p = q))) ∧ Below w.heap.size w w' := by
  obtain ⟨av, cv, nv, dv, kv, nl⟩ := x
  obtain ⟨bv, ev, mv, fv, gv, ml⟩ := y
  obtain ⟨aA, ac, rfl, -, -⟩ := hx.avgs.open_
  obtain ⟨cA, cc, rfl, -, -⟩ := hx.curs.open_
  have hno : RdL nrS w w.heap.size nv nl := hx.nears
  obtain ⟨nA, nc, hnv, -, -⟩ := hno.open_
  subst hnv
  obtain ⟨dA, dc, rfl, -, -⟩ := hx.drive.open_
  obtain ⟨kA, kc, rfl, -, -⟩ := hx.code.open_
  obtain ⟨bA, bc, rfl, -, -⟩ := hy.avgs.open_
  obtain ⟨eA, ec, rfl, -, -⟩ := hy.curs.open_
  have hmo : RdL nrS w w.heap.size mv ml := hy.nears
  obtain ⟨mA, mc, hmv, -, -⟩ := hmo.open_
  subst hmv
  obtain ⟨fA, fc, rfl, -, -⟩ := hy.drive.open_
  obtain ⟨gA, gc, rfl, -, -⟩ := hy.code.open_
  have HX := Lib.hid hx; have HY := Lib.hid hy
  have HNM := Lib.hid (show nl.map (·.n) = p.nears from hx.nmap)
  have HMM := Lib.hid (show ml.map (·.n) = q.nears from hy.nmap)
  have hl1 := hs.curs.2
  have hl2 := ht.curs.2
  have hl3 : nl.length ≤ 1048576 := by have e := hs.nears.2; rw [← hx.nmap, List.length_map] at e; exact e
  have hl4 : ml.length ≤ 1048576 := by have e := ht.nears.2; rw [← hy.nmap, List.length_map] at e; exact e
  clear hno hmo
  have hb0 : Below w.heap.size w ((w.alloc (.cells #[.slice aA p.avgs.length ac, .slice cA p.curs.length cc, .slice nA nl.length nc, .bool p.all, .slice dA p.drive.length dc, .slice kA p.code.length kc] 44)).alloc (.cells #[.slice bA q.avgs.length bc, .slice eA q.curs.length ec, .slice mA ml.length mc, .bool q.all, .slice fA q.drive.length fc, .slice gA q.code.length gc] 44)) := (((Below.refl _ _).alloc (Nat.le_refl _) _)).alloc (by rw [World.size_alloc]; omega) _
  have P1 := (PgAt.new w ⟨.slice aA p.avgs.length ac, .slice cA p.curs.length cc, .slice nA nl.length nc, .slice dA p.drive.length dc, .slice kA p.code.length kc, nl⟩ p).below ((Below.refl _ _).alloc (Nat.le_refl _) (.cells #[.slice bA q.avgs.length bc, .slice eA q.curs.length ec, .slice mA ml.length mc, .bool q.all, .slice fA q.drive.length fc, .slice gA q.code.length gc] 44))
  have P2 := PgAt.new (w.alloc (.cells #[.slice aA p.avgs.length ac, .slice cA p.curs.length cc, .slice nA nl.length nc, .bool p.all, .slice dA p.drive.length dc, .slice kA p.code.length kc] 44)) ⟨.slice bA q.avgs.length bc, .slice eA q.curs.length ec, .slice mA ml.length mc, .slice fA q.drive.length fc, .slice gA q.code.length gc, ml⟩ q
  rw [World.size_alloc] at P2
  have HB0 := Lib.hid hb0
  have HP1 := Lib.hid P1; have HP2 := Lib.hid P2
  clear hx hy hs ht hb0 P1 P2
  simp only [PgV.val]
  go_enter Tryd.func20, Tryd.ntmps20
  go_upto_region 1 with fail
  generalize ((w.alloc (.cells #[.slice aA p.avgs.length ac, .slice cA p.curs.length cc, .slice nA nl.length nc, .bool p.all, .slice dA p.drive.length dc, .slice kA p.code.length kc] 44)).alloc (.cells #[.slice bA q.avgs.length bc, .slice eA q.curs.length ec, .slice mA ml.length mc, .bool q.all, .slice fA q.drive.length fc, .slice gA q.code.length gc] 44)) = w0 at *
  obtain ⟨a0, a1, a2, a3, a4, a5, az⟩ := HP1.out
  obtain ⟨b0, b1, b2, b3, b4, b5, bz⟩ := HP2.out
  simp only [] at a0 a1 a2 a3 a4 a5 b0 b1 b2 b3 b4 b5
  have HX0 := Lib.hid (HX.out.below HB0.out)
  have HY0 := Lib.hid (HY.out.below HB0.out)
  have hcv1 := RdL.convAll HX0.out.code
  have hcv2 := RdL.convAll HY0.out.code
  by_cases h4 : p.all = q.all
  case neg =>
    have HN := Lib.hid (pg_ne (p := p) (q := q) (.inr (.inr (.inr (.inl h4)))))
    generalize p.all = pa at *
    generalize q.all = qa at *
    rcases (by cases pa <;> cases qa <;> simp at h4 ⊢ : (pa = true ∧ qa = false) ∨ (pa = false ∧ qa = true)) with ⟨rfl, rfl⟩ | ⟨rfl, rfl⟩
    all_goals
      clear h4
      go_wp2
      go_ret
      exact ⟨congrArg (fun b => Ending.returned (.bool b)) HN.out.symm, HB0.out⟩
  have HA4 := Lib.hid h4
  rw [← h4] at b3
  clear h4
  by_cases h6 : p.code = q.code
  case neg =>
    have HN := Lib.hid (pg_ne (p := p) (q := q) (.inr (.inr (.inr (.inr (.inr h6))))))
    have hsb := str_ne_beq2 h6
    clear h6
    generalize str p.code = sp at *
    generalize str q.code = sq at *
    go_wp2
    go_ret
    exact ⟨congrArg (fun b => Ending.returned (.bool b)) HN.out.symm, HB0.out⟩
  have HA6 := Lib.hid h6
  rw [show str q.code = str p.code from by rw [h6]] at hcv2
  clear h6
  generalize str p.code = sp at *
  go_wp2_with fail
  refine (sameInts_any _ _ p.avgs q.avgs w0 w.heap.size w.heap.size HX0.out.avgs HY0.out.avgs HB0.out.size HB0.out.size).mono ?_
  rintro e w1 ⟨rfl, hb1⟩
  have HB1 := Lib.hid (HB0.out.trans (hb1.mono HB0.out.size))
  have HQ1 := Lib.hid (HP1.out.below hb1); have HQ2 := Lib.hid (HP2.out.below hb1)
  clear a0 a1 a2 a3 a4 a5 az b0 b1 b2 b3 b4 b5 bz hcv1 hcv2
  obtain ⟨a0, a1, a2, a3, a4, a5, az⟩ := HQ1.out
  obtain ⟨b0, b1, b2, b3, b4, b5, bz⟩ := HQ2.out
  simp only [] at a0 a1 a2 a3 a4 a5 b0 b1 b2 b3 b4 b5
  clear hb1
  by_cases h1 : p.avgs = q.avgs
  case neg =>
    have HN := Lib.hid (pg_ne (p := p) (q := q) (.inl h1))
    rw [decide_eq_false h1]
    clear h1
    go_wp2
    go_ret
    exact ⟨congrArg (fun b => Ending.returned (.bool b)) HN.out.symm, HB1.out⟩
  have HA1 := Lib.hid h1
  rw [decide_eq_true h1]
  clear h1
  go_wp2_with fail
  refine (sameInts_any _ _ p.drive q.drive w1 w.heap.size w.heap.size (HX.out.below HB1.out).drive (HY.out.below HB1.out).drive HB1.out.size HB1.out.size).mono ?_
  rintro e w2 ⟨rfl, hb2⟩
  have HB2 := Lib.hid (HB1.out.trans (hb2.mono HB1.out.size))
  have HR1 := Lib.hid (HQ1.out.below hb2); have HR2 := Lib.hid (HQ2.out.below hb2)
  clear a0 a1 a2 a3 a4 a5 az b0 b1 b2 b3 b4 b5 bz
  obtain ⟨a0, a1, a2, a3, a4, a5, az⟩ := HR1.out
  obtain ⟨b0, b1, b2, b3, b4, b5, bz⟩ := HR2.out
  simp only [] at a0 a1 a2 a3 a4 a5 b0 b1 b2 b3 b4 b5
  clear hb2
  by_cases h5 : p.drive = q.drive
  case neg =>
    have HN := Lib.hid (pg_ne (p := p) (q := q) (.inr (.inr (.inr (.inr (.inl h5))))))
    rw [decide_eq_false h5]
    clear h5
    go_wp2
    go_ret
    exact ⟨congrArg (fun b => Ending.returned (.bool b)) HN.out.symm, HB2.out⟩
  have HA5 := Lib.hid h5
  rw [decide_eq_true h5]
  clear h5
  by_cases hlc : p.curs.length = q.curs.length
  case neg =>
    have HN := Lib.hid (pg_ne (p := p) (q := q) (.inr (.inl (fun e => hlc (by rw [e])))))
    have hlb : ((p.curs.length : Int) != (q.curs.length : Int)) = true := by simp; omega
    clear hlc
    go_wp2
    go_ret
    exact ⟨congrArg (fun b => Ending.returned (.bool b)) HN.out.symm, HB2.out⟩
  by_cases hln : nl.length = ml.length
  case neg =>
    have HN := Lib.hid (pg_ne (p := p) (q := q) (.inr (.inr (.inl (fun e => hln (by have e1 := congrArg List.length HNM.out; have e2 := congrArg List.length HMM.out; rw [List.length_map] at e1 e2; rw [e1, e2, e]))))))
    have hlb : ((p.curs.length : Int) != (q.curs.length : Int)) = false := by rw [hlc]; simp
    have hnb : ((nl.length : Int) != (ml.length : Int)) = true := by simp; omega
    clear hln hlc
    go_wp2
    go_ret
    exact ⟨congrArg (fun b => Ending.returned (.bool b)) HN.out.symm, HB2.out⟩
  have hlb : ((p.curs.length : Int) != (q.curs.length : Int)) = false := by rw [hlc]; simp
  have hnb : ((nl.length : Int) != (ml.length : Int)) = false := by rw [hln]; simp
  have HLC := Lib.hid hlc; have HLN := Lib.hid hln
  clear hlc hln
  go_wp2
  go_loopw [58] (fun iv wr => SlRel p.curs q.curs w2 iv wr) (fun iv _ => p.curs.length - (intOf iv).toNat)
  case atStart => exact ⟨0, by omega, by simp, rfl, Below.refl _ _⟩
  case round =>
    clear a0 a1 a2 a3 a4 a5 az b0 b1 b2 b3 b4 b5 bz
    obtain ⟨k, hk, htk, rfl, hbl⟩ := hrel
    have HT := Lib.hid htk; have HBL := Lib.hid hbl
    have HBW := Lib.hid (HB2.out.trans (hbl.mono HB2.out.size))
    have HU1 := Lib.hid (HR1.out.below hbl); have HU2 := Lib.hid (HR2.out.below hbl)
    obtain ⟨a0, a1, a2, a3, a4, a5, az⟩ := HU1.out
    obtain ⟨b0, b1, b2, b3, b4, b5, bz⟩ := HU2.out
    simp only [] at a0 a1 a2 a3 a4 a5 b0 b1 b2 b3 b4 b5
    clear htk hbl
    by_cases hlt : k < p.curs.length
    · have hlt2 : k < q.curs.length := by have := HLC.out; omega
      obtain ⟨g, rfl, z0, c0, c1⟩ := at_lf (HX.out.below HBW.out).curs hlt
      obtain ⟨g', rfl, z1, d0, d1⟩ := at_lf (HY.out.below HBW.out).curs hlt2
      have hq := fun W => lf_neq p.curs[k] q.curs[k] W
      have hg := fun op a b W => lf_guard p.curs[k] q.curs[k] op a b W
      unfold lfVal at hq hg
      by_cases hx : p.curs[k] = q.curs[k]
      · have HN := Lib.hid (show p.curs.take (k + 1) = q.curs.take (k + 1) from by
          rw [List.take_succ_eq_append_getElem hlt, List.take_succ_eq_append_getElem hlt2, HT.out, hx])
        rw [show decide (p.curs[k] = q.curs[k]) = true from decide_eq_true hx] at hq
        clear hx
        generalize p.curs[k] = x at *
        generalize q.curs[k] = y at *
        go_wp2
        go_region
        go_wp2
        go_roundw
        case rel => exact ⟨k + 1, by omega, HN.out, by go_num, HBL.out.drew⟩
        case measure => simp [intOf]; omega
      · have HN := Lib.hid (pg_ne (p := p) (q := q) (.inr (.inl (fun h => hx (by simp only [h])))))
        rw [show decide (p.curs[k] = q.curs[k]) = false from decide_eq_false hx] at hq
        clear hx
        generalize p.curs[k] = x at *
        generalize q.curs[k] = y at *
        go_wp2
        go_region
        go_wp2
        go_ret
        exact ⟨congrArg (fun b => Ending.returned (.bool b)) HN.out.symm, HBW.out.drew⟩
    · have HA2 := Lib.hid (show p.curs = q.curs from by
        have h := HT.out
        rw [List.take_of_length_le (by omega), List.take_of_length_le (by have := HLC.out; omega)] at h
        exact h)
      go_wp2
      obtain ⟨wo, rfl⟩ : ∃ wo, wo = wr := ⟨_, rfl⟩
      go_loopw [76] (fun iv wx => SnRel p.nears q.nears wo iv wx) (fun iv _ => nl.length - (intOf iv).toNat)
      case atStart => exact ⟨0, by omega, by simp, rfl, Below.refl _ _⟩
      case round =>
        clear a0 a1 a2 a3 a4 a5 az b0 b1 b2 b3 b4 b5 bz
        obtain ⟨i, hi, hti, rfl, hbn⟩ := hrel
        have hpl : p.nears.length = nl.length := by rw [← HNM.out, List.length_map]
        have hql : q.nears.length = ml.length := by rw [← HMM.out, List.length_map]
        have HPL := Lib.hid hpl; have HQL := Lib.hid hql
        have HTI := Lib.hid hti; have HBN := Lib.hid hbn
        have HBV := Lib.hid (HBW.out.trans (hbn.mono HBW.out.size))
        have HV1 := Lib.hid (HU1.out.below hbn); have HV2 := Lib.hid (HU2.out.below hbn)
        obtain ⟨a0, a1, a2, a3, a4, a5, az⟩ := HV1.out
        obtain ⟨b0, b1, b2, b3, b4, b5, bz⟩ := HV2.out
        simp only [] at a0 a1 a2 a3 a4 a5 b0 b1 b2 b3 b4 b5
        have hin : i ≤ nl.length := by omega
        clear hti hbn hpl hql hi
        by_cases hlt : i < nl.length
        · --NEAR
          have hlt2 : i < ml.length := by have := HLN.out; omega
          obtain ⟨g, rfl, z0, c0, c1, c2⟩ := at_nr (HX.out.below HBV.out).nears hlt
          obtain ⟨g', rfl, z1, d0, d1, d2⟩ := at_nr (HY.out.below HBV.out).nears hlt2
          have HI1 := Lib.hid ((HX.out.below HBV.out).inner _ (List.getElem_mem hlt))
          have HI2 := Lib.hid ((HY.out.below HBV.out).inner _ (List.getElem_mem hlt2))
          have hep : p.nears[i]'(by have := HPL.out; omega) = nl[i].n := by simp only [← HNM.out, List.getElem_map]
          have heq : q.nears[i]'(by have := HQL.out; omega) = ml[i].n := by simp only [← HMM.out, List.getElem_map]
          have HNE := Lib.hid (show nl[i].n ≠ ml[i].n → decide (p = q) = false from fun hne => pg_ne (.inr (.inr (.inl (fun e => hne (by rw [← hep, ← heq]; simp only [e]))))))
          have HEQ := Lib.hid (show nl[i].n = ml[i].n → p.nears.take (i + 1) = q.nears.take (i + 1) from fun e => by
            rw [List.take_succ_eq_append_getElem (by have := HPL.out; omega), List.take_succ_eq_append_getElem (by have := HQL.out; omega), HTI.out, hep, heq, e])
          clear hep heq
          generalize nl[i] = x at *
          generalize ml[i] = y at *
          obtain ⟨xca, xcc, xoa, xoc, xn⟩ := x
          obtain ⟨yca, ycc, yoa, yoc, yn⟩ := y
          simp only [] at c0 c1 c2 d0 d1 d2 HI1 HI2 HNE HEQ
          have hsz := HBV.out.size
          have z0' : (g.add (i * 3)).block < wr.heap.size := by omega
          have z1' : (g'.add (i * 3)).block < wr.heap.size := by omega
          go_wp2
          go_region
          · have hbz : Below wr.heap.size wr (((wr.alloc (.cells #[.slice xca xn.cur.length xcc, .slice xoa xn.off.length xoc, .int .i64 xn.slop] 96)).alloc (.cells #[.slice yca yn.cur.length ycc, .slice yoa yn.off.length yoc, .int .i64 yn.slop] 96)).drew) := (((Below.refl _ _).alloc (Nat.le_refl _) _).alloc (by rw [World.size_alloc]; omega) _).drew
            have p0 : (((wr.alloc (.cells #[.slice xca xn.cur.length xcc, .slice xoa xn.off.length xoc, .int .i64 xn.slop] 96)).alloc (.cells #[.slice yca yn.cur.length ycc, .slice yoa yn.off.length yoc, .int .i64 yn.slop] 96)).drew).cell? ⟨wr.heap.size, 0, none⟩ = some (.slice xca xn.cur.length xcc) := (two_new wr _ _ _ _ 0).1.trans rfl
            have r0 : (((wr.alloc (.cells #[.slice xca xn.cur.length xcc, .slice xoa xn.off.length xoc, .int .i64 xn.slop] 96)).alloc (.cells #[.slice yca yn.cur.length ycc, .slice yoa yn.off.length yoc, .int .i64 yn.slop] 96)).drew).cell? ⟨wr.heap.size + 1, 0, none⟩ = some (.slice yca yn.cur.length ycc) := (two_new wr _ _ _ _ 0).2.1.trans rfl
            have p1 : (((wr.alloc (.cells #[.slice xca xn.cur.length xcc, .slice xoa xn.off.length xoc, .int .i64 xn.slop] 96)).alloc (.cells #[.slice yca yn.cur.length ycc, .slice yoa yn.off.length yoc, .int .i64 yn.slop] 96)).drew).cell? ⟨wr.heap.size, 1, none⟩ = some (.slice xoa xn.off.length xoc) := (two_new wr _ _ _ _ 1).1.trans rfl
            have r1 : (((wr.alloc (.cells #[.slice xca xn.cur.length xcc, .slice xoa xn.off.length xoc, .int .i64 xn.slop] 96)).alloc (.cells #[.slice yca yn.cur.length ycc, .slice yoa yn.off.length yoc, .int .i64 yn.slop] 96)).drew).cell? ⟨wr.heap.size + 1, 1, none⟩ = some (.slice yoa yn.off.length yoc) := (two_new wr _ _ _ _ 1).2.1.trans rfl
            have p2 : (((wr.alloc (.cells #[.slice xca xn.cur.length xcc, .slice xoa xn.off.length xoc, .int .i64 xn.slop] 96)).alloc (.cells #[.slice yca yn.cur.length ycc, .slice yoa yn.off.length yoc, .int .i64 yn.slop] 96)).drew).cell? ⟨wr.heap.size, 2, none⟩ = some (.int .i64 xn.slop) := (two_new wr _ _ _ _ 2).1.trans rfl
            have r2 : (((wr.alloc (.cells #[.slice xca xn.cur.length xcc, .slice xoa xn.off.length xoc, .int .i64 xn.slop] 96)).alloc (.cells #[.slice yca yn.cur.length ycc, .slice yoa yn.off.length yoc, .int .i64 yn.slop] 96)).drew).cell? ⟨wr.heap.size + 1, 2, none⟩ = some (.int .i64 yn.slop) := (two_new wr _ _ _ _ 2).2.1.trans rfl
            have vz : wr.heap.size + 1 < (((wr.alloc (.cells #[.slice xca xn.cur.length xcc, .slice xoa xn.off.length xoc, .int .i64 xn.slop] 96)).alloc (.cells #[.slice yca yn.cur.length ycc, .slice yoa yn.off.length yoc, .int .i64 yn.slop] 96)).drew).heap.size := (two_new wr _ _ _ _ 0).2.2
            have vz' : wr.heap.size < (((wr.alloc (.cells #[.slice xca xn.cur.length xcc, .slice xoa xn.off.length xoc, .int .i64 xn.slop] 96)).alloc (.cells #[.slice yca yn.cur.length ycc, .slice yoa yn.off.length yoc, .int .i64 yn.slop] 96)).drew).heap.size := Nat.lt_of_succ_lt vz
            generalize (((wr.alloc (.cells #[.slice xca xn.cur.length xcc, .slice xoa xn.off.length xoc, .int .i64 xn.slop] 96)).alloc (.cells #[.slice yca yn.cur.length ycc, .slice yoa yn.off.length yoc, .int .i64 yn.slop] 96)).drew) = w5 at *
            have HB5 := Lib.hid (HBV.out.trans (hbz.mono HBV.out.size))
            have HN5 := Lib.hid (HBN.out.trans (hbz.mono HBN.out.size))
            have HW5 := Lib.hid (hbz.mono HBV.out.size)
            clear hbz a0 a1 a2 a3 a4 a5 az b0 b1 b2 b3 b4 b5 bz c0 c1 c2 d0 d1 d2
            have i1 := Lib.hid (HX.out.below HB5.out)
            by_cases hsl : xn.slop = yn.slop
            · have HSL := Lib.hid hsl
              rw [← hsl] at r2
              clear hsl
              go_wp2_with fail
              refine (sameInts_any _ _ xn.cur yn.cur w5 w.heap.size w.heap.size (HI1.out.1.below HW5.out) (HI2.out.1.below HW5.out) HB5.out.size HB5.out.size).mono ?_
              rintro e w6 ⟨rfl, hb6⟩
              have HB6 := Lib.hid (HB5.out.trans (hb6.mono HB5.out.size))
              have HN6 := Lib.hid (HN5.out.trans (hb6.mono HN5.out.size))
              have HW6 := Lib.hid (HW5.out.trans (hb6.mono HB5.out.size))
              have s1 := (hb6.cell (p := ⟨wr.heap.size, 1, none⟩) (by omega)).trans p1
              have t1 := (hb6.cell (p := ⟨wr.heap.size + 1, 1, none⟩) (by omega)).trans r1
              clear hb6 p0 p1 p2 r0 r1 r2
              by_cases hcu : xn.cur = yn.cur
              · have HCU := Lib.hid hcu
                rw [decide_eq_true hcu]
                clear hcu
                go_wp2_with fail
                refine (sameInts_any _ _ xn.off yn.off w6 w.heap.size w.heap.size (HI1.out.2.below HW6.out) (HI2.out.2.below HW6.out) HB6.out.size HB6.out.size).mono ?_
                rintro e w7 ⟨rfl, hb7⟩
                have HB7 := Lib.hid (HB6.out.trans (hb7.mono HB6.out.size))
                have HN7 := Lib.hid (HN6.out.trans (hb7.mono HN6.out.size))
                clear hb7
                by_cases hof : xn.off = yn.off
                · have HE := Lib.hid (HEQ.out (by
                    have h1 := HSL.out; have h2 := HCU.out
                    obtain ⟨_, _, _⟩ := xn
                    obtain ⟨_, _, _⟩ := yn
                    simp only [] at h1 h2 hof
                    rw [h1, h2, hof]))
                  rw [decide_eq_true hof]
                  clear hof
                  go_wp2
                  go_roundw
                  case rel => exact ⟨i + 1, by have := HPL.out; omega, HE.out, by go_num, HN7.out⟩
                  case measure => simp [intOf]; omega
                · have HN := Lib.hid (HNE.out (fun e => hof (by rw [e])))
                  rw [decide_eq_false hof]
                  clear hof
                  go_wp2
                  go_ret
                  exact ⟨congrArg (fun b => Ending.returned (.bool b)) HN.out.symm, HB7.out⟩
              · have HN := Lib.hid (HNE.out (fun e => hcu (by rw [e])))
                rw [decide_eq_false hcu]
                clear hcu
                go_wp2
                go_ret
                exact ⟨congrArg (fun b => Ending.returned (.bool b)) HN.out.symm, HB6.out⟩
            · have HN := Lib.hid (HNE.out (fun e => hsl (by rw [e])))
              have hsb : (xn.slop != yn.slop) = true := by simpa using hsl
              clear hsl
              go_wp2
              go_ret
              exact ⟨congrArg (fun b => Ending.returned (.bool b)) HN.out.symm, HB5.out⟩
          · have hbz : Below wr.heap.size wr (((wr.alloc (.cells #[.slice yca yn.cur.length ycc, .slice yoa yn.off.length yoc, .int .i64 yn.slop] 96)).alloc (.cells #[.slice xca xn.cur.length xcc, .slice xoa xn.off.length xoc, .int .i64 xn.slop] 96)).drew) := (((Below.refl _ _).alloc (Nat.le_refl _) _).alloc (by rw [World.size_alloc]; omega) _).drew
            have p0 : (((wr.alloc (.cells #[.slice yca yn.cur.length ycc, .slice yoa yn.off.length yoc, .int .i64 yn.slop] 96)).alloc (.cells #[.slice xca xn.cur.length xcc, .slice xoa xn.off.length xoc, .int .i64 xn.slop] 96)).drew).cell? ⟨wr.heap.size, 0, none⟩ = some (.slice yca yn.cur.length ycc) := (two_new wr _ _ _ _ 0).1.trans rfl
            have r0 : (((wr.alloc (.cells #[.slice yca yn.cur.length ycc, .slice yoa yn.off.length yoc, .int .i64 yn.slop] 96)).alloc (.cells #[.slice xca xn.cur.length xcc, .slice xoa xn.off.length xoc, .int .i64 xn.slop] 96)).drew).cell? ⟨wr.heap.size + 1, 0, none⟩ = some (.slice xca xn.cur.length xcc) := (two_new wr _ _ _ _ 0).2.1.trans rfl
            have p1 : (((wr.alloc (.cells #[.slice yca yn.cur.length ycc, .slice yoa yn.off.length yoc, .int .i64 yn.slop] 96)).alloc (.cells #[.slice xca xn.cur.length xcc, .slice xoa xn.off.length xoc, .int .i64 xn.slop] 96)).drew).cell? ⟨wr.heap.size, 1, none⟩ = some (.slice yoa yn.off.length yoc) := (two_new wr _ _ _ _ 1).1.trans rfl
            have r1 : (((wr.alloc (.cells #[.slice yca yn.cur.length ycc, .slice yoa yn.off.length yoc, .int .i64 yn.slop] 96)).alloc (.cells #[.slice xca xn.cur.length xcc, .slice xoa xn.off.length xoc, .int .i64 xn.slop] 96)).drew).cell? ⟨wr.heap.size + 1, 1, none⟩ = some (.slice xoa xn.off.length xoc) := (two_new wr _ _ _ _ 1).2.1.trans rfl
            have p2 : (((wr.alloc (.cells #[.slice yca yn.cur.length ycc, .slice yoa yn.off.length yoc, .int .i64 yn.slop] 96)).alloc (.cells #[.slice xca xn.cur.length xcc, .slice xoa xn.off.length xoc, .int .i64 xn.slop] 96)).drew).cell? ⟨wr.heap.size, 2, none⟩ = some (.int .i64 yn.slop) := (two_new wr _ _ _ _ 2).1.trans rfl
            have r2 : (((wr.alloc (.cells #[.slice yca yn.cur.length ycc, .slice yoa yn.off.length yoc, .int .i64 yn.slop] 96)).alloc (.cells #[.slice xca xn.cur.length xcc, .slice xoa xn.off.length xoc, .int .i64 xn.slop] 96)).drew).cell? ⟨wr.heap.size + 1, 2, none⟩ = some (.int .i64 xn.slop) := (two_new wr _ _ _ _ 2).2.1.trans rfl
            have vz : wr.heap.size + 1 < (((wr.alloc (.cells #[.slice yca yn.cur.length ycc, .slice yoa yn.off.length yoc, .int .i64 yn.slop] 96)).alloc (.cells #[.slice xca xn.cur.length xcc, .slice xoa xn.off.length xoc, .int .i64 xn.slop] 96)).drew).heap.size := (two_new wr _ _ _ _ 0).2.2
            have vz' : wr.heap.size < (((wr.alloc (.cells #[.slice yca yn.cur.length ycc, .slice yoa yn.off.length yoc, .int .i64 yn.slop] 96)).alloc (.cells #[.slice xca xn.cur.length xcc, .slice xoa xn.off.length xoc, .int .i64 xn.slop] 96)).drew).heap.size := Nat.lt_of_succ_lt vz
            generalize (((wr.alloc (.cells #[.slice yca yn.cur.length ycc, .slice yoa yn.off.length yoc, .int .i64 yn.slop] 96)).alloc (.cells #[.slice xca xn.cur.length xcc, .slice xoa xn.off.length xoc, .int .i64 xn.slop] 96)).drew) = w5 at *
            have HB5 := Lib.hid (HBV.out.trans (hbz.mono HBV.out.size))
            have HN5 := Lib.hid (HBN.out.trans (hbz.mono HBN.out.size))
            have HW5 := Lib.hid (hbz.mono HBV.out.size)
            clear hbz a0 a1 a2 a3 a4 a5 az b0 b1 b2 b3 b4 b5 bz c0 c1 c2 d0 d1 d2
            have i1 := Lib.hid (HX.out.below HB5.out)
            by_cases hsl : xn.slop = yn.slop
            · have HSL := Lib.hid hsl
              rw [← hsl] at p2
              clear hsl
              go_wp2_with fail
              refine (sameInts_any _ _ xn.cur yn.cur w5 w.heap.size w.heap.size (HI1.out.1.below HW5.out) (HI2.out.1.below HW5.out) HB5.out.size HB5.out.size).mono ?_
              rintro e w6 ⟨rfl, hb6⟩
              have HB6 := Lib.hid (HB5.out.trans (hb6.mono HB5.out.size))
              have HN6 := Lib.hid (HN5.out.trans (hb6.mono HN5.out.size))
              have HW6 := Lib.hid (HW5.out.trans (hb6.mono HB5.out.size))
              have s1 := (hb6.cell (p := ⟨wr.heap.size + 1, 1, none⟩) (by omega)).trans r1
              have t1 := (hb6.cell (p := ⟨wr.heap.size, 1, none⟩) (by omega)).trans p1
              clear hb6 p0 p1 p2 r0 r1 r2
              by_cases hcu : xn.cur = yn.cur
              · have HCU := Lib.hid hcu
                rw [decide_eq_true hcu]
                clear hcu
                go_wp2_with fail
                refine (sameInts_any _ _ xn.off yn.off w6 w.heap.size w.heap.size (HI1.out.2.below HW6.out) (HI2.out.2.below HW6.out) HB6.out.size HB6.out.size).mono ?_
                rintro e w7 ⟨rfl, hb7⟩
                have HB7 := Lib.hid (HB6.out.trans (hb7.mono HB6.out.size))
                have HN7 := Lib.hid (HN6.out.trans (hb7.mono HN6.out.size))
                clear hb7
                by_cases hof : xn.off = yn.off
                · have HE := Lib.hid (HEQ.out (by
                    have h1 := HSL.out; have h2 := HCU.out
                    obtain ⟨_, _, _⟩ := xn
                    obtain ⟨_, _, _⟩ := yn
                    simp only [] at h1 h2 hof
                    rw [h1, h2, hof]))
                  rw [decide_eq_true hof]
                  clear hof
                  go_wp2
                  go_roundw
                  case rel => exact ⟨i + 1, by have := HPL.out; omega, HE.out, by go_num, HN7.out⟩
                  case measure => simp [intOf]; omega
                · have HN := Lib.hid (HNE.out (fun e => hof (by rw [e])))
                  rw [decide_eq_false hof]
                  clear hof
                  go_wp2
                  go_ret
                  exact ⟨congrArg (fun b => Ending.returned (.bool b)) HN.out.symm, HB7.out⟩
              · have HN := Lib.hid (HNE.out (fun e => hcu (by rw [e])))
                rw [decide_eq_false hcu]
                clear hcu
                go_wp2
                go_ret
                exact ⟨congrArg (fun b => Ending.returned (.bool b)) HN.out.symm, HB6.out⟩
            · have HN := Lib.hid (HNE.out (fun e => hsl (by rw [e])))
              have hsb : (xn.slop != yn.slop) = true := by simpa using hsl
              clear hsl
              go_wp2
              go_ret
              exact ⟨congrArg (fun b => Ending.returned (.bool b)) HN.out.symm, HB5.out⟩
        · --END
          have HN := Lib.hid (pg_eq HA1.out HA2.out (show p.nears = q.nears from by
            have h := HTI.out
            rw [List.take_of_length_le (by have := HPL.out; omega), List.take_of_length_le (by have h1 := HQL.out; have h2 := HLN.out; omega)] at h
            exact h) HA4.out HA5.out HA6.out)
          go_wp2
          go_ret
          exact ⟨congrArg (fun b => Ending.returned (.bool b)) HN.out.symm, HBV.out⟩
end Go.Proofs.YtmdpfikalekmlaaDoor
