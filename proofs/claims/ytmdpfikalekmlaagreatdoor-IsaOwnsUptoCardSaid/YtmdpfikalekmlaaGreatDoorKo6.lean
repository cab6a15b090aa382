/- Merged for a claim: Tx Il Dm Dw Dn Dl -/
import Derived.Test.YtmdpfikalekmlaaGreatDoorKo5
import Derived.Test.YtmdpfikalekmlaaGreatDoorOr
import Derived.Test.YtmdpfikalekmlaaGreatDoorKo2
import Derived.Deep.RegionHeld3
import Derived.Test.YtmdpfikalekmlaaGreatDoorIf
import Derived.KernelRfl
import Derived.Test.YtmdpfikalekmlaaGreatDoorRow
import Derived.Test.YtmdpfikalekmlaaGreatDoorSf
import Derived.Test.YtmdpfikalekmlaaGreatDoorQu
import Derived.Test.YtmdpfikalekmlaaGreatDoorKo1
section
/- Layer 20: Text. -/
namespace Go.Proofs.YtmdpfikalekmlaaGreatDoor
open Go.RowKit
set_option maxRecDepth 100000
set_option maxHeartbeats 4000000
set_option linter.unusedSimpArgs false
set_option linter.unusedVariables false

theorem rdl_one {W : World} {n : Nat} {f : Int} (h : W.cell? ⟨n, 0, none⟩ = some (.int .i64 f)) : RdL intS W W.heap.size (.slice (some ⟨n, 0, none⟩) 1 1) [f] := by
  have hlt : n < W.heap.size := World.block_lt_of_cell? W ⟨n, 0, none⟩ h
  refine ⟨some ⟨n, 0, none⟩, 1, rfl, Nat.le_refl _, by unfold maxLen; omega, fun _ => ⟨_, rfl, hlt, fun j u hj => ?_⟩, fun h => by cases h⟩
  have hj0 : j = 0 := by
    have := (List.getElem?_eq_some_iff.1 hj).1
    simp [Shape.cells, intS] at this; omega
  subst hj0
  cases hj
  exact h
theorem alloc2_cell (w : World) (o : Obj) (x : Value) (t : TypeId) : ((w.alloc o).alloc (.cells #[x] t)).cell? ⟨w.heap.size + 1, 0, none⟩ = some x := by
  have h := World.cell?_alloc_new (w.alloc o) #[x] t 0
  rw [World.size_alloc] at h
  exact h
def strs (l : List (List UInt8)) : List ByteArray := l.map str
theorem strs_snoc (l : List (List UInt8)) (x : List UInt8) : strs (l ++ [x]) = strs l ++ [str x] := by simp [strs]
theorem strs_length (l : List (List UInt8)) : (strs l).length = l.length := by simp [strs]
theorem strs_data (l : List (List UInt8)) : (strs l).map (·.data.toList) = l := by
  unfold strs; rw [List.map_map]
  have : ((fun x : ByteArray => x.data.toList) ∘ str) = id := by funext x; simp [str]
  rw [this, List.map_id]
theorem insOk_op {x : Ins} (h : insOk x = true) : 0 ≤ x.op ∧ x.op < 17 := by
  unfold insOk at h
  split at h
  · cases h
  · rename_i n hn
    have := argsN_some hn
    exact ⟨this.1, this.2.1⟩
theorem insL_0 {o xa xb : Nat} (h : opArgs o = 0) : insL ⟨(o : Int), xa, xb⟩ = opName o := by
  unfold insL; simp only [Int.toNat_natCast]; rw [h, if_neg (by decide), if_neg (by decide), List.append_nil, List.append_nil]
theorem insL_1 {o xa xb : Nat} (h : opArgs o = 1) : insL ⟨(o : Int), xa, xb⟩ = opName o ++ ([32] ++ dgt xa) := by
  unfold insL; simp only [Int.toNat_natCast]; rw [h, if_pos (by decide), if_neg (by decide), List.append_nil]; rfl
theorem insL_2 {o xa xb : Nat} (h : opArgs o = 2) : insL ⟨(o : Int), xa, xb⟩ = opName o ++ ([32] ++ dgt xa) ++ ([32] ++ dgt xb) := by
  unfold insL; simp only [Int.toNat_natCast]; rw [h, if_pos (by decide), if_pos (by decide)]; rfl
def TxtRet (bad ok : Value) (p : Pg) (w : World) (e : Ending) (w' : World) : Prop :=
  Below w.heap.size w w' ∧ e = .returned (match textP p with | some t => .tuple #[.string (str t), ok] | none => .tuple #[.string ⟨#[]⟩, bad])
theorem txtRet_no {bad ok : Value} {p : Pg} {w w' : World} (h : textP p = none) (hb : Below w.heap.size w w') : TxtRet bad ok p w (.returned (.tuple #[.string ⟨#[]⟩, bad])) w' := ⟨hb, by rw [h]⟩
theorem txtRet_ok {bad ok : Value} {p : Pg} {w w' : World} {t : List UInt8} {s : ByteArray} (h : textP p = some t) (hs : s = str t) (hb : Below w.heap.size w w') : TxtRet bad ok p w (.returned (.tuple #[.string s, ok])) w' := ⟨hb, by rw [h, hs]⟩
theorem textP_none {p : Pg} (h : (if okP p = true then decI p.code else none) = none) : textP p = none := by
  unfold textP
  split
  · rename_i c hc
    split
    · rename_i ho; rw [if_pos ho, hc] at h; cases h
    · rfl
  · rfl
theorem textP_some {p : Pg} {code : List Ins} (h : (if okP p = true then decI p.code else none) = some code) : okP p = true ∧ decI p.code = some code ∧ textP p = some (unl (linesL p code)) := by
  split at h
  · rename_i ho
    refine ⟨ho, h, ?_⟩
    unfold textP; rw [h]; simp only []; rw [if_pos ho]
  · cases h
theorem okP_parts {p : Pg} (h : okP p = true) : neg p.avgs = false ∧ neg p.drive = false ∧ (∀ c ∈ p.curs, 0 ≤ c.field) ∧ ∀ n ∈ p.nears, okN n = true := by
  unfold okP at h
  simp only [Bool.and_eq_true, Bool.not_eq_true', List.all_eq_true, decide_eq_true_eq] at h
  exact ⟨h.1.1.1, h.1.1.2, h.1.2, h.2⟩
theorem okN_parts {n : Nr} (h : okN n = true) : 0 ≤ n.slop ∧ neg n.cur = false ∧ neg n.off = false ∧ n.cur.length = n.off.length := by
  unfold okN at h
  simp only [Bool.and_eq_true, Bool.not_eq_true', decide_eq_true_eq] at h
  exact ⟨h.1.1.1, h.1.1.2, h.1.2, h.2⟩
theorem neg_one {x : Int} (h : 0 ≤ x) : neg [x] = false := by unfold neg; simp; omega
theorem strcell {W : World} {n : Nat} {s : ByteArray} (h : W.cell? ⟨n, 0, none⟩ = some (.string s)) : ∀ j u, (strS.enc s)[j]? = some u → W.cell? ⟨n, j, none⟩ = some u := by
  intro j u hj
  have hj0 : j = 0 := by
    have := (List.getElem?_eq_some_iff.1 hj).1
    simp [strS] at this; exact this
  subst hj0
  cases hj
  exact h
theorem strs_lit1 (w : World) (x : List UInt8) : OwnL strS (w.alloc (.cells #[.string (str x)] 9)) w.heap.size (.slice (some ⟨w.heap.size, 0, none⟩) 1 1) (strs [x]) :=
  World.ownsRow_lit w #[.string (str x)] 1 (Nat.le_refl _) (by unfold maxLen; omega) rfl
/-- The lines that are made, in memory of their own. -/
def TxO (w3 : World) (ov : Value) (pre : List (List UInt8)) (wr : World) : Prop := OwnL strS wr w3.heap.size ov (strs pre) ∧ Below w3.heap.size w3 wr
def Tx1 (p : Pg) (w3 : World) (ov iv : Value) (wr : World) : Prop := ∃ k : Nat, k ≤ p.curs.length ∧ iv = .int .i64 (k : Int) ∧ TxO w3 ov ([lineL [97, 118, 103, 115] p.avgs] ++ (p.curs.take k).map curL) wr
def Tx4 (p : Pg) (code : List Ins) (w3 : World) (ov iv : Value) (wr : World) : Prop := ∃ k : Nat, k ≤ code.length ∧ iv = .int .i64 (k : Int) ∧ TxO w3 ov (headL p ++ (code.take k).map insL) wr
def Tx2 (nl : List NrV) (w3 : World) (pre : List (List UInt8)) (ov iv : Value) (wr : World) : Prop := ∃ k : Nat, k ≤ nl.length ∧ iv = .int .i64 (k : Int) ∧ TxO w3 ov (pre ++ (nl.take k).map fun y => nearL y.n) wr
def Tx3 (n : Nr) (w5 : World) (sv iv : Value) (wr : World) : Prop := ∃ m : Nat, m ≤ n.cur.length ∧ iv = .int .i64 (m : Int) ∧ sv = .string (str (lineL [110, 101, 97, 114] [n.slop] ++ ((n.cur.zip n.off).take m).flatMap pairL)) ∧ Below w5.heap.size w5 wr
def cur1 (f : Int) : List UInt8 := lineL [99, 117, 114, 115, 111, 114] [f]
theorem Text_any (x : PgV) (p : Pg) (w : World) (ea : List Addr) (h : PgR w w.heap.size x p) (hs : SmallPg p) (hE : ErrFew w ea) (hT : TabEnv w) (hP : Pow10 w) :
    Calls Tryz.prog 16 #[x.val p] w (TxtRet (errI ea 20) .nilIface p w) := by
  obtain ⟨av, cv, nv, dv, kv, nl⟩ := x
  obtain ⟨aA, acap, rfl, -, -⟩ := h.avgs.open_
  obtain ⟨cA, ccap, rfl, -, -⟩ := h.curs.open_
  have hno : RdL nrS w w.heap.size nv nl := h.nears
  obtain ⟨nA, ncap, hnv, -, -⟩ := hno.open_
  subst hnv
  clear hno
  obtain ⟨dA, dcap, rfl, -, -⟩ := h.drive.open_
  obtain ⟨kA, kcap, rfl, -, -⟩ := h.code.open_
  have H := Lib.hid h; have HE := Lib.hid hE; have HT := Lib.hid hT; have HS := Lib.hid hs; have HP := Lib.hid hP
  have HNM := Lib.hid h.nmap
  have hl1 := hs.curs.2
  have hl2 : nl.length ≤ 2000000 := by have e := hs.nears.2; rw [← h.nmap, List.length_map] at e; exact Nat.le_trans e (by decide)
  clear h hE hT hs hP
  have hb0 : Below w.heap.size w (w.alloc (.cells #[.slice aA p.avgs.length acap, .slice cA p.curs.length ccap, .slice nA nl.length ncap, .bool p.all, .slice dA p.drive.length dcap, .slice kA p.code.length kcap] 28)) := (Below.refl _ _).alloc (Nat.le_refl _) _
  have HLD := Lib.hid (listed_any ⟨.slice aA p.avgs.length acap, .slice cA p.curs.length ccap, .slice nA nl.length ncap, .slice dA p.drive.length dcap, .slice kA p.code.length kcap, nl⟩ p _ ea ((H.out.below hb0).more hb0.size) HS.out (HE.out.below hb0) (HT.out.below hb0))
  simp only [PgV.val]
  go_enter Tryz.func16, Tryz.ntmps16
  go_wp2_with fail
  refine HLD.out.mono ?_
  rintro e w1 ⟨hb1, hm⟩
  have k0 : w1.cell? ⟨w.heap.size, 0, none⟩ = some (.slice aA p.avgs.length acap) := cellN hb1 rfl
  have k1 : w1.cell? ⟨w.heap.size, 1, none⟩ = some (.slice cA p.curs.length ccap) := cellN hb1 rfl
  have k2 : w1.cell? ⟨w.heap.size, 2, none⟩ = some (.slice nA nl.length ncap) := cellN hb1 rfl
  have k3 : w1.cell? ⟨w.heap.size, 3, none⟩ = some (.bool p.all) := cellN hb1 rfl
  have k4 : w1.cell? ⟨w.heap.size, 4, none⟩ = some (.slice dA p.drive.length dcap) := cellN hb1 rfl
  have kz : w.heap.size < w1.heap.size := World.block_lt_of_cell? w1 ⟨w.heap.size, 0, none⟩ k0
  have HB1 := Lib.hid (hb0.trans (hb1.mono hb0.size))
  have hz0 := hb0.size
  clear hb0 HLD
  generalize hRR : (if okP p = true then decI p.code else none) = R at hm
  have HRR := Lib.hid hRR
  clear hRR
  cases R with
  | none =>
    obtain rfl := hm
    have hc : w1.cell? ⟨16, 0, none⟩ = some (errI ea 20) := (HE.out.below HB1.out).cell 20 (by decide)
    clear hb1
    go_wp2
    go_region
    go_wp2
    go_ret2
    exact txtRet_no (textP_none HRR.out) HB1.out.drew
  | some code =>
    obtain ⟨rv, rfl, ho⟩ := hm
    obtain ⟨rA, rcap, rfl, -, -, -⟩ := ho.open_
    have HO := Lib.hid (RdL.of_own ho)
    have HTX := Lib.hid (textP_some HRR.out)
    have HOK := Lib.hid (okP_parts HTX.out.1)
    clear hb1 ho hz0
    go_wp2_with fail
    refine (line_any [97, 118, 103, 115] (.slice aA p.avgs.length acap) p.avgs w1 w.heap.size HB1.out.size (H.out.below HB1.out).avgs HS.out.avgs.1 HOK.out.1 (by decide) (by have := HS.out.avgs.2; omega) (HP.out.below HB1.out)).mono ?_
    rintro e w3 ⟨rfl, hb3⟩
    have m1 := (hb3.cell (p := ⟨w.heap.size, 1, none⟩) kz).trans k1
    have m2 := (hb3.cell (p := ⟨w.heap.size, 2, none⟩) kz).trans k2
    have m3 := (hb3.cell (p := ⟨w.heap.size, 3, none⟩) kz).trans k3
    have m4 := (hb3.cell (p := ⟨w.heap.size, 4, none⟩) kz).trans k4
    have kz3 : w.heap.size < w3.heap.size := Nat.lt_of_lt_of_le kz hb3.size
    have HB3 := Lib.hid (HB1.out.trans (hb3.mono HB1.out.size))
    have HO3 := Lib.hid ((HO.out.below hb3).more hb3.size)
    have HE3 := Lib.hid (HE.out.below HB3.out); have HT3 := Lib.hid (HT.out.below HB3.out); have HP3 := Lib.hid (HP.out.below HB3.out)
    have H3 := Lib.hid ((H.out.below HB3.out).more HB3.out.size)
    clear hb3 k0 k1 k2 k3 k4 kz HO HE HT HP
    go_wp2
    go_loopw [6, 32] (fun ov iv wr => Tx1 p w3 ov iv wr) (fun _ iv _ => p.curs.length - (intOf iv).toNat)
    case atStart => exact ⟨0, Nat.zero_le _, rfl, strs_lit1 _ _, (Below.refl _ _).alloc (Nat.le_refl _) _⟩
    case round =>
      obtain ⟨k, hk, rfl, ho, hb⟩ := hrel
      have HOW := Lib.hid ho; have HB := Lib.hid hb
      have hBr := hb.size
      have hlen : ([lineL [97, 118, 103, 115] p.avgs] ++ (p.curs.take k).map curL).length = 1 + k := by simp; omega
      have HLEN := Lib.hid hlen
      generalize hpre : [lineL [97, 118, 103, 115] p.avgs] ++ (p.curs.take k).map curL = pre at *
      have HPRE := Lib.hid hpre
      have n2 := (hb.cell (p := ⟨w.heap.size, 2, none⟩) kz3).trans m2
      clear ho hb hpre hlen
      by_cases hlt : k < p.curs.length
      · obtain ⟨a, rfl, hab, c0, c1⟩ := at_lf (H3.out.below HB.out).curs hlt
        have hsm := HS.out.curs.1 _ (List.getElem_mem hlt)
        have HF := Lib.hid (HOK.out.2.2.1 _ (List.getElem_mem hlt))
        have HNX := Lib.hid (show [lineL [97, 118, 103, 115] p.avgs] ++ (p.curs.take (k + 1)).map curL = pre ++ [curL p.curs[k]] from by
          rw [List.take_succ_eq_append_getElem hlt, List.map_append, ← List.append_assoc, HPRE.out]; rfl)
        generalize p.curs[k] = c at *
        have l1 := line1_len [99, 117, 114, 115, 111, 114] hsm.1.2
        have l2 := quoL_len c.term
        have l3 := hsm.2
        have HLN := Lib.hid (fun (W : World) (sv : Value) (hv : RdL intS W W.heap.size sv [c.field]) (hp : Pow10 W) => line_any [99, 117, 114, 115, 111, 114] sv [c.field] W W.heap.size (Nat.le_refl _) hv (SmallInts.one hsm.1) (neg_one HF.out) (by decide) (by simp) hp)
        have HQU := Lib.hid (fun (W : World) => quoted_any (str c.term) W (by rw [str_size]; omega))
        have q1 := fun W => str_add (P := Tryz.prog) (str (cur1 c.field)) ⟨#[32]⟩ (by rw [str_size, show (⟨#[32]⟩ : ByteArray).size = 1 from rfl]; unfold cur1; simp at l1; omega) W
        have q2 := fun W => str_add (P := Tryz.prog) (str (cur1 c.field) ++ ⟨#[32]⟩) (str (quoL c.term)) (by rw [ba_append_size, str_size, str_size, show (⟨#[32]⟩ : ByteArray).size = 1 from rfl]; unfold cur1; simp at l1; omega) W
        have HEQ := Lib.hid (show str (cur1 c.field) ++ ⟨#[32]⟩ ++ str (quoL c.term) = str (curL c) from by
          rw [show (⟨#[32]⟩ : ByteArray) = str [32] from rfl, str_cat2, str_cat2]; rfl)
        clear l1 l2 l3 hsm
        have d0 : (wr.alloc (.cells #[.int .i64 c.field, .string (str c.term)] 66)).cell? ⟨wr.heap.size, 0, none⟩ = some (.int .i64 c.field) := by rw [World.cell?_alloc_new]; rfl
        have d1 : (wr.alloc (.cells #[.int .i64 c.field, .string (str c.term)] 66)).cell? ⟨wr.heap.size, 1, none⟩ = some (.string (str c.term)) := by rw [World.cell?_alloc_new]; rfl
        have dz : wr.heap.size < (wr.alloc (.cells #[.int .i64 c.field, .string (str c.term)] 66)).heap.size := by rw [World.size_alloc]; omega
        have HB4 := Lib.hid (HB.out.alloc hBr (.cells #[.int .i64 c.field, .string (str c.term)] 66))
        have HW4 := Lib.hid (HOW.out.alloc (.cells #[.int .i64 c.field, .string (str c.term)] 66))
        go_wp2
        generalize wr.alloc (.cells #[.int .i64 c.field, .string (str c.term)] 66) = w4 at *
        have HC1 := Lib.hid (fun (W : World) (sv : Value) (hW : Below w4.heap.size w4 W) (hv : RdL intS W W.heap.size sv [c.field]) => (HLN.out W sv hv (HP3.out.below (HB4.out.trans (hW.mono HB4.out.size)))).mono (fun e W' h => show e = .returned (.string (str (cur1 c.field))) ∧ Below W.heap.size W W' ∧ Below w4.heap.size w4 W' ∧ W'.cell? ⟨wr.heap.size, 0, none⟩ = some (.int .i64 c.field) ∧ W'.cell? ⟨wr.heap.size, 1, none⟩ = some (.string (str c.term)) from
          ⟨h.1, h.2, hW.trans (h.2.mono hW.size), ((hW.trans (h.2.mono hW.size)).cell (p := ⟨wr.heap.size, 0, none⟩) dz).trans d0, ((hW.trans (h.2.mono hW.size)).cell (p := ⟨wr.heap.size, 1, none⟩) dz).trans d1⟩))
        have HC2 := Lib.hid (fun (W : World) (hW : Below w4.heap.size w4 W) => (HQU.out W).mono (fun e W' h => show e = .returned (.string (str (quoL c.term))) ∧ Below W.heap.size W W' ∧ Below w4.heap.size w4 W' ∧ W'.cell? ⟨wr.heap.size, 0, none⟩ = some (.int .i64 c.field) ∧ W'.cell? ⟨wr.heap.size, 1, none⟩ = some (.string (str c.term)) from
          ⟨by rw [h.1, str_data], h.2, hW.trans (h.2.mono hW.size), ((hW.trans (h.2.mono hW.size)).cell (p := ⟨wr.heap.size, 0, none⟩) dz).trans d0, ((hW.trans (h.2.mono hW.size)).cell (p := ⟨wr.heap.size, 1, none⟩) dz).trans d1⟩))
        have HZ4 := Lib.hid HB4.out.size
        have HLE := Lib.hid (show (strs pre).length + 1 ≤ 970000000000 by rw [strs_length, HLEN.out]; omega)
        go_region_law (first
          | ((with_reducible refine OwnL.stepAppend strOk (HW4.out.below (by repeat (first | assumption | exact Below.refl _ _ | with_reducible refine Below.drew ?_ | with_reducible refine Below.alloc ?_ (by first | exact Nat.le_refl _ | exact Below.size (by assumption)) _))) (str (cur1 c.field) ++ ⟨#[32]⟩ ++ str (quoL c.term)) _ rfl _ _ rfl rfl rfl (by refine strcell ?_; simp [World.cell?_alloc_new]) (Nat.le_trans HZ4.out (Below.size (B := w4.heap.size) (by repeat (first | assumption | exact Below.refl _ _ | with_reducible refine Below.drew ?_ | with_reducible refine Below.alloc ?_ (by first | exact Nat.le_refl _ | exact Below.size (by assumption)) _)))) HLE.out (fun v' w' h2 h3 h3k => ?_)); (have hfin := (HB4.out.trans (Below.mono (w := w4) (by repeat (first | assumption | exact Below.refl _ _ | with_reducible refine Below.drew ?_ | with_reducible refine Below.alloc ?_ (by first | exact Nat.le_refl _ | exact Below.size (by assumption)) _)) HZ4.out)).trans h3))
          | (go_simp; go_at_call 39; refine (HC1.out _ _ (by repeat (first | assumption | exact Below.refl _ _ | with_reducible refine Below.drew ?_ | with_reducible refine Below.alloc ?_ (by first | exact Nat.le_refl _ | exact Below.size (by assumption)) _)) (by refine rdl_one ?_; first | (simp [World.cell?_alloc_new]; done) | exact (hb5.cell (p := ⟨_, 0, none⟩) (by simp)).trans (by simp [World.cell?_alloc_new]))).mono ?_; rintro e w5 ⟨rfl, hb5, hb5', e0, e1⟩)
          | (go_simp; go_at_call 40; refine (HC2.out _ (by repeat (first | assumption | exact Below.refl _ _ | with_reducible refine Below.drew ?_ | with_reducible refine Below.alloc ?_ (by first | exact Nat.le_refl _ | exact Below.size (by assumption)) _))).mono ?_; rintro e w5 ⟨rfl, hb5, hb5', e0, e1⟩))
        --R8
        all_goals
          have H2 := Lib.hid h2; have HB5 := Lib.hid hfin
          clear h2 h3 h3k hfin
          go_wp2
          go_roundw
          case rel =>
            refine ⟨k + 1, by omega, by go_num, ?_, HB5.out⟩
            have h := H2.out
            rw [HNX.out, strs_snoc]
            rw [HEQ.out] at h
            exact h
          case measure => simp [intOf]; omega
      · have HC0 := Lib.hid (show pre = [lineL [97, 118, 103, 115] p.avgs] ++ p.curs.map curL from by rw [← HPRE.out, List.take_of_length_le (by omega)])
        have hle1 : pre.length ≤ 2000001 := by rw [HLEN.out]; omega
        generalize hb1 : pre = pre1 at *
        have kzr : w.heap.size < wr.heap.size := Nat.lt_of_lt_of_le kz3 hBr
        have HNL := Lib.hid hle1
        clear hb1 hle1
        go_wp2
        obtain ⟨wo, rfl⟩ : ∃ wo, wo = wr := ⟨_, rfl⟩
        go_loopw [6, 52] (fun ov iv wy => Tx2 nl w3 pre1 ov iv wy) (fun _ iv _ => nl.length - (intOf iv).toNat)
        case atStart => exact ⟨0, Nat.zero_le _, rfl, by simpa using HOW.out, HB.out⟩
        case round =>
          clear HOW HB hBr
          obtain ⟨i, hi, rfl, ho, hb⟩ := hrel
          have HOY := Lib.hid ho; have HBY := Lib.hid hb
          have hBy := hb.size
          have hlen : (pre1 ++ (nl.take i).map fun y => nearL y.n).length ≤ 2000001 + i := by have := HNL.out; simp; omega
          have HLEN2 := Lib.hid hlen
          generalize hpre : pre1 ++ (nl.take i).map (fun y => nearL y.n) = pre2 at *
          have HPRE2 := Lib.hid hpre
          have n3 := (hb.cell (p := ⟨w.heap.size, 3, none⟩) kz3).trans m3
          have n4 := (hb.cell (p := ⟨w.heap.size, 4, none⟩) kz3).trans m4
          clear ho hb hpre hlen
          by_cases hlt2 : i < nl.length
          · --NEAR
            obtain ⟨a, rfl, hab, c0, c1, c2⟩ := at_nr (H3.out.below HBY.out).nears hlt2
            have hin := H3.out.inner _ (List.getElem_mem hlt2)
            have hmm : nl[i].n ∈ p.nears := mem_near (x := ⟨.slice none 0 0, .slice none 0 0, .slice none 0 0, .slice none 0 0, .slice none 0 0, nl⟩) HNM.out hlt2
            have hsm := HS.out.nears.1 _ hmm
            have hok := okN_parts (HOK.out.2.2.2 _ hmm)
            have HNX := Lib.hid (show pre1 ++ (nl.take (i + 1)).map (fun y => nearL y.n) = pre2 ++ [nearL nl[i].n] from by
              rw [List.take_succ_eq_append_getElem hlt2, List.map_append, ← List.append_assoc, HPRE2.out]; rfl)
            generalize nl[i] = y at *
            obtain ⟨yca, ycc, yoa, yoc, yn⟩ := y
            simp only [] at c0 c1 c2 hin hmm hsm hok HNX
            have HIN := Lib.hid hin; have HSM := Lib.hid hsm; have HNO := Lib.hid hok
            have hyl : yn.cur.length ≤ 2000000 := Nat.le_trans hsm.2.1.2 (by decide)
            clear hin hmm hsm hok
            have d0 : (wr.alloc (.cells #[.slice yca yn.cur.length ycc, .slice yoa yn.off.length yoc, .int .i64 yn.slop] 68)).cell? ⟨wr.heap.size, 0, none⟩ = some (.slice yca yn.cur.length ycc) := by rw [World.cell?_alloc_new]; rfl
            have d1 : (wr.alloc (.cells #[.slice yca yn.cur.length ycc, .slice yoa yn.off.length yoc, .int .i64 yn.slop] 68)).cell? ⟨wr.heap.size, 1, none⟩ = some (.slice yoa yn.off.length yoc) := by rw [World.cell?_alloc_new]; rfl
            have dz : wr.heap.size < (wr.alloc (.cells #[.slice yca yn.cur.length ycc, .slice yoa yn.off.length yoc, .int .i64 yn.slop] 68)).heap.size := by rw [World.size_alloc]; omega
            have HBA := Lib.hid (HBY.out.alloc hBy (.cells #[.slice yca yn.cur.length ycc, .slice yoa yn.off.length yoc, .int .i64 yn.slop] 68))
            have HOA := Lib.hid (HOY.out.alloc (.cells #[.slice yca yn.cur.length ycc, .slice yoa yn.off.length yoc, .int .i64 yn.slop] 68))
            go_wp2_with fail
            have hbx : Below (wr.alloc (.cells #[.slice yca yn.cur.length ycc, .slice yoa yn.off.length yoc, .int .i64 yn.slop] 68)).heap.size (wr.alloc (.cells #[.slice yca yn.cur.length ycc, .slice yoa yn.off.length yoc, .int .i64 yn.slop] 68)) ((wr.alloc (.cells #[.slice yca yn.cur.length ycc, .slice yoa yn.off.length yoc, .int .i64 yn.slop] 68)).alloc (.cells #[.int .i64 yn.slop] 3)) := (Below.refl _ _).alloc (Nat.le_refl _) _
            have hP4 := HP3.out.below (HBA.out.trans (hbx.mono HBA.out.size))
            refine (line_any [110, 101, 97, 114] _ [yn.slop] _ _ (Nat.le_refl _) (rdl_one (alloc2_cell _ _ _ _)) (SmallInts.one HSM.out.1) (neg_one HNO.out.1) (by decide) (by simp) hP4).mono ?_
            rintro e w5 ⟨rfl, hb5⟩
            have hb6 := hbx.trans (hb5.mono hbx.size)
            have e0 := (hb6.cell (p := ⟨wr.heap.size, 0, none⟩) dz).trans d0
            have e1 := (hb6.cell (p := ⟨wr.heap.size, 1, none⟩) dz).trans d1
            have ez : wr.heap.size < w5.heap.size := Nat.lt_of_lt_of_le dz hb6.size
            have HB5 := Lib.hid (HBA.out.trans (hb6.mono HBA.out.size))
            have HO5 := Lib.hid (HOA.out.below hb6)
            clear hbx hP4 hb5 hb6 d0 d1 dz HBA HOA
            go_wp2
            obtain ⟨wp, rfl⟩ : ∃ wp, wp = wr := ⟨_, rfl⟩
            go_loopw [11, 63] (fun sv iv wy => Tx3 yn w5 sv iv wy) (fun _ iv _ => yn.cur.length - (intOf iv).toNat)
            case atStart => exact ⟨0, Nat.zero_le _, rfl, by simp, Below.refl _ _⟩
            case round =>
              obtain ⟨m, hm, rfl, rfl, hb⟩ := hrel
              have HBZ := Lib.hid hb
              clear hb
              by_cases hlt3 : m < yn.cur.length
              · --PAIR
                have hlo : m < yn.off.length := by have := HNO.out.2.2.2; omega
                obtain ⟨a, rfl, hab, c0⟩ := at_int (HIN.out.1.below (HB5.out.trans (HBZ.out.mono HB5.out.size))) hlt3
                obtain ⟨b, rfl, hbb, c1⟩ := at_int (HIN.out.2.below (HB5.out.trans (HBZ.out.mono HB5.out.size))) hlo
                have HZY := Lib.hid (HB5.out.trans (HBZ.out.mono HB5.out.size))
                have f1 := (HBZ.out.cell (p := ⟨wp.heap.size, 1, none⟩) ez).trans e1
                have fz : wp.heap.size < wr.heap.size := Nat.lt_of_lt_of_le ez HBZ.out.size
                have hbb2 : (b.add m).block < wr.heap.size := Nat.lt_of_lt_of_le hbb HZY.out.size
                have hx1 := neg_false HNO.out.2.1 _ (List.getElem_mem hlt3)
                have hx2 := neg_false HNO.out.2.2.1 _ (List.getElem_mem hlo)
                have hx3 := HSM.out.2.1.1 _ (List.getElem_mem hlt3)
                have hx4 := HSM.out.2.2.1 _ (List.getElem_mem hlo)
                have hz := zip_snoc hlt3 hlo
                generalize yn.cur[m] = xc at *
                generalize yn.off[m] = xo at *
                obtain ⟨xn, rfl⟩ : ∃ n : Nat, xc = (n : Int) := ⟨xc.toNat, by omega⟩
                obtain ⟨zn, rfl⟩ : ∃ n : Nat, xo = (n : Int) := ⟨xo.toNat, by omega⟩
                have hsz : (str (lineL [110, 101, 97, 114] [yn.slop] ++ ((yn.cur.zip yn.off).take m).flatMap pairL)).size ≤ 100000000 := by
                  rw [str_size, List.length_append]
                  have g1 := line1_len [110, 101, 97, 114] HSM.out.1.2
                  have g2 := pairs_len (yn.cur.zip yn.off) m (fun q hq => by
                    have := List.of_mem_zip hq
                    exact ⟨(HSM.out.2.1.1 _ this.1).2, (HSM.out.2.2.1 _ this.2).2⟩)
                  simp only [List.length_cons, List.length_nil] at g1
                  omega
                have HNX3 := Lib.hid (show str (lineL [110, 101, 97, 114] [yn.slop] ++ ((yn.cur.zip yn.off).take m).flatMap pairL) ++ (⟨#[32]⟩ ++ str (dgt xn) ++ ⟨#[43]⟩ ++ str (dgt zn)) = str (lineL [110, 101, 97, 114] [yn.slop] ++ ((yn.cur.zip yn.off).take (m + 1)).flatMap pairL) from by
                  rw [hz, show (⟨#[32]⟩ : ByteArray) = str [32] from rfl, show (⟨#[43]⟩ : ByteArray) = str [43] from rfl, str_cat2, str_cat2, str_cat2, str_cat2]
                  simp [pairL, numC])
                generalize str (lineL [110, 101, 97, 114] [yn.slop] ++ ((yn.cur.zip yn.off).take m).flatMap pairL) = sb at *
                have g1 := dgt_len xn (by omega)
                have g2 := dgt_len zn (by omega)
                have q1 := fun W => str_add (P := Tryz.prog) ⟨#[32]⟩ (str (dgt xn)) (by rw [str_size, show (⟨#[32]⟩ : ByteArray).size = 1 from rfl]; omega) W
                have q2 := fun W => str_add (P := Tryz.prog) (⟨#[32]⟩ ++ str (dgt xn)) ⟨#[43]⟩ (by rw [ba_append_size, str_size, show (⟨#[32]⟩ : ByteArray).size = 1 from rfl, show (⟨#[43]⟩ : ByteArray).size = 1 from rfl]; omega) W
                have q3 := fun W => str_add (P := Tryz.prog) (⟨#[32]⟩ ++ str (dgt xn) ++ ⟨#[43]⟩) (str (dgt zn)) (by rw [ba_append_size, ba_append_size, str_size, str_size, show (⟨#[32]⟩ : ByteArray).size = 1 from rfl, show (⟨#[43]⟩ : ByteArray).size = 1 from rfl]; omega) W
                have q4 := fun W => str_add (P := Tryz.prog) sb (⟨#[32]⟩ ++ str (dgt xn) ++ ⟨#[43]⟩ ++ str (dgt zn)) (by rw [ba_append_size, ba_append_size, ba_append_size, str_size, str_size, show (⟨#[32]⟩ : ByteArray).size = 1 from rfl, show (⟨#[43]⟩ : ByteArray).size = 1 from rfl]; omega) W
                have HI1 := Lib.hid (fun (W : World) (hW : W.cell? ⟨wp.heap.size, 1, none⟩ = some (.slice (some b) yn.off.length yoc) ∧ W.cell? (b.add m) = some (.int .i64 (zn : Int)) ∧ Below wr.heap.size wr W) => (Itoa_any xn (by omega) W (HP3.out.below (HZY.out.trans (hW.2.2.mono HZY.out.size)))).mono (fun e W' h => show e = .returned (.string (str (dgt xn))) ∧ (W'.cell? ⟨wp.heap.size, 1, none⟩ = some (.slice (some b) yn.off.length yoc) ∧ W'.cell? (b.add m) = some (.int .i64 (zn : Int)) ∧ Below wr.heap.size wr W') from
                  ⟨h.1, ((hW.2.2.trans (h.2.mono hW.2.2.size)).cell (p := ⟨wp.heap.size, 1, none⟩) fz).trans f1, ((hW.2.2.trans (h.2.mono hW.2.2.size)).cell hbb2).trans c1, hW.2.2.trans (h.2.mono hW.2.2.size)⟩))
                have HI2 := Lib.hid (fun (W : World) (hW : W.cell? ⟨wp.heap.size, 1, none⟩ = some (.slice (some b) yn.off.length yoc) ∧ W.cell? (b.add m) = some (.int .i64 (zn : Int)) ∧ Below wr.heap.size wr W) => (Itoa_any zn (by omega) W (HP3.out.below (HZY.out.trans (hW.2.2.mono HZY.out.size)))).mono (fun e W' h => show e = .returned (.string (str (dgt zn))) ∧ (W'.cell? ⟨wp.heap.size, 1, none⟩ = some (.slice (some b) yn.off.length yoc) ∧ W'.cell? (b.add m) = some (.int .i64 (zn : Int)) ∧ Below wr.heap.size wr W') from
                  ⟨h.1, ((hW.2.2.trans (h.2.mono hW.2.2.size)).cell (p := ⟨wp.heap.size, 1, none⟩) fz).trans f1, ((hW.2.2.trans (h.2.mono hW.2.2.size)).cell hbb2).trans c1, hW.2.2.trans (h.2.mono hW.2.2.size)⟩))
                clear g1 g2 hx1 hx2 hx3 hx4 hz hsz
                go_wp2
                go_region_held3 (fun w' => w'.cell? ⟨wp.heap.size, 1, none⟩ = some (.slice (some b) yn.off.length yoc) ∧ w'.cell? (b.add m) = some (.int .i64 (zn : Int)) ∧ Below wr.heap.size wr w') (refine ⟨?_, ?_, ?_⟩ <;> (first | assumption | exact Below.refl _ _ | exact (Below.refl _ _).drew | (with_reducible refine Below.drew ?_; assumption) | go_keep)) (first | ((with_reducible refine (HI1.out _ ?_).mono ?_); (refine ⟨?_, ?_, ?_⟩ <;> (first | assumption | exact Below.refl _ _ | exact (Below.refl _ _).drew | (with_reducible refine Below.drew ?_; assumption) | go_keep)); rintro e w' ⟨rfl, hk1, hk2, hk3⟩) | ((with_reducible refine (HI2.out _ ?_).mono ?_); (refine ⟨?_, ?_, ?_⟩ <;> (first | assumption | exact Below.refl _ _ | exact (Below.refl _ _).drew | (with_reducible refine Below.drew ?_; assumption) | go_keep)); rintro e w' ⟨rfl, hk1, hk2, hk3⟩))
                all_goals
                  rename_i hfin
                  have HBF := Lib.hid (HBZ.out.trans (hfin.2.2.mono HBZ.out.size))
                  clear hfin
                  go_wp2
                  go_roundw
                  case rel => exact ⟨m + 1, by omega, by go_num, by rw [HNX3.out], HBF.out⟩
                  case measure => simp [intOf]; omega
              · --NEND
                have HZY := Lib.hid (HB5.out.trans (HBZ.out.mono HB5.out.size))
                have HOZ := Lib.hid (HO5.out.below HBZ.out)
                have HNE := Lib.hid (show str (lineL [110, 101, 97, 114] [yn.slop] ++ ((yn.cur.zip yn.off).take m).flatMap pairL) = str (nearL yn) from by
                  rw [List.take_of_length_le (by rw [List.length_zip]; omega)]; rfl)
                have hzs := HZY.out.size
                have hal : (strs pre2).length + 1 ≤ 970000000000 := by rw [strs_length]; have := HLEN2.out; omega
                generalize str (lineL [110, 101, 97, 114] [yn.slop] ++ ((yn.cur.zip yn.off).take m).flatMap pairL) = sb at *
                go_wp2_with (at_builtin; refine OwnL.append strOk HOZ.out sb rfl _ _ rfl rfl rfl _ rfl hzs hal ?_; intro v6 w6 ho6 hb6; have HO6 := Lib.hid ho6; have HB6 := Lib.hid (HZY.out.trans hb6); clear ho6 hb6)
                go_roundw
                case rel =>
                  refine ⟨i + 1, by omega, by go_num, ?_, HB6.out⟩
                  have h := HO6.out
                  rw [HNE.out] at h
                  rw [HNX.out, strs_snoc]
                  exact h
                case measure => simp [intOf]; omega
          · --TAIL
            have HC2 := Lib.hid (show pre2 = [lineL [97, 118, 103, 115] p.avgs] ++ p.curs.map curL ++ p.nears.map nearL from by
              rw [← HPRE2.out, HC0.out, List.take_of_length_le (by omega), ← HNM.out, List.map_map]; rfl)
            have HHD := Lib.hid (show headL p = pre2 ++ (if p.all = true then [[101, 118, 101, 114, 121]] else []) ++ (if p.drive ≠ [] then [lineL [100, 114, 105, 118, 101] p.drive] else []) from by rw [HC2.out]; rfl)
            have hal : (strs pre2).length + 1 ≤ 970000000000 := by rw [strs_length]; have := HLEN2.out; omega
            generalize p.all = ball at *
            have hdl : p.drive.length ≤ 1048576 := HS.out.drive.2
            go_upto_if 88 with (fail)
            go_cut [6] (fun ov wx => TxO w3 ov (pre2 ++ (if ball = true then [[101, 118, 101, 114, 121]] else [])) wx)
            case first =>
              cases ball
              · go_wp2
                go_meet
                exact ⟨by rw [if_neg (by decide), List.append_nil]; exact HOY.out, HBY.out⟩
              · go_wp2_with (at_builtin; refine OwnL.append strOk HOY.out ⟨#[101, 118, 101, 114, 121]⟩ rfl _ _ rfl rfl rfl _ rfl hBy hal ?_; intro v6 w6 ho6 hb6; have HO6 := Lib.hid ho6; have HB6 := Lib.hid (HBY.out.trans hb6); clear ho6 hb6)
                go_meet
                exact ⟨by simp only [if_true, strs_snoc]; exact HO6.out, HB6.out⟩
            case rest =>
            obtain ⟨ho, hb⟩ := hcut
            have HO7 := Lib.hid ho; have HB7 := Lib.hid hb
            have hB7 := hb.size
            have hpl : (pre2 ++ (if ball = true then [[101, 118, 101, 114, 121]] else [])).length ≤ pre2.length + 1 := by split <;> simp
            generalize pre2 ++ (if ball = true then [[101, 118, 101, 114, 121]] else []) = pre3 at *
            have n6 := (hb.cell (p := ⟨w.heap.size, 4, none⟩) kz3).trans m4
            have hal3 : (strs pre3).length + 1 ≤ 970000000000 := by rw [strs_length]; have := HLEN2.out; omega
            clear ho hb HOY HBY hBy n3 n4 hal hpl
            go_upto_if 95 with (fail)
            go_cut [6] (fun ov wx => TxO w3 ov (headL p) wx)
            case first =>
              by_cases hD : 0 < p.drive.length
              · have HDN := Lib.hid (show headL p = pre3 ++ [lineL [100, 114, 105, 118, 101] p.drive] from by rw [HHD.out, if_pos (by intro e; rw [e] at hD; simp at hD)])
                go_wp2_with fail
                refine (line_any [100, 114, 105, 118, 101] _ p.drive wc w3.heap.size HB7.out.size (H3.out.below HB7.out).drive HS.out.drive.1 HOK.out.2.1 (by decide) (by omega) (HP3.out.below HB7.out)).mono ?_
                rintro e w7 ⟨rfl, hb7⟩
                have HO9 := Lib.hid (HO7.out.below hb7)
                have HB9 := Lib.hid (HB7.out.trans (hb7.mono HB7.out.size))
                have hz7 := HB9.out.size
                clear hb7
                go_wp2_with (at_builtin; refine OwnL.append strOk HO9.out (str (lineL [100, 114, 105, 118, 101] p.drive)) rfl _ _ rfl rfl rfl _ rfl hz7 hal3 ?_; intro v9 w9 ho9 hb9; have HOD := Lib.hid ho9; have HBD := Lib.hid (HB9.out.trans hb9); clear ho9 hb9)
                go_meet
                exact ⟨by rw [HDN.out, strs_snoc]; exact HOD.out, HBD.out⟩
              · have HDN := Lib.hid (show headL p = pre3 from by rw [HHD.out, if_neg (by intro e; exact hD (List.length_pos_iff.2 e)), List.append_nil])
                go_wp2
                go_meet
                exact ⟨by rw [HDN.out]; exact HO7.out, HB7.out⟩
            case rest =>
            obtain ⟨ho, hb⟩ := hcut
            have HO8 := Lib.hid ho; have HB8 := Lib.hid hb
            clear ho hb HO7 HB7 hB7 n6 hal3 HHD HC2 HLEN2 HPRE2
            go_wp2
            go_loopw [6, 104] (fun ov iv wy => Tx4 p code w3 ov iv wy) (fun _ iv _ => code.length - (intOf iv).toNat)
            case atStart => exact ⟨0, Nat.zero_le _, rfl, by simpa using HO8.out, HB8.out⟩
            case round =>
              clear HO8 HB8
              obtain ⟨j, hj, rfl, ho, hb⟩ := hrel
              have HOY := Lib.hid ho; have HBY := Lib.hid hb
              have hBy := hb.size
              clear ho hb
              by_cases hlt4 : j < code.length
              · --CODE
                obtain ⟨a, rfl, hab, c0, c1, c2⟩ := at_ins (HO3.out.below HBY.out) hlt4
                have hmem := List.getElem_mem hlt4
                have hin := insOk_op (List.all_eq_true.1 (encI_decI HTX.out.2.1).1 _ hmem)
                have hsm := (encI_decI HTX.out.2.1).2.1 _ hmem
                have HNX := Lib.hid (show headL p ++ (code.take (j + 1)).map insL = (headL p ++ (code.take j).map insL) ++ [insL code[j]] from by
                  rw [List.take_succ_eq_append_getElem hlt4, List.map_append, ← List.append_assoc]; rfl)
                have hal : (strs (headL p ++ (code.take j).map insL)).length + 1 ≤ 970000000000 := by
                  have h := (text_small HS.out HTX.out.2.1).1
                  rw [strs_length]
                  unfold linesL at h
                  rw [List.length_append, List.length_map] at h ⊢
                  rw [List.length_take]
                  omega
                generalize headL p ++ (code.take j).map insL = pre4 at *
                clear hmem
                generalize code[j] = x at *
                obtain ⟨op, xa, xb⟩ := x
                simp only [] at c0 c1 c2 hin hsm
                obtain ⟨o, rfl⟩ : ∃ o : Nat, op = (o : Int) := ⟨op.toNat, by omega⟩
                have ho17 : o < 17 := by omega
                have hT := HT3.out.below HBY.out
                have t0 : wr.cell? ⟨17, o * 2, none⟩ = some (.string (str (opName o))) := by rw [Nat.mul_comm]; exact hT.name o ho17
                have t1 : wr.cell? ⟨17, o * 2 + 1, none⟩ = some (.int .i64 (opArgs o)) := by rw [Nat.mul_comm]; exact hT.args o ho17
                have hg := hT.lt
                have hbd := opArgs_bd o
                have hbA : Below wr.heap.size wr (wr.alloc (.cells #[.int .i64 (o : Int), .int .u64 (xa : Int), .int .u64 (xb : Int)] 43)) := (Below.refl _ _).alloc (Nat.le_refl _) _
                have HBA := Lib.hid (HBY.out.trans (hbA.mono hBy))
                have HOA := Lib.hid (HOY.out.below hbA)
                have d0 : (wr.alloc (.cells #[.int .i64 (o : Int), .int .u64 (xa : Int), .int .u64 (xb : Int)] 43)).cell? ⟨wr.heap.size, 0, none⟩ = some (.int .i64 (o : Int)) := by rw [World.cell?_alloc_new]; rfl
                have d1 : (wr.alloc (.cells #[.int .i64 (o : Int), .int .u64 (xa : Int), .int .u64 (xb : Int)] 43)).cell? ⟨wr.heap.size, 1, none⟩ = some (.int .u64 (xa : Int)) := by rw [World.cell?_alloc_new]; rfl
                have d2 : (wr.alloc (.cells #[.int .i64 (o : Int), .int .u64 (xa : Int), .int .u64 (xb : Int)] 43)).cell? ⟨wr.heap.size, 2, none⟩ = some (.int .u64 (xb : Int)) := by rw [World.cell?_alloc_new]; rfl
                have dz : wr.heap.size < (wr.alloc (.cells #[.int .i64 (o : Int), .int .u64 (xa : Int), .int .u64 (xb : Int)] 43)).heap.size := by rw [World.size_alloc]; omega
                have dt := (hbA.cell (p := ⟨17, o * 2 + 1, none⟩) hg).trans t1
                have dn := (hbA.cell (p := ⟨17, o * 2, none⟩) hg).trans t0
                have dg : 17 < (wr.alloc (.cells #[.int .i64 (o : Int), .int .u64 (xa : Int), .int .u64 (xb : Int)] 43)).heap.size := Nat.lt_trans hg dz
                have hzA := HBA.out.size
                have HPA := Lib.hid (HP3.out.below HBA.out)
                have gn := opName_len o
                have ga := dgt_len xa hsm.1
                have gb := dgt_len xb hsm.2
                have hcl := Nat.le_trans (decI_len HTX.out.2.1) HS.out.code
                clear hT hbA
                go_upto_region 28 with fail
                generalize wr.alloc (.cells #[.int .i64 (o : Int), .int .u64 (xa : Int), .int .u64 (xb : Int)] 43) = w4 at *
                rcases (by omega : opArgs o = 0 ∨ opArgs o = 1 ∨ opArgs o = 2) with h0 | h0 | h0
                · have HIX := Lib.hid (show insL ⟨(o : Int), xa, xb⟩ = opName o from insL_0 h0)
                  rw [h0] at t1 dt
                  clear h0
                  go_wp2_with (at_builtin; refine OwnL.append strOk HOA.out (str (opName o)) rfl _ _ rfl rfl rfl _ rfl hzA hal ?_; intro v6 w6 ho6 hb6; have HO6 := Lib.hid ho6; have HB6 := Lib.hid (HBA.out.trans hb6); clear ho6 hb6)
                  go_roundw
                  case rel =>
                    refine ⟨j + 1, by omega, by go_num, ?_, HB6.out⟩
                    rw [HNX.out, strs_snoc, HIX.out]
                    exact HO6.out
                  case measure => simp [intOf]; omega
                · have HIX := Lib.hid (show str (insL ⟨(o : Int), xa, xb⟩) = str (opName o) ++ (⟨#[32]⟩ ++ str (dgt xa)) from by
                    rw [insL_1 h0, show (⟨#[32]⟩ : ByteArray) = str [32] from rfl, str_cat2, str_cat2])
                  rw [h0] at t1 dt
                  clear h0
                  have q1 := fun W => str_add (P := Tryz.prog) ⟨#[32]⟩ (str (dgt xa)) (by rw [str_size, show (⟨#[32]⟩ : ByteArray).size = 1 from rfl]; omega) W
                  have q2 := fun W => str_add (P := Tryz.prog) (str (opName o)) (⟨#[32]⟩ ++ str (dgt xa)) (by rw [ba_append_size, str_size, str_size, show (⟨#[32]⟩ : ByteArray).size = 1 from rfl]; omega) W
                  go_wp2_with fail
                  refine ((FormatUint_any xa hsm.1 _ HPA.out).mono (fun e W h => show e = .returned (.string (str (dgt xa))) ∧ Below _ _ W from h)).mono ?_
                  rintro e w5 ⟨rfl, hb5⟩
                  have f0 := (hb5.cell (p := ⟨wr.heap.size, 0, none⟩) dz).trans d0
                  have ft := (hb5.cell (p := ⟨17, o * 2 + 1, none⟩) dg).trans dt
                  have HO5 := Lib.hid (HOA.out.below hb5)
                  have HB5 := Lib.hid (HBA.out.trans (hb5.mono hzA))
                  have hz5 := HB5.out.size
                  clear hb5
                  go_wp2_with (at_builtin; refine OwnL.append strOk HO5.out (str (opName o) ++ (⟨#[32]⟩ ++ str (dgt xa))) rfl _ _ rfl rfl rfl _ rfl hz5 hal ?_; intro v6 w6 ho6 hb6; have HO6 := Lib.hid ho6; have HB6 := Lib.hid (HB5.out.trans hb6); clear ho6 hb6)
                  go_roundw
                  case rel =>
                    refine ⟨j + 1, by omega, by go_num, ?_, HB6.out⟩
                    rw [HNX.out, strs_snoc, HIX.out]
                    exact HO6.out
                  case measure => simp [intOf]; omega
                · have HIX := Lib.hid (show str (insL ⟨(o : Int), xa, xb⟩) = str (opName o) ++ (⟨#[32]⟩ ++ str (dgt xa)) ++ (⟨#[32]⟩ ++ str (dgt xb)) from by
                    rw [insL_2 h0, show (⟨#[32]⟩ : ByteArray) = str [32] from rfl, str_cat2, str_cat2, str_cat2, str_cat2])
                  rw [h0] at t1 dt
                  clear h0
                  have q1 := fun W => str_add (P := Tryz.prog) ⟨#[32]⟩ (str (dgt xa)) (by rw [str_size, show (⟨#[32]⟩ : ByteArray).size = 1 from rfl]; omega) W
                  have q2 := fun W => str_add (P := Tryz.prog) (str (opName o)) (⟨#[32]⟩ ++ str (dgt xa)) (by rw [ba_append_size, str_size, str_size, show (⟨#[32]⟩ : ByteArray).size = 1 from rfl]; omega) W
                  have q3 := fun W => str_add (P := Tryz.prog) ⟨#[32]⟩ (str (dgt xb)) (by rw [str_size, show (⟨#[32]⟩ : ByteArray).size = 1 from rfl]; omega) W
                  have q4 := fun W => str_add (P := Tryz.prog) (str (opName o) ++ (⟨#[32]⟩ ++ str (dgt xa))) (⟨#[32]⟩ ++ str (dgt xb)) (by rw [ba_append_size, ba_append_size, ba_append_size, str_size, str_size, str_size, show (⟨#[32]⟩ : ByteArray).size = 1 from rfl]; omega) W
                  go_wp2_with fail
                  refine ((FormatUint_any xa hsm.1 _ HPA.out).mono (fun e W h => show e = .returned (.string (str (dgt xa))) ∧ Below _ _ W from h)).mono ?_
                  rintro e w5 ⟨rfl, hb5⟩
                  have f0 := (hb5.cell (p := ⟨wr.heap.size, 0, none⟩) dz).trans d0
                  have f2 := (hb5.cell (p := ⟨wr.heap.size, 2, none⟩) dz).trans d2
                  have ft := (hb5.cell (p := ⟨17, o * 2 + 1, none⟩) dg).trans dt
                  have HO5 := Lib.hid (HOA.out.below hb5)
                  have HB5 := Lib.hid (HBA.out.trans (hb5.mono hzA))
                  have HP5 := Lib.hid (HPA.out.below hb5)
                  have hz5 := HB5.out.size
                  clear hb5
                  go_wp2_with fail
                  refine ((FormatUint_any xb hsm.2 _ HP5.out).mono (fun e W h => show e = .returned (.string (str (dgt xb))) ∧ Below _ _ W from h)).mono ?_
                  rintro e w8 ⟨rfl, hb8⟩
                  have HO9 := Lib.hid (HO5.out.below hb8)
                  have HB9 := Lib.hid (HB5.out.trans (hb8.mono hz5))
                  have hz9 := HB9.out.size
                  clear hb8
                  go_wp2_with (at_builtin; refine OwnL.append strOk HO9.out (str (opName o) ++ (⟨#[32]⟩ ++ str (dgt xa)) ++ (⟨#[32]⟩ ++ str (dgt xb))) rfl _ _ rfl rfl rfl _ rfl hz9 hal ?_; intro v6 w6 ho6 hb6; have HO6 := Lib.hid ho6; have HB6 := Lib.hid (HB9.out.trans hb6); clear ho6 hb6)
                  go_roundw
                  case rel =>
                    refine ⟨j + 1, by omega, by go_num, ?_, HB6.out⟩
                    rw [HNX.out, strs_snoc, HIX.out]
                    exact HO6.out
                  case measure => simp [intOf]; omega
              · --JOIN
                have hts := text_small HS.out HTX.out.2.1
                have ho := HOY.out
                rw [show headL p ++ (code.take j).map insL = linesL p code from by rw [List.take_of_length_le (by omega)]; rfl] at ho
                have hne : linesL p code ≠ [] := by unfold linesL headL; simp
                have hpos : 0 < (strs (linesL p code)).length := by rw [strs_length]; exact List.length_pos_iff.2 hne
                obtain ⟨A, cap, rfl, hc1, hc2, -⟩ := ho.open_
                obtain ⟨gg, rfl⟩ : ∃ g, A = some ⟨g, 0, none⟩ := by obtain ⟨g, h, _⟩ := ho.at_ strOk (k := 0) hpos; exact ⟨g, h⟩
                have hcells : ∀ (k : Nat) x, (strs (linesL p code))[k]? = some x → wr.cell? ⟨gg, 0 + k, none⟩ = some (.string x) := by
                  intro k x hk
                  obtain ⟨hk2, rfl⟩ := List.getElem?_eq_some_iff.1 hk
                  obtain ⟨g, h, h2⟩ := ho.at_ strOk hk2
                  cases h
                  have := h2 0 _ (by decide) rfl
                  simpa [strS] using this
                have hjl : (Lib.join ((strs (linesL p code)).map (·.data.toList)) (⟨#[10]⟩ : ByteArray).data.toList).length ≤ 138700000000000 := by
                  rw [strs_data]
                  have e := congrArg List.length (unl_join (linesL p code) hne)
                  rw [List.length_append] at e
                  have h2 := hts.2
                  show (Lib.join (linesL p code) [10]).length ≤ _
                  omega
                have HJ := Lib.hid (Tryz.strings_Join gg 0 cap (strs (linesL p code)) ⟨#[10]⟩ wr hcells (World.block_lt_of_cell? wr ⟨gg, 0, none⟩ (hcells 0 _ (List.getElem?_eq_getElem hpos))) (by rw [strs_length]; omega) hc1 (Nat.le_trans hjl (by decide)))
                have HEQ := Lib.hid (show (⟨(Lib.join ((strs (linesL p code)).map (·.data.toList)) (⟨#[10]⟩ : ByteArray).data.toList).toArray⟩ : ByteArray) ++ ⟨#[10]⟩ = str (unl (linesL p code)) from by
                  rw [strs_data, ← unl_join (linesL p code) hne, ← str_cat2]; rfl)
                have qj := fun W => str_add (P := Tryz.prog) (⟨(Lib.join ((strs (linesL p code)).map (·.data.toList)) (⟨#[10]⟩ : ByteArray).data.toList).toArray⟩ : ByteArray) ⟨#[10]⟩ (by
                  have e : (⟨(Lib.join ((strs (linesL p code)).map (·.data.toList)) (⟨#[10]⟩ : ByteArray).data.toList).toArray⟩ : ByteArray).size = (Lib.join ((strs (linesL p code)).map (·.data.toList)) (⟨#[10]⟩ : ByteArray).data.toList).length := str_size _
                  rw [e, show (⟨#[10]⟩ : ByteArray).size = 1 from rfl]; omega) W
                have hjb := HJ.out
                generalize (⟨(Lib.join ((strs (linesL p code)).map (·.data.toList)) (⟨#[10]⟩ : ByteArray).data.toList).toArray⟩ : ByteArray) = js at *
                have HJ2 := Lib.hid hjb
                clear hjb hjl hts ho hcells hpos hne HJ
                go_wp2_with fail
                refine HJ2.out.mono ?_
                rintro e w9 ⟨rfl, hb9⟩
                have HB9 := Lib.hid (HBY.out.trans (hb9.mono hBy))
                clear hb9
                go_wp2
                go_ret2
                exact txtRet_ok HTX.out.2.2 HEQ.out (HB3.out.trans (HB9.out.mono HB3.out.size))
end Go.Proofs.YtmdpfikalekmlaaGreatDoor
end
section
/- Layer 20: the laws' lives. -/
namespace Go.Proofs.YtmdpfikalekmlaaGreatDoor
open Go.RowKit
set_option maxRecDepth 100000
set_option maxHeartbeats 4000000
set_option linter.unusedSimpArgs false
set_option linter.unusedVariables false

def lvI : List Ins := [⟨2, 0, 0⟩, ⟨12, 300, 0⟩, ⟨0, 0, 0⟩]
def lvP : Pg := ⟨[3], [], [], true, [], [2, 12, 172, 2, 0]⟩
theorem lv_ok : lvI.all insOk = true := by kernel_rfl
theorem lv_small : SmallIns lvI := by
  intro x hx
  simp only [lvI, List.mem_cons, List.not_mem_nil, or_false] at hx
  rcases hx with rfl | rfl | rfl <;> decide
theorem lv_enc : encI lvI = [2, 12, 172, 2, 0] := by
  have h : uvL 300 = [172, 2] := by rw [uvL_big (by decide), uvL_small (by decide)]; rfl
  unfold encI lvI
  simp only [List.flatMap_cons, List.flatMap_nil, insB]
  rw [show argsN 2 = some 0 from rfl, show argsN 12 = some 1 from rfl, show argsN 0 = some 0 from rfl]
  simp only []
  rw [h]; rfl
theorem lv_dec : decI lvP.code = some lvI := by
  have h := decI_encI lv_ok lv_small
  rw [lv_enc] at h
  exact h
theorem lv_text : textP lvP = some [97, 118, 103, 115, 32, 51, 10, 101, 118, 101, 114, 121, 10, 97, 108, 108, 10, 115, 99, 97, 108, 101, 32, 51, 48, 48, 10, 101, 110, 100, 10] := by
  have h3 : dgt 3 = [51] := dgt_small (by decide)
  have h30 : dgt 30 = [51, 48] := by rw [dgt_big (by decide), show 30 / 10 = 3 from rfl, h3]; rfl
  have h300 : dgt 300 = [51, 48, 48] := by rw [dgt_big (by decide), show 300 / 10 = 30 from rfl, h30]; rfl
  have hu := (textP_some (p := lvP) (code := lvI) (by rw [if_pos (by decide), lv_dec])).2.2
  rw [hu]
  have e1 : lineL [97, 118, 103, 115] lvP.avgs = [97, 118, 103, 115, 32, 51] := by
    unfold lineL lvP numC
    simp only [List.flatMap_cons, List.flatMap_nil]
    rw [show (3 : Int).toNat = 3 from rfl, h3]; rfl
  have e2 : insL ⟨2, 0, 0⟩ = [97, 108, 108] := insL_0 (o := 2) rfl
  have e3 : insL ⟨12, 300, 0⟩ = [115, 99, 97, 108, 101, 32, 51, 48, 48] := by rw [show insL ⟨12, 300, 0⟩ = _ from insL_1 (o := 12) rfl, h300]; rfl
  have e4 : insL ⟨0, 0, 0⟩ = [101, 110, 100] := insL_0 (o := 0) rfl
  unfold linesL headL
  rw [e1]
  unfold lvI
  simp only [List.map_cons, List.map_nil, e2, e3, e4]
  rfl
theorem lives_any (w : World) (ea : List Addr) (hE : ErrFew w ea) (hT : TabEnv w) (hP : Pow10 w) :
    Calls Tryz.prog 5 #[] w fun e w' => e = .returned (.bool true) ∧ Below w.heap.size w w' := by
  have HE := Lib.hid hE; have HT := Lib.hid hT; have HP := Lib.hid hP
  clear hE hT hP
  go_enter Tryz.func5, Tryz.ntmps5
  go_wp2_with fail
  have hb0 : Below w.heap.size w (w.alloc (.cells #[.int .i64 2, .int .u64 0, .int .u64 0, .int .i64 12, .int .u64 300, .int .u64 0, .int .i64 0, .int .u64 0, .int .u64 0] 43)) := (Below.refl _ _).alloc (Nat.le_refl _) _
  have hr0 : RdL insS (w.alloc (.cells #[.int .i64 2, .int .u64 0, .int .u64 0, .int .i64 12, .int .u64 300, .int .u64 0, .int .i64 0, .int .u64 0, .int .u64 0] 43)) (w.alloc (.cells #[.int .i64 2, .int .u64 0, .int .u64 0, .int .i64 12, .int .u64 300, .int .u64 0, .int .i64 0, .int .u64 0, .int .u64 0] 43)).heap.size (.slice (some ⟨w.heap.size, 0, none⟩) 3 3) lvI :=
    RdL.of_own (B := w.heap.size) (World.ownsRow_lit w #[.int .i64 2, .int .u64 0, .int .u64 0, .int .i64 12, .int .u64 300, .int .u64 0, .int .i64 0, .int .u64 0, .int .u64 0] 3 (Nat.le_refl _) (by unfold maxLen; omega) rfl)
  refine (iencode_any _ lvI ea _ _ (Nat.le_refl _) hr0 (by decide) lv_small (HE.out.below hb0) (HT.out.below hb0)).mono ?_
  rintro e w1 ⟨v, rfl, ho, hb1⟩
  rw [show lvI.all insOk = true from lv_ok, if_pos rfl, lv_enc] at ho
  obtain ⟨A, cap, rfl⟩ := ownB_form ho
  have HB1 := Lib.hid (hb0.trans (hb1.mono hb0.size))
  have hcv := ho.conv
  have HO := Lib.hid ho
  rw [show lvI.all insOk = true from lv_ok, if_pos rfl]
  have hs : str [2, 12, 172, 2, 0] = ⟨#[2, 12, 172, 2, 0]⟩ := rfl
  rw [hs] at hcv
  clear hb0 hr0 ho hb1 hs
  simp only [List.length_cons, List.length_nil] at hcv HO ⊢
  go_wp2_with fail
  have hb2 : Below w1.heap.size w1 (w1.alloc (.cells #[.int .i64 3] 3)) := (Below.refl _ _).alloc (Nat.le_refl _) _
  have hb3 := HB1.out.trans (hb2.mono HB1.out.size)
  have hr1 : RdL intS (w1.alloc (.cells #[.int .i64 3] 3)) (w1.alloc (.cells #[.int .i64 3] 3)).heap.size (.slice (some ⟨w1.heap.size, 0, none⟩) 1 1) [3] := rdl_one (by rw [World.cell?_alloc_new]; rfl)
  have hr2 := RdL.ofB (HO.out.below hb2)
  refine (Text_any ⟨.slice (some ⟨w1.heap.size, 0, none⟩) 1 1, .slice none 0 0, .slice none 0 0, .slice none 0 0, .slice A 5 cap, []⟩ lvP _ ea ⟨hr1, RdL.nil _ _ _, RdL.nil _ _ _, rfl, (fun y hy => absurd hy List.not_mem_nil), RdL.nil _ _ _, hr2⟩ ⟨⟨by intro x hx; obtain rfl := List.mem_singleton.1 hx; decide, by decide⟩, ⟨(fun y hy => absurd hy List.not_mem_nil), by decide⟩, ⟨(fun y hy => absurd hy List.not_mem_nil), by decide⟩, ⟨(fun y hy => absurd hy List.not_mem_nil), by decide⟩, by decide⟩ (HE.out.below hb3) (HT.out.below hb3) (HP.out.below hb3)).mono ?_
  rintro e w4 ⟨hb4, rfl⟩
  have HB4 := Lib.hid (hb3.trans (hb4.mono hb3.size))
  rw [lv_text]
  clear hb2 hb3 hr1 hr2 hb4
  simp only [str]
  go_wp2
  go_ret
  exact ⟨rfl, HB4.out⟩
end Go.Proofs.YtmdpfikalekmlaaGreatDoor
end
section
/- Layer 20, the document: decimal. -/
namespace Go.Proofs.YtmdpfikalekmlaaGreatDoor
open Go.RowKit
set_option maxRecDepth 100000
set_option maxHeartbeats 1000000
set_option linter.unusedSimpArgs false
set_option linter.unusedVariables false

def preD (u : Nat) : List UInt8 := if u < 10 then [] else dgt (u / 10)
theorem dgt_pre (u : Nat) : dgt u = preD u ++ [UInt8.ofNat (48 + u % 10)] := by
  unfold preD
  by_cases h : u < 10
  · rw [if_pos h, dgt_small h, Nat.mod_eq_of_lt h]; rfl
  · rw [if_neg h, dgt_big h]
theorem preD_small {u : Nat} (h : u < 10) : preD u = [] := by unfold preD; rw [if_pos h]
theorem preD_big {u : Nat} (h : ¬ u < 10) : preD u = preD (u / 10) ++ [UInt8.ofNat (48 + u / 10 % 10)] := by
  rw [← dgt_pre]; unfold preD; rw [if_neg h]
def DmRel (v : Nat) (w : World) (nv sv : Value) (wr : World) : Prop := ∃ (u : Nat) (s : List UInt8), u ≤ v ∧ nv = .int .u64 (u : Int) ∧ sv = .string (str s) ∧ dgt v = preD u ++ s ∧ Below w.heap.size w wr
theorem chr_dig (u : Nat) : chr (48 + (u : Int) % 10) = str [UInt8.ofNat (48 + u % 10)] := by
  have e : (48 + (u : Int) % 10).toNat = 48 + u % 10 := by omega
  show strOfNums [48 + (u : Int) % 10] = _
  unfold strOfNums str
  simp [e]
theorem decimal_any (v : Nat) (hv : v < 18446744073709551616) (w : World) :
    Calls Tryz.prog 64 #[.int .u64 (v : Int)] w fun e w' => e = .returned (.string (str (dgt v))) ∧ Below w.heap.size w w' := by
  go_enter Tryz.func64, Tryz.ntmps64
  have cv := fun (x : Int) W => conv_one (P := Tryz.prog) 26 5 5 Tryz.underlying26 Tryz.underlying5 9 Tryz.underlying9 W x
  go_wp2
  go_loopw [0, 3] (fun nv sv wr => DmRel v w nv sv wr) (fun nv _ _ => (intOf nv).toNat)
  case atStart => exact ⟨v, [UInt8.ofNat (48 + v % 10)], Nat.le_refl _, rfl, by rw [chr_dig], dgt_pre v, (Below.refl _ _).alloc (Nat.le_refl _) _⟩
  case round =>
    obtain ⟨u, s, hu, rfl, rfl, hd, hb⟩ := hrel
    have HD := Lib.hid hd; have HB := Lib.hid hb
    have hsl : s.length ≤ 20 := by
      have h := dgt_len v hv
      rw [hd, List.length_append] at h
      omega
    clear hd hb
    by_cases hlt : 10 ≤ u
    · have q := fun W => str_add (P := Tryz.prog) (chr (48 + (u : Int) / 10 % 10)) (str s) (by rw [chr_size, str_size]; omega) W
      have HN := Lib.hid (show dgt v = preD (u / 10) ++ ([UInt8.ofNat (48 + u / 10 % 10)] ++ s) from by rw [← List.append_assoc, ← preD_big (by omega)]; exact HD.out)
      have HE := Lib.hid (show chr (48 + ((u / 10 : Nat) : Int) % 10) ++ str s = str ([UInt8.ofNat (48 + u / 10 % 10)] ++ s) from by rw [chr_dig, str_cat2])
      go_wp2
      go_roundw
      case rel =>
        refine ⟨u / 10, [UInt8.ofNat (48 + u / 10 % 10)] ++ s, by omega, by go_num, ?_, HN.out, HB.out.alloc HB.out.size _⟩
        rw [← HE.out]; rfl
      case measure => simp [intOf]; omega
    · have HE := Lib.hid (show str s = str (dgt v) from by rw [HD.out, preD_small (by omega)]; rfl)
      go_wp2
      go_ret
      exact ⟨by rw [HE.out]; rfl, HB.out⟩
end Go.Proofs.YtmdpfikalekmlaaGreatDoor
end
section
/- Layer 20, the document: words, quoted. -/
namespace Go.Proofs.YtmdpfikalekmlaaGreatDoor
open Go.RowKit
set_option maxRecDepth 100000
set_option maxHeartbeats 2000000
set_option linter.unusedSimpArgs false
set_option linter.unusedVariables false

def WdRel (wd : List UInt8) (l : List Int) (w : World) (ov iv : Value) (wr : World) : Prop :=
  ∃ k : Nat, k ≤ l.length ∧ iv = .int .i64 (k : Int) ∧ OwnX wr w.heap.size ov (lineL wd (l.take k)) ∧ Below w.heap.size w wr
theorem words_any (wd : List UInt8) (v : Value) (l : List Int) (w : World) (B : Nat) (hB : B ≤ w.heap.size) (h : RdL intS w B v l) (hs : SmallInts l) (hn : neg l = false) (hw : wd.length ≤ 100) (hl : l.length ≤ 10000000) :
    Calls Tryz.prog 51 #[.string (str wd), v] w fun e w' => e = .returned (.string (str (lineL wd l))) ∧ Below w.heap.size w w' := by
  obtain ⟨A, cap, rfl, hc, hc2⟩ := h.open_
  have H := Lib.hid h; have HS := Lib.hid hs; have HN := Lib.hid (neg_false hn)
  have HO0 := Lib.hid (bytes_own (str wd) w (by rw [str_size]; unfold maxLen; omega))
  have HB0 := Lib.hid (bytes_below (str wd) w)
  have cb := fun W => bytes_conv (str wd) W
  clear h hs hn hc hc2
  go_enter Tryz.func51, Tryz.ntmps51
  go_wp2
  go_loopw [5, 12] (fun ov iv wr => WdRel wd l w ov iv wr) (fun _ iv _ => l.length - (intOf iv).toNat)
  case atStart => exact ⟨0, Nat.zero_le _, rfl, by have h := HO0.out; rw [str_data] at h; simpa [lineL] using h, HB0.out⟩
  case round =>
    obtain ⟨k, hk, rfl, ho, hb⟩ := hrel
    have HO := Lib.hid ho; have HB := Lib.hid hb
    have hsz := hb.size
    have hll : (lineL wd (l.take k)).length ≤ 100 + 21 * k := by
      have h := lineL_len wd (l.take k) (fun x hx => (HS.out x (List.mem_of_mem_take hx)).2)
      rw [List.length_take] at h
      omega
    clear ho hb
    by_cases hlt : k < l.length
    · obtain ⟨a, rfl, hab, c0⟩ := at_int (H.out.below (HB.out.mono hB)) hlt
      have hx1 := HN.out _ (List.getElem_mem hlt)
      have hx2 := HS.out _ (List.getElem_mem hlt)
      have HNX := Lib.hid (show lineL wd (l.take (k + 1)) = lineL wd (l.take k) ++ (32 :: numC l[k]) from by
        rw [List.take_succ_eq_append_getElem hlt, lineL_snoc])
      generalize l[k] = x at *
      obtain ⟨n, rfl⟩ : ∃ n : Nat, x = (n : Int) := ⟨x.toNat, by omega⟩
      have hn : n < 18446744073709551616 := by omega
      have hdl := dgt_len n hn
      have hal0 : (lineL wd (l.take k)).length ≤ 300000000 := by omega
      have hal1 : (lineL wd (l.take k)).length + 1 ≤ 140737488355328 := by omega
      have HLL := Lib.hid hll
      clear hll
      generalize hpre : lineL wd (l.take k) = pre at *
      have HPRE := Lib.hid hpre
      clear hpre
      go_wp2_with (at_builtin; refine OwnX.appendI HO.out 32 (by decide) (by decide) rfl _ _ rfl rfl rfl hsz hal1 ?_; intro v1 w1 ho1 hb1; have HO1 := Lib.hid ho1; have HB1 := Lib.hid (HB.out.trans hb1); have hsz1 := (HB.out.trans hb1).size; clear ho1 hb1)
      refine (decimal_any n hn w1).mono ?_
      rintro e w2 ⟨rfl, hb2⟩
      have HO2 := Lib.hid (HO1.out.below hb2)
      have HB2 := Lib.hid (HB1.out.trans (hb2.mono hsz1))
      have hsz2 := HB2.out.size
      have hal2 : (pre ++ [UInt8.ofNat (32 : Int).toNat]).length + (str (dgt n)).size ≤ 140737488355328 := by rw [str_size, List.length_append]; simp; omega
      clear hb2
      go_wp2_with (at_builtin; refine OwnX.appendStr HO2.out (str (dgt n)) rfl _ _ rfl rfl rfl hsz2 hal2 ?_; intro v3 w3 ho3 hb3; have HO3 := Lib.hid ho3; have HB3 := Lib.hid (HB2.out.trans hb3); clear ho3 hb3)
      go_roundw
      case rel =>
        refine ⟨k + 1, by omega, by go_num, ?_, HB3.out⟩
        rw [HNX.out]
        have h := HO3.out
        rw [str_data, List.append_assoc] at h
        exact h
      case measure => simp [intOf]; omega
    · have HE := Lib.hid (show lineL wd (l.take k) = lineL wd l from by rw [List.take_of_length_le (by omega)])
      have cv := HO.out.conv
      rw [HE.out] at cv
      clear hll
      go_wp2
      go_ret
      exact ⟨rfl, HB.out⟩
theorem rplain (b : UInt8) : plainC b = (!(decide (b.toNat < 32) || decide (126 < b.toNat) || decide (b.toNat = 34) || decide (b.toNat = 92))) := by
  have h1 : (b = 34) ↔ b.toNat = 34 := ⟨fun e => by rw [e]; rfl, fun e => UInt8.toNat_inj.1 e⟩
  have h2 : (b = 92) ↔ b.toNat = 92 := ⟨fun e => by rw [e]; rfl, fun e => UInt8.toNat_inj.1 e⟩
  unfold plainC
  simp only [ne_eq, h1, h2]
  by_cases a1 : b.toNat < 32 <;> by_cases a2 : 126 < b.toNat <;> by_cases a3 : b.toNat = 34 <;> by_cases a4 : b.toNat = 92 <;> simp [a1, a2, a3, a4] <;> omega
theorem wrap_u8n (n : Nat) (h : n < 256) : IntKind.u8.wrap (n : Int) = (n : Int) := by
  simp [IntKind.wrap, IntKind.bits, IntKind.signed]
  omega
theorem rquoted_any (s : ByteArray) (w : World) (hs : s.size ≤ 10000000) :
    Calls Tryz.prog 65 #[.string s] w fun e w' => e = .returned (.string (str (quoL s.data.toList))) ∧ Below w.heap.size w w' := by
  go_enter Tryz.func65, Tryz.ntmps65
  go_wp2
  go_loopw [4, 5] (fun ov iv wr => QuRel s w ov iv wr) (fun _ iv _ => s.size - (intOf iv).toNat)
  case atStart => exact ⟨0, Nat.zero_le _, rfl, OwnB.lit1 w (Nat.le_refl _) 34, (Below.refl _ _).alloc (Nat.le_refl _) _⟩
  case round =>
    obtain ⟨k, hk, rfl, ho, hb⟩ := hrel
    have HO := Lib.hid ho; have HB := Lib.hid hb
    have hbd := quo_bd s k
    have hBr : w.heap.size ≤ wr.heap.size := hb.size
    clear ho hb
    by_cases hlt : k < s.size
    · have hbx := u8_lt s[k]
      have HT := Lib.hid (take_quo hlt)
      have HPL := Lib.hid (rplain s[k])
      go_upto_region 7 with (fail)
      go_cut [30] (fun s30 wx => s30 = .bool (!plainC s[k]) ∧ wr = wx)
      case first =>
        by_cases g1 : s[k].toNat < 32
        · have hp := Lib.hid (show plainC s[k] = false from by rw [HPL.out]; simp [g1])
          go_wp2
          go_meet
          exact ⟨by rw [hp.out]; rfl, rfl⟩
        · by_cases g2 : 126 < s[k].toNat
          · have hp := Lib.hid (show plainC s[k] = false from by rw [HPL.out]; simp [g2])
            go_wp2
            go_meet
            exact ⟨by rw [hp.out]; rfl, rfl⟩
          · by_cases g3 : s[k].toNat = 34
            · have hp := Lib.hid (show plainC s[k] = false from by rw [HPL.out]; simp [g3])
              have e3 : (s[k].toNat : Int) = 34 := by omega
              go_wp2
              go_meet
              exact ⟨by rw [hp.out]; rfl, rfl⟩
            · by_cases g4 : s[k].toNat = 92
              · have hp := Lib.hid (show plainC s[k] = false from by rw [HPL.out]; simp [g4])
                have e3 : ((s[k].toNat : Int) == 34) = false := by simp; omega
                have e4 : (s[k].toNat : Int) = 92 := by omega
                go_wp2
                go_meet
                exact ⟨by rw [hp.out]; rfl, rfl⟩
              · have hp := Lib.hid (show plainC s[k] = true from by rw [HPL.out]; simp [g1, g2, g3, g4])
                have e3 : ((s[k].toNat : Int) == 34) = false := by simp; omega
                have e4 : ((s[k].toNat : Int) == 92) = false := by simp; omega
                go_wp2
                go_meet
                exact ⟨by rw [hp.out]; simp; omega, rfl⟩
      case rest =>
        obtain ⟨rfl, rfl⟩ := hcut
        by_cases hp : plainC s[k] = true
        · have HQ := Lib.hid (show quoC s[k] = [s[k]] from by unfold quoC; rw [if_pos hp])
          rw [hp]
          clear hp
          go_wp2_with (at_builtin; refine OwnB.append HO.out s[k].toNat (by omega) (by omega) rfl _ _ rfl rfl rfl hBr ?_ ?_)
          · simp at hbd ⊢; omega
          · intro v' w' h2 h3
            have H2 := Lib.hid h2; have HB3 := Lib.hid (HB.out.trans h3)
            clear h2 h3
            go_wp2
            go_roundw
            case rel =>
              refine ⟨k + 1, by omega, by go_num, ?_, HB3.out⟩
              have h := H2.out
              rw [HT.out, HQ.out]
              simpa using h
            case measure => simp [intOf]; omega
        · have hpf : plainC s[k] = false := by simpa using hp
          have HQ := Lib.hid (show quoC s[k] = [92, hexC (s[k].toNat / 16), hexC (s[k].toNat % 16)] from by unfold quoC; rw [if_neg hp])
          rw [hpf]
          have hH : ((s[k].toNat : Int) / 16) = ((s[k].toNat / 16 : Nat) : Int) := by omega
          have hL : ((s[k].toNat : Int) % 16) = ((s[k].toNat % 16 : Nat) : Int) := by omega
          have hb16 : s[k].toNat / 16 < 16 := by have := s[k].toNat_lt; omega
          have hl16 : s[k].toNat % 16 < 16 := by omega
          have hlen := HQ.out
          have hT : (s[k].toNat : Int).tmod 16 = ((s[k].toNat % 16 : Nat) : Int) := by rw [Int.tmod_eq_emod_of_nonneg (by omega)]; omega
          generalize s[k].toNat / 16 = H at *
          generalize s[k].toNat % 16 = L at *
          have q1 := fun W => hex_at H hb16 W
          have q2 := fun W => hex_at L hl16 W
          have w1 := wrap_u8n H (by omega)
          have w2 := wrap_u8n L (by omega)
          have HLEN := Lib.hid hlen
          clear hp hpf hlen
          have HX := Lib.hid (OwnB.lit3 wr hBr 92 (hexC H) (hexC L)).drew
          have HO3 := Lib.hid (HO.out.alloc (.cells #[.int .u8 (92 : UInt8).toNat, .int .u8 (hexC H).toNat, .int .u8 (hexC L).toNat] 5)).drew
          go_wp2_with fail
          have hz3 : w.heap.size ≤ (wr.alloc (.cells #[.int .u8 (92 : UInt8).toNat, .int .u8 (hexC H).toNat, .int .u8 (hexC L).toNat] 5)).drew.heap.size := by
            show _ ≤ (wr.alloc _).heap.size
            rw [World.size_alloc]; omega
          have HZ3 := Lib.hid hz3
          have HBA := Lib.hid ((HB.out.alloc hBr (.cells #[.int .u8 (92 : UInt8).toNat, .int .u8 (hexC H).toNat, .int .u8 (hexC L).toNat] 5)).drew)
          have HL3 := Lib.hid (show (34 :: (s.data.toList.take k).flatMap quoC).length + [92, hexC H, hexC L].length ≤ 140737488355328 by simp at hbd ⊢; omega)
          clear hz3
          go_region_law (refine OwnB.stepAppend HO3.out HX.out (Nat.zero_lt_succ _) rfl _ _ rfl rfl rfl HZ3.out HL3.out (fun v' w' h2 h3 => ?_))
          all_goals
            have H2 := Lib.hid h2; have HB3 := Lib.hid (HBA.out.trans h3)
            clear h2 h3
            go_wp2
            go_roundw
            case rel =>
              refine ⟨k + 1, by omega, by go_num, ?_, HB3.out⟩
              have h := H2.out
              rw [HT.out, HQ.out]
              simpa using h
            case measure => simp [intOf]; omega
    · have HT := Lib.hid (show s.data.toList.take k = s.data.toList from List.take_of_length_le (by rw [← ba_size]; omega))
      go_wp2_with (at_builtin; refine OwnB.append HO.out 34 (by omega) (by omega) rfl _ _ rfl rfl rfl hBr ?_ ?_)
      · simp at hbd ⊢; omega
      · intro v' w' h2 h3
        have HC := Lib.hid h2.conv; have HB3 := Lib.hid (HB.out.trans h3)
        clear h2 h3
        have hc := HC.out
        go_wp2
        go_ret
        refine ⟨?_, HB3.out⟩
        rw [HT.out]
        rfl
end Go.Proofs.YtmdpfikalekmlaaGreatDoor
end
section
/- Layer 20, the document: nearLine, codeLine. -/
namespace Go.Proofs.YtmdpfikalekmlaaGreatDoor
open Go.RowKit
set_option maxRecDepth 100000
set_option maxHeartbeats 2000000
set_option linter.unusedSimpArgs false
set_option linter.unusedVariables false

def nearTo (n : Nr) (m : Nat) : List UInt8 := lineL [110, 101, 97, 114] [n.slop] ++ ((n.cur.zip n.off).take m).flatMap pairL
theorem nearTo_all {n : Nr} {m : Nat} (h : n.cur.length ≤ m) : nearTo n m = nearL n := by
  unfold nearTo
  rw [List.take_of_length_le (by rw [List.length_zip]; omega)]; rfl
theorem nearTo_succ {n : Nr} {m : Nat} (h1 : m < n.cur.length) (h2 : m < n.off.length) : nearTo n (m + 1) = nearTo n m ++ [32] ++ numC n.cur[m] ++ [43] ++ numC n.off[m] := by
  unfold nearTo
  rw [zip_snoc h1 h2, List.flatMap_append]
  simp [pairL]
theorem nearTo_len {n : Nr} (m : Nat) (hs : n.slop ≤ 9223372036854775807) (h1 : ∀ x ∈ n.cur, x ≤ 9223372036854775807) (h2 : ∀ x ∈ n.off, x ≤ 9223372036854775807) : (nearTo n m).length ≤ 25 + 42 * m := by
  unfold nearTo
  have g1 := line1_len [110, 101, 97, 114] hs
  have g2 := pairs_len (n.cur.zip n.off) m (fun q hq => by
    have := List.of_mem_zip hq
    exact ⟨h1 _ this.1, h2 _ this.2⟩)
  rw [List.length_append]
  simp only [List.length_cons, List.length_nil] at g1
  omega
def NlRel (n : Nr) (w0 : World) (ov iv : Value) (wr : World) : Prop := ∃ m : Nat, m ≤ n.cur.length ∧ iv = .int .i64 (m : Int) ∧ OwnX wr w0.heap.size ov (nearTo n m) ∧ Below w0.heap.size w0 wr
theorem nearLine_any (x : NrV) (w : World) (B : Nat) (hB : B ≤ w.heap.size) (h1 : RdL intS w B (.slice x.ca x.n.cur.length x.cc) x.n.cur) (h2 : RdL intS w B (.slice x.oa x.n.off.length x.oc) x.n.off) (hk : okN x.n = true)
    (hs : -9223372036854775808 ≤ x.n.slop ∧ x.n.slop ≤ 9223372036854775807) (hs1 : SmallInts x.n.cur) (hs2 : SmallInts x.n.off) (hl : x.n.cur.length ≤ 2000000) :
    Calls Tryz.prog 66 #[.agg #[.slice x.ca x.n.cur.length x.cc, .slice x.oa x.n.off.length x.oc, .int .i64 x.n.slop]] w fun e w' => e = .returned (.string (str (nearL x.n))) ∧ Below w.heap.size w w' := by
  obtain ⟨ca, cc, oa, oc, n⟩ := x
  simp only [] at h1 h2 hk hs hs1 hs2 hl ⊢
  have hok := okN_parts hk
  have H1 := Lib.hid h1; have H2 := Lib.hid h2; have HS1 := Lib.hid hs1; have HS2 := Lib.hid hs2; have HN := Lib.hid hok
  have HLEN := Lib.hid hok.2.2.2
  have HSL := Lib.hid hs
  obtain ⟨sl, hsl⟩ : ∃ k : Nat, n.slop = (k : Int) := ⟨n.slop.toNat, by have := hok.1; omega⟩
  have hsl2 : sl < 9223372036854775808 := by omega
  have HL0 := Lib.hid (show (⟨#[110, 101, 97, 114, 32]⟩ ++ str (dgt sl) : ByteArray).data.toList = nearTo n 0 from by
    rw [show (⟨#[110, 101, 97, 114, 32]⟩ : ByteArray) = str [110, 101, 97, 114, 32] from rfl, str_cat2, str_data]
    unfold nearTo lineL numC
    rw [hsl]
    simp)
  have hdl := dgt_len sl (by omega)
  have HNLEN := Lib.hid (fun m => nearTo_len (n := n) m hs.2 (fun x hx => (hs1 x hx).2) (fun x hx => (hs2 x hx).2))
  rw [hsl]
  have HSL2 := Lib.hid hsl
  clear h1 h2 hk hs hs1 hs2 hok hsl
  have hb0 : Below w.heap.size w (w.alloc (.cells #[.slice ca n.cur.length cc, .slice oa n.off.length oc, .int .i64 (sl : Int)] 68)) := (Below.refl _ _).alloc (Nat.le_refl _) _
  have HB0 := Lib.hid hb0
  clear hb0
  go_enter Tryz.func66, Tryz.ntmps66
  go_wp2_with fail
  have k0 : (w.alloc (.cells #[.slice ca n.cur.length cc, .slice oa n.off.length oc, .int .i64 (sl : Int)] 68)).cell? ⟨w.heap.size, 0, none⟩ = some (.slice ca n.cur.length cc) := by rw [World.cell?_alloc_new]; rfl
  have k1 : (w.alloc (.cells #[.slice ca n.cur.length cc, .slice oa n.off.length oc, .int .i64 (sl : Int)] 68)).cell? ⟨w.heap.size, 1, none⟩ = some (.slice oa n.off.length oc) := by rw [World.cell?_alloc_new]; rfl
  have kz : w.heap.size < (w.alloc (.cells #[.slice ca n.cur.length cc, .slice oa n.off.length oc, .int .i64 (sl : Int)] 68)).heap.size := by rw [World.size_alloc]; omega
  generalize w.alloc (.cells #[.slice ca n.cur.length cc, .slice oa n.off.length oc, .int .i64 (sl : Int)] 68) = w0 at *
  refine (decimal_any sl (by omega) w0).mono ?_
  rintro e w1 ⟨rfl, hb1⟩
  have HB1 := Lib.hid hb1
  have q1 := fun W => str_add (P := Tryz.prog) ⟨#[110, 101, 97, 114, 32]⟩ (str (dgt sl)) (by rw [str_size, show (⟨#[110, 101, 97, 114, 32]⟩ : ByteArray).size = 5 from rfl]; omega) W
  have hsw : (⟨#[110, 101, 97, 114, 32]⟩ ++ str (dgt sl) : ByteArray).size ≤ maxLen := by rw [ba_append_size, str_size, show (⟨#[110, 101, 97, 114, 32]⟩ : ByteArray).size = 5 from rfl]; unfold maxLen; omega
  generalize (⟨#[110, 101, 97, 114, 32]⟩ ++ str (dgt sl) : ByteArray) = sw at *
  have cb := fun W => bytes_conv sw W
  have HO2 := Lib.hid (bytes_own sw w1 hsw)
  have HB2 := Lib.hid (hb1.trans ((bytes_below sw w1).mono hb1.size))
  have m0 := ((HB2.out).cell (p := ⟨w.heap.size, 0, none⟩) kz).trans k0
  have hsz1 := hb1.size
  clear hb1
  go_wp2
  go_loopw [3, 14] (fun ov iv wr => NlRel n w0 ov iv wr) (fun _ iv _ => n.cur.length - (intOf iv).toNat)
  case atStart => exact ⟨0, Nat.zero_le _, rfl, by rw [← HL0.out]; exact HO2.out.more hsz1, HB2.out⟩
  case round =>
    clear q1 m0
    obtain ⟨m, hm, rfl, ho, hb⟩ := hrel
    have HO := Lib.hid ho; have HB := Lib.hid hb
    have hsz := hb.size
    have hnl := HNLEN.out m
    clear ho hb
    by_cases hlt : m < n.cur.length
    · have hlt2 : m < n.off.length := by have := HLEN.out; omega
      obtain ⟨a, rfl, hab, c0⟩ := at_int (H1.out.below ((HB0.out.trans (HB.out.mono HB0.out.size)).mono hB)) hlt
      obtain ⟨b, rfl, hbb, c1⟩ := at_int (H2.out.below ((HB0.out.trans (HB.out.mono HB0.out.size)).mono hB)) hlt2
      have hx1 := neg_false HN.out.2.1 _ (List.getElem_mem hlt)
      have hx2 := neg_false HN.out.2.2.1 _ (List.getElem_mem hlt2)
      have hx3 := HS1.out _ (List.getElem_mem hlt)
      have hx4 := HS2.out _ (List.getElem_mem hlt2)
      have HNX := Lib.hid (nearTo_succ hlt hlt2)
      generalize n.cur[m] = xc at *
      generalize n.off[m] = xo at *
      obtain ⟨xn, rfl⟩ : ∃ k : Nat, xc = (k : Int) := ⟨xc.toNat, by omega⟩
      obtain ⟨yn, rfl⟩ : ∃ k : Nat, xo = (k : Int) := ⟨xo.toNat, by omega⟩
      have hd1 := dgt_len xn (by omega)
      have hd2 := dgt_len yn (by omega)
      have hxn : xn < 9223372036854775808 := by omega
      have hyn : yn < 9223372036854775808 := by omega
      have p0 := (HB.out.cell (p := ⟨w.heap.size, 0, none⟩) kz).trans k0
      have p1 := (HB.out.cell (p := ⟨w.heap.size, 1, none⟩) kz).trans k1
      have hpl : (nearTo n m).length ≤ 100000000 := by omega
      generalize hpre : nearTo n m = pre at *
      have HPRE := Lib.hid hpre
      have al1 : pre.length + 1 ≤ 140737488355328 := by omega
      have hBz : B ≤ w0.heap.size := Nat.le_trans hB HB0.out.size
      have habz : (a.add m).block < w0.heap.size := by omega
      have hbbz : (b.add m).block < w0.heap.size := by omega
      clear hpre hnl hx1 hx2 hx3 hx4
      go_wp2_with (at_builtin; refine OwnX.appendI HO.out 32 (by decide) (by decide) rfl _ _ rfl rfl rfl hsz al1 ?_; intro v3 w3 ho3 hb3; have HO3 := Lib.hid ho3; have HB3 := Lib.hid (HB.out.trans hb3); have hsz3 := (HB.out.trans hb3).size; have r0 := (hb3.cell (p := ⟨w.heap.size, 0, none⟩) kz).trans p0; have r1 := (hb3.cell (p := ⟨w.heap.size, 1, none⟩) kz).trans p1; have rc := (hb3.cell (p := a.add m) habz).trans c0; have rd := (hb3.cell (p := b.add m) hbbz).trans c1; clear ho3 hb3)
      refine (decimal_any xn (by omega) w3).mono ?_
      rintro e w4 ⟨rfl, hb4⟩
      have HO4 := Lib.hid (HO3.out.below hb4)
      have HB4 := Lib.hid (HB3.out.trans (hb4.mono hsz3))
      have hsz4 := HB4.out.size
      have al4 : (pre ++ [UInt8.ofNat (32 : Int).toNat]).length + (str (dgt xn)).size ≤ 140737488355328 := by rw [str_size, List.length_append]; simp; omega
      have al5 : (pre ++ [UInt8.ofNat (32 : Int).toNat] ++ (str (dgt xn)).data.toList).length + 1 ≤ 140737488355328 := by rw [str_data, List.length_append, List.length_append]; simp; omega
      have s1 := (HB4.out.cell (p := ⟨w.heap.size, 1, none⟩) kz).trans k1
      have sd := (hb4.cell (p := b.add m) (by omega)).trans rd
      clear hb4
      go_wp2_with (at_builtin; first
        | (refine OwnX.appendI HO5.out 43 (by decide) (by decide) rfl _ _ rfl rfl rfl hsz5 al5 ?_; intro v6 w6 ho6 hb6; have HO6 := Lib.hid ho6; have HB6 := Lib.hid (HB5.out.trans hb6); have hsz6 := (HB5.out.trans hb6).size; have u1 := (hb6.cell (p := ⟨w.heap.size, 1, none⟩) kz).trans t1; have ud := (hb6.cell (p := b.add m) hbbz).trans td; clear ho6 hb6)
        | (refine OwnX.appendStr HO4.out (str (dgt xn)) rfl _ _ rfl rfl rfl hsz4 al4 ?_; intro v5 w5 ho5 hb5; have HO5 := Lib.hid ho5; have HB5 := Lib.hid (HB4.out.trans hb5); have hsz5 := (HB4.out.trans hb5).size; have t1 := (hb5.cell (p := ⟨w.heap.size, 1, none⟩) kz).trans s1; have td := (hb5.cell (p := b.add m) hbbz).trans sd; clear ho5 hb5))
      refine (decimal_any yn (by omega) w6).mono ?_
      rintro e w7 ⟨rfl, hb7⟩
      have HO7 := Lib.hid (HO6.out.below hb7)
      have HB7 := Lib.hid (HB6.out.trans (hb7.mono hsz6))
      have hsz7 := HB7.out.size
      have al7 : (pre ++ [UInt8.ofNat (32 : Int).toNat] ++ (str (dgt xn)).data.toList ++ [UInt8.ofNat (43 : Int).toNat]).length + (str (dgt yn)).size ≤ 140737488355328 := by rw [str_size, str_data, List.length_append, List.length_append, List.length_append]; simp; omega
      clear hb7
      go_wp2_with (at_builtin; refine OwnX.appendStr HO7.out (str (dgt yn)) rfl _ _ rfl rfl rfl hsz7 al7 ?_; intro v8 w8 ho8 hb8; have HO8 := Lib.hid ho8; have HB8 := Lib.hid (HB7.out.trans hb8); clear ho8 hb8)
      go_roundw
      case rel =>
        refine ⟨m + 1, by omega, by go_num, ?_, HB8.out⟩
        rw [HNX.out]
        exact HO8.out
      case measure => simp [intOf]; omega
    · have cv := HO.out.conv
      rw [nearTo_all (by omega)] at cv
      clear hnl
      go_wp2
      go_ret
      exact ⟨rfl, HB0.out.trans (HB.out.mono HB0.out.size)⟩
def insTo (x : Ins) (k : Nat) : List UInt8 := opName x.op.toNat ++ (if 1 ≤ k then 32 :: dgt x.a else []) ++ (if 2 ≤ k then 32 :: dgt x.b else [])
theorem insTo_all {x : Ins} {n : Nat} (h : argsN x.op = some n) : insTo x n = insL x := by
  have h2 := (argsN_some h).2.2.1
  unfold insTo insL
  rw [h2]
  have e1 : ((0 : Int) < (n : Int)) ↔ 1 ≤ n := by omega
  have e2 : ((1 : Int) < (n : Int)) ↔ 2 ≤ n := by omega
  simp only [e1, e2]
def CtRel (x : Ins) (n : Nat) (w0 : World) (sv iv : Value) (wr : World) : Prop := ∃ k : Nat, k ≤ n ∧ iv = .int .i64 (k : Int) ∧ sv = .string (str (insTo x k)) ∧ Below w0.heap.size w0 wr
theorem codeLine_any (x : Ins) (w : World) (hx : insOk x = true) (ha : x.a < 18446744073709551616) (hb : x.b < 18446744073709551616) :
    Calls Tryz.prog 67 #[.agg #[.int .i64 x.op, .int .u64 (x.a : Int), .int .u64 (x.b : Int)]] w fun e w' => e = .returned (.string (str (insL x))) ∧ Below w.heap.size w w' := by
  have HX := Lib.hid hx
  have hb0 : Below w.heap.size w (w.alloc (.cells #[.int .i64 x.op, .int .u64 (x.a : Int), .int .u64 (x.b : Int)] 43)) := (Below.refl _ _).alloc (Nat.le_refl _) _
  have HB0 := Lib.hid hb0
  have k0 : (w.alloc (.cells #[.int .i64 x.op, .int .u64 (x.a : Int), .int .u64 (x.b : Int)] 43)).cell? ⟨w.heap.size, 0, none⟩ = some (.int .i64 x.op) := by rw [World.cell?_alloc_new]; rfl
  have kz : w.heap.size < (w.alloc (.cells #[.int .i64 x.op, .int .u64 (x.a : Int), .int .u64 (x.b : Int)] 43)).heap.size := by rw [World.size_alloc]; omega
  clear hx hb0
  go_enter Tryz.func67, Tryz.ntmps67
  go_wp2_with fail
  generalize w.alloc (.cells #[.int .i64 x.op, .int .u64 (x.a : Int), .int .u64 (x.b : Int)] 43) = w0 at *
  refine (operands_any x w0).mono ?_
  rintro e w1 ⟨hb1, ⟨hok, rfl⟩ | ⟨hok, n, g, hn, rfl, hg, hgb⟩⟩
  · exact absurd (hok.symm.trans HX.out) (by decide)
  · have hn2 := (argsN_some hn).2.2.2
    have HN := Lib.hid hn
    have HB1 := Lib.hid hb1
    have d0 := (hb1.cell (p := ⟨w.heap.size, 0, none⟩) kz).trans k0
    have a0 := hgb.cell 0
    have a1 := hgb.cell 1
    have gz := hgb.lt
    have HGB := Lib.hid hgb
    clear hok hn hb1 hgb k0
    go_wp2_with fail
    refine (rname_any x.op w1).mono ?_
    rintro e w2 ⟨hb2, hx2⟩
    rw [HN.out] at hx2
    subst hx2
    have HB2 := Lib.hid (HB1.out.trans (hb2.mono HB1.out.size))
    have HG2 := Lib.hid (HGB.out.belowW hb2)
    clear hb2 a0 a1 d0
    go_wp2
    go_loopw [5, 22] (fun sv iv wr => CtRel x n w2 sv iv wr) (fun _ iv _ => n - (intOf iv).toNat)
    case atStart => exact ⟨0, Nat.zero_le _, rfl, by simp [insTo], Below.refl _ _⟩
    case round =>
      obtain ⟨k, hk, rfl, rfl, hb⟩ := hrel
      have HB := Lib.hid hb
      clear hb
      have hin : (insTo x k).length ≤ 50 := by
        have g1 := opName_len x.op.toNat
        have g2 := dgt_len x.a ha
        have g3 := dgt_len x.b hb
        unfold insTo
        rw [List.length_append, List.length_append]
        split <;> split <;> simp only [List.length_cons, List.length_nil] <;> omega
      by_cases hlt : k < n
      · have hG := HG2.out.belowW HB.out
        have a0 := hG.cell 0
        have a1 := hG.cell 1
        obtain ⟨y, hy, HC, HNX⟩ : ∃ y : Nat, y < 18446744073709551616 ∧ Hid (wr.cell? ⟨g, k, none⟩ = some (.int .u64 (y : Int))) ∧ Hid (insTo x (k + 1) = insTo x k ++ ([32] ++ dgt y)) := by
          rcases (by omega : k = 0 ∨ k = 1) with rfl | rfl
          · exact ⟨x.a, ha, Lib.hid a0, Lib.hid (by simp [insTo])⟩
          · exact ⟨x.b, hb, Lib.hid a1, Lib.hid (by simp [insTo])⟩
        clear hG a0 a1
        have c0 := HC.out
        have hyl := dgt_len y hy
        have q1 := fun W => str_add (P := Tryz.prog) ⟨#[32]⟩ (str (dgt y)) (by rw [str_size, show (⟨#[32]⟩ : ByteArray).size = 1 from rfl]; omega) W
        have q2 := fun W => str_add (P := Tryz.prog) (str (insTo x k)) (⟨#[32]⟩ ++ str (dgt y)) (by rw [ba_append_size, str_size, str_size, show (⟨#[32]⟩ : ByteArray).size = 1 from rfl]; omega) W
        have HEQ := Lib.hid (show str (insTo x k) ++ (⟨#[32]⟩ ++ str (dgt y)) = str (insTo x (k + 1)) from by
          rw [HNX.out, show (⟨#[32]⟩ : ByteArray) = str [32] from rfl, str_cat2, str_cat2])
        generalize str (insTo x k) = si at *
        go_wp2_with fail
        refine (decimal_any y hy wr).mono ?_
        rintro e w4 ⟨rfl, hb4⟩
        have HB4 := Lib.hid (HB.out.trans (hb4.mono HB.out.size))
        clear hb4
        go_wp2
        go_roundw
        case rel => exact ⟨k + 1, by omega, by go_num, by rw [HEQ.out], HB4.out⟩
        case measure => simp [intOf]; omega
      · have HEQ := Lib.hid (show str (insTo x k) = str (insL x) from by rw [show k = n by omega, insTo_all HN.out])
        clear hin
        generalize str (insTo x k) = si at *
        go_wp2
        go_ret
        exact ⟨by rw [HEQ.out]; rfl, HB0.out.trans ((HB2.out.trans (HB.out.mono HB2.out.size)).mono HB0.out.size)⟩
end Go.Proofs.YtmdpfikalekmlaaGreatDoor
end
section
/- Layer 20, the document: listed. -/
namespace Go.Proofs.YtmdpfikalekmlaaGreatDoor
open Go.RowKit
set_option maxRecDepth 100000
set_option maxHeartbeats 4000000
set_option linter.unusedSimpArgs false
set_option linter.unusedVariables false

theorem rbelow_any (v : Value) (l : List Int) (w : World) (B : Nat) (h : RdL intS w B v l) :
    Calls Tryz.prog 84 #[v] w fun e w' => e = .returned (.bool (neg l)) ∧ w = w' := by
  obtain ⟨A, cap, rfl, hc, hm⟩ := h.open_
  unfold maxLen at hm
  have H := Lib.hid h
  clear h
  go_enter Tryz.func84, Tryz.ntmps84
  go_wp2
  go_loop [7] (fun iv => BlRel l iv) (fun iv => l.length - (intOf iv).toNat)
  case atStart => exact ⟨0, Nat.zero_le _, rfl, rfl⟩
  case round =>
    obtain ⟨k, hk, hn, rfl⟩ := hrel
    have HN := Lib.hid hn
    clear hn
    by_cases hlt : k < l.length
    · obtain ⟨a, rfl, hb, c0⟩ := at_int H.out hlt
      by_cases hx : l[k] < 0
      · have HQ := Lib.hid (show neg l = true from by
          unfold neg
          rw [List.any_eq_true]
          exact ⟨l[k], List.getElem_mem hlt, decide_eq_true hx⟩)
        generalize l[k] = x at *
        go_wp2
        go_ret
        exact ⟨congrArg (fun b => Ending.returned (.bool b)) HQ.out.symm, rfl⟩
      · have HQ := Lib.hid (show neg (l.take (k + 1)) = false from by rw [neg_take hlt, HN.out]; simp [hx])
        generalize l[k] = x at *
        go_wp2
        go_round
        case rel => exact ⟨k + 1, by omega, HQ.out, by go_num⟩
        case measure => simp [intOf]; omega
    · have HQ := Lib.hid (show neg l = false from by have h := HN.out; rwa [List.take_of_length_le (by omega)] at h)
      go_wp2
      go_ret
      exact ⟨congrArg (fun b => Ending.returned (.bool b)) HQ.out.symm, rfl⟩

theorem rlisted_any (x : PgV) (p : Pg) (w : World) (h : PgR w w.heap.size x p) (hs : SmallPg p) :
    Calls Tryz.prog 63 #[x.val p] w fun e w' => e = .returned (.bool (okP p)) ∧ Below w.heap.size w w' := by
  obtain ⟨av, cv, nv, dv, kv, nl⟩ := x
  obtain ⟨aA, acap, rfl, -, -⟩ := h.avgs.open_
  obtain ⟨cA, ccap, rfl, -, -⟩ := h.curs.open_
  have hno : RdL nrS w w.heap.size nv nl := h.nears
  obtain ⟨nA, ncap, hnv, -, -⟩ := hno.open_
  subst hnv
  clear hno
  obtain ⟨dA, dcap, rfl, -, -⟩ := h.drive.open_
  obtain ⟨kA, kcap, rfl, -, -⟩ := h.code.open_
  have H := Lib.hid h; have HS := Lib.hid hs
  have HNM := Lib.hid h.nmap
  have hl1 := hs.curs.2
  have hl2 : nl.length ≤ 2000000 := by have e := hs.nears.2; rw [← h.nmap, List.length_map] at e; exact Nat.le_trans e (by decide)
  have hb0 : Below w.heap.size w (w.alloc (.cells #[.slice aA p.avgs.length acap, .slice cA p.curs.length ccap, .slice nA nl.length ncap, .bool p.all, .slice dA p.drive.length dcap, .slice kA p.code.length kcap] 28)) := (Below.refl _ _).alloc (Nat.le_refl _) _
  have k0 : (w.alloc (.cells #[.slice aA p.avgs.length acap, .slice cA p.curs.length ccap, .slice nA nl.length ncap, .bool p.all, .slice dA p.drive.length dcap, .slice kA p.code.length kcap] 28)).cell? ⟨w.heap.size, 0, none⟩ = some (.slice aA p.avgs.length acap) := by rw [World.cell?_alloc_new]; rfl
  have k1 : (w.alloc (.cells #[.slice aA p.avgs.length acap, .slice cA p.curs.length ccap, .slice nA nl.length ncap, .bool p.all, .slice dA p.drive.length dcap, .slice kA p.code.length kcap] 28)).cell? ⟨w.heap.size, 1, none⟩ = some (.slice cA p.curs.length ccap) := by rw [World.cell?_alloc_new]; rfl
  have k2 : (w.alloc (.cells #[.slice aA p.avgs.length acap, .slice cA p.curs.length ccap, .slice nA nl.length ncap, .bool p.all, .slice dA p.drive.length dcap, .slice kA p.code.length kcap] 28)).cell? ⟨w.heap.size, 2, none⟩ = some (.slice nA nl.length ncap) := by rw [World.cell?_alloc_new]; rfl
  have k4 : (w.alloc (.cells #[.slice aA p.avgs.length acap, .slice cA p.curs.length ccap, .slice nA nl.length ncap, .bool p.all, .slice dA p.drive.length dcap, .slice kA p.code.length kcap] 28)).cell? ⟨w.heap.size, 4, none⟩ = some (.slice dA p.drive.length dcap) := by rw [World.cell?_alloc_new]; rfl
  have kz : w.heap.size < (w.alloc (.cells #[.slice aA p.avgs.length acap, .slice cA p.curs.length ccap, .slice nA nl.length ncap, .bool p.all, .slice dA p.drive.length dcap, .slice kA p.code.length kcap] 28)).heap.size := by rw [World.size_alloc]; omega
  have HB1 := Lib.hid hb0
  clear h hs hb0
  simp only [PgV.val]
  go_enter Tryz.func63, Tryz.ntmps63
  go_wp2_with fail
  generalize w.alloc (.cells #[.slice aA p.avgs.length acap, .slice cA p.curs.length ccap, .slice nA nl.length ncap, .bool p.all, .slice dA p.drive.length dcap, .slice kA p.code.length kcap] 28) = w1 at *
  have H1 := Lib.hid (H.out.below HB1.out)
  refine (rbelow_any _ p.avgs _ w.heap.size H1.out.avgs).mono ?_
  rintro e wq ⟨rfl, rfl⟩
  cases hna : neg p.avgs with
  | true =>
    have HQ := Lib.hid (show okP p = false from okP_not (.inl hna))
    clear hna
    go_wp2
    go_ret
    exact ⟨congrArg (fun b => Ending.returned (.bool b)) HQ.out.symm, HB1.out⟩
  | false =>
    have HNA := Lib.hid hna
    clear hna
    go_wp2_with fail
    refine (rbelow_any _ p.drive _ w.heap.size H1.out.drive).mono ?_
    rintro e wq ⟨rfl, rfl⟩
    cases hnd : neg p.drive with
    | true =>
      have HQ := Lib.hid (show okP p = false from okP_not (.inr (.inl hnd)))
      clear hnd
      go_wp2
      go_ret
      exact ⟨congrArg (fun b => Ending.returned (.bool b)) HQ.out.symm, HB1.out⟩
    | false =>
      have HND := Lib.hid hnd
      clear hnd
      go_wp2
      go_loopw [18] (fun iv wr => LcRel p w1 iv wr) (fun iv _ => p.curs.length - (intOf iv).toNat)
      case atStart => exact ⟨0, Nat.zero_le _, fun j c _ hj => by omega, rfl, Below.refl _ _⟩
      case round =>
        obtain ⟨k, hk, hall, rfl, hb⟩ := hrel
        have HB := Lib.hid hb; have HA := Lib.hid hall
        have hbz := hb.size
        have m2 := (hb.cell (p := ⟨w.heap.size, 2, none⟩) kz).trans k2
        have HBW := Lib.hid (HB1.out.trans (hb.mono HB1.out.size))
        have Hr := Lib.hid (H.out.below HBW.out)
        clear hb hall
        by_cases hlt : k < p.curs.length
        · obtain ⟨a, rfl, hab, c0, c1⟩ := at_lf Hr.out.curs hlt
          by_cases hf : p.curs[k].field < 0
          · have HQ := Lib.hid (show okP p = false from okP_not (.inr (.inr (.inl ⟨_, List.getElem_mem hlt, hf⟩))))
            generalize p.curs[k] = c at *
            go_wp2
            go_ret
            exact ⟨congrArg (fun b => Ending.returned (.bool b)) HQ.out.symm, HBW.out.alloc (Nat.le_trans HB1.out.size hbz) _⟩
          · have HQ := Lib.hid (show ∀ j c, p.curs[j]? = some c → j < k + 1 → 0 ≤ c.field from fun j c hj hjk => by
              rcases Nat.lt_or_ge j k with h | h
              · exact HA.out j c hj h
              · obtain rfl : j = k := by omega
                rw [List.getElem?_eq_getElem hlt] at hj
                cases hj; omega)
            generalize p.curs[k] = c at *
            go_wp2
            go_roundw
            case rel => exact ⟨k + 1, by omega, HQ.out, by go_num, HB.out.alloc hbz _⟩
            case measure => simp [intOf]; omega
        · have HCU := Lib.hid (show ∀ c ∈ p.curs, 0 ≤ c.field from fun c hc => by
            obtain ⟨j, hj, rfl⟩ := List.getElem_of_mem hc
            exact HA.out j _ (List.getElem?_eq_getElem hj) (by omega))
          go_wp2
          obtain ⟨w2, rfl⟩ : ∃ w2, w2 = wr := ⟨_, rfl⟩
          go_loopw [29] (fun iv wr => LnRel2 ⟨.slice aA p.avgs.length acap, .slice cA p.curs.length ccap, .slice nA nl.length ncap, .slice dA p.drive.length dcap, .slice kA p.code.length kcap, nl⟩ w2 iv wr) (fun iv _ => nl.length - (intOf iv).toNat)
          case atStart => exact ⟨0, Nat.zero_le _, fun j c _ hj => by omega, rfl, Below.refl _ _⟩
          case round =>
            obtain ⟨k, hk, hall, rfl, hb⟩ := hrel
            simp only [] at hk hall
            have HB3 := Lib.hid hb; have HA := Lib.hid hall
            have hbz3 := hb.size
            have HBW3 := Lib.hid (HBW.out.trans (hb.mono HBW.out.size))
            have Hr3 := Lib.hid (H.out.below HBW3.out)
            clear hb hall
            by_cases hlt : k < nl.length
            · obtain ⟨a, rfl, hab, c0, c1, c2⟩ := at_nr Hr3.out.nears hlt
              have HI := Lib.hid (Hr3.out.inner _ (List.getElem_mem hlt))
              have HMM := Lib.hid (show nl[k].n ∈ p.nears from mem_near (x := ⟨.slice none 0 0, .slice none 0 0, .slice none 0 0, .slice none 0 0, .slice none 0 0, nl⟩) HNM.out hlt)
              have HNX := Lib.hid (show okN nl[k].n = true → ∀ j y, nl[j]? = some y → j < k + 1 → okN y.n = true from fun hok j y hj hjk => by
                rcases Nat.lt_or_ge j k with h | h
                · exact HA.out j y hj h
                · obtain rfl : j = k := by omega
                  rw [List.getElem?_eq_getElem hlt] at hj
                  cases hj; exact hok)
              generalize nl[k] = y at *
              have HBA := Lib.hid (HBW3.out.alloc (Nat.le_trans HBW.out.size hbz3) (.cells #[.slice y.ca y.n.cur.length y.cc, .slice y.oa y.n.off.length y.oc, .int .i64 y.n.slop] 68))
              have HRA := Lib.hid ((HI.out.1.belowW (Nat.le_trans HBW.out.size hbz3) ((Below.refl _ _).alloc (Nat.le_refl _) (.cells #[.slice y.ca y.n.cur.length y.cc, .slice y.oa y.n.off.length y.oc, .int .i64 y.n.slop] 68))))
              have HRB := Lib.hid ((HI.out.2.belowW (Nat.le_trans HBW.out.size hbz3) ((Below.refl _ _).alloc (Nat.le_refl _) (.cells #[.slice y.ca y.n.cur.length y.cc, .slice y.oa y.n.off.length y.oc, .int .i64 y.n.slop] 68))))
              have HBB := Lib.hid (HB3.out.alloc hbz3 (.cells #[.slice y.ca y.n.cur.length y.cc, .slice y.oa y.n.off.length y.oc, .int .i64 y.n.slop] 68))
              by_cases hsl : y.n.slop < 0
              · have HQ := Lib.hid (show okP p = false from okP_not (.inr (.inr (.inr ⟨_, HMM.out, by unfold okN; rw [decide_eq_false (by omega)]; rfl⟩))))
                go_wp2
                go_ret
                exact ⟨congrArg (fun b => Ending.returned (.bool b)) HQ.out.symm, HBA.out⟩
              · by_cases hln : y.n.cur.length = y.n.off.length
                · have hnb : ((y.n.cur.length : Int) != (y.n.off.length : Int)) = false := by rw [hln]; simp
                  have HLN := Lib.hid hln
                  clear hln
                  go_wp2_with fail
                  refine (rbelow_any _ y.n.cur _ w.heap.size HRA.out).mono ?_
                  rintro e wq ⟨rfl, rfl⟩
                  cases hn1 : neg y.n.cur with
                  | true =>
                    have HQ := Lib.hid (show okP p = false from okP_not (.inr (.inr (.inr ⟨_, HMM.out, by unfold okN; rw [hn1]; simp⟩))))
                    clear hn1
                    go_wp2
                    go_ret
                    exact ⟨congrArg (fun b => Ending.returned (.bool b)) HQ.out.symm, HBA.out⟩
                  | false =>
                    have HN1 := Lib.hid hn1
                    clear hn1
                    go_wp2_with fail
                    refine (rbelow_any _ y.n.off _ w.heap.size HRB.out).mono ?_
                    rintro e wq ⟨rfl, rfl⟩
                    cases hn2 : neg y.n.off with
                    | true =>
                      have HQ := Lib.hid (show okP p = false from okP_not (.inr (.inr (.inr ⟨_, HMM.out, by unfold okN; rw [hn2]; simp⟩))))
                      clear hn2
                      go_wp2
                      go_ret
                      exact ⟨congrArg (fun b => Ending.returned (.bool b)) HQ.out.symm, HBA.out⟩
                    | false =>
                      have HQ := Lib.hid (show okN y.n = true from by unfold okN; rw [HN1.out, hn2, decide_eq_true (by omega : 0 ≤ y.n.slop), decide_eq_true HLN.out]; rfl)
                      clear hn2
                      go_wp2
                      go_roundw
                      case rel => exact ⟨k + 1, by show k + 1 ≤ nl.length; omega, HNX.out HQ.out, by go_num, HBB.out⟩
                      case measure => simp [intOf]; omega
                · have HQ := Lib.hid (show okP p = false from okP_not (.inr (.inr (.inr ⟨_, HMM.out, by unfold okN; rw [decide_eq_false hln]; simp⟩))))
                  have hnb : ((y.n.cur.length : Int) != (y.n.off.length : Int)) = true := by simp; omega
                  clear hln
                  go_wp2
                  go_ret
                  exact ⟨congrArg (fun b => Ending.returned (.bool b)) HQ.out.symm, HBA.out⟩
            · have HQ := Lib.hid (show okP p = true from okP_yes HNA.out HND.out HCU.out (fun n hn => by
                rw [← HNM.out] at hn
                obtain ⟨y, hy, rfl⟩ := List.mem_map.1 hn
                obtain ⟨j, hj, rfl⟩ := List.getElem_of_mem hy
                exact HA.out j _ (List.getElem?_eq_getElem hj) (by omega)))
              go_wp2
              go_ret
              exact ⟨congrArg (fun b => Ending.returned (.bool b)) HQ.out.symm, HBW3.out⟩
end Go.Proofs.YtmdpfikalekmlaaGreatDoor
end
