/- Layer 20: Text. -/
import Derived.Test.YtmdpfikalekmlaaGreatDoorTw
import Derived.Test.YtmdpfikalekmlaaGreatDoorOr
import Derived.Test.YtmdpfikalekmlaaGreatDoorStr
import Derived.Deep.RegionHeld3
namespace Go.Proofs.YtmdpfikalekmlaaGreatDoor
open Go.RowKit
set_option maxRecDepth 100000
set_option maxHeartbeats 4000000
set_option linter.unusedSimpArgs false
set_option linter.unusedVariables false

theorem rdl_one {W : World} {n : Nat} {f : Int} (h : W.cell? ⟨n, 0, none⟩ = some (.int .i64 f)) : RdL intS W W.heap.size (.slice (some ⟨n, 0, none⟩) 1 1) [f] := by
  have hlt : n < W.heap.size := World.block_lt_of_cell? W ⟨n, 0, none⟩ h
  refine ⟨some ⟨n, 0, none⟩, 1, rfl, Nat.le_refl _, by unfold maxLen; omega, fun _ => ⟨_, rfl, hlt, fun j u hj => ?_⟩, fun h => by cases h⟩
  have hj0 : j = 0 := by
    have := (List.getElem?_eq_some_iff.1 hj).1
    simp [Shape.cells, intS] at this; omega
  subst hj0
  cases hj
  exact h
theorem alloc2_cell (w : World) (o : Obj) (x : Value) (t : TypeId) : ((w.alloc o).alloc (.cells #[x] t)).cell? ⟨w.heap.size + 1, 0, none⟩ = some x := by
  have h := World.cell?_alloc_new (w.alloc o) #[x] t 0
  rw [World.size_alloc] at h
  exact h
def strs (l : List (List UInt8)) : List ByteArray := l.map str
theorem strs_snoc (l : List (List UInt8)) (x : List UInt8) : strs (l ++ [x]) = strs l ++ [str x] := by simp [strs]
theorem strs_length (l : List (List UInt8)) : (strs l).length = l.length := by simp [strs]
theorem strs_data (l : List (List UInt8)) : (strs l).map (·.data.toList) = l := by
  unfold strs; rw [List.map_map]
  have : ((fun x : ByteArray => x.data.toList) ∘ str) = id := by funext x; simp [str]
  rw [this, List.map_id]
theorem insOk_op {x : Ins} (h : insOk x = true) : 0 ≤ x.op ∧ x.op < 17 := by
  unfold insOk at h
  split at h
  · cases h
  · rename_i n hn
    have := argsN_some hn
    exact ⟨this.1, this.2.1⟩
theorem insL_0 {o xa xb : Nat} (h : opArgs o = 0) : insL ⟨(o : Int), xa, xb⟩ = opName o := by
  unfold insL; simp only [Int.toNat_natCast]; rw [h, if_neg (by decide), if_neg (by decide), List.append_nil, List.append_nil]
theorem insL_1 {o xa xb : Nat} (h : opArgs o = 1) : insL ⟨(o : Int), xa, xb⟩ = opName o ++ ([32] ++ dgt xa) := by
  unfold insL; simp only [Int.toNat_natCast]; rw [h, if_pos (by decide), if_neg (by decide), List.append_nil]; rfl
theorem insL_2 {o xa xb : Nat} (h : opArgs o = 2) : insL ⟨(o : Int), xa, xb⟩ = opName o ++ ([32] ++ dgt xa) ++ ([32] ++ dgt xb) := by
  unfold insL; simp only [Int.toNat_natCast]; rw [h, if_pos (by decide), if_pos (by decide)]; rfl
def TxtRet (bad ok : Value) (p : Pg) (w : World) (e : Ending) (w' : World) : Prop :=
  Below w.heap.size w w' ∧ e = .returned (match textP p with | some t => .tuple #[.string (str t), ok] | none => .tuple #[.string ⟨#[]⟩, bad])
theorem txtRet_no {bad ok : Value} {p : Pg} {w w' : World} (h : textP p = none) (hb : Below w.heap.size w w') : TxtRet bad ok p w (.returned (.tuple #[.string ⟨#[]⟩, bad])) w' := ⟨hb, by rw [h]⟩
theorem txtRet_ok {bad ok : Value} {p : Pg} {w w' : World} {t : List UInt8} {s : ByteArray} (h : textP p = some t) (hs : s = str t) (hb : Below w.heap.size w w') : TxtRet bad ok p w (.returned (.tuple #[.string s, ok])) w' := ⟨hb, by rw [h, hs]⟩
theorem textP_none {p : Pg} (h : (if okP p = true then decI p.code else none) = none) : textP p = none := by
  unfold textP
  split
  · rename_i c hc
    split
    · rename_i ho; rw [if_pos ho, hc] at h; cases h
    · rfl
  · rfl
theorem textP_some {p : Pg} {code : List Ins} (h : (if okP p = true then decI p.code else none) = some code) : okP p = true ∧ decI p.code = some code ∧ textP p = some (unl (linesL p code)) := by
  split at h
  · rename_i ho
    refine ⟨ho, h, ?_⟩
    unfold textP; rw [h]; simp only []; rw [if_pos ho]
  · cases h
theorem okP_parts {p : Pg} (h : okP p = true) : neg p.avgs = false ∧ neg p.drive = false ∧ (∀ c ∈ p.curs, 0 ≤ c.field) ∧ ∀ n ∈ p.nears, okN n = true := by
  unfold okP at h
  simp only [Bool.and_eq_true, Bool.not_eq_true', List.all_eq_true, decide_eq_true_eq] at h
  exact ⟨h.1.1.1, h.1.1.2, h.1.2, h.2⟩
theorem okN_parts {n : Nr} (h : okN n = true) : 0 ≤ n.slop ∧ neg n.cur = false ∧ neg n.off = false ∧ n.cur.length = n.off.length := by
  unfold okN at h
  simp only [Bool.and_eq_true, Bool.not_eq_true', decide_eq_true_eq] at h
  exact ⟨h.1.1.1, h.1.1.2, h.1.2, h.2⟩
theorem neg_one {x : Int} (h : 0 ≤ x) : neg [x] = false := by unfold neg; simp; omega
theorem strcell {W : World} {n : Nat} {s : ByteArray} (h : W.cell? ⟨n, 0, none⟩ = some (.string s)) : ∀ j u, (strS.enc s)[j]? = some u → W.cell? ⟨n, j, none⟩ = some u := by
  intro j u hj
  have hj0 : j = 0 := by
    have := (List.getElem?_eq_some_iff.1 hj).1
    simp [strS] at this; exact this
  subst hj0
  cases hj
  exact h
theorem strs_lit1 (w : World) (x : List UInt8) : OwnL strS (w.alloc (.cells #[.string (str x)] 9)) w.heap.size (.slice (some ⟨w.heap.size, 0, none⟩) 1 1) (strs [x]) :=
  World.ownsRow_lit w #[.string (str x)] 1 (Nat.le_refl _) (by unfold maxLen; omega) rfl
/-- The lines that are made, in memory of their own. -/
def TxO (w3 : World) (ov : Value) (pre : List (List UInt8)) (wr : World) : Prop := OwnL strS wr w3.heap.size ov (strs pre) ∧ Below w3.heap.size w3 wr
def Tx1 (p : Pg) (w3 : World) (ov iv : Value) (wr : World) : Prop := ∃ k : Nat, k ≤ p.curs.length ∧ iv = .int .i64 (k : Int) ∧ TxO w3 ov ([lineL [97, 118, 103, 115] p.avgs] ++ (p.curs.take k).map curL) wr
def Tx4 (p : Pg) (code : List Ins) (w3 : World) (ov iv : Value) (wr : World) : Prop := ∃ k : Nat, k ≤ code.length ∧ iv = .int .i64 (k : Int) ∧ TxO w3 ov (headL p ++ (code.take k).map insL) wr
def Tx2 (nl : List NrV) (w3 : World) (pre : List (List UInt8)) (ov iv : Value) (wr : World) : Prop := ∃ k : Nat, k ≤ nl.length ∧ iv = .int .i64 (k : Int) ∧ TxO w3 ov (pre ++ (nl.take k).map fun y => nearL y.n) wr
def Tx3 (n : Nr) (w5 : World) (sv iv : Value) (wr : World) : Prop := ∃ m : Nat, m ≤ n.cur.length ∧ iv = .int .i64 (m : Int) ∧ sv = .string (str (lineL [110, 101, 97, 114] [n.slop] ++ ((n.cur.zip n.off).take m).flatMap pairL)) ∧ Below w5.heap.size w5 wr
def cur1 (f : Int) : List UInt8 := lineL [99, 117, 114, 115, 111, 114] [f]
theorem Text_any (x : PgV) (p : Pg) (w : World) (ea : List Addr) (h : PgR w w.heap.size x p) (hs : SmallPg p) (hE : ErrFew w ea) (hT : TabEnv w) (hP : Pow10 w) :
    Calls Tryz.prog 16 #[x.val p] w (TxtRet (errI ea 20) .nilIface p w) := by
  obtain ⟨av, cv, nv, dv, kv, nl⟩ := x
  obtain ⟨aA, acap, rfl, -, -⟩ := h.avgs.open_
  obtain ⟨cA, ccap, rfl, -, -⟩ := h.curs.open_
  have hno : RdL nrS w w.heap.size nv nl := h.nears
  obtain ⟨nA, ncap, hnv, -, -⟩ := hno.open_
  subst hnv
  clear hno
  obtain ⟨dA, dcap, rfl, -, -⟩ := h.drive.open_
  obtain ⟨kA, kcap, rfl, -, -⟩ := h.code.open_
  have H := Lib.hid h; have HE := Lib.hid hE; have HT := Lib.hid hT; have HS := Lib.hid hs; have HP := Lib.hid hP
  have HNM := Lib.hid h.nmap
  have hl1 := hs.curs.2
  have hl2 : nl.length ≤ 2000000 := by have e := hs.nears.2; rw [← h.nmap, List.length_map] at e; exact Nat.le_trans e (by decide)
  clear h hE hT hs hP
  have hb0 : Below w.heap.size w (w.alloc (.cells #[.slice aA p.avgs.length acap, .slice cA p.curs.length ccap, .slice nA nl.length ncap, .bool p.all, .slice dA p.drive.length dcap, .slice kA p.code.length kcap] 28)) := (Below.refl _ _).alloc (Nat.le_refl _) _
  have HLD := Lib.hid (listed_any ⟨.slice aA p.avgs.length acap, .slice cA p.curs.length ccap, .slice nA nl.length ncap, .slice dA p.drive.length dcap, .slice kA p.code.length kcap, nl⟩ p _ ea ((H.out.below hb0).more hb0.size) HS.out (HE.out.below hb0) (HT.out.below hb0))
  simp only [PgV.val]
  go_enter Tryz.func16, Tryz.ntmps16
  go_wp2_with fail
  refine HLD.out.mono ?_
  rintro e w1 ⟨hb1, hm⟩
  have k0 : w1.cell? ⟨w.heap.size, 0, none⟩ = some (.slice aA p.avgs.length acap) := cellN hb1 rfl
  have k1 : w1.cell? ⟨w.heap.size, 1, none⟩ = some (.slice cA p.curs.length ccap) := cellN hb1 rfl
  have k2 : w1.cell? ⟨w.heap.size, 2, none⟩ = some (.slice nA nl.length ncap) := cellN hb1 rfl
  have k3 : w1.cell? ⟨w.heap.size, 3, none⟩ = some (.bool p.all) := cellN hb1 rfl
  have k4 : w1.cell? ⟨w.heap.size, 4, none⟩ = some (.slice dA p.drive.length dcap) := cellN hb1 rfl
  have kz : w.heap.size < w1.heap.size := World.block_lt_of_cell? w1 ⟨w.heap.size, 0, none⟩ k0
  have HB1 := Lib.hid (hb0.trans (hb1.mono hb0.size))
  have hz0 := hb0.size
  clear hb0 HLD
  generalize hRR : (if okP p = true then decI p.code else none) = R at hm
  have HRR := Lib.hid hRR
  clear hRR
  cases R with
  | none =>
    obtain rfl := hm
    have hc : w1.cell? ⟨16, 0, none⟩ = some (errI ea 20) := (HE.out.below HB1.out).cell 20 (by decide)
    clear hb1
    go_wp2
    go_region
    go_wp2
    go_ret2
    exact txtRet_no (textP_none HRR.out) HB1.out.drew
  | some code =>
    obtain ⟨rv, rfl, ho⟩ := hm
    obtain ⟨rA, rcap, rfl, -, -, -⟩ := ho.open_
    have HO := Lib.hid (RdL.of_own ho)
    have HTX := Lib.hid (textP_some HRR.out)
    have HOK := Lib.hid (okP_parts HTX.out.1)
    clear hb1 ho hz0
    go_wp2_with fail
    refine (line_any [97, 118, 103, 115] (.slice aA p.avgs.length acap) p.avgs w1 w.heap.size HB1.out.size (H.out.below HB1.out).avgs HS.out.avgs.1 HOK.out.1 (by decide) (by have := HS.out.avgs.2; omega) (HP.out.below HB1.out)).mono ?_
    rintro e w3 ⟨rfl, hb3⟩
    have m1 := (hb3.cell (p := ⟨w.heap.size, 1, none⟩) kz).trans k1
    have m2 := (hb3.cell (p := ⟨w.heap.size, 2, none⟩) kz).trans k2
    have m3 := (hb3.cell (p := ⟨w.heap.size, 3, none⟩) kz).trans k3
    have m4 := (hb3.cell (p := ⟨w.heap.size, 4, none⟩) kz).trans k4
    have kz3 : w.heap.size < w3.heap.size := Nat.lt_of_lt_of_le kz hb3.size
    have HB3 := Lib.hid (HB1.out.trans (hb3.mono HB1.out.size))
    have HO3 := Lib.hid ((HO.out.below hb3).more hb3.size)
    have HE3 := Lib.hid (HE.out.below HB3.out); have HT3 := Lib.hid (HT.out.below HB3.out); have HP3 := Lib.hid (HP.out.below HB3.out)
    have H3 := Lib.hid ((H.out.below HB3.out).more HB3.out.size)
    clear hb3 k0 k1 k2 k3 k4 kz HO HE HT HP
    go_wp2
    go_loopw [6, 32] (fun ov iv wr => Tx1 p w3 ov iv wr) (fun _ iv _ => p.curs.length - (intOf iv).toNat)
    case atStart => exact ⟨0, Nat.zero_le _, rfl, strs_lit1 _ _, (Below.refl _ _).alloc (Nat.le_refl _) _⟩
    case round =>
      obtain ⟨k, hk, rfl, ho, hb⟩ := hrel
      have HOW := Lib.hid ho; have HB := Lib.hid hb
      have hBr := hb.size
      have hlen : ([lineL [97, 118, 103, 115] p.avgs] ++ (p.curs.take k).map curL).length = 1 + k := by simp; omega
      have HLEN := Lib.hid hlen
      generalize hpre : [lineL [97, 118, 103, 115] p.avgs] ++ (p.curs.take k).map curL = pre at *
      have HPRE := Lib.hid hpre
      have n2 := (hb.cell (p := ⟨w.heap.size, 2, none⟩) kz3).trans m2
      clear ho hb hpre hlen
      by_cases hlt : k < p.curs.length
      · obtain ⟨a, rfl, hab, c0, c1⟩ := at_lf (H3.out.below HB.out).curs hlt
        have hsm := HS.out.curs.1 _ (List.getElem_mem hlt)
        have HF := Lib.hid (HOK.out.2.2.1 _ (List.getElem_mem hlt))
        have HNX := Lib.hid (show [lineL [97, 118, 103, 115] p.avgs] ++ (p.curs.take (k + 1)).map curL = pre ++ [curL p.curs[k]] from by
          rw [List.take_succ_eq_append_getElem hlt, List.map_append, ← List.append_assoc, HPRE.out]; rfl)
        generalize p.curs[k] = c at *
        have l1 := line1_len [99, 117, 114, 115, 111, 114] hsm.1.2
        have l2 := quoL_len c.term
        have l3 := hsm.2
        have HLN := Lib.hid (fun (W : World) (sv : Value) (hv : RdL intS W W.heap.size sv [c.field]) (hp : Pow10 W) => line_any [99, 117, 114, 115, 111, 114] sv [c.field] W W.heap.size (Nat.le_refl _) hv (SmallInts.one hsm.1) (neg_one HF.out) (by decide) (by simp) hp)
        have HQU := Lib.hid (fun (W : World) => quoted_any (str c.term) W (by rw [str_size]; omega))
        have q1 := fun W => str_add (P := Tryz.prog) (str (cur1 c.field)) ⟨#[32]⟩ (by rw [str_size, show (⟨#[32]⟩ : ByteArray).size = 1 from rfl]; unfold cur1; simp at l1; omega) W
        have q2 := fun W => str_add (P := Tryz.prog) (str (cur1 c.field) ++ ⟨#[32]⟩) (str (quoL c.term)) (by rw [ba_append_size, str_size, str_size, show (⟨#[32]⟩ : ByteArray).size = 1 from rfl]; unfold cur1; simp at l1; omega) W
        have HEQ := Lib.hid (show str (cur1 c.field) ++ ⟨#[32]⟩ ++ str (quoL c.term) = str (curL c) from by
          rw [show (⟨#[32]⟩ : ByteArray) = str [32] from rfl, str_cat2, str_cat2]; rfl)
        clear l1 l2 l3 hsm
        have d0 : (wr.alloc (.cells #[.int .i64 c.field, .string (str c.term)] 66)).cell? ⟨wr.heap.size, 0, none⟩ = some (.int .i64 c.field) := by rw [World.cell?_alloc_new]; rfl
        have d1 : (wr.alloc (.cells #[.int .i64 c.field, .string (str c.term)] 66)).cell? ⟨wr.heap.size, 1, none⟩ = some (.string (str c.term)) := by rw [World.cell?_alloc_new]; rfl
        have dz : wr.heap.size < (wr.alloc (.cells #[.int .i64 c.field, .string (str c.term)] 66)).heap.size := by rw [World.size_alloc]; omega
        have HB4 := Lib.hid (HB.out.alloc hBr (.cells #[.int .i64 c.field, .string (str c.term)] 66))
        have HW4 := Lib.hid (HOW.out.alloc (.cells #[.int .i64 c.field, .string (str c.term)] 66))
        go_wp2
        generalize wr.alloc (.cells #[.int .i64 c.field, .string (str c.term)] 66) = w4 at *
        have HC1 := Lib.hid (fun (W : World) (sv : Value) (hW : Below w4.heap.size w4 W) (hv : RdL intS W W.heap.size sv [c.field]) => (HLN.out W sv hv (HP3.out.below (HB4.out.trans (hW.mono HB4.out.size)))).mono (fun e W' h => show e = .returned (.string (str (cur1 c.field))) ∧ Below W.heap.size W W' ∧ Below w4.heap.size w4 W' ∧ W'.cell? ⟨wr.heap.size, 0, none⟩ = some (.int .i64 c.field) ∧ W'.cell? ⟨wr.heap.size, 1, none⟩ = some (.string (str c.term)) from
          ⟨h.1, h.2, hW.trans (h.2.mono hW.size), ((hW.trans (h.2.mono hW.size)).cell (p := ⟨wr.heap.size, 0, none⟩) dz).trans d0, ((hW.trans (h.2.mono hW.size)).cell (p := ⟨wr.heap.size, 1, none⟩) dz).trans d1⟩))
        have HC2 := Lib.hid (fun (W : World) (hW : Below w4.heap.size w4 W) => (HQU.out W).mono (fun e W' h => show e = .returned (.string (str (quoL c.term))) ∧ Below W.heap.size W W' ∧ Below w4.heap.size w4 W' ∧ W'.cell? ⟨wr.heap.size, 0, none⟩ = some (.int .i64 c.field) ∧ W'.cell? ⟨wr.heap.size, 1, none⟩ = some (.string (str c.term)) from
          ⟨by rw [h.1, str_data], h.2, hW.trans (h.2.mono hW.size), ((hW.trans (h.2.mono hW.size)).cell (p := ⟨wr.heap.size, 0, none⟩) dz).trans d0, ((hW.trans (h.2.mono hW.size)).cell (p := ⟨wr.heap.size, 1, none⟩) dz).trans d1⟩))
        have HZ4 := Lib.hid HB4.out.size
        have HLE := Lib.hid (show (strs pre).length + 1 ≤ 970000000000 by rw [strs_length, HLEN.out]; omega)
        go_region_law (first
          | ((with_reducible refine OwnL.stepAppend strOk (HW4.out.below (by repeat (first | assumption | exact Below.refl _ _ | with_reducible refine Below.drew ?_ | with_reducible refine Below.alloc ?_ (by first | exact Nat.le_refl _ | exact Below.size (by assumption)) _))) (str (cur1 c.field) ++ ⟨#[32]⟩ ++ str (quoL c.term)) _ rfl _ _ rfl rfl rfl (by refine strcell ?_; simp [World.cell?_alloc_new]) (Nat.le_trans HZ4.out (Below.size (B := w4.heap.size) (by repeat (first | assumption | exact Below.refl _ _ | with_reducible refine Below.drew ?_ | with_reducible refine Below.alloc ?_ (by first | exact Nat.le_refl _ | exact Below.size (by assumption)) _)))) HLE.out (fun v' w' h2 h3 h3k => ?_)); (have hfin := (HB4.out.trans (Below.mono (w := w4) (by repeat (first | assumption | exact Below.refl _ _ | with_reducible refine Below.drew ?_ | with_reducible refine Below.alloc ?_ (by first | exact Nat.le_refl _ | exact Below.size (by assumption)) _)) HZ4.out)).trans h3))
          | (go_simp; go_at_call 39; refine (HC1.out _ _ (by repeat (first | assumption | exact Below.refl _ _ | with_reducible refine Below.drew ?_ | with_reducible refine Below.alloc ?_ (by first | exact Nat.le_refl _ | exact Below.size (by assumption)) _)) (by refine rdl_one ?_; first | (simp [World.cell?_alloc_new]; done) | exact (hb5.cell (p := ⟨_, 0, none⟩) (by simp)).trans (by simp [World.cell?_alloc_new]))).mono ?_; rintro e w5 ⟨rfl, hb5, hb5', e0, e1⟩)
          | (go_simp; go_at_call 40; refine (HC2.out _ (by repeat (first | assumption | exact Below.refl _ _ | with_reducible refine Below.drew ?_ | with_reducible refine Below.alloc ?_ (by first | exact Nat.le_refl _ | exact Below.size (by assumption)) _))).mono ?_; rintro e w5 ⟨rfl, hb5, hb5', e0, e1⟩))
        --R8
        all_goals
          have H2 := Lib.hid h2; have HB5 := Lib.hid hfin
          clear h2 h3 h3k hfin
          go_wp2
          go_roundw
          case rel =>
            refine ⟨k + 1, by omega, by go_num, ?_, HB5.out⟩
            have h := H2.out
            rw [HNX.out, strs_snoc]
            rw [HEQ.out] at h
            exact h
          case measure => simp [intOf]; omega
      · have HC0 := Lib.hid (show pre = [lineL [97, 118, 103, 115] p.avgs] ++ p.curs.map curL from by rw [← HPRE.out, List.take_of_length_le (by omega)])
        have hle1 : pre.length ≤ 2000001 := by rw [HLEN.out]; omega
        generalize hb1 : pre = pre1 at *
        have kzr : w.heap.size < wr.heap.size := Nat.lt_of_lt_of_le kz3 hBr
        have HNL := Lib.hid hle1
        clear hb1 hle1
        go_wp2
        obtain ⟨wo, rfl⟩ : ∃ wo, wo = wr := ⟨_, rfl⟩
        go_loopw [6, 52] (fun ov iv wy => Tx2 nl w3 pre1 ov iv wy) (fun _ iv _ => nl.length - (intOf iv).toNat)
        case atStart => exact ⟨0, Nat.zero_le _, rfl, by simpa using HOW.out, HB.out⟩
        case round =>
          clear HOW HB hBr
          obtain ⟨i, hi, rfl, ho, hb⟩ := hrel
          have HOY := Lib.hid ho; have HBY := Lib.hid hb
          have hBy := hb.size
          have hlen : (pre1 ++ (nl.take i).map fun y => nearL y.n).length ≤ 2000001 + i := by have := HNL.out; simp; omega
          have HLEN2 := Lib.hid hlen
          generalize hpre : pre1 ++ (nl.take i).map (fun y => nearL y.n) = pre2 at *
          have HPRE2 := Lib.hid hpre
          have n3 := (hb.cell (p := ⟨w.heap.size, 3, none⟩) kz3).trans m3
          have n4 := (hb.cell (p := ⟨w.heap.size, 4, none⟩) kz3).trans m4
          clear ho hb hpre hlen
          by_cases hlt2 : i < nl.length
          · --NEAR
            obtain ⟨a, rfl, hab, c0, c1, c2⟩ := at_nr (H3.out.below HBY.out).nears hlt2
            have hin := H3.out.inner _ (List.getElem_mem hlt2)
            have hmm : nl[i].n ∈ p.nears := mem_near (x := ⟨.slice none 0 0, .slice none 0 0, .slice none 0 0, .slice none 0 0, .slice none 0 0, nl⟩) HNM.out hlt2
            have hsm := HS.out.nears.1 _ hmm
            have hok := okN_parts (HOK.out.2.2.2 _ hmm)
            have HNX := Lib.hid (show pre1 ++ (nl.take (i + 1)).map (fun y => nearL y.n) = pre2 ++ [nearL nl[i].n] from by
              rw [List.take_succ_eq_append_getElem hlt2, List.map_append, ← List.append_assoc, HPRE2.out]; rfl)
            generalize nl[i] = y at *
            obtain ⟨yca, ycc, yoa, yoc, yn⟩ := y
            simp only [] at c0 c1 c2 hin hmm hsm hok HNX
            have HIN := Lib.hid hin; have HSM := Lib.hid hsm; have HNO := Lib.hid hok
            have hyl : yn.cur.length ≤ 2000000 := Nat.le_trans hsm.2.1.2 (by decide)
            clear hin hmm hsm hok
            have d0 : (wr.alloc (.cells #[.slice yca yn.cur.length ycc, .slice yoa yn.off.length yoc, .int .i64 yn.slop] 68)).cell? ⟨wr.heap.size, 0, none⟩ = some (.slice yca yn.cur.length ycc) := by rw [World.cell?_alloc_new]; rfl
            have d1 : (wr.alloc (.cells #[.slice yca yn.cur.length ycc, .slice yoa yn.off.length yoc, .int .i64 yn.slop] 68)).cell? ⟨wr.heap.size, 1, none⟩ = some (.slice yoa yn.off.length yoc) := by rw [World.cell?_alloc_new]; rfl
            have dz : wr.heap.size < (wr.alloc (.cells #[.slice yca yn.cur.length ycc, .slice yoa yn.off.length yoc, .int .i64 yn.slop] 68)).heap.size := by rw [World.size_alloc]; omega
            have HBA := Lib.hid (HBY.out.alloc hBy (.cells #[.slice yca yn.cur.length ycc, .slice yoa yn.off.length yoc, .int .i64 yn.slop] 68))
            have HOA := Lib.hid (HOY.out.alloc (.cells #[.slice yca yn.cur.length ycc, .slice yoa yn.off.length yoc, .int .i64 yn.slop] 68))
            go_wp2_with fail
            have hbx : Below (wr.alloc (.cells #[.slice yca yn.cur.length ycc, .slice yoa yn.off.length yoc, .int .i64 yn.slop] 68)).heap.size (wr.alloc (.cells #[.slice yca yn.cur.length ycc, .slice yoa yn.off.length yoc, .int .i64 yn.slop] 68)) ((wr.alloc (.cells #[.slice yca yn.cur.length ycc, .slice yoa yn.off.length yoc, .int .i64 yn.slop] 68)).alloc (.cells #[.int .i64 yn.slop] 3)) := (Below.refl _ _).alloc (Nat.le_refl _) _
            have hP4 := HP3.out.below (HBA.out.trans (hbx.mono HBA.out.size))
            refine (line_any [110, 101, 97, 114] _ [yn.slop] _ _ (Nat.le_refl _) (rdl_one (alloc2_cell _ _ _ _)) (SmallInts.one HSM.out.1) (neg_one HNO.out.1) (by decide) (by simp) hP4).mono ?_
            rintro e w5 ⟨rfl, hb5⟩
            have hb6 := hbx.trans (hb5.mono hbx.size)
            have e0 := (hb6.cell (p := ⟨wr.heap.size, 0, none⟩) dz).trans d0
            have e1 := (hb6.cell (p := ⟨wr.heap.size, 1, none⟩) dz).trans d1
            have ez : wr.heap.size < w5.heap.size := Nat.lt_of_lt_of_le dz hb6.size
            have HB5 := Lib.hid (HBA.out.trans (hb6.mono HBA.out.size))
            have HO5 := Lib.hid (HOA.out.below hb6)
            clear hbx hP4 hb5 hb6 d0 d1 dz HBA HOA
            go_wp2
            obtain ⟨wp, rfl⟩ : ∃ wp, wp = wr := ⟨_, rfl⟩
            go_loopw [11, 63] (fun sv iv wy => Tx3 yn w5 sv iv wy) (fun _ iv _ => yn.cur.length - (intOf iv).toNat)
            case atStart => exact ⟨0, Nat.zero_le _, rfl, by simp, Below.refl _ _⟩
            case round =>
              obtain ⟨m, hm, rfl, rfl, hb⟩ := hrel
              have HBZ := Lib.hid hb
              clear hb
              by_cases hlt3 : m < yn.cur.length
              · --PAIR
                have hlo : m < yn.off.length := by have := HNO.out.2.2.2; omega
                obtain ⟨a, rfl, hab, c0⟩ := at_int (HIN.out.1.below (HB5.out.trans (HBZ.out.mono HB5.out.size))) hlt3
                obtain ⟨b, rfl, hbb, c1⟩ := at_int (HIN.out.2.below (HB5.out.trans (HBZ.out.mono HB5.out.size))) hlo
                have HZY := Lib.hid (HB5.out.trans (HBZ.out.mono HB5.out.size))
                have f1 := (HBZ.out.cell (p := ⟨wp.heap.size, 1, none⟩) ez).trans e1
                have fz : wp.heap.size < wr.heap.size := Nat.lt_of_lt_of_le ez HBZ.out.size
                have hbb2 : (b.add m).block < wr.heap.size := Nat.lt_of_lt_of_le hbb HZY.out.size
                have hx1 := neg_false HNO.out.2.1 _ (List.getElem_mem hlt3)
                have hx2 := neg_false HNO.out.2.2.1 _ (List.getElem_mem hlo)
                have hx3 := HSM.out.2.1.1 _ (List.getElem_mem hlt3)
                have hx4 := HSM.out.2.2.1 _ (List.getElem_mem hlo)
                have hz := zip_snoc hlt3 hlo
                generalize yn.cur[m] = xc at *
                generalize yn.off[m] = xo at *
                obtain ⟨xn, rfl⟩ : ∃ n : Nat, xc = (n : Int) := ⟨xc.toNat, by omega⟩
                obtain ⟨zn, rfl⟩ : ∃ n : Nat, xo = (n : Int) := ⟨xo.toNat, by omega⟩
                have hsz : (str (lineL [110, 101, 97, 114] [yn.slop] ++ ((yn.cur.zip yn.off).take m).flatMap pairL)).size ≤ 100000000 := by
                  rw [str_size, List.length_append]
                  have g1 := line1_len [110, 101, 97, 114] HSM.out.1.2
                  have g2 := pairs_len (yn.cur.zip yn.off) m (fun q hq => by
                    have := List.of_mem_zip hq
                    exact ⟨(HSM.out.2.1.1 _ this.1).2, (HSM.out.2.2.1 _ this.2).2⟩)
                  simp only [List.length_cons, List.length_nil] at g1
                  omega
                have HNX3 := Lib.hid (show str (lineL [110, 101, 97, 114] [yn.slop] ++ ((yn.cur.zip yn.off).take m).flatMap pairL) ++ (⟨#[32]⟩ ++ str (dgt xn) ++ ⟨#[43]⟩ ++ str (dgt zn)) = str (lineL [110, 101, 97, 114] [yn.slop] ++ ((yn.cur.zip yn.off).take (m + 1)).flatMap pairL) from by
                  rw [hz, show (⟨#[32]⟩ : ByteArray) = str [32] from rfl, show (⟨#[43]⟩ : ByteArray) = str [43] from rfl, str_cat2, str_cat2, str_cat2, str_cat2]
                  simp [pairL, numC])
                generalize str (lineL [110, 101, 97, 114] [yn.slop] ++ ((yn.cur.zip yn.off).take m).flatMap pairL) = sb at *
                have g1 := dgt_len xn (by omega)
                have g2 := dgt_len zn (by omega)
                have q1 := fun W => str_add (P := Tryz.prog) ⟨#[32]⟩ (str (dgt xn)) (by rw [str_size, show (⟨#[32]⟩ : ByteArray).size = 1 from rfl]; omega) W
                have q2 := fun W => str_add (P := Tryz.prog) (⟨#[32]⟩ ++ str (dgt xn)) ⟨#[43]⟩ (by rw [ba_append_size, str_size, show (⟨#[32]⟩ : ByteArray).size = 1 from rfl, show (⟨#[43]⟩ : ByteArray).size = 1 from rfl]; omega) W
                have q3 := fun W => str_add (P := Tryz.prog) (⟨#[32]⟩ ++ str (dgt xn) ++ ⟨#[43]⟩) (str (dgt zn)) (by rw [ba_append_size, ba_append_size, str_size, str_size, show (⟨#[32]⟩ : ByteArray).size = 1 from rfl, show (⟨#[43]⟩ : ByteArray).size = 1 from rfl]; omega) W
                have q4 := fun W => str_add (P := Tryz.prog) sb (⟨#[32]⟩ ++ str (dgt xn) ++ ⟨#[43]⟩ ++ str (dgt zn)) (by rw [ba_append_size, ba_append_size, ba_append_size, str_size, str_size, show (⟨#[32]⟩ : ByteArray).size = 1 from rfl, show (⟨#[43]⟩ : ByteArray).size = 1 from rfl]; omega) W
                have HI1 := Lib.hid (fun (W : World) (hW : W.cell? ⟨wp.heap.size, 1, none⟩ = some (.slice (some b) yn.off.length yoc) ∧ W.cell? (b.add m) = some (.int .i64 (zn : Int)) ∧ Below wr.heap.size wr W) => (Itoa_any xn (by omega) W (HP3.out.below (HZY.out.trans (hW.2.2.mono HZY.out.size)))).mono (fun e W' h => show e = .returned (.string (str (dgt xn))) ∧ (W'.cell? ⟨wp.heap.size, 1, none⟩ = some (.slice (some b) yn.off.length yoc) ∧ W'.cell? (b.add m) = some (.int .i64 (zn : Int)) ∧ Below wr.heap.size wr W') from
                  ⟨h.1, ((hW.2.2.trans (h.2.mono hW.2.2.size)).cell (p := ⟨wp.heap.size, 1, none⟩) fz).trans f1, ((hW.2.2.trans (h.2.mono hW.2.2.size)).cell hbb2).trans c1, hW.2.2.trans (h.2.mono hW.2.2.size)⟩))
                have HI2 := Lib.hid (fun (W : World) (hW : W.cell? ⟨wp.heap.size, 1, none⟩ = some (.slice (some b) yn.off.length yoc) ∧ W.cell? (b.add m) = some (.int .i64 (zn : Int)) ∧ Below wr.heap.size wr W) => (Itoa_any zn (by omega) W (HP3.out.below (HZY.out.trans (hW.2.2.mono HZY.out.size)))).mono (fun e W' h => show e = .returned (.string (str (dgt zn))) ∧ (W'.cell? ⟨wp.heap.size, 1, none⟩ = some (.slice (some b) yn.off.length yoc) ∧ W'.cell? (b.add m) = some (.int .i64 (zn : Int)) ∧ Below wr.heap.size wr W') from
                  ⟨h.1, ((hW.2.2.trans (h.2.mono hW.2.2.size)).cell (p := ⟨wp.heap.size, 1, none⟩) fz).trans f1, ((hW.2.2.trans (h.2.mono hW.2.2.size)).cell hbb2).trans c1, hW.2.2.trans (h.2.mono hW.2.2.size)⟩))
                clear g1 g2 hx1 hx2 hx3 hx4 hz hsz
                go_wp2
                go_region_held3 (fun w' => w'.cell? ⟨wp.heap.size, 1, none⟩ = some (.slice (some b) yn.off.length yoc) ∧ w'.cell? (b.add m) = some (.int .i64 (zn : Int)) ∧ Below wr.heap.size wr w') (refine ⟨?_, ?_, ?_⟩ <;> (first | assumption | exact Below.refl _ _ | exact (Below.refl _ _).drew | (with_reducible refine Below.drew ?_; assumption) | go_keep)) (first | ((with_reducible refine (HI1.out _ ?_).mono ?_); (refine ⟨?_, ?_, ?_⟩ <;> (first | assumption | exact Below.refl _ _ | exact (Below.refl _ _).drew | (with_reducible refine Below.drew ?_; assumption) | go_keep)); rintro e w' ⟨rfl, hk1, hk2, hk3⟩) | ((with_reducible refine (HI2.out _ ?_).mono ?_); (refine ⟨?_, ?_, ?_⟩ <;> (first | assumption | exact Below.refl _ _ | exact (Below.refl _ _).drew | (with_reducible refine Below.drew ?_; assumption) | go_keep)); rintro e w' ⟨rfl, hk1, hk2, hk3⟩))
                all_goals
                  rename_i hfin
                  have HBF := Lib.hid (HBZ.out.trans (hfin.2.2.mono HBZ.out.size))
                  clear hfin
                  go_wp2
                  go_roundw
                  case rel => exact ⟨m + 1, by omega, by go_num, by rw [HNX3.out], HBF.out⟩
                  case measure => simp [intOf]; omega
              · --NEND
                have HZY := Lib.hid (HB5.out.trans (HBZ.out.mono HB5.out.size))
                have HOZ := Lib.hid (HO5.out.below HBZ.out)
                have HNE := Lib.hid (show str (lineL [110, 101, 97, 114] [yn.slop] ++ ((yn.cur.zip yn.off).take m).flatMap pairL) = str (nearL yn) from by
                  rw [List.take_of_length_le (by rw [List.length_zip]; omega)]; rfl)
                have hzs := HZY.out.size
                have hal : (strs pre2).length + 1 ≤ 970000000000 := by rw [strs_length]; have := HLEN2.out; omega
                generalize str (lineL [110, 101, 97, 114] [yn.slop] ++ ((yn.cur.zip yn.off).take m).flatMap pairL) = sb at *
                go_wp2_with (at_builtin; refine OwnL.append strOk HOZ.out sb rfl _ _ rfl rfl rfl _ rfl hzs hal ?_; intro v6 w6 ho6 hb6; have HO6 := Lib.hid ho6; have HB6 := Lib.hid (HZY.out.trans hb6); clear ho6 hb6)
                go_roundw
                case rel =>
                  refine ⟨i + 1, by omega, by go_num, ?_, HB6.out⟩
                  have h := HO6.out
                  rw [HNE.out] at h
                  rw [HNX.out, strs_snoc]
                  exact h
                case measure => simp [intOf]; omega
          · --TAIL
            have HC2 := Lib.hid (show pre2 = [lineL [97, 118, 103, 115] p.avgs] ++ p.curs.map curL ++ p.nears.map nearL from by
              rw [← HPRE2.out, HC0.out, List.take_of_length_le (by omega), ← HNM.out, List.map_map]; rfl)
            have HHD := Lib.hid (show headL p = pre2 ++ (if p.all = true then [[101, 118, 101, 114, 121]] else []) ++ (if p.drive ≠ [] then [lineL [100, 114, 105, 118, 101] p.drive] else []) from by rw [HC2.out]; rfl)
            have hal : (strs pre2).length + 1 ≤ 970000000000 := by rw [strs_length]; have := HLEN2.out; omega
            generalize p.all = ball at *
            have hdl : p.drive.length ≤ 1048576 := HS.out.drive.2
            go_upto_if 88 with (fail)
            go_cut [6] (fun ov wx => TxO w3 ov (pre2 ++ (if ball = true then [[101, 118, 101, 114, 121]] else [])) wx)
            case first =>
              cases ball
              · go_wp2
                go_meet
                exact ⟨by rw [if_neg (by decide), List.append_nil]; exact HOY.out, HBY.out⟩
              · go_wp2_with (at_builtin; refine OwnL.append strOk HOY.out ⟨#[101, 118, 101, 114, 121]⟩ rfl _ _ rfl rfl rfl _ rfl hBy hal ?_; intro v6 w6 ho6 hb6; have HO6 := Lib.hid ho6; have HB6 := Lib.hid (HBY.out.trans hb6); clear ho6 hb6)
                go_meet
                exact ⟨by simp only [if_true, strs_snoc]; exact HO6.out, HB6.out⟩
            case rest =>
            obtain ⟨ho, hb⟩ := hcut
            have HO7 := Lib.hid ho; have HB7 := Lib.hid hb
            have hB7 := hb.size
            have hpl : (pre2 ++ (if ball = true then [[101, 118, 101, 114, 121]] else [])).length ≤ pre2.length + 1 := by split <;> simp
            generalize pre2 ++ (if ball = true then [[101, 118, 101, 114, 121]] else []) = pre3 at *
            have n6 := (hb.cell (p := ⟨w.heap.size, 4, none⟩) kz3).trans m4
            have hal3 : (strs pre3).length + 1 ≤ 970000000000 := by rw [strs_length]; have := HLEN2.out; omega
            clear ho hb HOY HBY hBy n3 n4 hal hpl
            go_upto_if 95 with (fail)
            go_cut [6] (fun ov wx => TxO w3 ov (headL p) wx)
            case first =>
              by_cases hD : 0 < p.drive.length
              · have HDN := Lib.hid (show headL p = pre3 ++ [lineL [100, 114, 105, 118, 101] p.drive] from by rw [HHD.out, if_pos (by intro e; rw [e] at hD; simp at hD)])
                go_wp2_with fail
                refine (line_any [100, 114, 105, 118, 101] _ p.drive wc w3.heap.size HB7.out.size (H3.out.below HB7.out).drive HS.out.drive.1 HOK.out.2.1 (by decide) (by omega) (HP3.out.below HB7.out)).mono ?_
                rintro e w7 ⟨rfl, hb7⟩
                have HO9 := Lib.hid (HO7.out.below hb7)
                have HB9 := Lib.hid (HB7.out.trans (hb7.mono HB7.out.size))
                have hz7 := HB9.out.size
                clear hb7
                go_wp2_with (at_builtin; refine OwnL.append strOk HO9.out (str (lineL [100, 114, 105, 118, 101] p.drive)) rfl _ _ rfl rfl rfl _ rfl hz7 hal3 ?_; intro v9 w9 ho9 hb9; have HOD := Lib.hid ho9; have HBD := Lib.hid (HB9.out.trans hb9); clear ho9 hb9)
                go_meet
                exact ⟨by rw [HDN.out, strs_snoc]; exact HOD.out, HBD.out⟩
              · have HDN := Lib.hid (show headL p = pre3 from by rw [HHD.out, if_neg (by intro e; exact hD (List.length_pos_iff.2 e)), List.append_nil])
                go_wp2
                go_meet
                exact ⟨by rw [HDN.out]; exact HO7.out, HB7.out⟩
            case rest =>
            obtain ⟨ho, hb⟩ := hcut
            have HO8 := Lib.hid ho; have HB8 := Lib.hid hb
            clear ho hb HO7 HB7 hB7 n6 hal3 HHD HC2 HLEN2 HPRE2
            go_wp2
            go_loopw [6, 104] (fun ov iv wy => Tx4 p code w3 ov iv wy) (fun _ iv _ => code.length - (intOf iv).toNat)
            case atStart => exact ⟨0, Nat.zero_le _, rfl, by simpa using HO8.out, HB8.out⟩
            case round =>
              clear HO8 HB8
              obtain ⟨j, hj, rfl, ho, hb⟩ := hrel
              have HOY := Lib.hid ho; have HBY := Lib.hid hb
              have hBy := hb.size
              clear ho hb
              by_cases hlt4 : j < code.length
              · --CODE
                obtain ⟨a, rfl, hab, c0, c1, c2⟩ := at_ins (HO3.out.below HBY.out) hlt4
                have hmem := List.getElem_mem hlt4
                have hin := insOk_op (List.all_eq_true.1 (encI_decI HTX.out.2.1).1 _ hmem)
                have hsm := (encI_decI HTX.out.2.1).2.1 _ hmem
                have HNX := Lib.hid (show headL p ++ (code.take (j + 1)).map insL = (headL p ++ (code.take j).map insL) ++ [insL code[j]] from by
                  rw [List.take_succ_eq_append_getElem hlt4, List.map_append, ← List.append_assoc]; rfl)
                have hal : (strs (headL p ++ (code.take j).map insL)).length + 1 ≤ 970000000000 := by
                  have h := (text_small HS.out HTX.out.2.1).1
                  rw [strs_length]
                  unfold linesL at h
                  rw [List.length_append, List.length_map] at h ⊢
                  rw [List.length_take]
                  omega
                generalize headL p ++ (code.take j).map insL = pre4 at *
                clear hmem
                generalize code[j] = x at *
                obtain ⟨op, xa, xb⟩ := x
                simp only [] at c0 c1 c2 hin hsm
                obtain ⟨o, rfl⟩ : ∃ o : Nat, op = (o : Int) := ⟨op.toNat, by omega⟩
                have ho17 : o < 17 := by omega
                have hT := HT3.out.below HBY.out
                have t0 : wr.cell? ⟨17, o * 2, none⟩ = some (.string (str (opName o))) := by rw [Nat.mul_comm]; exact hT.name o ho17
                have t1 : wr.cell? ⟨17, o * 2 + 1, none⟩ = some (.int .i64 (opArgs o)) := by rw [Nat.mul_comm]; exact hT.args o ho17
                have hg := hT.lt
                have hbd := opArgs_bd o
                have hbA : Below wr.heap.size wr (wr.alloc (.cells #[.int .i64 (o : Int), .int .u64 (xa : Int), .int .u64 (xb : Int)] 43)) := (Below.refl _ _).alloc (Nat.le_refl _) _
                have HBA := Lib.hid (HBY.out.trans (hbA.mono hBy))
                have HOA := Lib.hid (HOY.out.below hbA)
                have d0 : (wr.alloc (.cells #[.int .i64 (o : Int), .int .u64 (xa : Int), .int .u64 (xb : Int)] 43)).cell? ⟨wr.heap.size, 0, none⟩ = some (.int .i64 (o : Int)) := by rw [World.cell?_alloc_new]; rfl
                have d1 : (wr.alloc (.cells #[.int .i64 (o : Int), .int .u64 (xa : Int), .int .u64 (xb : Int)] 43)).cell? ⟨wr.heap.size, 1, none⟩ = some (.int .u64 (xa : Int)) := by rw [World.cell?_alloc_new]; rfl
                have d2 : (wr.alloc (.cells #[.int .i64 (o : Int), .int .u64 (xa : Int), .int .u64 (xb : Int)] 43)).cell? ⟨wr.heap.size, 2, none⟩ = some (.int .u64 (xb : Int)) := by rw [World.cell?_alloc_new]; rfl
                have dz : wr.heap.size < (wr.alloc (.cells #[.int .i64 (o : Int), .int .u64 (xa : Int), .int .u64 (xb : Int)] 43)).heap.size := by rw [World.size_alloc]; omega
                have dt := (hbA.cell (p := ⟨17, o * 2 + 1, none⟩) hg).trans t1
                have dn := (hbA.cell (p := ⟨17, o * 2, none⟩) hg).trans t0
                have dg : 17 < (wr.alloc (.cells #[.int .i64 (o : Int), .int .u64 (xa : Int), .int .u64 (xb : Int)] 43)).heap.size := Nat.lt_trans hg dz
                have hzA := HBA.out.size
                have HPA := Lib.hid (HP3.out.below HBA.out)
                have gn := opName_len o
                have ga := dgt_len xa hsm.1
                have gb := dgt_len xb hsm.2
                have hcl := Nat.le_trans (decI_len HTX.out.2.1) HS.out.code
                clear hT hbA
                go_upto_region 28 with fail
                generalize wr.alloc (.cells #[.int .i64 (o : Int), .int .u64 (xa : Int), .int .u64 (xb : Int)] 43) = w4 at *
                rcases (by omega : opArgs o = 0 ∨ opArgs o = 1 ∨ opArgs o = 2) with h0 | h0 | h0
                · have HIX := Lib.hid (show insL ⟨(o : Int), xa, xb⟩ = opName o from insL_0 h0)
                  rw [h0] at t1 dt
                  clear h0
                  go_wp2_with (at_builtin; refine OwnL.append strOk HOA.out (str (opName o)) rfl _ _ rfl rfl rfl _ rfl hzA hal ?_; intro v6 w6 ho6 hb6; have HO6 := Lib.hid ho6; have HB6 := Lib.hid (HBA.out.trans hb6); clear ho6 hb6)
                  go_roundw
                  case rel =>
                    refine ⟨j + 1, by omega, by go_num, ?_, HB6.out⟩
                    rw [HNX.out, strs_snoc, HIX.out]
                    exact HO6.out
                  case measure => simp [intOf]; omega
                · have HIX := Lib.hid (show str (insL ⟨(o : Int), xa, xb⟩) = str (opName o) ++ (⟨#[32]⟩ ++ str (dgt xa)) from by
                    rw [insL_1 h0, show (⟨#[32]⟩ : ByteArray) = str [32] from rfl, str_cat2, str_cat2])
                  rw [h0] at t1 dt
                  clear h0
                  have q1 := fun W => str_add (P := Tryz.prog) ⟨#[32]⟩ (str (dgt xa)) (by rw [str_size, show (⟨#[32]⟩ : ByteArray).size = 1 from rfl]; omega) W
                  have q2 := fun W => str_add (P := Tryz.prog) (str (opName o)) (⟨#[32]⟩ ++ str (dgt xa)) (by rw [ba_append_size, str_size, str_size, show (⟨#[32]⟩ : ByteArray).size = 1 from rfl]; omega) W
                  go_wp2_with fail
                  refine ((FormatUint_any xa hsm.1 _ HPA.out).mono (fun e W h => show e = .returned (.string (str (dgt xa))) ∧ Below _ _ W from h)).mono ?_
                  rintro e w5 ⟨rfl, hb5⟩
                  have f0 := (hb5.cell (p := ⟨wr.heap.size, 0, none⟩) dz).trans d0
                  have ft := (hb5.cell (p := ⟨17, o * 2 + 1, none⟩) dg).trans dt
                  have HO5 := Lib.hid (HOA.out.below hb5)
                  have HB5 := Lib.hid (HBA.out.trans (hb5.mono hzA))
                  have hz5 := HB5.out.size
                  clear hb5
                  go_wp2_with (at_builtin; refine OwnL.append strOk HO5.out (str (opName o) ++ (⟨#[32]⟩ ++ str (dgt xa))) rfl _ _ rfl rfl rfl _ rfl hz5 hal ?_; intro v6 w6 ho6 hb6; have HO6 := Lib.hid ho6; have HB6 := Lib.hid (HB5.out.trans hb6); clear ho6 hb6)
                  go_roundw
                  case rel =>
                    refine ⟨j + 1, by omega, by go_num, ?_, HB6.out⟩
                    rw [HNX.out, strs_snoc, HIX.out]
                    exact HO6.out
                  case measure => simp [intOf]; omega
                · have HIX := Lib.hid (show str (insL ⟨(o : Int), xa, xb⟩) = str (opName o) ++ (⟨#[32]⟩ ++ str (dgt xa)) ++ (⟨#[32]⟩ ++ str (dgt xb)) from by
                    rw [insL_2 h0, show (⟨#[32]⟩ : ByteArray) = str [32] from rfl, str_cat2, str_cat2, str_cat2, str_cat2])
                  rw [h0] at t1 dt
                  clear h0
                  have q1 := fun W => str_add (P := Tryz.prog) ⟨#[32]⟩ (str (dgt xa)) (by rw [str_size, show (⟨#[32]⟩ : ByteArray).size = 1 from rfl]; omega) W
                  have q2 := fun W => str_add (P := Tryz.prog) (str (opName o)) (⟨#[32]⟩ ++ str (dgt xa)) (by rw [ba_append_size, str_size, str_size, show (⟨#[32]⟩ : ByteArray).size = 1 from rfl]; omega) W
                  have q3 := fun W => str_add (P := Tryz.prog) ⟨#[32]⟩ (str (dgt xb)) (by rw [str_size, show (⟨#[32]⟩ : ByteArray).size = 1 from rfl]; omega) W
                  have q4 := fun W => str_add (P := Tryz.prog) (str (opName o) ++ (⟨#[32]⟩ ++ str (dgt xa))) (⟨#[32]⟩ ++ str (dgt xb)) (by rw [ba_append_size, ba_append_size, ba_append_size, str_size, str_size, str_size, show (⟨#[32]⟩ : ByteArray).size = 1 from rfl]; omega) W
                  go_wp2_with fail
                  refine ((FormatUint_any xa hsm.1 _ HPA.out).mono (fun e W h => show e = .returned (.string (str (dgt xa))) ∧ Below _ _ W from h)).mono ?_
                  rintro e w5 ⟨rfl, hb5⟩
                  have f0 := (hb5.cell (p := ⟨wr.heap.size, 0, none⟩) dz).trans d0
                  have f2 := (hb5.cell (p := ⟨wr.heap.size, 2, none⟩) dz).trans d2
                  have ft := (hb5.cell (p := ⟨17, o * 2 + 1, none⟩) dg).trans dt
                  have HO5 := Lib.hid (HOA.out.below hb5)
                  have HB5 := Lib.hid (HBA.out.trans (hb5.mono hzA))
                  have HP5 := Lib.hid (HPA.out.below hb5)
                  have hz5 := HB5.out.size
                  clear hb5
                  go_wp2_with fail
                  refine ((FormatUint_any xb hsm.2 _ HP5.out).mono (fun e W h => show e = .returned (.string (str (dgt xb))) ∧ Below _ _ W from h)).mono ?_
                  rintro e w8 ⟨rfl, hb8⟩
                  have HO9 := Lib.hid (HO5.out.below hb8)
                  have HB9 := Lib.hid (HB5.out.trans (hb8.mono hz5))
                  have hz9 := HB9.out.size
                  clear hb8
                  go_wp2_with (at_builtin; refine OwnL.append strOk HO9.out (str (opName o) ++ (⟨#[32]⟩ ++ str (dgt xa)) ++ (⟨#[32]⟩ ++ str (dgt xb))) rfl _ _ rfl rfl rfl _ rfl hz9 hal ?_; intro v6 w6 ho6 hb6; have HO6 := Lib.hid ho6; have HB6 := Lib.hid (HB9.out.trans hb6); clear ho6 hb6)
                  go_roundw
                  case rel =>
                    refine ⟨j + 1, by omega, by go_num, ?_, HB6.out⟩
                    rw [HNX.out, strs_snoc, HIX.out]
                    exact HO6.out
                  case measure => simp [intOf]; omega
              · --JOIN
                have hts := text_small HS.out HTX.out.2.1
                have ho := HOY.out
                rw [show headL p ++ (code.take j).map insL = linesL p code from by rw [List.take_of_length_le (by omega)]; rfl] at ho
                have hne : linesL p code ≠ [] := by unfold linesL headL; simp
                have hpos : 0 < (strs (linesL p code)).length := by rw [strs_length]; exact List.length_pos_iff.2 hne
                obtain ⟨A, cap, rfl, hc1, hc2, -⟩ := ho.open_
                obtain ⟨gg, rfl⟩ : ∃ g, A = some ⟨g, 0, none⟩ := by obtain ⟨g, h, _⟩ := ho.at_ strOk (k := 0) hpos; exact ⟨g, h⟩
                have hcells : ∀ (k : Nat) x, (strs (linesL p code))[k]? = some x → wr.cell? ⟨gg, 0 + k, none⟩ = some (.string x) := by
                  intro k x hk
                  obtain ⟨hk2, rfl⟩ := List.getElem?_eq_some_iff.1 hk
                  obtain ⟨g, h, h2⟩ := ho.at_ strOk hk2
                  cases h
                  have := h2 0 _ (by decide) rfl
                  simpa [strS] using this
                have hjl : (Lib.join ((strs (linesL p code)).map (·.data.toList)) (⟨#[10]⟩ : ByteArray).data.toList).length ≤ 138700000000000 := by
                  rw [strs_data]
                  have e := congrArg List.length (unl_join (linesL p code) hne)
                  rw [List.length_append] at e
                  have h2 := hts.2
                  show (Lib.join (linesL p code) [10]).length ≤ _
                  omega
                have HJ := Lib.hid (Tryz.strings_Join gg 0 cap (strs (linesL p code)) ⟨#[10]⟩ wr hcells (World.block_lt_of_cell? wr ⟨gg, 0, none⟩ (hcells 0 _ (List.getElem?_eq_getElem hpos))) (by rw [strs_length]; omega) hc1 (Nat.le_trans hjl (by decide)))
                have HEQ := Lib.hid (show (⟨(Lib.join ((strs (linesL p code)).map (·.data.toList)) (⟨#[10]⟩ : ByteArray).data.toList).toArray⟩ : ByteArray) ++ ⟨#[10]⟩ = str (unl (linesL p code)) from by
                  rw [strs_data, ← unl_join (linesL p code) hne, ← str_cat2]; rfl)
                have qj := fun W => str_add (P := Tryz.prog) (⟨(Lib.join ((strs (linesL p code)).map (·.data.toList)) (⟨#[10]⟩ : ByteArray).data.toList).toArray⟩ : ByteArray) ⟨#[10]⟩ (by
                  have e : (⟨(Lib.join ((strs (linesL p code)).map (·.data.toList)) (⟨#[10]⟩ : ByteArray).data.toList).toArray⟩ : ByteArray).size = (Lib.join ((strs (linesL p code)).map (·.data.toList)) (⟨#[10]⟩ : ByteArray).data.toList).length := str_size _
                  rw [e, show (⟨#[10]⟩ : ByteArray).size = 1 from rfl]; omega) W
                have hjb := HJ.out
                generalize (⟨(Lib.join ((strs (linesL p code)).map (·.data.toList)) (⟨#[10]⟩ : ByteArray).data.toList).toArray⟩ : ByteArray) = js at *
                have HJ2 := Lib.hid hjb
                clear hjb hjl hts ho hcells hpos hne HJ
                go_wp2_with fail
                refine HJ2.out.mono ?_
                rintro e w9 ⟨rfl, hb9⟩
                have HB9 := Lib.hid (HBY.out.trans (hb9.mono hBy))
                clear hb9
                go_wp2
                go_ret2
                exact txtRet_ok HTX.out.2.2 HEQ.out (HB3.out.trans (HB9.out.mono HB3.out.size))
end Go.Proofs.YtmdpfikalekmlaaGreatDoor
