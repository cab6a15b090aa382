/- Merged for a claim: Dt Rr2 Rr3 -/
import Derived.Test.YtmdpfikalekmlaaGreatDoorKy3
import Derived.Test.YtmdpfikalekmlaaGreatDoorSg
import Derived.Test.YtmdpfikalekmlaaGreatDoorKy2
import Derived.Test.YtmdpfikalekmlaaGreatDoorYw
import Derived.Test.YtmdpfikalekmlaaGreatDoorBlk
section
/- Layer 20, the document: Text. -/
namespace Go.Proofs.YtmdpfikalekmlaaGreatDoor
open Go.RowKit
set_option maxRecDepth 100000
set_option maxHeartbeats 4000000
set_option linter.unusedSimpArgs false
set_option linter.unusedVariables false

theorem wrap_u64n (n : Nat) (h : n < 18446744073709551616) : IntKind.u64.wrap (n : Int) = (n : Int) := by
  rw [IntKind.wrap_u64]; omega
theorem unl_snoc (l : List (List UInt8)) (x : List UInt8) : unl (l ++ [x]) = unl l ++ (x ++ [10]) := by simp [unl]
theorem unl_pfx {a b : List (List UInt8)} (h : a <+: b) : (unl a).length ≤ (unl b).length := by
  obtain ⟨t, rfl⟩ := h
  rw [unl_append, List.length_append]; omega
theorem pfx1 (p : Pg) (code : List Ins) (k : Nat) : [lineL [97, 118, 103, 115] p.avgs] ++ (p.curs.take k).map curL <+: linesL p code := by
  unfold linesL headL
  rw [show p.curs.map curL = (p.curs.take k).map curL ++ (p.curs.drop k).map curL from by rw [← List.map_append, List.take_append_drop]]
  simp only [List.append_assoc]
  exact ⟨_, by simp only [List.append_assoc]; rfl⟩
theorem pfx2 (p : Pg) (code : List Ins) (k : Nat) : [lineL [97, 118, 103, 115] p.avgs] ++ p.curs.map curL ++ (p.nears.take k).map nearL <+: linesL p code := by
  unfold linesL headL
  rw [show p.nears.map nearL = (p.nears.take k).map nearL ++ (p.nears.drop k).map nearL from by rw [← List.map_append, List.take_append_drop]]
  simp only [List.append_assoc]
  exact ⟨_, by simp only [List.append_assoc]; rfl⟩
theorem pfx4 (p : Pg) (code : List Ins) (k : Nat) : headL p ++ (code.take k).map insL <+: linesL p code := by
  unfold linesL
  rw [show code.map insL = (code.take k).map insL ++ (code.drop k).map insL from by rw [← List.map_append, List.take_append_drop]]
  exact ⟨_, by simp only [List.append_assoc]; rfl⟩
def RxO (w3 : World) (ov : Value) (lines : List (List UInt8)) (wr : World) : Prop := OwnX wr w3.heap.size ov (unl lines) ∧ Below w3.heap.size w3 wr
def Rx1 (p : Pg) (w3 : World) (ov iv : Value) (wr : World) : Prop := ∃ k : Nat, k ≤ p.curs.length ∧ iv = .int .i64 (k : Int) ∧ RxO w3 ov ([lineL [97, 118, 103, 115] p.avgs] ++ (p.curs.take k).map curL) wr
def Rx2 (p : Pg) (nl : List NrV) (w3 : World) (ov iv : Value) (wr : World) : Prop := ∃ k : Nat, k ≤ nl.length ∧ iv = .int .i64 (k : Int) ∧ RxO w3 ov ([lineL [97, 118, 103, 115] p.avgs] ++ p.curs.map curL ++ (p.nears.take k).map nearL) wr
def Rx4 (p : Pg) (code : List Ins) (w3 : World) (ov iv : Value) (wr : World) : Prop := ∃ k : Nat, k ≤ code.length ∧ iv = .int .i64 (k : Int) ∧ RxO w3 ov (headL p ++ (code.take k).map insL) wr
theorem rtext_any (x : PgV) (p : Pg) (w : World) (h : PgR w w.heap.size x p) (hs : SmallPg p) :
    Calls Tryz.prog 34 #[x.val p] w (TxtRet (.int .i64 21) (.int .i64 0) p w) := by
  obtain ⟨av, cv, nv, dv, kv, nl⟩ := x
  obtain ⟨aA, acap, rfl, -, -⟩ := h.avgs.open_
  obtain ⟨cA, ccap, rfl, -, -⟩ := h.curs.open_
  have hno : RdL nrS w w.heap.size nv nl := h.nears
  obtain ⟨nA, ncap, hnv, -, -⟩ := hno.open_
  subst hnv
  clear hno
  obtain ⟨dA, dcap, rfl, -, -⟩ := h.drive.open_
  obtain ⟨kA, kcap, rfl, -, -⟩ := h.code.open_
  have H := Lib.hid h; have HS := Lib.hid hs
  have HNM := Lib.hid h.nmap
  have hl1 := hs.curs.2
  have hl2 : nl.length ≤ 2000000 := by have e := hs.nears.2; rw [← h.nmap, List.length_map] at e; exact Nat.le_trans e (by decide)
  have hb0 : Below w.heap.size w (w.alloc (.cells #[.slice aA p.avgs.length acap, .slice cA p.curs.length ccap, .slice nA nl.length ncap, .bool p.all, .slice dA p.drive.length dcap, .slice kA p.code.length kcap] 28)) := (Below.refl _ _).alloc (Nat.le_refl _) _
  have k0 : (w.alloc (.cells #[.slice aA p.avgs.length acap, .slice cA p.curs.length ccap, .slice nA nl.length ncap, .bool p.all, .slice dA p.drive.length dcap, .slice kA p.code.length kcap] 28)).cell? ⟨w.heap.size, 0, none⟩ = some (.slice aA p.avgs.length acap) := by rw [World.cell?_alloc_new]; rfl
  have k1 : (w.alloc (.cells #[.slice aA p.avgs.length acap, .slice cA p.curs.length ccap, .slice nA nl.length ncap, .bool p.all, .slice dA p.drive.length dcap, .slice kA p.code.length kcap] 28)).cell? ⟨w.heap.size, 1, none⟩ = some (.slice cA p.curs.length ccap) := by rw [World.cell?_alloc_new]; rfl
  have k2 : (w.alloc (.cells #[.slice aA p.avgs.length acap, .slice cA p.curs.length ccap, .slice nA nl.length ncap, .bool p.all, .slice dA p.drive.length dcap, .slice kA p.code.length kcap] 28)).cell? ⟨w.heap.size, 2, none⟩ = some (.slice nA nl.length ncap) := by rw [World.cell?_alloc_new]; rfl
  have k3 : (w.alloc (.cells #[.slice aA p.avgs.length acap, .slice cA p.curs.length ccap, .slice nA nl.length ncap, .bool p.all, .slice dA p.drive.length dcap, .slice kA p.code.length kcap] 28)).cell? ⟨w.heap.size, 3, none⟩ = some (.bool p.all) := by rw [World.cell?_alloc_new]; rfl
  have k4 : (w.alloc (.cells #[.slice aA p.avgs.length acap, .slice cA p.curs.length ccap, .slice nA nl.length ncap, .bool p.all, .slice dA p.drive.length dcap, .slice kA p.code.length kcap] 28)).cell? ⟨w.heap.size, 4, none⟩ = some (.slice dA p.drive.length dcap) := by rw [World.cell?_alloc_new]; rfl
  have k5 : (w.alloc (.cells #[.slice aA p.avgs.length acap, .slice cA p.curs.length ccap, .slice nA nl.length ncap, .bool p.all, .slice dA p.drive.length dcap, .slice kA p.code.length kcap] 28)).cell? ⟨w.heap.size, 5, none⟩ = some (.slice kA p.code.length kcap) := by rw [World.cell?_alloc_new]; rfl
  have kz : w.heap.size < (w.alloc (.cells #[.slice aA p.avgs.length acap, .slice cA p.curs.length ccap, .slice nA nl.length ncap, .bool p.all, .slice dA p.drive.length dcap, .slice kA p.code.length kcap] 28)).heap.size := by rw [World.size_alloc]; omega
  have HB0 := Lib.hid hb0
  clear h hs hb0
  simp only [PgV.val]
  go_enter Tryz.func34, Tryz.ntmps34
  go_wp2_with fail
  generalize (w.alloc (.cells #[.slice aA p.avgs.length acap, .slice cA p.curs.length ccap, .slice nA nl.length ncap, .bool p.all, .slice dA p.drive.length dcap, .slice kA p.code.length kcap] 28)) = w0 at *
  refine (ridecode_any (.slice kA p.code.length kcap) p.code w0 ((H.out.below HB0.out).code.more HB0.out.size) (by have := HS.out.code; omega)).mono ?_
  rintro e w1 ⟨hb1, hm⟩
  have HB1 := Lib.hid (HB0.out.trans (hb1.mono HB0.out.size))
  have j0 := (hb1.cell (p := ⟨w.heap.size, 0, none⟩) kz).trans k0
  have j1 := (hb1.cell (p := ⟨w.heap.size, 1, none⟩) kz).trans k1
  have j2 := (hb1.cell (p := ⟨w.heap.size, 2, none⟩) kz).trans k2
  have j3 := (hb1.cell (p := ⟨w.heap.size, 3, none⟩) kz).trans k3
  have j4 := (hb1.cell (p := ⟨w.heap.size, 4, none⟩) kz).trans k4
  have j5 := (hb1.cell (p := ⟨w.heap.size, 5, none⟩) kz).trans k5
  have jz : w.heap.size < w1.heap.size := Nat.lt_of_lt_of_le kz hb1.size
  have hz0 := HB0.out.size
  clear hb1 k0 k1 k2 k3 k4 k5
  cases hd : decI p.code with
  | none =>
    rw [hd] at hm
    subst hm
    have HD := Lib.hid (show textP p = none from by unfold textP; rw [hd])
    clear hd
    go_wp2
    go_ret2
    exact txtRet_no HD.out HB1.out
  | some code =>
  rw [hd] at hm
  obtain ⟨rv, rfl, ho⟩ := hm
  obtain ⟨rA, rcap, rfl, -, -, -⟩ := ho.open_
  have HO := Lib.hid (RdL.of_own ho)
  have HD := Lib.hid hd
  clear ho hd hz0 kz
  go_wp2_with fail
  refine (rlisted_any ⟨.slice aA p.avgs.length acap, .slice cA p.curs.length ccap, .slice nA nl.length ncap, .slice dA p.drive.length dcap, .slice kA p.code.length kcap, nl⟩ p w1 ((H.out.below HB1.out).more HB1.out.size) HS.out).mono ?_
  rintro e w2 ⟨rfl, hb2⟩
  have HB2 := Lib.hid (HB1.out.trans (hb2.mono HB1.out.size))
  cases hok : okP p with
  | false =>
    have HQ := Lib.hid (show textP p = none from textP_none (by rw [hok]; rfl))
    clear hok hb2
    go_wp2
    go_ret2
    exact txtRet_no HQ.out HB2.out
  | true =>
  have HTX := Lib.hid (textP_some (p := p) (code := code) (by rw [if_pos hok]; exact HD.out))
  have HOK := Lib.hid (okP_parts hok)
  have HTS := Lib.hid (text_small HS.out HD.out)
  have HO2 := Lib.hid (HO.out.belowW (Nat.le_refl _) hb2)
  have HZ2 := Lib.hid hb2.size
  have l0 := (hb2.cell (p := ⟨w.heap.size, 0, none⟩) jz).trans j0
  have l1 := (hb2.cell (p := ⟨w.heap.size, 1, none⟩) jz).trans j1
  have l2 := (hb2.cell (p := ⟨w.heap.size, 2, none⟩) jz).trans j2
  have l3 := (hb2.cell (p := ⟨w.heap.size, 3, none⟩) jz).trans j3
  have l4 := (hb2.cell (p := ⟨w.heap.size, 4, none⟩) jz).trans j4
  have lz : w.heap.size < w2.heap.size := Nat.lt_of_lt_of_le jz hb2.size
  clear hok hb2 j0 j1 j2 j3 j4 j5 jz HO
  go_wp2_with fail
  refine (words_any [97, 118, 103, 115] _ p.avgs w2 w.heap.size HB2.out.size (H.out.below HB2.out).avgs HS.out.avgs.1 HOK.out.1 (by decide) (by have := HS.out.avgs.2; omega)).mono ?_
  rintro e w3 ⟨rfl, hb3⟩
  have HB3 := Lib.hid (HB2.out.trans (hb3.mono HB2.out.size))
  have m1 := (hb3.cell (p := ⟨w.heap.size, 1, none⟩) lz).trans l1
  have m2 := (hb3.cell (p := ⟨w.heap.size, 2, none⟩) lz).trans l2
  have m3 := (hb3.cell (p := ⟨w.heap.size, 3, none⟩) lz).trans l3
  have m4 := (hb3.cell (p := ⟨w.heap.size, 4, none⟩) lz).trans l4
  have kz3 : w.heap.size < w3.heap.size := Nat.lt_of_lt_of_le lz hb3.size
  have HO3 := Lib.hid ((HO2.out.belowW HZ2.out hb3).more (Nat.le_trans HZ2.out hb3.size))
  have H3 := Lib.hid ((H.out.below HB3.out).more HB3.out.size)
  have hal : (str (lineL [97, 118, 103, 115] p.avgs)).size ≤ 100000000 := by
    have g := lineL_len [97, 118, 103, 115] p.avgs (fun y hy => (HS.out.avgs.1 y hy).2)
    have g2 := HS.out.avgs.2
    simp only [List.length_cons, List.length_nil] at g
    rw [str_size]; omega
  have qa := fun W => str_add (P := Tryz.prog) (str (lineL [97, 118, 103, 115] p.avgs)) ⟨#[10]⟩ (by rw [show (⟨#[10]⟩ : ByteArray).size = 1 from rfl]; omega) W
  have HSW := Lib.hid (show (str (lineL [97, 118, 103, 115] p.avgs) ++ ⟨#[10]⟩ : ByteArray) = str (unl [lineL [97, 118, 103, 115] p.avgs]) from by
    rw [show (⟨#[10]⟩ : ByteArray) = str [10] from rfl, str_cat2]; simp [unl])
  have hsz2 : (str (lineL [97, 118, 103, 115] p.avgs) ++ ⟨#[10]⟩ : ByteArray).size ≤ maxLen := by rw [ba_append_size, show (⟨#[10]⟩ : ByteArray).size = 1 from rfl]; unfold maxLen; omega
  have HOI := Lib.hid (show OwnX (Lib.bytesWorld w3 5 (str (lineL [97, 118, 103, 115] p.avgs) ++ ⟨#[10]⟩)) w3.heap.size (.slice (some ⟨w3.heap.size, 0, none⟩) (str (lineL [97, 118, 103, 115] p.avgs) ++ ⟨#[10]⟩ : ByteArray).size (grownCap w3 (str (lineL [97, 118, 103, 115] p.avgs) ++ ⟨#[10]⟩ : ByteArray).size 0 5)) (unl [lineL [97, 118, 103, 115] p.avgs]) from by
    have h := bytes_own (str (lineL [97, 118, 103, 115] p.avgs) ++ ⟨#[10]⟩) w3 hsz2
    have e : (str (lineL [97, 118, 103, 115] p.avgs) ++ ⟨#[10]⟩ : ByteArray).data.toList = unl [lineL [97, 118, 103, 115] p.avgs] := by rw [HSW.out, str_data]
    rw [e] at h
    exact h)
  generalize str (lineL [97, 118, 103, 115] p.avgs) = sa at *
  have cb := fun W => bytes_conv (sa ++ ⟨#[10]⟩) W
  have HBI := Lib.hid (bytes_below (sa ++ ⟨#[10]⟩) w3)
  generalize hgen : (sa ++ ⟨#[10]⟩ : ByteArray) = sw at *
  clear hgen hb3 l0 l1 l2 l3 l4 lz HO2 hal hsz2
  have n1 := (HBI.out.cell (p := ⟨w.heap.size, 1, none⟩) kz3).trans m1
  go_wp2
  go_loopw [6, 34] (fun ov iv wr => Rx1 p w3 ov iv wr) (fun _ iv _ => p.curs.length - (intOf iv).toNat)
  case atStart => exact ⟨0, Nat.zero_le _, rfl, by simpa using HOI.out, HBI.out⟩
  case round =>
    clear HOI HBI HSW n1 qa cb
    obtain ⟨k, hk, rfl, ho, hb⟩ := hrel
    have HOW := Lib.hid ho; have HB := Lib.hid hb
    have hBr := hb.size
    have hpl : (unl ([lineL [97, 118, 103, 115] p.avgs] ++ (p.curs.take k).map curL)).length ≤ 138700000000000 := Nat.le_trans (unl_pfx (pfx1 p code k)) HTS.out.2
    have n2 := (hb.cell (p := ⟨w.heap.size, 2, none⟩) kz3).trans m2
    clear ho hb
    by_cases hlt : k < p.curs.length
    · --CUR
      obtain ⟨a, rfl, hab, c0, c1⟩ := at_lf (H3.out.below HB.out).curs hlt
      have hsm := HS.out.curs.1 _ (List.getElem_mem hlt)
      have hf0 := HOK.out.2.2.1 _ (List.getElem_mem hlt)
      have HNX := Lib.hid (show unl ([lineL [97, 118, 103, 115] p.avgs] ++ (p.curs.take (k + 1)).map curL) = unl ([lineL [97, 118, 103, 115] p.avgs] ++ (p.curs.take k).map curL) ++ (curL p.curs[k] ++ [10]) from by
        rw [List.take_succ_eq_append_getElem hlt, List.map_append, ← List.append_assoc, List.map_singleton, unl_snoc])
      generalize unl ([lineL [97, 118, 103, 115] p.avgs] ++ (p.curs.take k).map curL) = pre at *
      generalize p.curs[k] = c at *
      obtain ⟨cf, ct⟩ := c
      simp only [] at c0 c1 hsm hf0
      obtain ⟨fn, rfl⟩ : ∃ n : Nat, cf = (n : Int) := ⟨cf.toNat, by omega⟩
      have hfn : fn < 9223372036854775808 := by omega
      have hct := hsm.2
      have g1 := dgt_len fn (by omega)
      have g2 := quoL_len ct
      have q1 := fun W => str_add (P := Tryz.prog) ⟨#[99, 117, 114, 115, 111, 114, 32]⟩ (str (dgt fn)) (by rw [str_size, show (⟨#[99, 117, 114, 115, 111, 114, 32]⟩ : ByteArray).size = 7 from rfl]; omega) W
      have q2 := fun W => str_add (P := Tryz.prog) (⟨#[99, 117, 114, 115, 111, 114, 32]⟩ ++ str (dgt fn)) ⟨#[32]⟩ (by rw [ba_append_size, str_size, show (⟨#[99, 117, 114, 115, 111, 114, 32]⟩ : ByteArray).size = 7 from rfl, show (⟨#[32]⟩ : ByteArray).size = 1 from rfl]; omega) W
      have q3 := fun W => str_add (P := Tryz.prog) (⟨#[99, 117, 114, 115, 111, 114, 32]⟩ ++ str (dgt fn) ++ ⟨#[32]⟩) (str (quoL ct)) (by rw [ba_append_size, ba_append_size, str_size, str_size, show (⟨#[99, 117, 114, 115, 111, 114, 32]⟩ : ByteArray).size = 7 from rfl, show (⟨#[32]⟩ : ByteArray).size = 1 from rfl]; omega) W
      have q4 := fun W => str_add (P := Tryz.prog) (⟨#[99, 117, 114, 115, 111, 114, 32]⟩ ++ str (dgt fn) ++ ⟨#[32]⟩ ++ str (quoL ct)) ⟨#[10]⟩ (by rw [ba_append_size, ba_append_size, ba_append_size, str_size, str_size, show (⟨#[99, 117, 114, 115, 111, 114, 32]⟩ : ByteArray).size = 7 from rfl, show (⟨#[32]⟩ : ByteArray).size = 1 from rfl, show (⟨#[10]⟩ : ByteArray).size = 1 from rfl]; omega) W
      have HEQ := Lib.hid (show (⟨#[99, 117, 114, 115, 111, 114, 32]⟩ ++ str (dgt fn) ++ ⟨#[32]⟩ ++ str (quoL ct) ++ ⟨#[10]⟩ : ByteArray).data.toList = curL ⟨(fn : Int), ct⟩ ++ [10] from by
        rw [show (⟨#[99, 117, 114, 115, 111, 114, 32]⟩ : ByteArray) = str [99, 117, 114, 115, 111, 114, 32] from rfl, show (⟨#[32]⟩ : ByteArray) = str [32] from rfl, show (⟨#[10]⟩ : ByteArray) = str [10] from rfl, str_cat2, str_cat2, str_cat2, str_cat2, str_data]
        simp [curL, lineL, numC])
      have HLE := Lib.hid (show pre.length + (⟨#[99, 117, 114, 115, 111, 114, 32]⟩ ++ str (dgt fn) ++ ⟨#[32]⟩ ++ str (quoL ct) ++ ⟨#[10]⟩ : ByteArray).size ≤ 140737488355328 by
        rw [ba_append_size, ba_append_size, ba_append_size, ba_append_size, str_size, str_size, show (⟨#[99, 117, 114, 115, 111, 114, 32]⟩ : ByteArray).size = 7 from rfl, show (⟨#[32]⟩ : ByteArray).size = 1 from rfl, show (⟨#[10]⟩ : ByteArray).size = 1 from rfl]; omega)
      have hwf := wrap_u64n fn (by omega)
      have HDE0 := Lib.hid (fun W => decimal_any fn (by omega) W)
      have HQU0 := Lib.hid (fun W => (rquoted_any (str ct) W (by rw [str_size]; omega)).mono (fun e W' h => show e = .returned (.string (str (quoL ct))) ∧ Below W.heap.size W W' from ⟨by rw [h.1, str_data], h.2⟩))
      clear hsm hf0 g1 g2 hpl
      generalize str (dgt fn) = sf at *
      generalize str (quoL ct) = sq at *
      generalize (⟨#[99, 117, 114, 115, 111, 114, 32]⟩ ++ sf : ByteArray) = s1 at *
      generalize (s1 ++ ⟨#[32]⟩ : ByteArray) = s2 at *
      generalize (s2 ++ sq : ByteArray) = s3 at *
      generalize (s3 ++ ⟨#[10]⟩ : ByteArray) = s4 at *
      generalize str ct = st at *
      have d0 : (wr.alloc (.cells #[.int .i64 (fn : Int), .string (st)] 66)).cell? ⟨wr.heap.size, 0, none⟩ = some (.int .i64 (fn : Int)) := by rw [World.cell?_alloc_new]; rfl
      have d1 : (wr.alloc (.cells #[.int .i64 (fn : Int), .string (st)] 66)).cell? ⟨wr.heap.size, 1, none⟩ = some (.string (st)) := by rw [World.cell?_alloc_new]; rfl
      have dz : wr.heap.size < (wr.alloc (.cells #[.int .i64 (fn : Int), .string (st)] 66)).heap.size := by rw [World.size_alloc]; omega
      have HB4 := Lib.hid (HB.out.alloc hBr (.cells #[.int .i64 (fn : Int), .string (st)] 66))
      have HW4 := Lib.hid (HOW.out.alloc (.cells #[.int .i64 (fn : Int), .string (st)] 66))
      go_wp2
      generalize wr.alloc (.cells #[.int .i64 (fn : Int), .string (st)] 66) = w4 at *
      have HC1 := Lib.hid (fun (W : World) (hW : Below w4.heap.size w4 W) => (HDE0.out W).mono (fun e W' h => show e = .returned (.string (sf)) ∧ Below W.heap.size W W' ∧ Below w4.heap.size w4 W' ∧ W'.cell? ⟨wr.heap.size, 0, none⟩ = some (.int .i64 (fn : Int)) ∧ W'.cell? ⟨wr.heap.size, 1, none⟩ = some (.string (st)) from
        ⟨h.1, h.2, hW.trans (h.2.mono hW.size), ((hW.trans (h.2.mono hW.size)).cell (p := ⟨wr.heap.size, 0, none⟩) dz).trans d0, ((hW.trans (h.2.mono hW.size)).cell (p := ⟨wr.heap.size, 1, none⟩) dz).trans d1⟩))
      have HC2 := Lib.hid (fun (W : World) (hW : Below w4.heap.size w4 W) => (HQU0.out W).mono (fun e W' h => show e = .returned (.string (sq)) ∧ Below W.heap.size W W' ∧ Below w4.heap.size w4 W' ∧ W'.cell? ⟨wr.heap.size, 0, none⟩ = some (.int .i64 (fn : Int)) ∧ W'.cell? ⟨wr.heap.size, 1, none⟩ = some (.string (st)) from
        ⟨h.1, h.2, hW.trans (h.2.mono hW.size), ((hW.trans (h.2.mono hW.size)).cell (p := ⟨wr.heap.size, 0, none⟩) dz).trans d0, ((hW.trans (h.2.mono hW.size)).cell (p := ⟨wr.heap.size, 1, none⟩) dz).trans d1⟩))
      have HZ4 := Lib.hid HB4.out.size
      go_region_law (first
        | ((with_reducible refine OwnX.stepStr (HW4.out.below (by repeat (first | assumption | exact Below.refl _ _ | with_reducible refine Below.drew ?_ | with_reducible refine Below.alloc ?_ (by first | exact Nat.le_refl _ | exact Below.size (by assumption)) _))) s4 rfl _ _ rfl rfl rfl (Nat.le_trans HZ4.out (Below.size (B := w4.heap.size) (by repeat (first | assumption | exact Below.refl _ _ | with_reducible refine Below.drew ?_ | with_reducible refine Below.alloc ?_ (by first | exact Nat.le_refl _ | exact Below.size (by assumption)) _)))) HLE.out (fun v' w' h2 h3 => ?_)); (have hfin := (HB4.out.trans (Below.mono (w := w4) (by repeat (first | assumption | exact Below.refl _ _ | with_reducible refine Below.drew ?_ | with_reducible refine Below.alloc ?_ (by first | exact Nat.le_refl _ | exact Below.size (by assumption)) _)) HZ4.out)).trans h3))
        | (go_simp; go_at_call 64; refine (HC1.out _ (by repeat (first | assumption | exact Below.refl _ _ | with_reducible refine Below.drew ?_ | with_reducible refine Below.alloc ?_ (by first | exact Nat.le_refl _ | exact Below.size (by assumption)) _))).mono ?_; rintro e w5 ⟨rfl, hb5, hb5', e0, e1⟩)
        | (go_simp; go_at_call 65; refine (HC2.out _ (by repeat (first | assumption | exact Below.refl _ _ | with_reducible refine Below.drew ?_ | with_reducible refine Below.alloc ?_ (by first | exact Nat.le_refl _ | exact Below.size (by assumption)) _))).mono ?_; rintro e w5 ⟨rfl, hb5, hb5', e0, e1⟩))
      all_goals
        have H2 := Lib.hid h2; have HB5 := Lib.hid hfin
        clear h2 h3 hfin
        go_wp2
        go_roundw
        case rel =>
          refine ⟨k + 1, by omega, by go_num, ?_, HB5.out⟩
          have h := H2.out
          rw [HEQ.out] at h
          rw [HNX.out]
          exact h
        case measure => simp [intOf]; omega
    · --REST
      have HC0 := Lib.hid (show [lineL [97, 118, 103, 115] p.avgs] ++ (p.curs.take k).map curL = [lineL [97, 118, 103, 115] p.avgs] ++ p.curs.map curL from by rw [List.take_of_length_le (by omega)])
      rw [HC0.out] at HOW
      have kzr : w.heap.size < wr.heap.size := Nat.lt_of_lt_of_le kz3 hBr
      clear hpl
      go_wp2
      obtain ⟨wo, rfl⟩ : ∃ wo, wo = wr := ⟨_, rfl⟩
      go_loopw [6, 55] (fun ov iv wy => Rx2 p nl w3 ov iv wy) (fun _ iv _ => nl.length - (intOf iv).toNat)
      case atStart => exact ⟨0, Nat.zero_le _, rfl, by simpa using HOW.out, HB.out⟩
      case round =>
        clear HOW HB hBr
        obtain ⟨i, hi, rfl, ho, hb⟩ := hrel
        have HOY := Lib.hid ho; have HBY := Lib.hid hb
        have hBy := hb.size
        have hpl : (unl ([lineL [97, 118, 103, 115] p.avgs] ++ p.curs.map curL ++ (p.nears.take i).map nearL)).length ≤ 138700000000000 := Nat.le_trans (unl_pfx (pfx2 p code i)) HTS.out.2
        have n3 := (hb.cell (p := ⟨w.heap.size, 3, none⟩) kz3).trans m3
        have n4 := (hb.cell (p := ⟨w.heap.size, 4, none⟩) kz3).trans m4
        clear ho hb
        by_cases hlt2 : i < nl.length
        · --NEAR
          obtain ⟨a, rfl, hab, c0, c1, c2⟩ := at_nr (H3.out.below HBY.out).nears hlt2
          have hin := H3.out.inner _ (List.getElem_mem hlt2)
          have hmm : nl[i].n ∈ p.nears := mem_near (x := ⟨.slice none 0 0, .slice none 0 0, .slice none 0 0, .slice none 0 0, .slice none 0 0, nl⟩) HNM.out hlt2
          have hsm := HS.out.nears.1 _ hmm
          have hok := HOK.out.2.2.2 _ hmm
          have hip : i < p.nears.length := by rw [← HNM.out, List.length_map]; exact hlt2
          have hpn : p.nears[i] = nl[i].n := by
            have := HNM.out
            simp only [← this, List.getElem_map]
          have HNX := Lib.hid (show unl ([lineL [97, 118, 103, 115] p.avgs] ++ p.curs.map curL ++ (p.nears.take (i + 1)).map nearL) = unl ([lineL [97, 118, 103, 115] p.avgs] ++ p.curs.map curL ++ (p.nears.take i).map nearL) ++ (nearL nl[i].n ++ [10]) from by
            rw [List.take_succ_eq_append_getElem hip, List.map_append, ← List.append_assoc, List.map_singleton, unl_snoc, hpn])
          clear hpn hip
          generalize unl ([lineL [97, 118, 103, 115] p.avgs] ++ p.curs.map curL ++ (p.nears.take i).map nearL) = pre at *
          generalize nl[i] = y at *
          have hnl := nearL_len hsm.1.2 (fun y hy => (hsm.2.1.1 y hy).2) (fun y hy => (hsm.2.2.1 y hy).2) hsm.2.1.2
          have hbA : Below wr.heap.size wr (wr.alloc (.cells #[.slice y.ca y.n.cur.length y.cc, .slice y.oa y.n.off.length y.oc, .int .i64 y.n.slop] 68)) := (Below.refl _ _).alloc (Nat.le_refl _) _
          have HBA := Lib.hid (HBY.out.trans (hbA.mono hBy))
          have HOA := Lib.hid (HOY.out.below hbA)
          have HNL := Lib.hid (fun W (hW : Below w3.heap.size w3 W) => nearLine_any y W w3.heap.size hW.size (hin.1.below hW) (hin.2.below hW) hok hsm.1 hsm.2.1.1 hsm.2.2.1 (Nat.le_trans hsm.2.1.2 (by decide)))
          have q1 := fun W => str_add (P := Tryz.prog) (str (nearL y.n)) ⟨#[10]⟩ (by rw [str_size, show (⟨#[10]⟩ : ByteArray).size = 1 from rfl]; omega) W
          have HEQ := Lib.hid (show (str (nearL y.n) ++ ⟨#[10]⟩ : ByteArray).data.toList = nearL y.n ++ [10] from by
            rw [show (⟨#[10]⟩ : ByteArray) = str [10] from rfl, str_cat2, str_data])
          have hle : pre.length + (str (nearL y.n) ++ ⟨#[10]⟩ : ByteArray).size ≤ 140737488355328 := by
            rw [ba_append_size, str_size, show (⟨#[10]⟩ : ByteArray).size = 1 from rfl]; omega
          generalize str (nearL y.n) = sn at *
          clear hin hmm hsm hok hbA hnl hpl
          go_wp2_with fail
          refine (HNL.out _ HBA.out).mono ?_
          rintro e w5 ⟨rfl, hb5⟩
          have HO5 := Lib.hid (HOA.out.below hb5)
          have HB5 := Lib.hid (HBA.out.trans (hb5.mono HBA.out.size))
          have hz5 := HB5.out.size
          clear hb5
          go_wp2_with (at_builtin; refine OwnX.appendStr HO5.out (sn ++ ⟨#[10]⟩) rfl _ _ rfl rfl rfl hz5 hle ?_; intro v6 w6 ho6 hb6; have HO6 := Lib.hid ho6; have HB6 := Lib.hid (HB5.out.trans hb6); clear ho6 hb6)
          go_roundw
          case rel =>
            refine ⟨i + 1, by omega, by go_num, ?_, HB6.out⟩
            have h := HO6.out
            rw [HEQ.out] at h
            rw [HNX.out]
            exact h
          case measure => simp [intOf]; omega
        · --TAIL
          have HC2 := Lib.hid (show [lineL [97, 118, 103, 115] p.avgs] ++ p.curs.map curL ++ (p.nears.take i).map nearL = [lineL [97, 118, 103, 115] p.avgs] ++ p.curs.map curL ++ p.nears.map nearL from by
            have e := congrArg List.length HNM.out
            rw [List.length_map] at e
            rw [List.take_of_length_le (by omega)])
          rw [HC2.out] at HOY hpl
          have HHD := Lib.hid (show headL p = [lineL [97, 118, 103, 115] p.avgs] ++ p.curs.map curL ++ p.nears.map nearL ++ (if p.all = true then [[101, 118, 101, 114, 121]] else []) ++ (if p.drive ≠ [] then [lineL [100, 114, 105, 118, 101] p.drive] else []) from rfl)
          generalize [lineL [97, 118, 103, 115] p.avgs] ++ p.curs.map curL ++ p.nears.map nearL = pre2 at *
          have hal : (unl pre2).length + (⟨#[101, 118, 101, 114, 121, 10]⟩ : ByteArray).size ≤ 140737488355328 := by rw [show (⟨#[101, 118, 101, 114, 121, 10]⟩ : ByteArray).size = 6 from rfl]; omega
          generalize p.all = ball at *
          have hdl : p.drive.length ≤ 1048576 := HS.out.drive.2
          go_upto_if 66 with (fail)
          go_cut [6] (fun ov wx => RxO w3 ov (pre2 ++ (if ball = true then [[101, 118, 101, 114, 121]] else [])) wx)
          case first =>
            cases ball
            · go_wp2
              go_meet
              exact ⟨by rw [if_neg (by decide), List.append_nil]; exact HOY.out, HBY.out⟩
            · go_wp2_with (at_builtin; refine OwnX.appendStr HOY.out ⟨#[101, 118, 101, 114, 121, 10]⟩ rfl _ _ rfl rfl rfl hBy hal ?_; intro v6 w6 ho6 hb6; have HO6 := Lib.hid ho6; have HB6 := Lib.hid (HBY.out.trans hb6); clear ho6 hb6)
              go_meet
              exact ⟨by simp only [if_true, unl_snoc]; exact HO6.out, HB6.out⟩
          case rest =>
          obtain ⟨ho, hb⟩ := hcut
          have HO7 := Lib.hid ho; have HB7 := Lib.hid hb
          have hB7 := hb.size
          have hpl3 : (unl (pre2 ++ (if ball = true then [[101, 118, 101, 114, 121]] else []))).length ≤ 138700000000006 := by
            split
            · rw [unl_snoc, List.length_append]; simp; omega
            · rw [List.append_nil]; omega
          generalize pre2 ++ (if ball = true then [[101, 118, 101, 114, 121]] else []) = pre3 at *
          have n6 := (hb.cell (p := ⟨w.heap.size, 4, none⟩) kz3).trans m4
          have hdz : (str (lineL [100, 114, 105, 118, 101] p.drive)).size ≤ 100000000 := by
            have g := lineL_len [100, 114, 105, 118, 101] p.drive (fun y hy => (HS.out.drive.1 y hy).2)
            simp only [List.length_cons, List.length_nil] at g
            rw [str_size]; omega
          have qd := fun W => str_add (P := Tryz.prog) (str (lineL [100, 114, 105, 118, 101] p.drive)) ⟨#[10]⟩ (by rw [show (⟨#[10]⟩ : ByteArray).size = 1 from rfl]; omega) W
          have HDE := Lib.hid (show (str (lineL [100, 114, 105, 118, 101] p.drive) ++ ⟨#[10]⟩ : ByteArray).data.toList = lineL [100, 114, 105, 118, 101] p.drive ++ [10] from by
            rw [show (⟨#[10]⟩ : ByteArray) = str [10] from rfl, str_cat2, str_data])
          have hal3 : (unl pre3).length + (str (lineL [100, 114, 105, 118, 101] p.drive) ++ ⟨#[10]⟩ : ByteArray).size ≤ 140737488355328 := by rw [ba_append_size, show (⟨#[10]⟩ : ByteArray).size = 1 from rfl]; omega
          have HWD := Lib.hid (fun W (hW : Below w3.heap.size w3 W) => words_any [100, 114, 105, 118, 101] _ p.drive W w3.heap.size hW.size (H3.out.below hW).drive HS.out.drive.1 HOK.out.2.1 (by decide) (by omega))
          generalize str (lineL [100, 114, 105, 118, 101] p.drive) = sd at *
          clear ho hb HOY HBY hBy n3 n4 hal hpl hpl3
          go_upto_if 72 with (fail)
          go_cut [6] (fun ov wx => RxO w3 ov (headL p) wx)
          case first =>
            by_cases hD : 0 < p.drive.length
            · have HDN := Lib.hid (show headL p = pre3 ++ [lineL [100, 114, 105, 118, 101] p.drive] from by rw [HHD.out, if_pos (by intro e; rw [e] at hD; simp at hD)])
              go_wp2_with fail
              refine (HWD.out _ HB7.out).mono ?_
              rintro e w7 ⟨rfl, hb7⟩
              have HO9 := Lib.hid (HO7.out.below hb7)
              have HB9 := Lib.hid (HB7.out.trans (hb7.mono HB7.out.size))
              have hz7 := HB9.out.size
              clear hb7
              go_wp2_with (at_builtin; refine OwnX.appendStr HO9.out (sd ++ ⟨#[10]⟩) rfl _ _ rfl rfl rfl hz7 hal3 ?_; intro v9 w9 ho9 hb9; have HOD := Lib.hid ho9; have HBD := Lib.hid (HB9.out.trans hb9); clear ho9 hb9)
              go_meet
              refine ⟨?_, HBD.out⟩
              have h := HOD.out
              rw [HDE.out] at h
              rw [HDN.out, unl_snoc]
              exact h
            · have HDN := Lib.hid (show headL p = pre3 from by rw [HHD.out, if_neg (by intro e; exact hD (List.length_pos_iff.2 e)), List.append_nil])
              go_wp2
              go_meet
              exact ⟨by rw [HDN.out]; exact HO7.out, HB7.out⟩
          case rest =>
          obtain ⟨ho, hb⟩ := hcut
          have HO8 := Lib.hid ho; have HB8 := Lib.hid hb
          clear ho hb HO7 HB7 hB7 n6 hal3 HHD HC2 qd HDE HWD hdz
          go_wp2
          go_loopw [6, 81] (fun ov iv wy => Rx4 p code w3 ov iv wy) (fun _ iv _ => code.length - (intOf iv).toNat)
          case atStart => exact ⟨0, Nat.zero_le _, rfl, by simpa using HO8.out, HB8.out⟩
          case round =>
            clear HO8 HB8
            obtain ⟨j, hj, rfl, ho, hb⟩ := hrel
            have HOY := Lib.hid ho; have HBY := Lib.hid hb
            have hBy := hb.size
            have hpl : (unl (headL p ++ (code.take j).map insL)).length ≤ 138700000000000 := Nat.le_trans (unl_pfx (pfx4 p code j)) HTS.out.2
            have hcl := Nat.le_trans (decI_len HD.out) HS.out.code
            clear ho hb
            by_cases hlt4 : j < code.length
            · --CODE
              obtain ⟨a, rfl, hab, c0, c1, c2⟩ := at_ins (HO3.out.below HBY.out) hlt4
              have hmem := List.getElem_mem hlt4
              have hin := List.all_eq_true.1 (encI_decI HD.out).1 _ hmem
              have hsm := (encI_decI HD.out).2.1 _ hmem
              have HNX := Lib.hid (show unl (headL p ++ (code.take (j + 1)).map insL) = unl (headL p ++ (code.take j).map insL) ++ (insL code[j] ++ [10]) from by
                rw [List.take_succ_eq_append_getElem hlt4, List.map_append, ← List.append_assoc, List.map_singleton, unl_snoc])
              generalize unl (headL p ++ (code.take j).map insL) = pre4 at *
              clear hmem
              generalize code[j] = x at *
              have hil := insL_len hsm.1 hsm.2
              have hbA : Below wr.heap.size wr (wr.alloc (.cells #[.int .i64 x.op, .int .u64 (x.a : Int), .int .u64 (x.b : Int)] 43)) := (Below.refl _ _).alloc (Nat.le_refl _) _
              have HBA := Lib.hid (HBY.out.trans (hbA.mono hBy))
              have HOA := Lib.hid (HOY.out.below hbA)
              have HCL := Lib.hid (fun W => codeLine_any x W hin hsm.1 hsm.2)
              have q1 := fun W => str_add (P := Tryz.prog) (str (insL x)) ⟨#[10]⟩ (by rw [str_size, show (⟨#[10]⟩ : ByteArray).size = 1 from rfl]; omega) W
              have HEQ := Lib.hid (show (str (insL x) ++ ⟨#[10]⟩ : ByteArray).data.toList = insL x ++ [10] from by
                rw [show (⟨#[10]⟩ : ByteArray) = str [10] from rfl, str_cat2, str_data])
              have hle : pre4.length + (str (insL x) ++ ⟨#[10]⟩ : ByteArray).size ≤ 140737488355328 := by
                rw [ba_append_size, str_size, show (⟨#[10]⟩ : ByteArray).size = 1 from rfl]; omega
              generalize str (insL x) = sn at *
              clear hin hsm hbA hil hpl
              go_wp2_with fail
              refine (HCL.out _).mono ?_
              rintro e w5 ⟨rfl, hb5⟩
              have HO5 := Lib.hid (HOA.out.below hb5)
              have HB5 := Lib.hid (HBA.out.trans (hb5.mono HBA.out.size))
              have hz5 := HB5.out.size
              clear hb5
              go_wp2_with (at_builtin; refine OwnX.appendStr HO5.out (sn ++ ⟨#[10]⟩) rfl _ _ rfl rfl rfl hz5 hle ?_; intro v6 w6 ho6 hb6; have HO6 := Lib.hid ho6; have HB6 := Lib.hid (HB5.out.trans hb6); clear ho6 hb6)
              go_roundw
              case rel =>
                refine ⟨j + 1, by omega, by go_num, ?_, HB6.out⟩
                have h := HO6.out
                rw [HEQ.out] at h
                rw [HNX.out]
                exact h
              case measure => simp [intOf]; omega
            · --END
              have cv := HOY.out.conv
              rw [show headL p ++ (code.take j).map insL = linesL p code from by rw [List.take_of_length_le (by omega)]; rfl] at cv
              clear hpl
              go_wp2
              go_ret2
              exact txtRet_ok HTX.out.2.2 rfl (HB3.out.trans (HBY.out.mono HB3.out.size))
end Go.Proofs.YtmdpfikalekmlaaGreatDoor
end
section
/- Layer 20, the document's reader: numbers, unquoted. -/
namespace Go.Proofs.YtmdpfikalekmlaaGreatDoor
open Go.RowKit
set_option maxRecDepth 100000
set_option maxHeartbeats 4000000
set_option linter.unusedSimpArgs false
set_option linter.unusedVariables false

/-- The last element of a list of the call's own, written over. -/
theorem OwnL.setLast1 {α : Type} {S : Shape α} (h1 : S.size = 1) {w : World} {B g cap : Nat} {l : List α} {x : α} (h : OwnL S w B (.slice (some ⟨g, 0, none⟩) (l.length + 1) cap) (l ++ [x])) (y : α) (u ux : Value) (hu : S.enc y = [u]) (hux : S.enc x = [ux]) (hlen : (S.cells l).length = l.length) :
    OwnL S (w.setCell ⟨g, l.length, none⟩ u) B (.slice (some ⟨g, 0, none⟩) (l.length + 1) cap) (l ++ [y]) := by
  have hc : ∀ z v, S.enc z = [v] → S.cells (l ++ [z]) = S.cells l ++ [v] := fun z v hz => by rw [Shape.cells_snoc, hz]
  refine ⟨?_, ?_⟩
  · rw [hc y u hu, List.length_append, hlen, h1, List.length_append, Nat.mul_one]; rfl
  · rcases h.2 with ⟨h0, _⟩ | ⟨g', cap', cur, hv, hg, hh, hn, hm, hs, ht⟩
    · cases h0
    · injection hv with e1 e2 e3
      injection e1 with e1
      injection e1 with e4
      subst e3 e4
      refine Or.inr ⟨g, cap, cur.setIfInBounds l.length u, ?_, hg, Blk.set_ (t := S.tE) hh l.length u, ?_, hm, ?_, ?_⟩
      · rw [List.length_append]; rfl
      · rw [List.length_append] at hn ⊢; exact hn
      · rw [Array.size_setIfInBounds]; exact hs
      · rw [Array.toList_setIfInBounds, List.take_set, List.length_append, List.length_singleton]
        rw [List.length_append, List.length_singleton] at ht
        rw [ht, hc x ux hux, hc y u hu, List.set_append_right _ _ (by rw [hlen]; exact Nat.le_refl _), hlen, Nat.sub_self]
        rfl
theorem numRun_take {s : List UInt8} {k : Nat} (h : k < s.length) (st : List Nat × Bool) : numRun st (s.take (k + 1)) = numStep (numRun st (s.take k)) s[k] := by
  unfold numRun
  rw [List.take_succ_eq_append_getElem h, List.foldl_append]; rfl
theorem numStep_no {st : List Nat × Bool} {c : UInt8} (h : isDig c = false) : numStep st c = (st.1, false) := by unfold numStep; rw [if_neg (by rw [h]; decide)]
theorem numStep_new {l : List Nat} {c : UInt8} (h : isDig c = true) : numStep (l, false) c = (l ++ [(0 * 10 + (c.toNat - 48)) % 18446744073709551616], true) := by
  unfold numStep; rw [if_pos h, if_neg (by simp), addDig_snoc]
theorem numStep_old {l : List Nat} {z : Nat} {c : UInt8} (h : isDig c = true) : numStep (l ++ [z], true) c = (l ++ [(z * 10 + (c.toNat - 48)) % 18446744073709551616], true) := by
  unfold numStep; rw [if_pos h, if_pos rfl, addDig_snoc]
theorem nat_cells (l : List Nat) : (natS.cells l).length = l.length := by rw [Shape.cells_length natSOk]; exact Nat.mul_one _
theorem nat_last {w : World} {B : Nat} {v : Value} {l : List Nat} {z : Nat} (h : OwnL natS w B v (l ++ [z])) : ∃ g cap, v = .slice (some ⟨g, 0, none⟩) (l.length + 1) cap ∧ l.length + 1 ≤ cap ∧ cap ≤ maxLen ∧ B ≤ g ∧ g < w.heap.size ∧ w.cell? ⟨g, l.length, none⟩ = some (.int .u64 (z : Int)) ∧ w.frozen? ⟨g, l.length, none⟩ = false ∧ OwnL natS w B (.slice (some ⟨g, 0, none⟩) (l.length + 1) cap) (l ++ [z]) := by
  have hx := h
  rcases h.2 with ⟨_, h0⟩ | ⟨g, cap, cur, rfl, hg, hh, hn, hm, hs, ht⟩
  · simp at h0
  · have hlt : g < w.heap.size := by
      rcases Nat.lt_or_ge g w.heap.size with h | h
      · exact h
      · rw [Array.getElem?_eq_none h] at hh; cases hh
    have hc := hx.at_ natSOk (k := l.length) (by simp)
    obtain ⟨g', e, hc⟩ := hc
    injection e with e
    injection e with e
    subst e
    have hc2 := hc 0 (.int .u64 (z : Int)) (by decide) (by simp [natS])
    rw [Nat.add_zero, show l.length * natS.size = l.length from Nat.mul_one _] at hc2
    rw [List.length_append, List.length_singleton] at hx hn ⊢
    refine ⟨g, cap, rfl, hn, hm, hg, hlt, hc2, ?_, ?_⟩
    · simp [World.frozen?, hh]
    · exact hx
def NuRel (s : List UInt8) (w : World) (ov bv iv : Value) (wr : World) : Prop :=
  ∃ (k : Nat) (acc : List Nat) (op : Bool), k ≤ s.length ∧ iv = .int .i64 (k : Int) ∧ bv = .bool op ∧ numRun ([], false) (s.take k) = (acc, op) ∧ OwnL natS wr w.heap.size ov acc ∧ acc.length ≤ k ∧ (op = true → acc ≠ []) ∧ (∀ x ∈ acc, x < top64) ∧ Below w.heap.size w wr
theorem rnumbers_any (s : ByteArray) (w : World) (hs : s.size ≤ 1000000000) :
    Calls Tryz.prog 50 #[.string s] w fun e w' => ∃ v', e = .returned v' ∧ OwnL natS w' w.heap.size v' (numsL s.data.toList) ∧ (∀ x ∈ numsL s.data.toList, x < top64) ∧ (numsL s.data.toList).length ≤ s.size ∧ Below w.heap.size w w' := by
  have hsz : s.data.toList.length = s.size := (ba_size s).symm
  have HSZ := Lib.hid hsz
  clear hsz
  have HO0 := Lib.hid (OwnL.lit0 natS w (Nat.le_refl _))
  go_enter Tryz.func50, Tryz.ntmps50
  go_wp2
  go_loopw [3, 4, 5] (fun ov bv iv wr => NuRel s.data.toList w ov bv iv wr) (fun _ _ iv _ => s.size - (intOf iv).toNat)
  case atStart => exact ⟨0, [], false, Nat.zero_le _, rfl, rfl, rfl, HO0.out, Nat.le_refl _, (fun h => by cases h), (fun x hx => absurd hx List.not_mem_nil), (Below.refl _ _).alloc (Nat.le_refl _) _⟩
  case round =>
    obtain ⟨k, acc, op, hk, rfl, rfl, hrun, ho, hal, hne, hlts, hb⟩ := hrel
    have HO := Lib.hid ho; have HB := Lib.hid hb; have HR := Lib.hid hrun; have HNE := Lib.hid hne; have HLT := Lib.hid hlts
    have hBr : w.heap.size ≤ wr.heap.size := hb.size
    rw [HSZ.out] at hk
    clear ho hb hrun hne hlts
    by_cases hlt : k < s.size
    · have hl : k < s.data.toList.length := by rw [HSZ.out]; exact hlt
      have hbx := u8_lt s[k]
      have HST := Lib.hid (show numRun ([], false) (s.data.toList.take (k + 1)) = numStep (acc, op) s[k] from by rw [numRun_take hl, HR.out]; rfl)
      have HK1 := Lib.hid (show k + 1 ≤ s.data.toList.length from hl)
      by_cases hd : isDig s[k] = true
      · have hdd : 48 ≤ s[k].toNat ∧ s[k].toNat ≤ 57 := by unfold isDig at hd; simpa using hd
        obtain ⟨hd1, hd2⟩ := hdd
        have HD := Lib.hid hd
        clear hd
        have e1 : (s[k].toNat : Int) - 48 = ((s[k].toNat - 48 : Nat) : Int) := by omega
        have w1 := wrap_u8n (s[k].toNat - 48) (by omega)
        have hd9 : s[k].toNat - 48 < 10 := by omega
        have HDN := Lib.hid (rfl : s[k].toNat - 48 = s[k].toNat - 48)
        obtain ⟨d, hdn⟩ : ∃ d, s[k].toNat - 48 = d := ⟨_, rfl⟩
        rw [hdn] at e1 w1 hd9
        have w2 : IntKind.u64.wrap (d : Int) = (d : Int) := wrap_u64n d (by omega)
        have HDN := Lib.hid hdn
        clear hdn
        cases op
        case false =>
          have HS2 := Lib.hid (show numRun ([], false) (s.data.toList.take (k + 1)) = (acc ++ [(0 * 10 + d) % 18446744073709551616], true) from by rw [← HDN.out]; exact HST.out.trans (numStep_new HD.out))
          have hal1 : acc.length + 1 ≤ 970000000000 := by omega
          have z1 : IntKind.u64.wrap ((0 : Int) * 10) = 0 := by decide
          have z2 : IntKind.u64.wrap ((0 : Int) + (d : Int)) = (d : Int) := by rw [Int.zero_add]; exact w2
          go_wp2_with (at_builtin; refine OwnL.append natSOk HO.out (0 : Nat) rfl _ _ rfl rfl rfl _ rfl hBr hal1 ?_; intro v1 w1 ho1 hb1; obtain ⟨g1, cap1, rfl, hc1, hm1, hg1, hl1, c1, f1, ho2⟩ := nat_last ho1; have HO1 := Lib.hid ho2; have HB1 := Lib.hid (HB.out.trans hb1); clear ho1 hb1 ho2 z1 z2)
          have c1d : w1.drew.cell? ⟨g1, acc.length, none⟩ = some (.int .u64 ((0 : Nat) : Int)) := c1
          have f1d : w1.drew.frozen? ⟨g1, acc.length, none⟩ = false := f1
          have hm1 : IntKind.u64.wrap (((0 : Nat) : Int) * 10) = ((0 * 10 % 18446744073709551616 : Nat) : Int) := by decide
          have hm2 : IntKind.u64.wrap (((0 * 10 % 18446744073709551616 : Nat) : Int) + (d : Int)) = (((0 * 10 + d) % 18446744073709551616 : Nat) : Int) := by rw [show (0 * 10 % 18446744073709551616 : Nat) = 0 from rfl, show ((0 * 10 + d) % 18446744073709551616 : Nat) = d from by omega, show ((0 : Nat) : Int) + (d : Int) = (d : Int) from by omega]; exact w2
          have hcd : 0 ≤ (k : Int) ∧ (k : Int) < (s.size : Int) := by omega
          have hce : 0 ≤ ((acc.length : Nat) : Int) ∧ ((acc.length : Nat) : Int) < (((acc.length + 1 : Nat)) : Int) := by omega
          have ix0 := fun W => str_ix s k hlt (k : Int) rfl W
          generalize (0 * 10 % 18446744073709551616 : Nat) = m1 at *
          obtain ⟨m2, hm3⟩ : ∃ m2, (0 * 10 + d) % 18446744073709551616 = m2 := ⟨_, rfl⟩
          rw [hm3] at hm2 HS2
          have hm4 : m2 < top64 := by rw [← hm3]; unfold top64; exact Nat.mod_lt _ (by decide)
          have HM4 := Lib.hid hm4
          have HM5 := Lib.hid (show (m2 : Int) = (s[k].toNat : Int) - 48 from by rw [e1, ← hm3]; omega)
          clear hm3 hm4
          go_region
          go_wp2
          go_roundw
          case rel =>
            refine ⟨k + 1, acc ++ [m2], true, HK1.out, by go_num, rfl, HS2.out, ?_, by simp; omega, (fun _ => by simp), ?_, ?_⟩
            · rw [show ((s[k].toNat : Int) - 48) = (m2 : Int) from by have := HM5.out; omega]
              exact OwnL.drew (OwnL.setLast1 (S := natS) rfl HO1.out m2 _ _ rfl rfl (nat_cells _))
            · intro x hx
              rcases List.mem_append.1 hx with h | h
              · exact HLT.out x h
              · rw [List.mem_singleton] at h; rw [h]; exact HM4.out
            · exact (HB1.out.setCell hg1 _).drew
          case measure => simp [intOf]; omega
        case true =>
          obtain ⟨init, z, rfl⟩ : ∃ init z, acc = init ++ [z] := ⟨acc.dropLast, acc.getLast (HNE.out rfl), (List.dropLast_concat_getLast _).symm⟩
          have HS2 := Lib.hid (show numRun ([], false) (s.data.toList.take (k + 1)) = (init ++ [(z * 10 + d) % 18446744073709551616], true) from by rw [← HDN.out]; exact HST.out.trans (numStep_old HD.out))
          obtain ⟨g1, cap1, rfl, hc1, hm1, hg1, hl1, c1, f1, ho2⟩ := nat_last HO.out
          have hil : init.length + 1 ≤ k := by simpa using hal
          have HO1 := Lib.hid ho2
          clear ho2 HO
          go_wp2
          have c1d : wr.drew.cell? ⟨g1, init.length, none⟩ = some (.int .u64 (z : Int)) := c1
          have f1d : wr.drew.frozen? ⟨g1, init.length, none⟩ = false := f1
          have hm1 : IntKind.u64.wrap ((z : Int) * 10) = ((z * 10 % 18446744073709551616 : Nat) : Int) := by simp [IntKind.wrap, IntKind.bits, IntKind.signed]
          have hm2 : IntKind.u64.wrap (((z * 10 % 18446744073709551616 : Nat) : Int) + (d : Int)) = (((z * 10 + d) % 18446744073709551616 : Nat) : Int) := by simp [IntKind.wrap, IntKind.bits, IntKind.signed]
          have hcd : 0 ≤ (k : Int) ∧ (k : Int) < (s.size : Int) := by omega
          have hce : 0 ≤ ((init.length : Nat) : Int) ∧ ((init.length : Nat) : Int) < (((init.length + 1 : Nat)) : Int) := by omega
          have ix0 := fun W => str_ix s k hlt (k : Int) rfl W
          generalize (z * 10 % 18446744073709551616 : Nat) = m1 at *
          obtain ⟨m2, hm3⟩ : ∃ m2, (z * 10 + d) % 18446744073709551616 = m2 := ⟨_, rfl⟩
          rw [hm3] at hm2 HS2
          have hm4 : m2 < top64 := by rw [← hm3]; unfold top64; exact Nat.mod_lt _ (by decide)
          have HM4 := Lib.hid hm4
          have HM2 := Lib.hid hm2
          have E1 := Lib.hid e1
          clear hm3 hm4
          go_region
          go_wp2
          go_roundw
          case rel =>
            refine ⟨k + 1, init ++ [m2], true, HK1.out, by go_num, rfl, HS2.out, ?_, by simp; omega, (fun _ => by simp), ?_, ?_⟩
            · rw [show IntKind.u64.wrap ((m1 : Int) + ((s[k].toNat : Int) - 48)) = (m2 : Int) from by rw [E1.out]; exact HM2.out]
              exact OwnL.drew (OwnL.setLast1 (S := natS) rfl HO1.out m2 _ _ rfl rfl (nat_cells _))
            · intro x hx
              rcases List.mem_append.1 hx with h | h
              · exact HLT.out x (List.mem_append_left _ h)
              · rw [List.mem_singleton] at h; rw [h]; exact HM4.out
            · exact (HB.out.setCell hg1 _).drew
          case measure => simp [intOf]; omega
      · have hdf : isDig s[k] = false := by simpa using hd
        have HS2 := Lib.hid (HST.out.trans (numStep_no hdf))
        have hdd : s[k].toNat < 48 ∨ 57 < s[k].toNat := by unfold isDig at hdf; simp at hdf; omega
        clear hd hdf
        rcases hdd with hdd | hdd
        · go_wp2
          go_roundw
          case rel => exact ⟨k + 1, acc, false, HK1.out, by go_num, rfl, HS2.out, HO.out, by omega, (fun h => by cases h), HLT.out, HB.out⟩
          case measure => simp [intOf]; omega
        · have hd3 : ¬ s[k].toNat < 48 := by omega
          go_wp2
          go_roundw
          case rel => exact ⟨k + 1, acc, false, HK1.out, by go_num, rfl, HS2.out, HO.out, by omega, (fun h => by cases h), HLT.out, HB.out⟩
          case measure => simp [intOf]; omega
    · have HE := Lib.hid (show acc = numsL s.data.toList from by
        have h := HR.out
        rw [List.take_of_length_le (by rw [HSZ.out]; omega)] at h
        unfold numsL
        rw [h])
      go_wp2
      go_ret
      exact ⟨_, rfl, by rw [← HE.out]; exact HO.out, by rw [← HE.out]; exact HLT.out, by rw [← HE.out]; omega, HB.out⟩
theorem Below.undrewI {B : Nat} {w w' : World} (h : Below B w.drew w') : Below B w w' := ((Below.refl B w).drew).trans h
def UnRel (s : ByteArray) (w : World) (ov iv : Value) (wr : World) : Prop :=
  ∃ (k : Nat) (acc : List UInt8), 1 ≤ k ∧ k ≤ s.size + 2 ∧ iv = .int .i64 (k : Int) ∧ acc ++ runqF (s.data.toList.drop k) = runqF (s.data.toList.drop 1) ∧ OwnB wr w.heap.size ov acc ∧ acc.length ≤ k ∧ Below w.heap.size w wr
theorem drop_two {l : List UInt8} {k : Nat} (h : k + 1 < l.length) : l.drop k = l[k] :: l[k + 1] :: l.drop (k + 2) := by
  rw [List.drop_eq_getElem_cons (by omega), List.drop_eq_getElem_cons h]
theorem runq_hex {l : List UInt8} {k : Nat} (h : k + 2 < l.length) (hc : l[k] = 92) : runqF (l.drop k) = UInt8.ofNat (hexed l[k + 1] * 16 + hexed l[k + 2]) :: runqF (l.drop (k + 3)) := by
  have e : l.drop (k + 2) = l[k + 2] :: l.drop (k + 3) := List.drop_eq_getElem_cons h
  rw [drop_two (by omega), e, runqF.eq_def]
  simp only []
  rw [if_pos ⟨hc, by simpa using h⟩]
theorem runq_one {l : List UInt8} {k : Nat} (h : k + 1 < l.length) (hc : ¬ (l[k] = 92 ∧ k + 2 < l.length)) : runqF (l.drop k) = l[k] :: runqF (l.drop (k + 1)) := by
  have e : l.drop (k + 1) = l[k + 1] :: l.drop (k + 2) := List.drop_eq_getElem_cons h
  rw [drop_two h, runqF.eq_def]
  simp only []
  rw [if_neg (fun h2 => hc ⟨h2.1, by
    rcases Nat.lt_or_ge (k + 2) l.length with g | g
    · exact g
    · exact absurd (List.drop_eq_nil_of_le g) h2.2⟩), e]
theorem runq_end {l : List UInt8} {k : Nat} (h : l.length ≤ k + 1) : runqF (l.drop k) = [] := by
  rcases hd : l.drop k with _ | ⟨c, _ | ⟨d, r⟩⟩
  · rfl
  · rfl
  · exfalso
    have := congrArg List.length hd
    rw [List.length_drop] at this
    simp at this; omega
theorem runq_any (s : ByteArray) (w : World) (hs : s.size ≤ 1000000000) :
    Calls Tryz.prog 81 #[.string s] w fun e w' => e = .returned (.string (str (runqF (s.data.toList.drop 1)))) ∧ Below w.heap.size w w' := by
  have hsz : s.data.toList.length = s.size := (ba_size s).symm
  have HSZ := Lib.hid hsz
  clear hsz
  have HO0 := Lib.hid (OwnB.lit0 w (Nat.le_refl _))
  go_enter Tryz.func81, Tryz.ntmps81
  go_wp2
  go_loopw [3, 4] (fun ov iv wr => UnRel s w ov iv wr) (fun _ iv _ => s.size + 2 - (intOf iv).toNat)
  case atStart => exact ⟨1, [], Nat.le_refl _, by omega, rfl, rfl, HO0.out, Nat.zero_le _, (Below.refl _ _).alloc (Nat.le_refl _) _⟩
  case round =>
    obtain ⟨k, acc, hk1, hk, rfl, hru, ho, hal, hb⟩ := hrel
    have HO := Lib.hid ho; have HB := Lib.hid hb; have HR := Lib.hid hru
    have hBr : w.heap.size ≤ wr.heap.size := hb.size
    clear ho hb hru
    by_cases hlt : k + 1 < s.size
    · have hl1 : k + 1 < s.data.toList.length := by rw [HSZ.out]; exact hlt
      have hlk : k < s.size := by omega
      have hlti : (k : Int) < (s.size : Int) - 1 := by omega
      have hbx := u8_lt s[k]
      have hal1 : acc.length + 1 ≤ 140737488355328 := by omega
      by_cases h92 : s[k] = 92
      · have h92i : (s[k].toNat : Int) = 92 := by rw [h92]; rfl
        by_cases h2 : k + 2 < s.size
        · have hl2 : k + 2 < s.data.toList.length := by rw [HSZ.out]; exact h2
          have HQ := Lib.hid (runq_hex hl2 h92)
          have h1 := hexed_lt s[k + 1]
          have h3 := hexed_lt s[k + 2]
          have ix1 := fun W => str_ix s (k + 1) hlt ((k : Int) + 1) (by omega) W
          have ix2 := fun W => str_ix s (k + 2) h2 ((k : Int) + 2) (by omega) W
          have HX : Hid (s.data.toList[k + 1] = s[k + 1] ∧ s.data.toList[k + 2] = s[k + 2]) := Lib.hid ⟨rfl, rfl⟩
          rw [HX.out.1, HX.out.2] at HQ
          clear HX h92
          generalize s[k + 1] = c1 at *
          generalize s[k + 2] = c2 at *
          have HI1 := Lib.hid (fun (W : World) => hexed_any c1 W)
          have HI2 := Lib.hid (fun (W : World) => hexed_any c2 W)
          generalize hexed c1 = x1 at *
          generalize hexed c2 = x2 at *
          obtain ⟨p, hp⟩ : ∃ p, x1 * 16 = p := ⟨_, rfl⟩
          obtain ⟨q, hq⟩ : ∃ q, x1 * 16 + x2 = q := ⟨_, rfl⟩
          have e1 : (x1 : Int) * 16 = (p : Int) := by omega
          have w1 := wrap_u8n p (by omega)
          have e2 : (p : Int) + (x2 : Int) = (q : Int) := by omega
          have w2 := wrap_u8n q (by omega)
          have hx : q < 256 := by omega
          rw [hq] at HQ
          clear hp hq
          have hw1 := wrap_i64 ((k : Int) + 1) (by omega) (by omega)
          have hw2 := wrap_i64 ((k : Int) + 2) (by omega) (by omega)
          have hcd1 : 0 ≤ (k : Int) + 1 ∧ (k : Int) + 1 < (s.size : Int) := by omega
          have hcd2 : 0 ≤ (k : Int) + 2 ∧ (k : Int) + 2 < (s.size : Int) := by omega
          go_wp2
          go_region_law (first | (go_simp; go_at_call 100; with_reducible refine (HI1.out _).mono ?_; rintro e w5 ⟨rfl, rfl⟩) | (go_simp; go_at_call 100; with_reducible refine (HI2.out _).mono ?_; rintro e w5 ⟨rfl, rfl⟩))
          all_goals
            go_wp2_with (at_builtin; refine OwnB.append (OwnB.drew HO.out) (q : Int) (by omega) (by omega) rfl _ _ rfl rfl rfl hBr hal1 ?_; intro v1 w1 ho1 hb1; have HO1 := Lib.hid ho1; have HB1 := Lib.hid (HB.out.trans (Below.undrewI hb1)); clear ho1 hb1)
            go_roundw
            case rel => exact ⟨k + 3, acc ++ [UInt8.ofNat (q : Int).toNat], by omega, by omega, by go_num, by rw [← HR.out, HQ.out]; simp, HO1.out, by simp; omega, HB1.out⟩
            case measure => simp [intOf]; omega
        · have HQ := Lib.hid (runq_one hl1 (fun h => h2 (by rw [← HSZ.out]; exact h.2)))
          have HX : Hid (s.data.toList[k] = s[k]) := Lib.hid rfl
          rw [HX.out] at HQ
          have h2i : ¬ (k : Int) + 2 < (s.size : Int) := by omega
          rw [h92] at HQ
          clear HX h92
          go_wp2_with (at_builtin; refine OwnB.append HO.out (92 : Int) (by omega) (by omega) rfl _ _ rfl rfl rfl hBr hal1 ?_; intro v1 w1 ho1 hb1; have HO1 := Lib.hid ho1; have HB1 := Lib.hid (HB.out.trans hb1); clear ho1 hb1)
          go_roundw
          case rel => exact ⟨k + 1, acc ++ [UInt8.ofNat (92 : Int).toNat], by omega, by omega, by go_num, by rw [← HR.out, HQ.out]; simp, HO1.out, by simp; omega, HB1.out⟩
          case measure => simp [intOf]; omega
      · have HQ := Lib.hid (runq_one hl1 (fun h => h92 h.1))
        have HX : Hid (s.data.toList[k] = s[k]) := Lib.hid rfl
        rw [HX.out] at HQ
        have h92i : ((s[k].toNat : Int) == 92) = false := by
          rw [beq_eq_false_iff_ne]
          intro h
          exact h92 (UInt8.toNat_inj.1 (by show s[k].toNat = 92; omega))
        clear HX h92
        go_wp2_with (at_builtin; refine OwnB.append HO.out s[k].toNat (by omega) (by omega) rfl _ _ rfl rfl rfl hBr hal1 ?_; intro v1 w1 ho1 hb1; have HO1 := Lib.hid ho1; have HB1 := Lib.hid (HB.out.trans hb1); clear ho1 hb1)
        go_roundw
        case rel => exact ⟨k + 1, acc ++ [UInt8.ofNat (s[k].toNat : Int).toNat], by omega, by omega, by go_num, by rw [← HR.out, HQ.out]; simp, HO1.out, by simp; omega, HB1.out⟩
        case measure => simp [intOf]; omega
    · have HE := Lib.hid (show acc = runqF (s.data.toList.drop 1) from by
        rw [← HR.out, runq_end (by rw [HSZ.out]; omega), List.append_nil])
      have hlti : ¬ (k : Int) < (s.size : Int) - 1 := by omega
      have HC := Lib.hid HO.out.conv
      have hc := HC.out
      go_wp2
      go_ret
      exact ⟨by rw [show runqF s.data.toList.tail = acc from by rw [HE.out, List.drop_one]]; rfl, HB.out⟩
end Go.Proofs.YtmdpfikalekmlaaGreatDoor
end
section
/- Layer 20, the document's reader: its parts in memory. -/
namespace Go.Proofs.YtmdpfikalekmlaaGreatDoor
open Go.RowKit
set_option maxRecDepth 100000
set_option maxHeartbeats 4000000
set_option linter.unusedSimpArgs false
set_option linter.unusedVariables false

/-- The reader at block rb; its lists lie from B on, each in a row of its own. -/
structure PtsAt (w : World) (B rb : Nat) (x : RdrV) (st : Rs) : Prop where
  blk : Blk w rb 63 #[x.av, x.cv, x.nv, .bool st.all, x.dv, .slice none 0 0, .int .i64 (st.part : Int), x.kv]
  avgs : OwnL intS w B x.av st.avgs
  curs : OwnL lfS w B x.cv st.curs
  nears : OwnL nrS w B x.nv x.nl
  nmap : x.nl.map (·.n) = st.nears
  inner : ∀ y ∈ x.nl, OwnL intS w B y.cv y.n.cur ∧ OwnL intS w B y.ov y.n.off
  drive : OwnL intS w B x.dv st.drive
  code : OwnL insS w B x.kv st.code
  hB : B ≤ w.heap.size
  hrb : rb < B
theorem PtsAt.below {w w' : World} {B rb : Nat} {x : RdrV} {st : Rs} (h : PtsAt w B rb x st) (hb : Below w.heap.size w w') : PtsAt w' B rb x st :=
  ⟨h.blk.belowW hb, h.avgs.below hb, h.curs.below hb, h.nears.below hb, h.nmap, fun y hy => ⟨(h.inner y hy).1.below hb, (h.inner y hy).2.below hb⟩, h.drive.below hb, h.code.below hb, Nat.le_trans h.hB hb.size, h.hrb⟩
theorem PtsAt.drew {w : World} {B rb : Nat} {x : RdrV} {st : Rs} (h : PtsAt w B rb x st) : PtsAt w.drew B rb x st := h.below (Below.refl _ _).drew
section
variable {w : World} {B rb : Nat} {x : RdrV} {st : Rs}
/-- What a store into the reader leaves; the stored field is said by the caller. -/
theorem PtsAt.set_ (h : PtsAt w B rb x st) (i : Nat) (u : Value) (x' : RdrV) (st' : Rs)
    (hc : #[x.av, x.cv, x.nv, .bool st.all, x.dv, .slice none 0 0, .int .i64 (st.part : Int), x.kv].setIfInBounds i u = #[x'.av, x'.cv, x'.nv, .bool st'.all, x'.dv, .slice none 0 0, .int .i64 (st'.part : Int), x'.kv])
    (h1 : OwnL intS w B x'.av st'.avgs) (h2 : OwnL lfS w B x'.cv st'.curs) (h3 : OwnL nrS w B x'.nv x'.nl) (h4 : x'.nl.map (·.n) = st'.nears) (h5 : ∀ y ∈ x'.nl, OwnL intS w B y.cv y.n.cur ∧ OwnL intS w B y.ov y.n.off) (h6 : OwnL intS w B x'.dv st'.drive) (h7 : OwnL insS w B x'.kv st'.code) :
    PtsAt (w.setCell ⟨rb, i, none⟩ u) B rb x' st' := by
  have hb := h.blk
  refine ⟨hc ▸ hb.set_ i u, h1.farNe (h1.offBlk hb (by decide)) _, h2.farNe (h2.offBlk hb (by decide)) _, h3.farNe (h3.offBlk hb (by decide)) _, h4,
    fun y hy => ⟨(h5 y hy).1.farNe ((h5 y hy).1.offBlk hb (by decide)) _, (h5 y hy).2.farNe ((h5 y hy).2.offBlk hb (by decide)) _⟩, h6.farNe (h6.offBlk hb (by decide)) _, h7.farNe (h7.offBlk hb (by decide)) _, ?_, h.hrb⟩
  · rw [set_size]; exact h.hB
theorem PtsAt.setPart (h : PtsAt w B rb x st) (n : Nat) : PtsAt (w.setCell ⟨rb, 6, none⟩ (.int .i64 (n : Int))) B rb x { st with part := n } :=
  h.set_ 6 _ x { st with part := n } (by rfl) h.avgs h.curs h.nears h.nmap h.inner h.drive h.code
theorem PtsAt.setAll (h : PtsAt w B rb x st) : PtsAt (w.setCell ⟨rb, 3, none⟩ (.bool true)) B rb x { st with all := true } :=
  h.set_ 3 _ x { st with all := true } (by rfl) h.avgs h.curs h.nears h.nmap h.inner h.drive h.code
theorem PtsAt.setAvgs (h : PtsAt w B rb x st) {v : Value} {l : List Int} (hl : OwnL intS w B v l) : PtsAt (w.setCell ⟨rb, 0, none⟩ v) B rb { x with av := v } { st with avgs := l } :=
  h.set_ 0 _ { x with av := v } { st with avgs := l } (by rfl) hl h.curs h.nears h.nmap h.inner h.drive h.code
theorem PtsAt.setDrive (h : PtsAt w B rb x st) {v : Value} {l : List Int} (hl : OwnL intS w B v l) : PtsAt (w.setCell ⟨rb, 4, none⟩ v) B rb { x with dv := v } { st with drive := l } :=
  h.set_ 4 _ { x with dv := v } { st with drive := l } (by rfl) h.avgs h.curs h.nears h.nmap h.inner hl h.code
variable {w' : World} {v : Value}
/-- One more cursor, appended and stored. -/
theorem PtsAt.pushCur (h : PtsAt w B rb x st) (c : Lf) (ho : OwnL lfS w' B v (st.curs ++ [c])) (hb : Below B w w') (hk : KeptBut w w' x.cv) : PtsAt (w'.setCell ⟨rb, 1, none⟩ v) B rb { x with cv := v } { st with curs := st.curs ++ [c] } := by
  have hbk := h.blk.keptL h.curs (by decide) hk
  have g1 := h.avgs.keptL h.curs (by decide) hk
  have g3 := h.nears.keptL h.curs (by decide) hk
  have g6 := h.drive.keptL h.curs (by decide) hk
  have g7 := h.code.keptL h.curs (by decide) hk
  have g5 : ∀ y ∈ x.nl, OwnL intS w' B y.cv y.n.cur ∧ OwnL intS w' B y.ov y.n.off := fun y hy => ⟨(h.inner y hy).1.keptL h.curs (by decide) hk, (h.inner y hy).2.keptL h.curs (by decide) hk⟩
  refine ⟨hbk.set_ 1 v, g1.farNe (g1.offBlk hbk (by decide)) _, ho.farNe (ho.offBlk hbk (by decide)) _, g3.farNe (g3.offBlk hbk (by decide)) _, h.nmap,
    fun y hy => ⟨(g5 y hy).1.farNe ((g5 y hy).1.offBlk hbk (by decide)) _, (g5 y hy).2.farNe ((g5 y hy).2.offBlk hbk (by decide)) _⟩, g6.farNe (g6.offBlk hbk (by decide)) _, g7.farNe (g7.offBlk hbk (by decide)) _, ?_, h.hrb⟩
  · rw [set_size]; exact Nat.le_trans h.hB hb.size
/-- One more phrase. -/
theorem PtsAt.pushNear (h : PtsAt w B rb x st) (c : NrV) (h1 : OwnL intS w B c.cv c.n.cur) (h2 : OwnL intS w B c.ov c.n.off) (ho : OwnL nrS w' B v (x.nl ++ [c])) (hb : Below B w w') (hk : KeptBut w w' x.nv) : PtsAt (w'.setCell ⟨rb, 2, none⟩ v) B rb { x with nv := v, nl := x.nl ++ [c] } { st with nears := st.nears ++ [c.n] } := by
  have hbk := h.blk.keptL h.nears (by decide) hk
  have g1 := h.avgs.keptL h.nears (by decide) hk
  have g2 := h.curs.keptL h.nears (by decide) hk
  have g6 := h.drive.keptL h.nears (by decide) hk
  have g7 := h.code.keptL h.nears (by decide) hk
  have g5 : ∀ y ∈ x.nl ++ [c], OwnL intS w' B y.cv y.n.cur ∧ OwnL intS w' B y.ov y.n.off := fun y hy => by
    rcases List.mem_append.1 hy with hy | hy
    · exact ⟨(h.inner y hy).1.keptL h.nears (by decide) hk, (h.inner y hy).2.keptL h.nears (by decide) hk⟩
    · obtain rfl := List.mem_singleton.1 hy
      exact ⟨h1.keptL h.nears (by decide) hk, h2.keptL h.nears (by decide) hk⟩
  refine ⟨hbk.set_ 2 v, g1.farNe (g1.offBlk hbk (by decide)) _, g2.farNe (g2.offBlk hbk (by decide)) _, ho.farNe (ho.offBlk hbk (by decide)) _, ?_,
    fun y hy => ⟨(g5 y hy).1.farNe ((g5 y hy).1.offBlk hbk (by decide)) _, (g5 y hy).2.farNe ((g5 y hy).2.offBlk hbk (by decide)) _⟩, g6.farNe (g6.offBlk hbk (by decide)) _, g7.farNe (g7.offBlk hbk (by decide)) _, ?_, h.hrb⟩
  · show (x.nl ++ [c]).map (·.n) = st.nears ++ [c.n]
    rw [List.map_append, h.nmap]; rfl
  · rw [set_size]; exact Nat.le_trans h.hB hb.size
/-- One more instruction. -/
theorem PtsAt.pushIns (h : PtsAt w B rb x st) (c : Ins) (ho : OwnL insS w' B v (st.code ++ [c])) (hb : Below B w w') (hk : KeptBut w w' x.kv) : PtsAt (w'.setCell ⟨rb, 7, none⟩ v) B rb { x with kv := v } { st with code := st.code ++ [c] } := by
  have hbk := h.blk.keptL h.code (by decide) hk
  have g1 := h.avgs.keptL h.code (by decide) hk
  have g2 := h.curs.keptL h.code (by decide) hk
  have g3 := h.nears.keptL h.code (by decide) hk
  have g6 := h.drive.keptL h.code (by decide) hk
  have g5 : ∀ y ∈ x.nl, OwnL intS w' B y.cv y.n.cur ∧ OwnL intS w' B y.ov y.n.off := fun y hy => ⟨(h.inner y hy).1.keptL h.code (by decide) hk, (h.inner y hy).2.keptL h.code (by decide) hk⟩
  refine ⟨hbk.set_ 7 v, g1.farNe (g1.offBlk hbk (by decide)) _, g2.farNe (g2.offBlk hbk (by decide)) _, g3.farNe (g3.offBlk hbk (by decide)) _, h.nmap,
    fun y hy => ⟨(g5 y hy).1.farNe ((g5 y hy).1.offBlk hbk (by decide)) _, (g5 y hy).2.farNe ((g5 y hy).2.offBlk hbk (by decide)) _⟩, g6.farNe (g6.offBlk hbk (by decide)) _, ho.farNe (ho.offBlk hbk (by decide)) _, ?_, h.hrb⟩
  · rw [set_size]; exact Nat.le_trans h.hB hb.size
end
end Go.Proofs.YtmdpfikalekmlaaGreatDoor
end
