/- Merged for a claim: Dt Pa Se -/
import Derived.Test.YtmdpfikalekmlaaGreatDoorKo6
import Derived.Test.YtmdpfikalekmlaaGreatDoorSg
import Derived.Test.YtmdpfikalekmlaaGreatDoorKo1
import Derived.Test.YtmdpfikalekmlaaGreatDoorKo5
import Derived.Test.YtmdpfikalekmlaaGreatDoorCv
import Derived.Test.YtmdpfikalekmlaaGreatDoorRow
section
/- Layer 20, the document: Text. -/
namespace Go.Proofs.YtmdpfikalekmlaaGreatDoor
open Go.RowKit
set_option maxRecDepth 100000
set_option maxHeartbeats 4000000
set_option linter.unusedSimpArgs false
set_option linter.unusedVariables false

theorem wrap_u64n (n : Nat) (h : n < 18446744073709551616) : IntKind.u64.wrap (n : Int) = (n : Int) := by
  rw [IntKind.wrap_u64]; omega
theorem unl_snoc (l : List (List UInt8)) (x : List UInt8) : unl (l ++ [x]) = unl l ++ (x ++ [10]) := by simp [unl]
theorem unl_pfx {a b : List (List UInt8)} (h : a <+: b) : (unl a).length ≤ (unl b).length := by
  obtain ⟨t, rfl⟩ := h
  rw [unl_append, List.length_append]; omega
theorem pfx1 (p : Pg) (code : List Ins) (k : Nat) : [lineL [97, 118, 103, 115] p.avgs] ++ (p.curs.take k).map curL <+: linesL p code := by
  unfold linesL headL
  rw [show p.curs.map curL = (p.curs.take k).map curL ++ (p.curs.drop k).map curL from by rw [← List.map_append, List.take_append_drop]]
  simp only [List.append_assoc]
  exact ⟨_, by simp only [List.append_assoc]; rfl⟩
theorem pfx2 (p : Pg) (code : List Ins) (k : Nat) : [lineL [97, 118, 103, 115] p.avgs] ++ p.curs.map curL ++ (p.nears.take k).map nearL <+: linesL p code := by
  unfold linesL headL
  rw [show p.nears.map nearL = (p.nears.take k).map nearL ++ (p.nears.drop k).map nearL from by rw [← List.map_append, List.take_append_drop]]
  simp only [List.append_assoc]
  exact ⟨_, by simp only [List.append_assoc]; rfl⟩
theorem pfx4 (p : Pg) (code : List Ins) (k : Nat) : headL p ++ (code.take k).map insL <+: linesL p code := by
  unfold linesL
  rw [show code.map insL = (code.take k).map insL ++ (code.drop k).map insL from by rw [← List.map_append, List.take_append_drop]]
  exact ⟨_, by simp only [List.append_assoc]; rfl⟩
def RxO (w3 : World) (ov : Value) (lines : List (List UInt8)) (wr : World) : Prop := OwnX wr w3.heap.size ov (unl lines) ∧ Below w3.heap.size w3 wr
def Rx1 (p : Pg) (w3 : World) (ov iv : Value) (wr : World) : Prop := ∃ k : Nat, k ≤ p.curs.length ∧ iv = .int .i64 (k : Int) ∧ RxO w3 ov ([lineL [97, 118, 103, 115] p.avgs] ++ (p.curs.take k).map curL) wr
def Rx2 (p : Pg) (nl : List NrV) (w3 : World) (ov iv : Value) (wr : World) : Prop := ∃ k : Nat, k ≤ nl.length ∧ iv = .int .i64 (k : Int) ∧ RxO w3 ov ([lineL [97, 118, 103, 115] p.avgs] ++ p.curs.map curL ++ (p.nears.take k).map nearL) wr
def Rx4 (p : Pg) (code : List Ins) (w3 : World) (ov iv : Value) (wr : World) : Prop := ∃ k : Nat, k ≤ code.length ∧ iv = .int .i64 (k : Int) ∧ RxO w3 ov (headL p ++ (code.take k).map insL) wr
theorem rtext_any (x : PgV) (p : Pg) (w : World) (h : PgR w w.heap.size x p) (hs : SmallPg p) :
    Calls Tryz.prog 34 #[x.val p] w (TxtRet (.int .i64 21) (.int .i64 0) p w) := by
  obtain ⟨av, cv, nv, dv, kv, nl⟩ := x
  obtain ⟨aA, acap, rfl, -, -⟩ := h.avgs.open_
  obtain ⟨cA, ccap, rfl, -, -⟩ := h.curs.open_
  have hno : RdL nrS w w.heap.size nv nl := h.nears
  obtain ⟨nA, ncap, hnv, -, -⟩ := hno.open_
  subst hnv
  clear hno
  obtain ⟨dA, dcap, rfl, -, -⟩ := h.drive.open_
  obtain ⟨kA, kcap, rfl, -, -⟩ := h.code.open_
  have H := Lib.hid h; have HS := Lib.hid hs
  have HNM := Lib.hid h.nmap
  have hl1 := hs.curs.2
  have hl2 : nl.length ≤ 2000000 := by have e := hs.nears.2; rw [← h.nmap, List.length_map] at e; exact Nat.le_trans e (by decide)
  have hb0 : Below w.heap.size w (w.alloc (.cells #[.slice aA p.avgs.length acap, .slice cA p.curs.length ccap, .slice nA nl.length ncap, .bool p.all, .slice dA p.drive.length dcap, .slice kA p.code.length kcap] 28)) := (Below.refl _ _).alloc (Nat.le_refl _) _
  have k0 : (w.alloc (.cells #[.slice aA p.avgs.length acap, .slice cA p.curs.length ccap, .slice nA nl.length ncap, .bool p.all, .slice dA p.drive.length dcap, .slice kA p.code.length kcap] 28)).cell? ⟨w.heap.size, 0, none⟩ = some (.slice aA p.avgs.length acap) := by rw [World.cell?_alloc_new]; rfl
  have k1 : (w.alloc (.cells #[.slice aA p.avgs.length acap, .slice cA p.curs.length ccap, .slice nA nl.length ncap, .bool p.all, .slice dA p.drive.length dcap, .slice kA p.code.length kcap] 28)).cell? ⟨w.heap.size, 1, none⟩ = some (.slice cA p.curs.length ccap) := by rw [World.cell?_alloc_new]; rfl
  have k2 : (w.alloc (.cells #[.slice aA p.avgs.length acap, .slice cA p.curs.length ccap, .slice nA nl.length ncap, .bool p.all, .slice dA p.drive.length dcap, .slice kA p.code.length kcap] 28)).cell? ⟨w.heap.size, 2, none⟩ = some (.slice nA nl.length ncap) := by rw [World.cell?_alloc_new]; rfl
  have k3 : (w.alloc (.cells #[.slice aA p.avgs.length acap, .slice cA p.curs.length ccap, .slice nA nl.length ncap, .bool p.all, .slice dA p.drive.length dcap, .slice kA p.code.length kcap] 28)).cell? ⟨w.heap.size, 3, none⟩ = some (.bool p.all) := by rw [World.cell?_alloc_new]; rfl
  have k4 : (w.alloc (.cells #[.slice aA p.avgs.length acap, .slice cA p.curs.length ccap, .slice nA nl.length ncap, .bool p.all, .slice dA p.drive.length dcap, .slice kA p.code.length kcap] 28)).cell? ⟨w.heap.size, 4, none⟩ = some (.slice dA p.drive.length dcap) := by rw [World.cell?_alloc_new]; rfl
  have k5 : (w.alloc (.cells #[.slice aA p.avgs.length acap, .slice cA p.curs.length ccap, .slice nA nl.length ncap, .bool p.all, .slice dA p.drive.length dcap, .slice kA p.code.length kcap] 28)).cell? ⟨w.heap.size, 5, none⟩ = some (.slice kA p.code.length kcap) := by rw [World.cell?_alloc_new]; rfl
  have kz : w.heap.size < (w.alloc (.cells #[.slice aA p.avgs.length acap, .slice cA p.curs.length ccap, .slice nA nl.length ncap, .bool p.all, .slice dA p.drive.length dcap, .slice kA p.code.length kcap] 28)).heap.size := by rw [World.size_alloc]; omega
  have HB0 := Lib.hid hb0
  clear h hs hb0
  simp only [PgV.val]
  go_enter Tryz.func34, Tryz.ntmps34
  go_wp2_with fail
  generalize (w.alloc (.cells #[.slice aA p.avgs.length acap, .slice cA p.curs.length ccap, .slice nA nl.length ncap, .bool p.all, .slice dA p.drive.length dcap, .slice kA p.code.length kcap] 28)) = w0 at *
  refine (ridecode_any (.slice kA p.code.length kcap) p.code w0 ((H.out.below HB0.out).code.more HB0.out.size) (by have := HS.out.code; omega)).mono ?_
  rintro e w1 ⟨hb1, hm⟩
  have HB1 := Lib.hid (HB0.out.trans (hb1.mono HB0.out.size))
  have j0 := (hb1.cell (p := ⟨w.heap.size, 0, none⟩) kz).trans k0
  have j1 := (hb1.cell (p := ⟨w.heap.size, 1, none⟩) kz).trans k1
  have j2 := (hb1.cell (p := ⟨w.heap.size, 2, none⟩) kz).trans k2
  have j3 := (hb1.cell (p := ⟨w.heap.size, 3, none⟩) kz).trans k3
  have j4 := (hb1.cell (p := ⟨w.heap.size, 4, none⟩) kz).trans k4
  have j5 := (hb1.cell (p := ⟨w.heap.size, 5, none⟩) kz).trans k5
  have jz : w.heap.size < w1.heap.size := Nat.lt_of_lt_of_le kz hb1.size
  have hz0 := HB0.out.size
  clear hb1 k0 k1 k2 k3 k4 k5
  cases hd : decI p.code with
  | none =>
    rw [hd] at hm
    subst hm
    have HD := Lib.hid (show textP p = none from by unfold textP; rw [hd])
    clear hd
    go_wp2
    go_ret2
    exact txtRet_no HD.out HB1.out
  | some code =>
  rw [hd] at hm
  obtain ⟨rv, rfl, ho⟩ := hm
  obtain ⟨rA, rcap, rfl, -, -, -⟩ := ho.open_
  have HO := Lib.hid (RdL.of_own ho)
  have HD := Lib.hid hd
  clear ho hd hz0 kz
  go_wp2_with fail
  refine (rlisted_any ⟨.slice aA p.avgs.length acap, .slice cA p.curs.length ccap, .slice nA nl.length ncap, .slice dA p.drive.length dcap, .slice kA p.code.length kcap, nl⟩ p w1 ((H.out.below HB1.out).more HB1.out.size) HS.out).mono ?_
  rintro e w2 ⟨rfl, hb2⟩
  have HB2 := Lib.hid (HB1.out.trans (hb2.mono HB1.out.size))
  cases hok : okP p with
  | false =>
    have HQ := Lib.hid (show textP p = none from textP_none (by rw [hok]; rfl))
    clear hok hb2
    go_wp2
    go_ret2
    exact txtRet_no HQ.out HB2.out
  | true =>
  have HTX := Lib.hid (textP_some (p := p) (code := code) (by rw [if_pos hok]; exact HD.out))
  have HOK := Lib.hid (okP_parts hok)
  have HTS := Lib.hid (text_small HS.out HD.out)
  have HO2 := Lib.hid (HO.out.belowW (Nat.le_refl _) hb2)
  have HZ2 := Lib.hid hb2.size
  have l0 := (hb2.cell (p := ⟨w.heap.size, 0, none⟩) jz).trans j0
  have l1 := (hb2.cell (p := ⟨w.heap.size, 1, none⟩) jz).trans j1
  have l2 := (hb2.cell (p := ⟨w.heap.size, 2, none⟩) jz).trans j2
  have l3 := (hb2.cell (p := ⟨w.heap.size, 3, none⟩) jz).trans j3
  have l4 := (hb2.cell (p := ⟨w.heap.size, 4, none⟩) jz).trans j4
  have lz : w.heap.size < w2.heap.size := Nat.lt_of_lt_of_le jz hb2.size
  clear hok hb2 j0 j1 j2 j3 j4 j5 jz HO
  go_wp2_with fail
  refine (words_any [97, 118, 103, 115] _ p.avgs w2 w.heap.size HB2.out.size (H.out.below HB2.out).avgs HS.out.avgs.1 HOK.out.1 (by decide) (by have := HS.out.avgs.2; omega)).mono ?_
  rintro e w3 ⟨rfl, hb3⟩
  have HB3 := Lib.hid (HB2.out.trans (hb3.mono HB2.out.size))
  have m1 := (hb3.cell (p := ⟨w.heap.size, 1, none⟩) lz).trans l1
  have m2 := (hb3.cell (p := ⟨w.heap.size, 2, none⟩) lz).trans l2
  have m3 := (hb3.cell (p := ⟨w.heap.size, 3, none⟩) lz).trans l3
  have m4 := (hb3.cell (p := ⟨w.heap.size, 4, none⟩) lz).trans l4
  have kz3 : w.heap.size < w3.heap.size := Nat.lt_of_lt_of_le lz hb3.size
  have HO3 := Lib.hid ((HO2.out.belowW HZ2.out hb3).more (Nat.le_trans HZ2.out hb3.size))
  have H3 := Lib.hid ((H.out.below HB3.out).more HB3.out.size)
  have hal : (str (lineL [97, 118, 103, 115] p.avgs)).size ≤ 100000000 := by
    have g := lineL_len [97, 118, 103, 115] p.avgs (fun y hy => (HS.out.avgs.1 y hy).2)
    have g2 := HS.out.avgs.2
    simp only [List.length_cons, List.length_nil] at g
    rw [str_size]; omega
  have qa := fun W => str_add (P := Tryz.prog) (str (lineL [97, 118, 103, 115] p.avgs)) ⟨#[10]⟩ (by rw [show (⟨#[10]⟩ : ByteArray).size = 1 from rfl]; omega) W
  have HSW := Lib.hid (show (str (lineL [97, 118, 103, 115] p.avgs) ++ ⟨#[10]⟩ : ByteArray) = str (unl [lineL [97, 118, 103, 115] p.avgs]) from by
    rw [show (⟨#[10]⟩ : ByteArray) = str [10] from rfl, str_cat2]; simp [unl])
  have hsz2 : (str (lineL [97, 118, 103, 115] p.avgs) ++ ⟨#[10]⟩ : ByteArray).size ≤ maxLen := by rw [ba_append_size, show (⟨#[10]⟩ : ByteArray).size = 1 from rfl]; unfold maxLen; omega
  have HOI := Lib.hid (show OwnX (Lib.bytesWorld w3 5 (str (lineL [97, 118, 103, 115] p.avgs) ++ ⟨#[10]⟩)) w3.heap.size (.slice (some ⟨w3.heap.size, 0, none⟩) (str (lineL [97, 118, 103, 115] p.avgs) ++ ⟨#[10]⟩ : ByteArray).size (grownCap w3 (str (lineL [97, 118, 103, 115] p.avgs) ++ ⟨#[10]⟩ : ByteArray).size 0 5)) (unl [lineL [97, 118, 103, 115] p.avgs]) from by
    have h := bytes_own (str (lineL [97, 118, 103, 115] p.avgs) ++ ⟨#[10]⟩) w3 hsz2
    have e : (str (lineL [97, 118, 103, 115] p.avgs) ++ ⟨#[10]⟩ : ByteArray).data.toList = unl [lineL [97, 118, 103, 115] p.avgs] := by rw [HSW.out, str_data]
    rw [e] at h
    exact h)
  generalize str (lineL [97, 118, 103, 115] p.avgs) = sa at *
  have cb := fun W => bytes_conv (sa ++ ⟨#[10]⟩) W
  have HBI := Lib.hid (bytes_below (sa ++ ⟨#[10]⟩) w3)
  generalize hgen : (sa ++ ⟨#[10]⟩ : ByteArray) = sw at *
  clear hgen hb3 l0 l1 l2 l3 l4 lz HO2 hal hsz2
  have n1 := (HBI.out.cell (p := ⟨w.heap.size, 1, none⟩) kz3).trans m1
  go_wp2
  go_loopw [6, 34] (fun ov iv wr => Rx1 p w3 ov iv wr) (fun _ iv _ => p.curs.length - (intOf iv).toNat)
  case atStart => exact ⟨0, Nat.zero_le _, rfl, by simpa using HOI.out, HBI.out⟩
  case round =>
    clear HOI HBI HSW n1 qa cb
    obtain ⟨k, hk, rfl, ho, hb⟩ := hrel
    have HOW := Lib.hid ho; have HB := Lib.hid hb
    have hBr := hb.size
    have hpl : (unl ([lineL [97, 118, 103, 115] p.avgs] ++ (p.curs.take k).map curL)).length ≤ 138700000000000 := Nat.le_trans (unl_pfx (pfx1 p code k)) HTS.out.2
    have n2 := (hb.cell (p := ⟨w.heap.size, 2, none⟩) kz3).trans m2
    clear ho hb
    by_cases hlt : k < p.curs.length
    · --CUR
      obtain ⟨a, rfl, hab, c0, c1⟩ := at_lf (H3.out.below HB.out).curs hlt
      have hsm := HS.out.curs.1 _ (List.getElem_mem hlt)
      have hf0 := HOK.out.2.2.1 _ (List.getElem_mem hlt)
      have HNX := Lib.hid (show unl ([lineL [97, 118, 103, 115] p.avgs] ++ (p.curs.take (k + 1)).map curL) = unl ([lineL [97, 118, 103, 115] p.avgs] ++ (p.curs.take k).map curL) ++ (curL p.curs[k] ++ [10]) from by
        rw [List.take_succ_eq_append_getElem hlt, List.map_append, ← List.append_assoc, List.map_singleton, unl_snoc])
      generalize unl ([lineL [97, 118, 103, 115] p.avgs] ++ (p.curs.take k).map curL) = pre at *
      generalize p.curs[k] = c at *
      obtain ⟨cf, ct⟩ := c
      simp only [] at c0 c1 hsm hf0
      obtain ⟨fn, rfl⟩ : ∃ n : Nat, cf = (n : Int) := ⟨cf.toNat, by omega⟩
      have hfn : fn < 9223372036854775808 := by omega
      have hct := hsm.2
      have g1 := dgt_len fn (by omega)
      have g2 := quoL_len ct
      have q1 := fun W => str_add (P := Tryz.prog) ⟨#[99, 117, 114, 115, 111, 114, 32]⟩ (str (dgt fn)) (by rw [str_size, show (⟨#[99, 117, 114, 115, 111, 114, 32]⟩ : ByteArray).size = 7 from rfl]; omega) W
      have q2 := fun W => str_add (P := Tryz.prog) (⟨#[99, 117, 114, 115, 111, 114, 32]⟩ ++ str (dgt fn)) ⟨#[32]⟩ (by rw [ba_append_size, str_size, show (⟨#[99, 117, 114, 115, 111, 114, 32]⟩ : ByteArray).size = 7 from rfl, show (⟨#[32]⟩ : ByteArray).size = 1 from rfl]; omega) W
      have q3 := fun W => str_add (P := Tryz.prog) (⟨#[99, 117, 114, 115, 111, 114, 32]⟩ ++ str (dgt fn) ++ ⟨#[32]⟩) (str (quoL ct)) (by rw [ba_append_size, ba_append_size, str_size, str_size, show (⟨#[99, 117, 114, 115, 111, 114, 32]⟩ : ByteArray).size = 7 from rfl, show (⟨#[32]⟩ : ByteArray).size = 1 from rfl]; omega) W
      have q4 := fun W => str_add (P := Tryz.prog) (⟨#[99, 117, 114, 115, 111, 114, 32]⟩ ++ str (dgt fn) ++ ⟨#[32]⟩ ++ str (quoL ct)) ⟨#[10]⟩ (by rw [ba_append_size, ba_append_size, ba_append_size, str_size, str_size, show (⟨#[99, 117, 114, 115, 111, 114, 32]⟩ : ByteArray).size = 7 from rfl, show (⟨#[32]⟩ : ByteArray).size = 1 from rfl, show (⟨#[10]⟩ : ByteArray).size = 1 from rfl]; omega) W
      have HEQ := Lib.hid (show (⟨#[99, 117, 114, 115, 111, 114, 32]⟩ ++ str (dgt fn) ++ ⟨#[32]⟩ ++ str (quoL ct) ++ ⟨#[10]⟩ : ByteArray).data.toList = curL ⟨(fn : Int), ct⟩ ++ [10] from by
        rw [show (⟨#[99, 117, 114, 115, 111, 114, 32]⟩ : ByteArray) = str [99, 117, 114, 115, 111, 114, 32] from rfl, show (⟨#[32]⟩ : ByteArray) = str [32] from rfl, show (⟨#[10]⟩ : ByteArray) = str [10] from rfl, str_cat2, str_cat2, str_cat2, str_cat2, str_data]
        simp [curL, lineL, numC])
      have HLE := Lib.hid (show pre.length + (⟨#[99, 117, 114, 115, 111, 114, 32]⟩ ++ str (dgt fn) ++ ⟨#[32]⟩ ++ str (quoL ct) ++ ⟨#[10]⟩ : ByteArray).size ≤ 140737488355328 by
        rw [ba_append_size, ba_append_size, ba_append_size, ba_append_size, str_size, str_size, show (⟨#[99, 117, 114, 115, 111, 114, 32]⟩ : ByteArray).size = 7 from rfl, show (⟨#[32]⟩ : ByteArray).size = 1 from rfl, show (⟨#[10]⟩ : ByteArray).size = 1 from rfl]; omega)
      have hwf := wrap_u64n fn (by omega)
      have HDE0 := Lib.hid (fun W => decimal_any fn (by omega) W)
      have HQU0 := Lib.hid (fun W => (rquoted_any (str ct) W (by rw [str_size]; omega)).mono (fun e W' h => show e = .returned (.string (str (quoL ct))) ∧ Below W.heap.size W W' from ⟨by rw [h.1, str_data], h.2⟩))
      clear hsm hf0 g1 g2 hpl
      generalize str (dgt fn) = sf at *
      generalize str (quoL ct) = sq at *
      generalize (⟨#[99, 117, 114, 115, 111, 114, 32]⟩ ++ sf : ByteArray) = s1 at *
      generalize (s1 ++ ⟨#[32]⟩ : ByteArray) = s2 at *
      generalize (s2 ++ sq : ByteArray) = s3 at *
      generalize (s3 ++ ⟨#[10]⟩ : ByteArray) = s4 at *
      generalize str ct = st at *
      have d0 : (wr.alloc (.cells #[.int .i64 (fn : Int), .string (st)] 66)).cell? ⟨wr.heap.size, 0, none⟩ = some (.int .i64 (fn : Int)) := by rw [World.cell?_alloc_new]; rfl
      have d1 : (wr.alloc (.cells #[.int .i64 (fn : Int), .string (st)] 66)).cell? ⟨wr.heap.size, 1, none⟩ = some (.string (st)) := by rw [World.cell?_alloc_new]; rfl
      have dz : wr.heap.size < (wr.alloc (.cells #[.int .i64 (fn : Int), .string (st)] 66)).heap.size := by rw [World.size_alloc]; omega
      have HB4 := Lib.hid (HB.out.alloc hBr (.cells #[.int .i64 (fn : Int), .string (st)] 66))
      have HW4 := Lib.hid (HOW.out.alloc (.cells #[.int .i64 (fn : Int), .string (st)] 66))
      go_wp2
      generalize wr.alloc (.cells #[.int .i64 (fn : Int), .string (st)] 66) = w4 at *
      have HC1 := Lib.hid (fun (W : World) (hW : Below w4.heap.size w4 W) => (HDE0.out W).mono (fun e W' h => show e = .returned (.string (sf)) ∧ Below W.heap.size W W' ∧ Below w4.heap.size w4 W' ∧ W'.cell? ⟨wr.heap.size, 0, none⟩ = some (.int .i64 (fn : Int)) ∧ W'.cell? ⟨wr.heap.size, 1, none⟩ = some (.string (st)) from
        ⟨h.1, h.2, hW.trans (h.2.mono hW.size), ((hW.trans (h.2.mono hW.size)).cell (p := ⟨wr.heap.size, 0, none⟩) dz).trans d0, ((hW.trans (h.2.mono hW.size)).cell (p := ⟨wr.heap.size, 1, none⟩) dz).trans d1⟩))
      have HC2 := Lib.hid (fun (W : World) (hW : Below w4.heap.size w4 W) => (HQU0.out W).mono (fun e W' h => show e = .returned (.string (sq)) ∧ Below W.heap.size W W' ∧ Below w4.heap.size w4 W' ∧ W'.cell? ⟨wr.heap.size, 0, none⟩ = some (.int .i64 (fn : Int)) ∧ W'.cell? ⟨wr.heap.size, 1, none⟩ = some (.string (st)) from
        ⟨h.1, h.2, hW.trans (h.2.mono hW.size), ((hW.trans (h.2.mono hW.size)).cell (p := ⟨wr.heap.size, 0, none⟩) dz).trans d0, ((hW.trans (h.2.mono hW.size)).cell (p := ⟨wr.heap.size, 1, none⟩) dz).trans d1⟩))
      have HZ4 := Lib.hid HB4.out.size
      go_region_law (first
        | ((with_reducible refine OwnX.stepStr (HW4.out.below (by repeat (first | assumption | exact Below.refl _ _ | with_reducible refine Below.drew ?_ | with_reducible refine Below.alloc ?_ (by first | exact Nat.le_refl _ | exact Below.size (by assumption)) _))) s4 rfl _ _ rfl rfl rfl (Nat.le_trans HZ4.out (Below.size (B := w4.heap.size) (by repeat (first | assumption | exact Below.refl _ _ | with_reducible refine Below.drew ?_ | with_reducible refine Below.alloc ?_ (by first | exact Nat.le_refl _ | exact Below.size (by assumption)) _)))) HLE.out (fun v' w' h2 h3 => ?_)); (have hfin := (HB4.out.trans (Below.mono (w := w4) (by repeat (first | assumption | exact Below.refl _ _ | with_reducible refine Below.drew ?_ | with_reducible refine Below.alloc ?_ (by first | exact Nat.le_refl _ | exact Below.size (by assumption)) _)) HZ4.out)).trans h3))
        | (go_simp; go_at_call 64; refine (HC1.out _ (by repeat (first | assumption | exact Below.refl _ _ | with_reducible refine Below.drew ?_ | with_reducible refine Below.alloc ?_ (by first | exact Nat.le_refl _ | exact Below.size (by assumption)) _))).mono ?_; rintro e w5 ⟨rfl, hb5, hb5', e0, e1⟩)
        | (go_simp; go_at_call 65; refine (HC2.out _ (by repeat (first | assumption | exact Below.refl _ _ | with_reducible refine Below.drew ?_ | with_reducible refine Below.alloc ?_ (by first | exact Nat.le_refl _ | exact Below.size (by assumption)) _))).mono ?_; rintro e w5 ⟨rfl, hb5, hb5', e0, e1⟩))
      all_goals
        have H2 := Lib.hid h2; have HB5 := Lib.hid hfin
        clear h2 h3 hfin
        go_wp2
        go_roundw
        case rel =>
          refine ⟨k + 1, by omega, by go_num, ?_, HB5.out⟩
          have h := H2.out
          rw [HEQ.out] at h
          rw [HNX.out]
          exact h
        case measure => simp [intOf]; omega
    · --REST
      have HC0 := Lib.hid (show [lineL [97, 118, 103, 115] p.avgs] ++ (p.curs.take k).map curL = [lineL [97, 118, 103, 115] p.avgs] ++ p.curs.map curL from by rw [List.take_of_length_le (by omega)])
      rw [HC0.out] at HOW
      have kzr : w.heap.size < wr.heap.size := Nat.lt_of_lt_of_le kz3 hBr
      clear hpl
      go_wp2
      obtain ⟨wo, rfl⟩ : ∃ wo, wo = wr := ⟨_, rfl⟩
      go_loopw [6, 55] (fun ov iv wy => Rx2 p nl w3 ov iv wy) (fun _ iv _ => nl.length - (intOf iv).toNat)
      case atStart => exact ⟨0, Nat.zero_le _, rfl, by simpa using HOW.out, HB.out⟩
      case round =>
        clear HOW HB hBr
        obtain ⟨i, hi, rfl, ho, hb⟩ := hrel
        have HOY := Lib.hid ho; have HBY := Lib.hid hb
        have hBy := hb.size
        have hpl : (unl ([lineL [97, 118, 103, 115] p.avgs] ++ p.curs.map curL ++ (p.nears.take i).map nearL)).length ≤ 138700000000000 := Nat.le_trans (unl_pfx (pfx2 p code i)) HTS.out.2
        have n3 := (hb.cell (p := ⟨w.heap.size, 3, none⟩) kz3).trans m3
        have n4 := (hb.cell (p := ⟨w.heap.size, 4, none⟩) kz3).trans m4
        clear ho hb
        by_cases hlt2 : i < nl.length
        · --NEAR
          obtain ⟨a, rfl, hab, c0, c1, c2⟩ := at_nr (H3.out.below HBY.out).nears hlt2
          have hin := H3.out.inner _ (List.getElem_mem hlt2)
          have hmm : nl[i].n ∈ p.nears := mem_near (x := ⟨.slice none 0 0, .slice none 0 0, .slice none 0 0, .slice none 0 0, .slice none 0 0, nl⟩) HNM.out hlt2
          have hsm := HS.out.nears.1 _ hmm
          have hok := HOK.out.2.2.2 _ hmm
          have hip : i < p.nears.length := by rw [← HNM.out, List.length_map]; exact hlt2
          have hpn : p.nears[i] = nl[i].n := by
            have := HNM.out
            simp only [← this, List.getElem_map]
          have HNX := Lib.hid (show unl ([lineL [97, 118, 103, 115] p.avgs] ++ p.curs.map curL ++ (p.nears.take (i + 1)).map nearL) = unl ([lineL [97, 118, 103, 115] p.avgs] ++ p.curs.map curL ++ (p.nears.take i).map nearL) ++ (nearL nl[i].n ++ [10]) from by
            rw [List.take_succ_eq_append_getElem hip, List.map_append, ← List.append_assoc, List.map_singleton, unl_snoc, hpn])
          clear hpn hip
          generalize unl ([lineL [97, 118, 103, 115] p.avgs] ++ p.curs.map curL ++ (p.nears.take i).map nearL) = pre at *
          generalize nl[i] = y at *
          have hnl := nearL_len hsm.1.2 (fun y hy => (hsm.2.1.1 y hy).2) (fun y hy => (hsm.2.2.1 y hy).2) hsm.2.1.2
          have hbA : Below wr.heap.size wr (wr.alloc (.cells #[.slice y.ca y.n.cur.length y.cc, .slice y.oa y.n.off.length y.oc, .int .i64 y.n.slop] 68)) := (Below.refl _ _).alloc (Nat.le_refl _) _
          have HBA := Lib.hid (HBY.out.trans (hbA.mono hBy))
          have HOA := Lib.hid (HOY.out.below hbA)
          have HNL := Lib.hid (fun W (hW : Below w3.heap.size w3 W) => nearLine_any y W w3.heap.size hW.size (hin.1.below hW) (hin.2.below hW) hok hsm.1 hsm.2.1.1 hsm.2.2.1 (Nat.le_trans hsm.2.1.2 (by decide)))
          have q1 := fun W => str_add (P := Tryz.prog) (str (nearL y.n)) ⟨#[10]⟩ (by rw [str_size, show (⟨#[10]⟩ : ByteArray).size = 1 from rfl]; omega) W
          have HEQ := Lib.hid (show (str (nearL y.n) ++ ⟨#[10]⟩ : ByteArray).data.toList = nearL y.n ++ [10] from by
            rw [show (⟨#[10]⟩ : ByteArray) = str [10] from rfl, str_cat2, str_data])
          have hle : pre.length + (str (nearL y.n) ++ ⟨#[10]⟩ : ByteArray).size ≤ 140737488355328 := by
            rw [ba_append_size, str_size, show (⟨#[10]⟩ : ByteArray).size = 1 from rfl]; omega
          generalize str (nearL y.n) = sn at *
          clear hin hmm hsm hok hbA hnl hpl
          go_wp2_with fail
          refine (HNL.out _ HBA.out).mono ?_
          rintro e w5 ⟨rfl, hb5⟩
          have HO5 := Lib.hid (HOA.out.below hb5)
          have HB5 := Lib.hid (HBA.out.trans (hb5.mono HBA.out.size))
          have hz5 := HB5.out.size
          clear hb5
          go_wp2_with (at_builtin; refine OwnX.appendStr HO5.out (sn ++ ⟨#[10]⟩) rfl _ _ rfl rfl rfl hz5 hle ?_; intro v6 w6 ho6 hb6; have HO6 := Lib.hid ho6; have HB6 := Lib.hid (HB5.out.trans hb6); clear ho6 hb6)
          go_roundw
          case rel =>
            refine ⟨i + 1, by omega, by go_num, ?_, HB6.out⟩
            have h := HO6.out
            rw [HEQ.out] at h
            rw [HNX.out]
            exact h
          case measure => simp [intOf]; omega
        · --TAIL
          have HC2 := Lib.hid (show [lineL [97, 118, 103, 115] p.avgs] ++ p.curs.map curL ++ (p.nears.take i).map nearL = [lineL [97, 118, 103, 115] p.avgs] ++ p.curs.map curL ++ p.nears.map nearL from by
            have e := congrArg List.length HNM.out
            rw [List.length_map] at e
            rw [List.take_of_length_le (by omega)])
          rw [HC2.out] at HOY hpl
          have HHD := Lib.hid (show headL p = [lineL [97, 118, 103, 115] p.avgs] ++ p.curs.map curL ++ p.nears.map nearL ++ (if p.all = true then [[101, 118, 101, 114, 121]] else []) ++ (if p.drive ≠ [] then [lineL [100, 114, 105, 118, 101] p.drive] else []) from rfl)
          generalize [lineL [97, 118, 103, 115] p.avgs] ++ p.curs.map curL ++ p.nears.map nearL = pre2 at *
          have hal : (unl pre2).length + (⟨#[101, 118, 101, 114, 121, 10]⟩ : ByteArray).size ≤ 140737488355328 := by rw [show (⟨#[101, 118, 101, 114, 121, 10]⟩ : ByteArray).size = 6 from rfl]; omega
          generalize p.all = ball at *
          have hdl : p.drive.length ≤ 1048576 := HS.out.drive.2
          go_upto_if 66 with (fail)
          go_cut [6] (fun ov wx => RxO w3 ov (pre2 ++ (if ball = true then [[101, 118, 101, 114, 121]] else [])) wx)
          case first =>
            cases ball
            · go_wp2
              go_meet
              exact ⟨by rw [if_neg (by decide), List.append_nil]; exact HOY.out, HBY.out⟩
            · go_wp2_with (at_builtin; refine OwnX.appendStr HOY.out ⟨#[101, 118, 101, 114, 121, 10]⟩ rfl _ _ rfl rfl rfl hBy hal ?_; intro v6 w6 ho6 hb6; have HO6 := Lib.hid ho6; have HB6 := Lib.hid (HBY.out.trans hb6); clear ho6 hb6)
              go_meet
              exact ⟨by simp only [if_true, unl_snoc]; exact HO6.out, HB6.out⟩
          case rest =>
          obtain ⟨ho, hb⟩ := hcut
          have HO7 := Lib.hid ho; have HB7 := Lib.hid hb
          have hB7 := hb.size
          have hpl3 : (unl (pre2 ++ (if ball = true then [[101, 118, 101, 114, 121]] else []))).length ≤ 138700000000006 := by
            split
            · rw [unl_snoc, List.length_append]; simp; omega
            · rw [List.append_nil]; omega
          generalize pre2 ++ (if ball = true then [[101, 118, 101, 114, 121]] else []) = pre3 at *
          have n6 := (hb.cell (p := ⟨w.heap.size, 4, none⟩) kz3).trans m4
          have hdz : (str (lineL [100, 114, 105, 118, 101] p.drive)).size ≤ 100000000 := by
            have g := lineL_len [100, 114, 105, 118, 101] p.drive (fun y hy => (HS.out.drive.1 y hy).2)
            simp only [List.length_cons, List.length_nil] at g
            rw [str_size]; omega
          have qd := fun W => str_add (P := Tryz.prog) (str (lineL [100, 114, 105, 118, 101] p.drive)) ⟨#[10]⟩ (by rw [show (⟨#[10]⟩ : ByteArray).size = 1 from rfl]; omega) W
          have HDE := Lib.hid (show (str (lineL [100, 114, 105, 118, 101] p.drive) ++ ⟨#[10]⟩ : ByteArray).data.toList = lineL [100, 114, 105, 118, 101] p.drive ++ [10] from by
            rw [show (⟨#[10]⟩ : ByteArray) = str [10] from rfl, str_cat2, str_data])
          have hal3 : (unl pre3).length + (str (lineL [100, 114, 105, 118, 101] p.drive) ++ ⟨#[10]⟩ : ByteArray).size ≤ 140737488355328 := by rw [ba_append_size, show (⟨#[10]⟩ : ByteArray).size = 1 from rfl]; omega
          have HWD := Lib.hid (fun W (hW : Below w3.heap.size w3 W) => words_any [100, 114, 105, 118, 101] _ p.drive W w3.heap.size hW.size (H3.out.below hW).drive HS.out.drive.1 HOK.out.2.1 (by decide) (by omega))
          generalize str (lineL [100, 114, 105, 118, 101] p.drive) = sd at *
          clear ho hb HOY HBY hBy n3 n4 hal hpl hpl3
          go_upto_if 72 with (fail)
          go_cut [6] (fun ov wx => RxO w3 ov (headL p) wx)
          case first =>
            by_cases hD : 0 < p.drive.length
            · have HDN := Lib.hid (show headL p = pre3 ++ [lineL [100, 114, 105, 118, 101] p.drive] from by rw [HHD.out, if_pos (by intro e; rw [e] at hD; simp at hD)])
              go_wp2_with fail
              refine (HWD.out _ HB7.out).mono ?_
              rintro e w7 ⟨rfl, hb7⟩
              have HO9 := Lib.hid (HO7.out.below hb7)
              have HB9 := Lib.hid (HB7.out.trans (hb7.mono HB7.out.size))
              have hz7 := HB9.out.size
              clear hb7
              go_wp2_with (at_builtin; refine OwnX.appendStr HO9.out (sd ++ ⟨#[10]⟩) rfl _ _ rfl rfl rfl hz7 hal3 ?_; intro v9 w9 ho9 hb9; have HOD := Lib.hid ho9; have HBD := Lib.hid (HB9.out.trans hb9); clear ho9 hb9)
              go_meet
              refine ⟨?_, HBD.out⟩
              have h := HOD.out
              rw [HDE.out] at h
              rw [HDN.out, unl_snoc]
              exact h
            · have HDN := Lib.hid (show headL p = pre3 from by rw [HHD.out, if_neg (by intro e; exact hD (List.length_pos_iff.2 e)), List.append_nil])
              go_wp2
              go_meet
              exact ⟨by rw [HDN.out]; exact HO7.out, HB7.out⟩
          case rest =>
          obtain ⟨ho, hb⟩ := hcut
          have HO8 := Lib.hid ho; have HB8 := Lib.hid hb
          clear ho hb HO7 HB7 hB7 n6 hal3 HHD HC2 qd HDE HWD hdz
          go_wp2
          go_loopw [6, 81] (fun ov iv wy => Rx4 p code w3 ov iv wy) (fun _ iv _ => code.length - (intOf iv).toNat)
          case atStart => exact ⟨0, Nat.zero_le _, rfl, by simpa using HO8.out, HB8.out⟩
          case round =>
            clear HO8 HB8
            obtain ⟨j, hj, rfl, ho, hb⟩ := hrel
            have HOY := Lib.hid ho; have HBY := Lib.hid hb
            have hBy := hb.size
            have hpl : (unl (headL p ++ (code.take j).map insL)).length ≤ 138700000000000 := Nat.le_trans (unl_pfx (pfx4 p code j)) HTS.out.2
            have hcl := Nat.le_trans (decI_len HD.out) HS.out.code
            clear ho hb
            by_cases hlt4 : j < code.length
            · --CODE
              obtain ⟨a, rfl, hab, c0, c1, c2⟩ := at_ins (HO3.out.below HBY.out) hlt4
              have hmem := List.getElem_mem hlt4
              have hin := List.all_eq_true.1 (encI_decI HD.out).1 _ hmem
              have hsm := (encI_decI HD.out).2.1 _ hmem
              have HNX := Lib.hid (show unl (headL p ++ (code.take (j + 1)).map insL) = unl (headL p ++ (code.take j).map insL) ++ (insL code[j] ++ [10]) from by
                rw [List.take_succ_eq_append_getElem hlt4, List.map_append, ← List.append_assoc, List.map_singleton, unl_snoc])
              generalize unl (headL p ++ (code.take j).map insL) = pre4 at *
              clear hmem
              generalize code[j] = x at *
              have hil := insL_len hsm.1 hsm.2
              have hbA : Below wr.heap.size wr (wr.alloc (.cells #[.int .i64 x.op, .int .u64 (x.a : Int), .int .u64 (x.b : Int)] 43)) := (Below.refl _ _).alloc (Nat.le_refl _) _
              have HBA := Lib.hid (HBY.out.trans (hbA.mono hBy))
              have HOA := Lib.hid (HOY.out.below hbA)
              have HCL := Lib.hid (fun W => codeLine_any x W hin hsm.1 hsm.2)
              have q1 := fun W => str_add (P := Tryz.prog) (str (insL x)) ⟨#[10]⟩ (by rw [str_size, show (⟨#[10]⟩ : ByteArray).size = 1 from rfl]; omega) W
              have HEQ := Lib.hid (show (str (insL x) ++ ⟨#[10]⟩ : ByteArray).data.toList = insL x ++ [10] from by
                rw [show (⟨#[10]⟩ : ByteArray) = str [10] from rfl, str_cat2, str_data])
              have hle : pre4.length + (str (insL x) ++ ⟨#[10]⟩ : ByteArray).size ≤ 140737488355328 := by
                rw [ba_append_size, str_size, show (⟨#[10]⟩ : ByteArray).size = 1 from rfl]; omega
              generalize str (insL x) = sn at *
              clear hin hsm hbA hil hpl
              go_wp2_with fail
              refine (HCL.out _).mono ?_
              rintro e w5 ⟨rfl, hb5⟩
              have HO5 := Lib.hid (HOA.out.below hb5)
              have HB5 := Lib.hid (HBA.out.trans (hb5.mono HBA.out.size))
              have hz5 := HB5.out.size
              clear hb5
              go_wp2_with (at_builtin; refine OwnX.appendStr HO5.out (sn ++ ⟨#[10]⟩) rfl _ _ rfl rfl rfl hz5 hle ?_; intro v6 w6 ho6 hb6; have HO6 := Lib.hid ho6; have HB6 := Lib.hid (HB5.out.trans hb6); clear ho6 hb6)
              go_roundw
              case rel =>
                refine ⟨j + 1, by omega, by go_num, ?_, HB6.out⟩
                have h := HO6.out
                rw [HEQ.out] at h
                rw [HNX.out]
                exact h
              case measure => simp [intOf]; omega
            · --END
              have cv := HOY.out.conv
              rw [show headL p ++ (code.take j).map insL = linesL p code from by rw [List.take_of_length_le (by omega)]; rfl] at cv
              clear hpl
              go_wp2
              go_ret2
              exact txtRet_ok HTX.out.2.2 rfl (HB3.out.trans (HBY.out.mono HB3.out.size))
end Go.Proofs.YtmdpfikalekmlaaGreatDoor
end
section
/- Layer 20: a boxed program in memory; what Text answers. -/
namespace Go.Proofs.YtmdpfikalekmlaaGreatDoor
open Go.RowKit
set_option maxRecDepth 100000
set_option linter.unusedSimpArgs false
set_option linter.unusedVariables false

theorem TxtRet.good {bad ok : Value} {p : Pg} {w w' : World} {e : Ending} {t : List UInt8} (h : TxtRet bad ok p w e w') (ht : textP p = some t) : e = .returned (.tuple #[.string (str t), ok]) ∧ Below w.heap.size w w' := by
  obtain ⟨hb, h⟩ := h
  rw [ht] at h
  exact ⟨h, hb⟩
theorem TxtRet.bad {bad ok : Value} {p : Pg} {w w' : World} {e : Ending} (h : TxtRet bad ok p w e w') (ht : textP p = none) : e = .returned (.tuple #[.string ⟨#[]⟩, bad]) ∧ Below w.heap.size w w' := by
  obtain ⟨hb, h⟩ := h
  rw [ht] at h
  exact ⟨h, hb⟩
/-- A program's cells in memory. -/
def PgAt (w : World) (b : Nat) (x : PgV) (p : Pg) : Prop :=
  w.cell? ⟨b, 0, none⟩ = some x.av ∧ w.cell? ⟨b, 1, none⟩ = some x.cv ∧ w.cell? ⟨b, 2, none⟩ = some x.nv ∧ w.cell? ⟨b, 3, none⟩ = some (.bool p.all) ∧ w.cell? ⟨b, 4, none⟩ = some x.dv ∧ w.cell? ⟨b, 5, none⟩ = some x.kv ∧ b < w.heap.size
theorem PgAt.new (w : World) (x : PgV) (p : Pg) : PgAt (w.alloc (.cells #[x.av, x.cv, x.nv, .bool p.all, x.dv, x.kv] 28)) w.heap.size x p :=
  ⟨by rw [World.cell?_alloc_new]; rfl, by rw [World.cell?_alloc_new]; rfl, by rw [World.cell?_alloc_new]; rfl, by rw [World.cell?_alloc_new]; rfl, by rw [World.cell?_alloc_new]; rfl, by rw [World.cell?_alloc_new]; rfl, by rw [World.size_alloc]; omega⟩
theorem PgAt.below {w w' : World} {b : Nat} {x : PgV} {p : Pg} (h : PgAt w b x p) (hb : Below w.heap.size w w') : PgAt w' b x p :=
  ⟨(hb.cell (p := ⟨b, 0, none⟩) h.2.2.2.2.2.2).trans h.1, (hb.cell (p := ⟨b, 1, none⟩) h.2.2.2.2.2.2).trans h.2.1, (hb.cell (p := ⟨b, 2, none⟩) h.2.2.2.2.2.2).trans h.2.2.1, (hb.cell (p := ⟨b, 3, none⟩) h.2.2.2.2.2.2).trans h.2.2.2.1, (hb.cell (p := ⟨b, 4, none⟩) h.2.2.2.2.2.2).trans h.2.2.2.2.1, (hb.cell (p := ⟨b, 5, none⟩) h.2.2.2.2.2.2).trans h.2.2.2.2.2.1, Nat.lt_of_lt_of_le h.2.2.2.2.2.2 hb.size⟩
end Go.Proofs.YtmdpfikalekmlaaGreatDoor
end
section
/- Layer 20: two programs compared. -/
namespace Go.Proofs.YtmdpfikalekmlaaGreatDoor
open Go.RowKit
set_option maxRecDepth 100000
set_option maxHeartbeats 2000000
set_option linter.unusedSimpArgs false
set_option linter.unusedVariables false

def SiRel (l m : List Int) (iv : Value) : Prop := ∃ k : Nat, k ≤ l.length ∧ l.take k = m.take k ∧ iv = .int .i64 (k : Int)
theorem sameInts_any (a b : Value) (l m : List Int) (w : World) (B B' : Nat) (ha : RdL intS w B a l) (hb : RdL intS w B' b m) (hB : B ≤ w.heap.size) (hB' : B' ≤ w.heap.size) :
    Calls Tryz.prog 21 #[a, b] w fun e w' => e = .returned (.bool (decide (l = m))) ∧ Below w.heap.size w w' := by
  obtain ⟨A, ca, rfl, hca, hca2⟩ := ha.open_
  obtain ⟨A', cb, rfl, hcb, hcb2⟩ := hb.open_
  unfold maxLen at hca2 hcb2
  have HA := Lib.hid ha; have HB := Lib.hid hb
  clear ha hb
  by_cases hlen : l.length = m.length
  · have hlb : ((l.length : Int) != (m.length : Int)) = false := by rw [hlen]; simp
    go_enter Tryz.func21, Tryz.ntmps21
    go_wp2
    go_loopw [13] (fun iv wr => SiRel l m iv ∧ Below w.heap.size w wr) (fun iv _ => l.length - (intOf iv).toNat)
    case atStart => exact ⟨⟨0, by omega, by simp, rfl⟩, Below.refl _ _⟩
    case round =>
      obtain ⟨⟨k, hk, htk, rfl⟩, hbl⟩ := hrel
      have HT := Lib.hid htk; have HBL := Lib.hid hbl
      clear htk hbl
      by_cases hlt : k < l.length
      · have hlt2 : k < m.length := by omega
        obtain ⟨g, rfl, z0, c0⟩ := at_int (HA.out.below (HBL.out.mono hB)) hlt
        obtain ⟨g', rfl, z1, d0⟩ := at_int (HB.out.below (HBL.out.mono hB')) hlt2
        by_cases hx : l[k] = m[k]
        · have HN := Lib.hid (show l.take (k + 1) = m.take (k + 1) from by
            rw [List.take_succ_eq_append_getElem hlt, List.take_succ_eq_append_getElem hlt2, HT.out, hx])
          rw [← hx] at d0
          clear hx
          generalize l[k] = x at *
          go_wp2
          go_region
          go_wp2
          go_roundw
          case rel => exact ⟨⟨k + 1, by omega, HN.out, by go_num⟩, HBL.out.drew⟩
          case measure => simp [intOf]; omega
        · have HN := Lib.hid (show decide (l = m) = false from by rw [decide_eq_false_iff_not]; intro h; subst h; exact hx rfl)
          have hxb : (l[k] != m[k]) = true := by simpa using hx
          clear hx
          generalize l[k] = x at *
          generalize m[k] = y at *
          go_wp2
          go_region
          go_wp2
          go_ret
          exact ⟨congrArg (fun b => Ending.returned (.bool b)) HN.out.symm, HBL.out.drew⟩
      · have HN := Lib.hid (show decide (l = m) = true from by
          rw [decide_eq_true_iff]
          have h := HT.out
          rw [List.take_of_length_le (by omega), List.take_of_length_le (by omega)] at h
          exact h)
        go_wp2
        go_ret
        exact ⟨congrArg (fun b => Ending.returned (.bool b)) HN.out.symm, HBL.out⟩
  · have hlb : ((l.length : Int) != (m.length : Int)) = true := by simp; omega
    have HN := Lib.hid (show decide (l = m) = false from by rw [decide_eq_false_iff_not]; intro h; exact hlen (by rw [h]))
    go_enter Tryz.func21, Tryz.ntmps21
    go_wp2
    go_ret
    exact ⟨congrArg (fun b => Ending.returned (.bool b)) HN.out.symm, Below.refl _ _⟩
theorem ftypeLf : Tryz.prog.stoodInHeld 66 = false := by kernel_rfl
theorem guardLf : Tryz.prog.eqGuardType Tryz.prog.depth 66 = false := by kernel_rfl
theorem structLf : Tryz.prog.underlying 66 = some (.struct (Tryz.prog.fieldsOf 66)) := by kernel_rfl
def lfVal (x : Lf) : Value := .agg #[.int .i64 x.field, .string (str x.term)]
theorem lf_eqIn (x y : Lf) (W : World) : (Op.equalIn 10000 66 (lfVal x) (lfVal y)).run Tryz.prog W = .ok (decide (x = y)) W := by
  unfold lfVal
  rw [run_equalIn_agg W 9999 66 _ _ structLf ftypeLf]
  simp only [Program.fieldsOf, Tryz.underlying66]
  simp [Op.eqFields, go_sem, Tryz.underlying3, Tryz.underlying9]
  have ht : ((str x.term).toList = (str y.term).toList) ↔ x.term = y.term := by
    rw [ByteArray.toList_eq, ByteArray.toList_eq]; simp [str]
  obtain ⟨xf, xt⟩ := x
  obtain ⟨yf, yt⟩ := y
  simp only [ht, Lf.mk.injEq]
  by_cases h1 : xf = yf <;> by_cases h2 : xt = yt <;> simp [h1, h2]
theorem lf_neq (x y : Lf) (W : World) : (binOp .neq 66 (lfVal x) (lfVal y)).run Tryz.prog W = .ok (.bool (!decide (x = y))) W := by
  have h := lf_eqIn x y W
  unfold lfVal at h ⊢
  rw [run_neq_struct, h]; rfl
theorem lf_guard (x y : Lf) (op : BinOp) (a b : Operand) (W : World) : (eqGuard op 66 a b (lfVal x) (lfVal y)).run Tryz.prog W = .ok () W := by
  unfold lfVal
  exact run_eqGuard_agg W op 66 a b _ _ guardLf
theorem str_inj2 {a b : List UInt8} (e : str a = str b) : a = b := by
  have := congrArg (fun s : ByteArray => s.data.toList) e
  simpa [str] using this
theorem str_ne_beq2 {a b : List UInt8} (h : a ≠ b) : ((str a).toList == (str b).toList) = false := by
  rw [beq_eq_false_iff_ne]
  intro e
  rw [ByteArray.toList_eq, ByteArray.toList_eq] at e
  exact h (by simpa [str] using e)
end Go.Proofs.YtmdpfikalekmlaaGreatDoor
/- Layer 20: two programs compared, whole. -/
namespace Go.Proofs.YtmdpfikalekmlaaGreatDoor
open Go.RowKit
set_option maxRecDepth 100000
set_option maxHeartbeats 2000000
set_option linter.unusedSimpArgs false
set_option linter.unusedVariables false

theorem pg_ne {p q : Pg} (h : p.avgs ≠ q.avgs ∨ p.curs ≠ q.curs ∨ p.nears ≠ q.nears ∨ p.all ≠ q.all ∨ p.drive ≠ q.drive ∨ p.code ≠ q.code) : decide (p = q) = false := by
  rw [decide_eq_false_iff_not]
  rintro rfl
  rcases h with h | h | h | h | h | h <;> exact h rfl
theorem pg_eq {p q : Pg} (h1 : p.avgs = q.avgs) (h2 : p.curs = q.curs) (h3 : p.nears = q.nears) (h4 : p.all = q.all) (h5 : p.drive = q.drive) (h6 : p.code = q.code) : decide (p = q) = true := by
  rw [decide_eq_true_iff]
  obtain ⟨_, _, _, _, _, _⟩ := p
  obtain ⟨_, _, _, _, _, _⟩ := q
  simp only [] at h1 h2 h3 h4 h5 h6
  rw [h1, h2, h3, h4, h5, h6]
theorem two_new (w : World) (xs ys : Array Value) (t u : TypeId) (j : Nat) : (((w.alloc (.cells xs t)).alloc (.cells ys u)).drew).cell? ⟨w.heap.size, j, none⟩ = xs[j]? ∧ (((w.alloc (.cells xs t)).alloc (.cells ys u)).drew).cell? ⟨w.heap.size + 1, j, none⟩ = ys[j]? ∧ w.heap.size + 1 < (((w.alloc (.cells xs t)).alloc (.cells ys u)).drew).heap.size := by
  refine ⟨?_, ?_, ?_⟩
  · show ((w.alloc (.cells xs t)).alloc (.cells ys u)).cell? _ = _
    rw [World.cell?_alloc_lt _ _ _ (by rw [World.size_alloc]; exact Nat.lt_succ_self _), World.cell?_alloc_new]
  · show ((w.alloc (.cells xs t)).alloc (.cells ys u)).cell? _ = _
    have h := World.cell?_alloc_new (w.alloc (.cells xs t)) ys u j
    rw [World.size_alloc] at h
    exact h
  · show _ < ((w.alloc (.cells xs t)).alloc (.cells ys u)).heap.size
    rw [World.size_alloc, World.size_alloc]; omega
def SlRel (l m : List Lf) (w0 : World) (iv : Value) (wr : World) : Prop := ∃ k : Nat, k ≤ l.length ∧ l.take k = m.take k ∧ iv = .int .i64 (k : Int) ∧ Below w0.heap.size w0 wr
def SnRel (l m : List Nr) (w0 : World) (iv : Value) (wr : World) : Prop := ∃ k : Nat, k ≤ l.length ∧ l.take k = m.take k ∧ iv = .int .i64 (k : Int) ∧ Below w0.heap.size w0 wr
theorem same20_any (x y : PgV) (p q : Pg) (w : World) (hx : PgR w w.heap.size x p) (hy : PgR w w.heap.size y q) (hs : SmallPg p) (ht : SmallPg q) :
    Calls Tryz.prog 8 #[x.val p, y.val q] w fun e w' => e = .returned (.bool (decide (p = q))) ∧ Below w.heap.size w w' := by
  obtain ⟨av, cv, nv, dv, kv, nl⟩ := x
  obtain ⟨bv, ev, mv, fv, gv, ml⟩ := y
  obtain ⟨aA, ac, rfl, -, -⟩ := hx.avgs.open_
  obtain ⟨cA, cc, rfl, -, -⟩ := hx.curs.open_
  have hno : RdL nrS w w.heap.size nv nl := hx.nears
  obtain ⟨nA, nc, hnv, -, -⟩ := hno.open_
  subst hnv
  obtain ⟨dA, dc, rfl, -, -⟩ := hx.drive.open_
  obtain ⟨kA, kc, rfl, -, -⟩ := hx.code.open_
  obtain ⟨bA, bc, rfl, -, -⟩ := hy.avgs.open_
  obtain ⟨eA, ec, rfl, -, -⟩ := hy.curs.open_
  have hmo : RdL nrS w w.heap.size mv ml := hy.nears
  obtain ⟨mA, mc, hmv, -, -⟩ := hmo.open_
  subst hmv
  obtain ⟨fA, fc, rfl, -, -⟩ := hy.drive.open_
  obtain ⟨gA, gc, rfl, -, -⟩ := hy.code.open_
  have HX := Lib.hid hx; have HY := Lib.hid hy
  have HNM := Lib.hid (show nl.map (·.n) = p.nears from hx.nmap)
  have HMM := Lib.hid (show ml.map (·.n) = q.nears from hy.nmap)
  have hl1 := hs.curs.2
  have hl2 := ht.curs.2
  have hl3 : nl.length ≤ 1048576 := by have e := hs.nears.2; rw [← hx.nmap, List.length_map] at e; exact e
  have hl4 : ml.length ≤ 1048576 := by have e := ht.nears.2; rw [← hy.nmap, List.length_map] at e; exact e
  clear hno hmo
  have hb0 : Below w.heap.size w ((w.alloc (.cells #[.slice aA p.avgs.length ac, .slice cA p.curs.length cc, .slice nA nl.length nc, .bool p.all, .slice dA p.drive.length dc, .slice kA p.code.length kc] 28)).alloc (.cells #[.slice bA q.avgs.length bc, .slice eA q.curs.length ec, .slice mA ml.length mc, .bool q.all, .slice fA q.drive.length fc, .slice gA q.code.length gc] 28)) := (((Below.refl _ _).alloc (Nat.le_refl _) _)).alloc (by rw [World.size_alloc]; omega) _
  have P1 := (PgAt.new w ⟨.slice aA p.avgs.length ac, .slice cA p.curs.length cc, .slice nA nl.length nc, .slice dA p.drive.length dc, .slice kA p.code.length kc, nl⟩ p).below ((Below.refl _ _).alloc (Nat.le_refl _) (.cells #[.slice bA q.avgs.length bc, .slice eA q.curs.length ec, .slice mA ml.length mc, .bool q.all, .slice fA q.drive.length fc, .slice gA q.code.length gc] 28))
  have P2 := PgAt.new (w.alloc (.cells #[.slice aA p.avgs.length ac, .slice cA p.curs.length cc, .slice nA nl.length nc, .bool p.all, .slice dA p.drive.length dc, .slice kA p.code.length kc] 28)) ⟨.slice bA q.avgs.length bc, .slice eA q.curs.length ec, .slice mA ml.length mc, .slice fA q.drive.length fc, .slice gA q.code.length gc, ml⟩ q
  rw [World.size_alloc] at P2
  have HB0 := Lib.hid hb0
  have HP1 := Lib.hid P1; have HP2 := Lib.hid P2
  clear hx hy hs ht hb0 P1 P2
  simp only [PgV.val]
  go_enter Tryz.func8, Tryz.ntmps8
  go_upto_region 1 with fail
  generalize ((w.alloc (.cells #[.slice aA p.avgs.length ac, .slice cA p.curs.length cc, .slice nA nl.length nc, .bool p.all, .slice dA p.drive.length dc, .slice kA p.code.length kc] 28)).alloc (.cells #[.slice bA q.avgs.length bc, .slice eA q.curs.length ec, .slice mA ml.length mc, .bool q.all, .slice fA q.drive.length fc, .slice gA q.code.length gc] 28)) = w0 at *
  obtain ⟨a0, a1, a2, a3, a4, a5, az⟩ := HP1.out
  obtain ⟨b0, b1, b2, b3, b4, b5, bz⟩ := HP2.out
  simp only [] at a0 a1 a2 a3 a4 a5 b0 b1 b2 b3 b4 b5
  have HX0 := Lib.hid (HX.out.below HB0.out)
  have HY0 := Lib.hid (HY.out.below HB0.out)
  have hcv1 := RdL.convAll HX0.out.code
  have hcv2 := RdL.convAll HY0.out.code
  by_cases h4 : p.all = q.all
  case neg =>
    have HN := Lib.hid (pg_ne (p := p) (q := q) (.inr (.inr (.inr (.inl h4)))))
    generalize p.all = pa at *
    generalize q.all = qa at *
    rcases (by cases pa <;> cases qa <;> simp at h4 ⊢ : (pa = true ∧ qa = false) ∨ (pa = false ∧ qa = true)) with ⟨rfl, rfl⟩ | ⟨rfl, rfl⟩
    all_goals
      clear h4
      go_wp2
      go_ret
      exact ⟨congrArg (fun b => Ending.returned (.bool b)) HN.out.symm, HB0.out⟩
  have HA4 := Lib.hid h4
  rw [← h4] at b3
  clear h4
  by_cases h6 : p.code = q.code
  case neg =>
    have HN := Lib.hid (pg_ne (p := p) (q := q) (.inr (.inr (.inr (.inr (.inr h6))))))
    have hsb := str_ne_beq2 h6
    clear h6
    generalize str p.code = sp at *
    generalize str q.code = sq at *
    go_wp2
    go_ret
    exact ⟨congrArg (fun b => Ending.returned (.bool b)) HN.out.symm, HB0.out⟩
  have HA6 := Lib.hid h6
  rw [show str q.code = str p.code from by rw [h6]] at hcv2
  clear h6
  generalize str p.code = sp at *
  go_wp2_with fail
  refine (sameInts_any _ _ p.avgs q.avgs w0 w.heap.size w.heap.size HX0.out.avgs HY0.out.avgs HB0.out.size HB0.out.size).mono ?_
  rintro e w1 ⟨rfl, hb1⟩
  have HB1 := Lib.hid (HB0.out.trans (hb1.mono HB0.out.size))
  have HQ1 := Lib.hid (HP1.out.below hb1); have HQ2 := Lib.hid (HP2.out.below hb1)
  clear a0 a1 a2 a3 a4 a5 az b0 b1 b2 b3 b4 b5 bz hcv1 hcv2
  obtain ⟨a0, a1, a2, a3, a4, a5, az⟩ := HQ1.out
  obtain ⟨b0, b1, b2, b3, b4, b5, bz⟩ := HQ2.out
  simp only [] at a0 a1 a2 a3 a4 a5 b0 b1 b2 b3 b4 b5
  clear hb1
  by_cases h1 : p.avgs = q.avgs
  case neg =>
    have HN := Lib.hid (pg_ne (p := p) (q := q) (.inl h1))
    rw [decide_eq_false h1]
    clear h1
    go_wp2
    go_ret
    exact ⟨congrArg (fun b => Ending.returned (.bool b)) HN.out.symm, HB1.out⟩
  have HA1 := Lib.hid h1
  rw [decide_eq_true h1]
  clear h1
  go_wp2_with fail
  refine (sameInts_any _ _ p.drive q.drive w1 w.heap.size w.heap.size (HX.out.below HB1.out).drive (HY.out.below HB1.out).drive HB1.out.size HB1.out.size).mono ?_
  rintro e w2 ⟨rfl, hb2⟩
  have HB2 := Lib.hid (HB1.out.trans (hb2.mono HB1.out.size))
  have HR1 := Lib.hid (HQ1.out.below hb2); have HR2 := Lib.hid (HQ2.out.below hb2)
  clear a0 a1 a2 a3 a4 a5 az b0 b1 b2 b3 b4 b5 bz
  obtain ⟨a0, a1, a2, a3, a4, a5, az⟩ := HR1.out
  obtain ⟨b0, b1, b2, b3, b4, b5, bz⟩ := HR2.out
  simp only [] at a0 a1 a2 a3 a4 a5 b0 b1 b2 b3 b4 b5
  clear hb2
  by_cases h5 : p.drive = q.drive
  case neg =>
    have HN := Lib.hid (pg_ne (p := p) (q := q) (.inr (.inr (.inr (.inr (.inl h5))))))
    rw [decide_eq_false h5]
    clear h5
    go_wp2
    go_ret
    exact ⟨congrArg (fun b => Ending.returned (.bool b)) HN.out.symm, HB2.out⟩
  have HA5 := Lib.hid h5
  rw [decide_eq_true h5]
  clear h5
  by_cases hlc : p.curs.length = q.curs.length
  case neg =>
    have HN := Lib.hid (pg_ne (p := p) (q := q) (.inr (.inl (fun e => hlc (by rw [e])))))
    have hlb : ((p.curs.length : Int) != (q.curs.length : Int)) = true := by simp; omega
    clear hlc
    go_wp2
    go_ret
    exact ⟨congrArg (fun b => Ending.returned (.bool b)) HN.out.symm, HB2.out⟩
  by_cases hln : nl.length = ml.length
  case neg =>
    have HN := Lib.hid (pg_ne (p := p) (q := q) (.inr (.inr (.inl (fun e => hln (by have e1 := congrArg List.length HNM.out; have e2 := congrArg List.length HMM.out; rw [List.length_map] at e1 e2; rw [e1, e2, e]))))))
    have hlb : ((p.curs.length : Int) != (q.curs.length : Int)) = false := by rw [hlc]; simp
    have hnb : ((nl.length : Int) != (ml.length : Int)) = true := by simp; omega
    clear hln hlc
    go_wp2
    go_ret
    exact ⟨congrArg (fun b => Ending.returned (.bool b)) HN.out.symm, HB2.out⟩
  have hlb : ((p.curs.length : Int) != (q.curs.length : Int)) = false := by rw [hlc]; simp
  have hnb : ((nl.length : Int) != (ml.length : Int)) = false := by rw [hln]; simp
  have HLC := Lib.hid hlc; have HLN := Lib.hid hln
  clear hlc hln
  go_wp2
  go_loopw [58] (fun iv wr => SlRel p.curs q.curs w2 iv wr) (fun iv _ => p.curs.length - (intOf iv).toNat)
  case atStart => exact ⟨0, by omega, by simp, rfl, Below.refl _ _⟩
  case round =>
    clear a0 a1 a2 a3 a4 a5 az b0 b1 b2 b3 b4 b5 bz
    obtain ⟨k, hk, htk, rfl, hbl⟩ := hrel
    have HT := Lib.hid htk; have HBL := Lib.hid hbl
    have HBW := Lib.hid (HB2.out.trans (hbl.mono HB2.out.size))
    have HU1 := Lib.hid (HR1.out.below hbl); have HU2 := Lib.hid (HR2.out.below hbl)
    obtain ⟨a0, a1, a2, a3, a4, a5, az⟩ := HU1.out
    obtain ⟨b0, b1, b2, b3, b4, b5, bz⟩ := HU2.out
    simp only [] at a0 a1 a2 a3 a4 a5 b0 b1 b2 b3 b4 b5
    clear htk hbl
    by_cases hlt : k < p.curs.length
    · have hlt2 : k < q.curs.length := by have := HLC.out; omega
      obtain ⟨g, rfl, z0, c0, c1⟩ := at_lf (HX.out.below HBW.out).curs hlt
      obtain ⟨g', rfl, z1, d0, d1⟩ := at_lf (HY.out.below HBW.out).curs hlt2
      have hq := fun W => lf_neq p.curs[k] q.curs[k] W
      have hg := fun op a b W => lf_guard p.curs[k] q.curs[k] op a b W
      unfold lfVal at hq hg
      by_cases hx : p.curs[k] = q.curs[k]
      · have HN := Lib.hid (show p.curs.take (k + 1) = q.curs.take (k + 1) from by
          rw [List.take_succ_eq_append_getElem hlt, List.take_succ_eq_append_getElem hlt2, HT.out, hx])
        rw [show decide (p.curs[k] = q.curs[k]) = true from decide_eq_true hx] at hq
        clear hx
        generalize p.curs[k] = x at *
        generalize q.curs[k] = y at *
        go_wp2
        go_region
        go_wp2
        go_roundw
        case rel => exact ⟨k + 1, by omega, HN.out, by go_num, HBL.out.drew⟩
        case measure => simp [intOf]; omega
      · have HN := Lib.hid (pg_ne (p := p) (q := q) (.inr (.inl (fun h => hx (by simp only [h])))))
        rw [show decide (p.curs[k] = q.curs[k]) = false from decide_eq_false hx] at hq
        clear hx
        generalize p.curs[k] = x at *
        generalize q.curs[k] = y at *
        go_wp2
        go_region
        go_wp2
        go_ret
        exact ⟨congrArg (fun b => Ending.returned (.bool b)) HN.out.symm, HBW.out.drew⟩
    · have HA2 := Lib.hid (show p.curs = q.curs from by
        have h := HT.out
        rw [List.take_of_length_le (by omega), List.take_of_length_le (by have := HLC.out; omega)] at h
        exact h)
      go_wp2
      obtain ⟨wo, rfl⟩ : ∃ wo, wo = wr := ⟨_, rfl⟩
      go_loopw [76] (fun iv wx => SnRel p.nears q.nears wo iv wx) (fun iv _ => nl.length - (intOf iv).toNat)
      case atStart => exact ⟨0, by omega, by simp, rfl, Below.refl _ _⟩
      case round =>
        clear a0 a1 a2 a3 a4 a5 az b0 b1 b2 b3 b4 b5 bz
        obtain ⟨i, hi, hti, rfl, hbn⟩ := hrel
        have hpl : p.nears.length = nl.length := by rw [← HNM.out, List.length_map]
        have hql : q.nears.length = ml.length := by rw [← HMM.out, List.length_map]
        have HPL := Lib.hid hpl; have HQL := Lib.hid hql
        have HTI := Lib.hid hti; have HBN := Lib.hid hbn
        have HBV := Lib.hid (HBW.out.trans (hbn.mono HBW.out.size))
        have HV1 := Lib.hid (HU1.out.below hbn); have HV2 := Lib.hid (HU2.out.below hbn)
        obtain ⟨a0, a1, a2, a3, a4, a5, az⟩ := HV1.out
        obtain ⟨b0, b1, b2, b3, b4, b5, bz⟩ := HV2.out
        simp only [] at a0 a1 a2 a3 a4 a5 b0 b1 b2 b3 b4 b5
        have hin : i ≤ nl.length := by omega
        clear hti hbn hpl hql hi
        by_cases hlt : i < nl.length
        · --NEAR
          have hlt2 : i < ml.length := by have := HLN.out; omega
          obtain ⟨g, rfl, z0, c0, c1, c2⟩ := at_nr (HX.out.below HBV.out).nears hlt
          obtain ⟨g', rfl, z1, d0, d1, d2⟩ := at_nr (HY.out.below HBV.out).nears hlt2
          have HI1 := Lib.hid ((HX.out.below HBV.out).inner _ (List.getElem_mem hlt))
          have HI2 := Lib.hid ((HY.out.below HBV.out).inner _ (List.getElem_mem hlt2))
          have hep : p.nears[i]'(by have := HPL.out; omega) = nl[i].n := by simp only [← HNM.out, List.getElem_map]
          have heq : q.nears[i]'(by have := HQL.out; omega) = ml[i].n := by simp only [← HMM.out, List.getElem_map]
          have HNE := Lib.hid (show nl[i].n ≠ ml[i].n → decide (p = q) = false from fun hne => pg_ne (.inr (.inr (.inl (fun e => hne (by rw [← hep, ← heq]; simp only [e]))))))
          have HEQ := Lib.hid (show nl[i].n = ml[i].n → p.nears.take (i + 1) = q.nears.take (i + 1) from fun e => by
            rw [List.take_succ_eq_append_getElem (by have := HPL.out; omega), List.take_succ_eq_append_getElem (by have := HQL.out; omega), HTI.out, hep, heq, e])
          clear hep heq
          generalize nl[i] = x at *
          generalize ml[i] = y at *
          obtain ⟨xca, xcc, xoa, xoc, xn⟩ := x
          obtain ⟨yca, ycc, yoa, yoc, yn⟩ := y
          simp only [] at c0 c1 c2 d0 d1 d2 HI1 HI2 HNE HEQ
          have hsz := HBV.out.size
          have z0' : (g.add (i * 3)).block < wr.heap.size := by omega
          have z1' : (g'.add (i * 3)).block < wr.heap.size := by omega
          go_wp2
          go_region
          · have hbz : Below wr.heap.size wr (((wr.alloc (.cells #[.slice xca xn.cur.length xcc, .slice xoa xn.off.length xoc, .int .i64 xn.slop] 68)).alloc (.cells #[.slice yca yn.cur.length ycc, .slice yoa yn.off.length yoc, .int .i64 yn.slop] 68)).drew) := (((Below.refl _ _).alloc (Nat.le_refl _) _).alloc (by rw [World.size_alloc]; omega) _).drew
            have p0 : (((wr.alloc (.cells #[.slice xca xn.cur.length xcc, .slice xoa xn.off.length xoc, .int .i64 xn.slop] 68)).alloc (.cells #[.slice yca yn.cur.length ycc, .slice yoa yn.off.length yoc, .int .i64 yn.slop] 68)).drew).cell? ⟨wr.heap.size, 0, none⟩ = some (.slice xca xn.cur.length xcc) := (two_new wr _ _ _ _ 0).1.trans rfl
            have r0 : (((wr.alloc (.cells #[.slice xca xn.cur.length xcc, .slice xoa xn.off.length xoc, .int .i64 xn.slop] 68)).alloc (.cells #[.slice yca yn.cur.length ycc, .slice yoa yn.off.length yoc, .int .i64 yn.slop] 68)).drew).cell? ⟨wr.heap.size + 1, 0, none⟩ = some (.slice yca yn.cur.length ycc) := (two_new wr _ _ _ _ 0).2.1.trans rfl
            have p1 : (((wr.alloc (.cells #[.slice xca xn.cur.length xcc, .slice xoa xn.off.length xoc, .int .i64 xn.slop] 68)).alloc (.cells #[.slice yca yn.cur.length ycc, .slice yoa yn.off.length yoc, .int .i64 yn.slop] 68)).drew).cell? ⟨wr.heap.size, 1, none⟩ = some (.slice xoa xn.off.length xoc) := (two_new wr _ _ _ _ 1).1.trans rfl
            have r1 : (((wr.alloc (.cells #[.slice xca xn.cur.length xcc, .slice xoa xn.off.length xoc, .int .i64 xn.slop] 68)).alloc (.cells #[.slice yca yn.cur.length ycc, .slice yoa yn.off.length yoc, .int .i64 yn.slop] 68)).drew).cell? ⟨wr.heap.size + 1, 1, none⟩ = some (.slice yoa yn.off.length yoc) := (two_new wr _ _ _ _ 1).2.1.trans rfl
            have p2 : (((wr.alloc (.cells #[.slice xca xn.cur.length xcc, .slice xoa xn.off.length xoc, .int .i64 xn.slop] 68)).alloc (.cells #[.slice yca yn.cur.length ycc, .slice yoa yn.off.length yoc, .int .i64 yn.slop] 68)).drew).cell? ⟨wr.heap.size, 2, none⟩ = some (.int .i64 xn.slop) := (two_new wr _ _ _ _ 2).1.trans rfl
            have r2 : (((wr.alloc (.cells #[.slice xca xn.cur.length xcc, .slice xoa xn.off.length xoc, .int .i64 xn.slop] 68)).alloc (.cells #[.slice yca yn.cur.length ycc, .slice yoa yn.off.length yoc, .int .i64 yn.slop] 68)).drew).cell? ⟨wr.heap.size + 1, 2, none⟩ = some (.int .i64 yn.slop) := (two_new wr _ _ _ _ 2).2.1.trans rfl
            have vz : wr.heap.size + 1 < (((wr.alloc (.cells #[.slice xca xn.cur.length xcc, .slice xoa xn.off.length xoc, .int .i64 xn.slop] 68)).alloc (.cells #[.slice yca yn.cur.length ycc, .slice yoa yn.off.length yoc, .int .i64 yn.slop] 68)).drew).heap.size := (two_new wr _ _ _ _ 0).2.2
            have vz' : wr.heap.size < (((wr.alloc (.cells #[.slice xca xn.cur.length xcc, .slice xoa xn.off.length xoc, .int .i64 xn.slop] 68)).alloc (.cells #[.slice yca yn.cur.length ycc, .slice yoa yn.off.length yoc, .int .i64 yn.slop] 68)).drew).heap.size := Nat.lt_of_succ_lt vz
            generalize (((wr.alloc (.cells #[.slice xca xn.cur.length xcc, .slice xoa xn.off.length xoc, .int .i64 xn.slop] 68)).alloc (.cells #[.slice yca yn.cur.length ycc, .slice yoa yn.off.length yoc, .int .i64 yn.slop] 68)).drew) = w5 at *
            have HB5 := Lib.hid (HBV.out.trans (hbz.mono HBV.out.size))
            have HN5 := Lib.hid (HBN.out.trans (hbz.mono HBN.out.size))
            have HW5 := Lib.hid (hbz.mono HBV.out.size)
            clear hbz a0 a1 a2 a3 a4 a5 az b0 b1 b2 b3 b4 b5 bz c0 c1 c2 d0 d1 d2
            have i1 := Lib.hid (HX.out.below HB5.out)
            by_cases hsl : xn.slop = yn.slop
            · have HSL := Lib.hid hsl
              rw [← hsl] at r2
              clear hsl
              go_wp2_with fail
              refine (sameInts_any _ _ xn.cur yn.cur w5 w.heap.size w.heap.size (HI1.out.1.below HW5.out) (HI2.out.1.below HW5.out) HB5.out.size HB5.out.size).mono ?_
              rintro e w6 ⟨rfl, hb6⟩
              have HB6 := Lib.hid (HB5.out.trans (hb6.mono HB5.out.size))
              have HN6 := Lib.hid (HN5.out.trans (hb6.mono HN5.out.size))
              have HW6 := Lib.hid (HW5.out.trans (hb6.mono HB5.out.size))
              have s1 := (hb6.cell (p := ⟨wr.heap.size, 1, none⟩) (by omega)).trans p1
              have t1 := (hb6.cell (p := ⟨wr.heap.size + 1, 1, none⟩) (by omega)).trans r1
              clear hb6 p0 p1 p2 r0 r1 r2
              by_cases hcu : xn.cur = yn.cur
              · have HCU := Lib.hid hcu
                rw [decide_eq_true hcu]
                clear hcu
                go_wp2_with fail
                refine (sameInts_any _ _ xn.off yn.off w6 w.heap.size w.heap.size (HI1.out.2.below HW6.out) (HI2.out.2.below HW6.out) HB6.out.size HB6.out.size).mono ?_
                rintro e w7 ⟨rfl, hb7⟩
                have HB7 := Lib.hid (HB6.out.trans (hb7.mono HB6.out.size))
                have HN7 := Lib.hid (HN6.out.trans (hb7.mono HN6.out.size))
                clear hb7
                by_cases hof : xn.off = yn.off
                · have HE := Lib.hid (HEQ.out (by
                    have h1 := HSL.out; have h2 := HCU.out
                    obtain ⟨_, _, _⟩ := xn
                    obtain ⟨_, _, _⟩ := yn
                    simp only [] at h1 h2 hof
                    rw [h1, h2, hof]))
                  rw [decide_eq_true hof]
                  clear hof
                  go_wp2
                  go_roundw
                  case rel => exact ⟨i + 1, by have := HPL.out; omega, HE.out, by go_num, HN7.out⟩
                  case measure => simp [intOf]; omega
                · have HN := Lib.hid (HNE.out (fun e => hof (by rw [e])))
                  rw [decide_eq_false hof]
                  clear hof
                  go_wp2
                  go_ret
                  exact ⟨congrArg (fun b => Ending.returned (.bool b)) HN.out.symm, HB7.out⟩
              · have HN := Lib.hid (HNE.out (fun e => hcu (by rw [e])))
                rw [decide_eq_false hcu]
                clear hcu
                go_wp2
                go_ret
                exact ⟨congrArg (fun b => Ending.returned (.bool b)) HN.out.symm, HB6.out⟩
            · have HN := Lib.hid (HNE.out (fun e => hsl (by rw [e])))
              have hsb : (xn.slop != yn.slop) = true := by simpa using hsl
              clear hsl
              go_wp2
              go_ret
              exact ⟨congrArg (fun b => Ending.returned (.bool b)) HN.out.symm, HB5.out⟩
          · have hbz : Below wr.heap.size wr (((wr.alloc (.cells #[.slice yca yn.cur.length ycc, .slice yoa yn.off.length yoc, .int .i64 yn.slop] 68)).alloc (.cells #[.slice xca xn.cur.length xcc, .slice xoa xn.off.length xoc, .int .i64 xn.slop] 68)).drew) := (((Below.refl _ _).alloc (Nat.le_refl _) _).alloc (by rw [World.size_alloc]; omega) _).drew
            have p0 : (((wr.alloc (.cells #[.slice yca yn.cur.length ycc, .slice yoa yn.off.length yoc, .int .i64 yn.slop] 68)).alloc (.cells #[.slice xca xn.cur.length xcc, .slice xoa xn.off.length xoc, .int .i64 xn.slop] 68)).drew).cell? ⟨wr.heap.size, 0, none⟩ = some (.slice yca yn.cur.length ycc) := (two_new wr _ _ _ _ 0).1.trans rfl
            have r0 : (((wr.alloc (.cells #[.slice yca yn.cur.length ycc, .slice yoa yn.off.length yoc, .int .i64 yn.slop] 68)).alloc (.cells #[.slice xca xn.cur.length xcc, .slice xoa xn.off.length xoc, .int .i64 xn.slop] 68)).drew).cell? ⟨wr.heap.size + 1, 0, none⟩ = some (.slice xca xn.cur.length xcc) := (two_new wr _ _ _ _ 0).2.1.trans rfl
            have p1 : (((wr.alloc (.cells #[.slice yca yn.cur.length ycc, .slice yoa yn.off.length yoc, .int .i64 yn.slop] 68)).alloc (.cells #[.slice xca xn.cur.length xcc, .slice xoa xn.off.length xoc, .int .i64 xn.slop] 68)).drew).cell? ⟨wr.heap.size, 1, none⟩ = some (.slice yoa yn.off.length yoc) := (two_new wr _ _ _ _ 1).1.trans rfl
            have r1 : (((wr.alloc (.cells #[.slice yca yn.cur.length ycc, .slice yoa yn.off.length yoc, .int .i64 yn.slop] 68)).alloc (.cells #[.slice xca xn.cur.length xcc, .slice xoa xn.off.length xoc, .int .i64 xn.slop] 68)).drew).cell? ⟨wr.heap.size + 1, 1, none⟩ = some (.slice xoa xn.off.length xoc) := (two_new wr _ _ _ _ 1).2.1.trans rfl
            have p2 : (((wr.alloc (.cells #[.slice yca yn.cur.length ycc, .slice yoa yn.off.length yoc, .int .i64 yn.slop] 68)).alloc (.cells #[.slice xca xn.cur.length xcc, .slice xoa xn.off.length xoc, .int .i64 xn.slop] 68)).drew).cell? ⟨wr.heap.size, 2, none⟩ = some (.int .i64 yn.slop) := (two_new wr _ _ _ _ 2).1.trans rfl
            have r2 : (((wr.alloc (.cells #[.slice yca yn.cur.length ycc, .slice yoa yn.off.length yoc, .int .i64 yn.slop] 68)).alloc (.cells #[.slice xca xn.cur.length xcc, .slice xoa xn.off.length xoc, .int .i64 xn.slop] 68)).drew).cell? ⟨wr.heap.size + 1, 2, none⟩ = some (.int .i64 xn.slop) := (two_new wr _ _ _ _ 2).2.1.trans rfl
            have vz : wr.heap.size + 1 < (((wr.alloc (.cells #[.slice yca yn.cur.length ycc, .slice yoa yn.off.length yoc, .int .i64 yn.slop] 68)).alloc (.cells #[.slice xca xn.cur.length xcc, .slice xoa xn.off.length xoc, .int .i64 xn.slop] 68)).drew).heap.size := (two_new wr _ _ _ _ 0).2.2
            have vz' : wr.heap.size < (((wr.alloc (.cells #[.slice yca yn.cur.length ycc, .slice yoa yn.off.length yoc, .int .i64 yn.slop] 68)).alloc (.cells #[.slice xca xn.cur.length xcc, .slice xoa xn.off.length xoc, .int .i64 xn.slop] 68)).drew).heap.size := Nat.lt_of_succ_lt vz
            generalize (((wr.alloc (.cells #[.slice yca yn.cur.length ycc, .slice yoa yn.off.length yoc, .int .i64 yn.slop] 68)).alloc (.cells #[.slice xca xn.cur.length xcc, .slice xoa xn.off.length xoc, .int .i64 xn.slop] 68)).drew) = w5 at *
            have HB5 := Lib.hid (HBV.out.trans (hbz.mono HBV.out.size))
            have HN5 := Lib.hid (HBN.out.trans (hbz.mono HBN.out.size))
            have HW5 := Lib.hid (hbz.mono HBV.out.size)
            clear hbz a0 a1 a2 a3 a4 a5 az b0 b1 b2 b3 b4 b5 bz c0 c1 c2 d0 d1 d2
            have i1 := Lib.hid (HX.out.below HB5.out)
            by_cases hsl : xn.slop = yn.slop
            · have HSL := Lib.hid hsl
              rw [← hsl] at p2
              clear hsl
              go_wp2_with fail
              refine (sameInts_any _ _ xn.cur yn.cur w5 w.heap.size w.heap.size (HI1.out.1.below HW5.out) (HI2.out.1.below HW5.out) HB5.out.size HB5.out.size).mono ?_
              rintro e w6 ⟨rfl, hb6⟩
              have HB6 := Lib.hid (HB5.out.trans (hb6.mono HB5.out.size))
              have HN6 := Lib.hid (HN5.out.trans (hb6.mono HN5.out.size))
              have HW6 := Lib.hid (HW5.out.trans (hb6.mono HB5.out.size))
              have s1 := (hb6.cell (p := ⟨wr.heap.size + 1, 1, none⟩) (by omega)).trans r1
              have t1 := (hb6.cell (p := ⟨wr.heap.size, 1, none⟩) (by omega)).trans p1
              clear hb6 p0 p1 p2 r0 r1 r2
              by_cases hcu : xn.cur = yn.cur
              · have HCU := Lib.hid hcu
                rw [decide_eq_true hcu]
                clear hcu
                go_wp2_with fail
                refine (sameInts_any _ _ xn.off yn.off w6 w.heap.size w.heap.size (HI1.out.2.below HW6.out) (HI2.out.2.below HW6.out) HB6.out.size HB6.out.size).mono ?_
                rintro e w7 ⟨rfl, hb7⟩
                have HB7 := Lib.hid (HB6.out.trans (hb7.mono HB6.out.size))
                have HN7 := Lib.hid (HN6.out.trans (hb7.mono HN6.out.size))
                clear hb7
                by_cases hof : xn.off = yn.off
                · have HE := Lib.hid (HEQ.out (by
                    have h1 := HSL.out; have h2 := HCU.out
                    obtain ⟨_, _, _⟩ := xn
                    obtain ⟨_, _, _⟩ := yn
                    simp only [] at h1 h2 hof
                    rw [h1, h2, hof]))
                  rw [decide_eq_true hof]
                  clear hof
                  go_wp2
                  go_roundw
                  case rel => exact ⟨i + 1, by have := HPL.out; omega, HE.out, by go_num, HN7.out⟩
                  case measure => simp [intOf]; omega
                · have HN := Lib.hid (HNE.out (fun e => hof (by rw [e])))
                  rw [decide_eq_false hof]
                  clear hof
                  go_wp2
                  go_ret
                  exact ⟨congrArg (fun b => Ending.returned (.bool b)) HN.out.symm, HB7.out⟩
              · have HN := Lib.hid (HNE.out (fun e => hcu (by rw [e])))
                rw [decide_eq_false hcu]
                clear hcu
                go_wp2
                go_ret
                exact ⟨congrArg (fun b => Ending.returned (.bool b)) HN.out.symm, HB6.out⟩
            · have HN := Lib.hid (HNE.out (fun e => hsl (by rw [e])))
              have hsb : (xn.slop != yn.slop) = true := by simpa using hsl
              clear hsl
              go_wp2
              go_ret
              exact ⟨congrArg (fun b => Ending.returned (.bool b)) HN.out.symm, HB5.out⟩
        · --END
          have HN := Lib.hid (pg_eq HA1.out HA2.out (show p.nears = q.nears from by
            have h := HTI.out
            rw [List.take_of_length_le (by have := HPL.out; omega), List.take_of_length_le (by have h1 := HQL.out; have h2 := HLN.out; omega)] at h
            exact h) HA4.out HA5.out HA6.out)
          go_wp2
          go_ret
          exact ⟨congrArg (fun b => Ending.returned (.bool b)) HN.out.symm, HBV.out⟩
end Go.Proofs.YtmdpfikalekmlaaGreatDoor
end
