/- Layer 20, the document: nearLine, codeLine. -/
import Derived.Test.YtmdpfikalekmlaaDoorDw
import Derived.Test.YtmdpfikalekmlaaDoorIs
import Derived.Test.YtmdpfikalekmlaaDoorNm
namespace Go.Proofs.YtmdpfikalekmlaaDoor
open Go.RowKit
set_option maxRecDepth 100000
set_option maxHeartbeats 2000000
set_option linter.unusedSimpArgs false
set_option linter.unusedVariables false

def nearTo (n : Nr) (m : Nat) : List UInt8 := lineL [110, 101, 97, 114] [n.slop] ++ ((n.cur.zip n.off).take m).flatMap pairL
theorem nearTo_all {n : Nr} {m : Nat} (h : n.cur.length ≤ m) : nearTo n m = nearL n := by
  unfold nearTo
  rw [List.take_of_length_le (by rw [List.length_zip]; omega)]; rfl
theorem nearTo_succ {n : Nr} {m : Nat} (h1 : m < n.cur.length) (h2 : m < n.off.length) : nearTo n (m + 1) = nearTo n m ++ [32] ++ numC n.cur[m] ++ [43] ++ numC n.off[m] := by
  unfold nearTo
  rw [zip_snoc h1 h2, List.flatMap_append]
  simp [pairL]
theorem nearTo_len {n : Nr} (m : Nat) (hs : n.slop ≤ 9223372036854775807) (h1 : ∀ x ∈ n.cur, x ≤ 9223372036854775807) (h2 : ∀ x ∈ n.off, x ≤ 9223372036854775807) : (nearTo n m).length ≤ 25 + 42 * m := by
  unfold nearTo
  have g1 := line1_len [110, 101, 97, 114] hs
  have g2 := pairs_len (n.cur.zip n.off) m (fun q hq => by
    have := List.of_mem_zip hq
    exact ⟨h1 _ this.1, h2 _ this.2⟩)
  rw [List.length_append]
  simp only [List.length_cons, List.length_nil] at g1
  omega
def NlRel (n : Nr) (w0 : World) (ov iv : Value) (wr : World) : Prop := ∃ m : Nat, m ≤ n.cur.length ∧ iv = .int .i64 (m : Int) ∧ OwnX wr w0.heap.size ov (nearTo n m) ∧ Below w0.heap.size w0 wr
theorem nearLine_any (x : NrV) (w : World) (B : Nat) (hB : B ≤ w.heap.size) (h1 : RdL intS w B (.slice x.ca x.n.cur.length x.cc) x.n.cur) (h2 : RdL intS w B (.slice x.oa x.n.off.length x.oc) x.n.off) (hk : okN x.n = true)
    (hs : -9223372036854775808 ≤ x.n.slop ∧ x.n.slop ≤ 9223372036854775807) (hs1 : SmallInts x.n.cur) (hs2 : SmallInts x.n.off) (hl : x.n.cur.length ≤ 2000000) :
    Calls Tryd.prog 48 #[.agg #[.slice x.ca x.n.cur.length x.cc, .slice x.oa x.n.off.length x.oc, .int .i64 x.n.slop]] w fun e w' => e = .returned (.string (str (nearL x.n))) ∧ Below w.heap.size w w' := by
  obtain ⟨ca, cc, oa, oc, n⟩ := x
  simp only [] at h1 h2 hk hs hs1 hs2 hl ⊢
  have hok := okN_parts hk
  have H1 := Lib.hid h1; have H2 := Lib.hid h2; have HS1 := Lib.hid hs1; have HS2 := Lib.hid hs2; have HN := Lib.hid hok
  have HLEN := Lib.hid hok.2.2.2
  have HSL := Lib.hid hs
  obtain ⟨sl, hsl⟩ : ∃ k : Nat, n.slop = (k : Int) := ⟨n.slop.toNat, by have := hok.1; omega⟩
  have hsl2 : sl < 9223372036854775808 := by omega
  have HL0 := Lib.hid (show (⟨#[110, 101, 97, 114, 32]⟩ ++ str (dgt sl) : ByteArray).data.toList = nearTo n 0 from by
    rw [show (⟨#[110, 101, 97, 114, 32]⟩ : ByteArray) = str [110, 101, 97, 114, 32] from rfl, str_cat2, str_data]
    unfold nearTo lineL numC
    rw [hsl]
    simp)
  have hdl := dgt_len sl (by omega)
  have HNLEN := Lib.hid (fun m => nearTo_len (n := n) m hs.2 (fun x hx => (hs1 x hx).2) (fun x hx => (hs2 x hx).2))
  rw [hsl]
  have HSL2 := Lib.hid hsl
  clear h1 h2 hk hs hs1 hs2 hok hsl
  have hb0 : Below w.heap.size w (w.alloc (.cells #[.slice ca n.cur.length cc, .slice oa n.off.length oc, .int .i64 (sl : Int)] 96)) := (Below.refl _ _).alloc (Nat.le_refl _) _
  have HB0 := Lib.hid hb0
  clear hb0
  go_enter Tryd.func48, Tryd.ntmps48
  go_wp2_with fail
  have k0 : (w.alloc (.cells #[.slice ca n.cur.length cc, .slice oa n.off.length oc, .int .i64 (sl : Int)] 96)).cell? ⟨w.heap.size, 0, none⟩ = some (.slice ca n.cur.length cc) := by rw [World.cell?_alloc_new]; rfl
  have k1 : (w.alloc (.cells #[.slice ca n.cur.length cc, .slice oa n.off.length oc, .int .i64 (sl : Int)] 96)).cell? ⟨w.heap.size, 1, none⟩ = some (.slice oa n.off.length oc) := by rw [World.cell?_alloc_new]; rfl
  have kz : w.heap.size < (w.alloc (.cells #[.slice ca n.cur.length cc, .slice oa n.off.length oc, .int .i64 (sl : Int)] 96)).heap.size := by rw [World.size_alloc]; omega
  generalize w.alloc (.cells #[.slice ca n.cur.length cc, .slice oa n.off.length oc, .int .i64 (sl : Int)] 96) = w0 at *
  refine (decimal_any sl (by omega) w0).mono ?_
  rintro e w1 ⟨rfl, hb1⟩
  have HB1 := Lib.hid hb1
  have q1 := fun W => str_add (P := Tryd.prog) ⟨#[110, 101, 97, 114, 32]⟩ (str (dgt sl)) (by rw [str_size, show (⟨#[110, 101, 97, 114, 32]⟩ : ByteArray).size = 5 from rfl]; omega) W
  have hsw : (⟨#[110, 101, 97, 114, 32]⟩ ++ str (dgt sl) : ByteArray).size ≤ maxLen := by rw [ba_append_size, str_size, show (⟨#[110, 101, 97, 114, 32]⟩ : ByteArray).size = 5 from rfl]; unfold maxLen; omega
  generalize (⟨#[110, 101, 97, 114, 32]⟩ ++ str (dgt sl) : ByteArray) = sw at *
  have cb := fun W => bytes_conv sw W
  have HO2 := Lib.hid (bytes_own sw w1 hsw)
  have HB2 := Lib.hid (hb1.trans ((bytes_below sw w1).mono hb1.size))
  have m0 := ((HB2.out).cell (p := ⟨w.heap.size, 0, none⟩) kz).trans k0
  have hsz1 := hb1.size
  clear hb1
  go_wp2
  go_loopw [3, 14] (fun ov iv wr => NlRel n w0 ov iv wr) (fun _ iv _ => n.cur.length - (intOf iv).toNat)
  case atStart => exact ⟨0, Nat.zero_le _, rfl, by rw [← HL0.out]; exact HO2.out.more hsz1, HB2.out⟩
  case round =>
    clear q1 m0
    obtain ⟨m, hm, rfl, ho, hb⟩ := hrel
    have HO := Lib.hid ho; have HB := Lib.hid hb
    have hsz := hb.size
    have hnl := HNLEN.out m
    clear ho hb
    by_cases hlt : m < n.cur.length
    · have hlt2 : m < n.off.length := by have := HLEN.out; omega
      obtain ⟨a, rfl, hab, c0⟩ := at_int (H1.out.below ((HB0.out.trans (HB.out.mono HB0.out.size)).mono hB)) hlt
      obtain ⟨b, rfl, hbb, c1⟩ := at_int (H2.out.below ((HB0.out.trans (HB.out.mono HB0.out.size)).mono hB)) hlt2
      have hx1 := neg_false HN.out.2.1 _ (List.getElem_mem hlt)
      have hx2 := neg_false HN.out.2.2.1 _ (List.getElem_mem hlt2)
      have hx3 := HS1.out _ (List.getElem_mem hlt)
      have hx4 := HS2.out _ (List.getElem_mem hlt2)
      have HNX := Lib.hid (nearTo_succ hlt hlt2)
      generalize n.cur[m] = xc at *
      generalize n.off[m] = xo at *
      obtain ⟨xn, rfl⟩ : ∃ k : Nat, xc = (k : Int) := ⟨xc.toNat, by omega⟩
      obtain ⟨yn, rfl⟩ : ∃ k : Nat, xo = (k : Int) := ⟨xo.toNat, by omega⟩
      have hd1 := dgt_len xn (by omega)
      have hd2 := dgt_len yn (by omega)
      have hxn : xn < 9223372036854775808 := by omega
      have hyn : yn < 9223372036854775808 := by omega
      have p0 := (HB.out.cell (p := ⟨w.heap.size, 0, none⟩) kz).trans k0
      have p1 := (HB.out.cell (p := ⟨w.heap.size, 1, none⟩) kz).trans k1
      have hpl : (nearTo n m).length ≤ 100000000 := by omega
      generalize hpre : nearTo n m = pre at *
      have HPRE := Lib.hid hpre
      have al1 : pre.length + 1 ≤ 140737488355328 := by omega
      have hBz : B ≤ w0.heap.size := Nat.le_trans hB HB0.out.size
      have habz : (a.add m).block < w0.heap.size := by omega
      have hbbz : (b.add m).block < w0.heap.size := by omega
      clear hpre hnl hx1 hx2 hx3 hx4
      go_wp2_with (at_builtin; refine OwnX.appendI HO.out 32 (by decide) (by decide) rfl _ _ rfl rfl rfl hsz al1 ?_; intro v3 w3 ho3 hb3; have HO3 := Lib.hid ho3; have HB3 := Lib.hid (HB.out.trans hb3); have hsz3 := (HB.out.trans hb3).size; have r0 := (hb3.cell (p := ⟨w.heap.size, 0, none⟩) kz).trans p0; have r1 := (hb3.cell (p := ⟨w.heap.size, 1, none⟩) kz).trans p1; have rc := (hb3.cell (p := a.add m) habz).trans c0; have rd := (hb3.cell (p := b.add m) hbbz).trans c1; clear ho3 hb3)
      refine (decimal_any xn (by omega) w3).mono ?_
      rintro e w4 ⟨rfl, hb4⟩
      have HO4 := Lib.hid (HO3.out.below hb4)
      have HB4 := Lib.hid (HB3.out.trans (hb4.mono hsz3))
      have hsz4 := HB4.out.size
      have al4 : (pre ++ [UInt8.ofNat (32 : Int).toNat]).length + (str (dgt xn)).size ≤ 140737488355328 := by rw [str_size, List.length_append]; simp; omega
      have al5 : (pre ++ [UInt8.ofNat (32 : Int).toNat] ++ (str (dgt xn)).data.toList).length + 1 ≤ 140737488355328 := by rw [str_data, List.length_append, List.length_append]; simp; omega
      have s1 := (HB4.out.cell (p := ⟨w.heap.size, 1, none⟩) kz).trans k1
      have sd := (hb4.cell (p := b.add m) (by omega)).trans rd
      clear hb4
      go_wp2_with (at_builtin; first
        | (refine OwnX.appendI HO5.out 43 (by decide) (by decide) rfl _ _ rfl rfl rfl hsz5 al5 ?_; intro v6 w6 ho6 hb6; have HO6 := Lib.hid ho6; have HB6 := Lib.hid (HB5.out.trans hb6); have hsz6 := (HB5.out.trans hb6).size; have u1 := (hb6.cell (p := ⟨w.heap.size, 1, none⟩) kz).trans t1; have ud := (hb6.cell (p := b.add m) hbbz).trans td; clear ho6 hb6)
        | (refine OwnX.appendStr HO4.out (str (dgt xn)) rfl _ _ rfl rfl rfl hsz4 al4 ?_; intro v5 w5 ho5 hb5; have HO5 := Lib.hid ho5; have HB5 := Lib.hid (HB4.out.trans hb5); have hsz5 := (HB4.out.trans hb5).size; have t1 := (hb5.cell (p := ⟨w.heap.size, 1, none⟩) kz).trans s1; have td := (hb5.cell (p := b.add m) hbbz).trans sd; clear ho5 hb5))
      refine (decimal_any yn (by omega) w6).mono ?_
      rintro e w7 ⟨rfl, hb7⟩
      have HO7 := Lib.hid (HO6.out.below hb7)
      have HB7 := Lib.hid (HB6.out.trans (hb7.mono hsz6))
      have hsz7 := HB7.out.size
      have al7 : (pre ++ [UInt8.ofNat (32 : Int).toNat] ++ (str (dgt xn)).data.toList ++ [UInt8.ofNat (43 : Int).toNat]).length + (str (dgt yn)).size ≤ 140737488355328 := by rw [str_size, str_data, List.length_append, List.length_append, List.length_append]; simp; omega
      clear hb7
      go_wp2_with (at_builtin; refine OwnX.appendStr HO7.out (str (dgt yn)) rfl _ _ rfl rfl rfl hsz7 al7 ?_; intro v8 w8 ho8 hb8; have HO8 := Lib.hid ho8; have HB8 := Lib.hid (HB7.out.trans hb8); clear ho8 hb8)
      go_roundw
      case rel =>
        refine ⟨m + 1, by omega, by go_num, ?_, HB8.out⟩
        rw [HNX.out]
        exact HO8.out
      case measure => simp [intOf]; omega
    · have cv := HO.out.conv
      rw [nearTo_all (by omega)] at cv
      clear hnl
      go_wp2
      go_ret
      exact ⟨rfl, HB0.out.trans (HB.out.mono HB0.out.size)⟩
def insTo (x : Ins) (k : Nat) : List UInt8 := opName x.op.toNat ++ (if 1 ≤ k then 32 :: dgt x.a else []) ++ (if 2 ≤ k then 32 :: dgt x.b else [])
theorem insTo_all {x : Ins} {n : Nat} (h : argsN x.op = some n) : insTo x n = insL x := by
  have h2 := (argsN_some h).2.2.1
  unfold insTo insL
  rw [h2]
  have e1 : ((0 : Int) < (n : Int)) ↔ 1 ≤ n := by omega
  have e2 : ((1 : Int) < (n : Int)) ↔ 2 ≤ n := by omega
  simp only [e1, e2]
def CtRel (x : Ins) (n : Nat) (w0 : World) (sv iv : Value) (wr : World) : Prop := ∃ k : Nat, k ≤ n ∧ iv = .int .i64 (k : Int) ∧ sv = .string (str (insTo x k)) ∧ Below w0.heap.size w0 wr
theorem codeLine_any (x : Ins) (w : World) (hx : insOk x = true) (ha : x.a < 18446744073709551616) (hb : x.b < 18446744073709551616) :
    Calls Tryd.prog 49 #[.agg #[.int .i64 x.op, .int .u64 (x.a : Int), .int .u64 (x.b : Int)]] w fun e w' => e = .returned (.string (str (insL x))) ∧ Below w.heap.size w w' := by
  have HX := Lib.hid hx
  have hb0 : Below w.heap.size w (w.alloc (.cells #[.int .i64 x.op, .int .u64 (x.a : Int), .int .u64 (x.b : Int)] 64)) := (Below.refl _ _).alloc (Nat.le_refl _) _
  have HB0 := Lib.hid hb0
  have k0 : (w.alloc (.cells #[.int .i64 x.op, .int .u64 (x.a : Int), .int .u64 (x.b : Int)] 64)).cell? ⟨w.heap.size, 0, none⟩ = some (.int .i64 x.op) := by rw [World.cell?_alloc_new]; rfl
  have kz : w.heap.size < (w.alloc (.cells #[.int .i64 x.op, .int .u64 (x.a : Int), .int .u64 (x.b : Int)] 64)).heap.size := by rw [World.size_alloc]; omega
  clear hx hb0
  go_enter Tryd.func49, Tryd.ntmps49
  go_wp2_with fail
  generalize w.alloc (.cells #[.int .i64 x.op, .int .u64 (x.a : Int), .int .u64 (x.b : Int)] 64) = w0 at *
  refine (operands_any x w0).mono ?_
  rintro e w1 ⟨hb1, ⟨hok, rfl⟩ | ⟨hok, n, g, hn, rfl, hg, hgb⟩⟩
  · exact absurd (hok.symm.trans HX.out) (by decide)
  · have hn2 := (argsN_some hn).2.2.2
    have HN := Lib.hid hn
    have HB1 := Lib.hid hb1
    have d0 := (hb1.cell (p := ⟨w.heap.size, 0, none⟩) kz).trans k0
    have a0 := hgb.cell 0
    have a1 := hgb.cell 1
    have gz := hgb.lt
    have HGB := Lib.hid hgb
    clear hok hn hb1 hgb k0
    go_wp2_with fail
    refine (rname_any x.op w1).mono ?_
    rintro e w2 ⟨hb2, hx2⟩
    rw [HN.out] at hx2
    subst hx2
    have HB2 := Lib.hid (HB1.out.trans (hb2.mono HB1.out.size))
    have HG2 := Lib.hid (HGB.out.belowW hb2)
    clear hb2 a0 a1 d0
    go_wp2
    go_loopw [5, 22] (fun sv iv wr => CtRel x n w2 sv iv wr) (fun _ iv _ => n - (intOf iv).toNat)
    case atStart => exact ⟨0, Nat.zero_le _, rfl, by simp [insTo], Below.refl _ _⟩
    case round =>
      obtain ⟨k, hk, rfl, rfl, hb⟩ := hrel
      have HB := Lib.hid hb
      clear hb
      have hin : (insTo x k).length ≤ 50 := by
        have g1 := opName_len x.op.toNat
        have g2 := dgt_len x.a ha
        have g3 := dgt_len x.b hb
        unfold insTo
        rw [List.length_append, List.length_append]
        split <;> split <;> simp only [List.length_cons, List.length_nil] <;> omega
      by_cases hlt : k < n
      · have hG := HG2.out.belowW HB.out
        have a0 := hG.cell 0
        have a1 := hG.cell 1
        obtain ⟨y, hy, HC, HNX⟩ : ∃ y : Nat, y < 18446744073709551616 ∧ Hid (wr.cell? ⟨g, k, none⟩ = some (.int .u64 (y : Int))) ∧ Hid (insTo x (k + 1) = insTo x k ++ ([32] ++ dgt y)) := by
          rcases (by omega : k = 0 ∨ k = 1) with rfl | rfl
          · exact ⟨x.a, ha, Lib.hid a0, Lib.hid (by simp [insTo])⟩
          · exact ⟨x.b, hb, Lib.hid a1, Lib.hid (by simp [insTo])⟩
        clear hG a0 a1
        have c0 := HC.out
        have hyl := dgt_len y hy
        have q1 := fun W => str_add (P := Tryd.prog) ⟨#[32]⟩ (str (dgt y)) (by rw [str_size, show (⟨#[32]⟩ : ByteArray).size = 1 from rfl]; omega) W
        have q2 := fun W => str_add (P := Tryd.prog) (str (insTo x k)) (⟨#[32]⟩ ++ str (dgt y)) (by rw [ba_append_size, str_size, str_size, show (⟨#[32]⟩ : ByteArray).size = 1 from rfl]; omega) W
        have HEQ := Lib.hid (show str (insTo x k) ++ (⟨#[32]⟩ ++ str (dgt y)) = str (insTo x (k + 1)) from by
          rw [HNX.out, show (⟨#[32]⟩ : ByteArray) = str [32] from rfl, str_cat2, str_cat2])
        generalize str (insTo x k) = si at *
        go_wp2_with fail
        refine (decimal_any y hy wr).mono ?_
        rintro e w4 ⟨rfl, hb4⟩
        have HB4 := Lib.hid (HB.out.trans (hb4.mono HB.out.size))
        clear hb4
        go_wp2
        go_roundw
        case rel => exact ⟨k + 1, by omega, by go_num, by rw [HEQ.out], HB4.out⟩
        case measure => simp [intOf]; omega
      · have HEQ := Lib.hid (show str (insTo x k) = str (insL x) from by rw [show k = n by omega, insTo_all HN.out])
        clear hin
        generalize str (insTo x k) = si at *
        go_wp2
        go_ret
        exact ⟨by rw [HEQ.out]; rfl, HB0.out.trans ((HB2.out.trans (HB.out.mono HB2.out.size)).mono HB0.out.size)⟩
end Go.Proofs.YtmdpfikalekmlaaDoor
