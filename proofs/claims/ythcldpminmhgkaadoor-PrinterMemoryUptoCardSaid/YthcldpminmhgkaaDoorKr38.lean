/- Merged for a claim by shake.py: Jaq -/
import Derived.Test.YthcldpminmhgkaaDoorKrA
import Derived.Test.YthcldpminmhgkaaDoorKr37
set_option maxRecDepth 100000
set_option maxHeartbeats 4000000
set_option linter.unusedSimpArgs false
set_option linter.unusedVariables false
section
namespace Go.Proofs.YthcldpminmhgkaaDoor
open Go.RowKit
def DlfOk (kind : Int) (m : Nat → Prop) : Prop := ∀ (n : Nat) (field text : List UInt8) (la lb : Bool) (lc : List UInt8) (ra rb : Bool) (rc : List UInt8) (oa ka : Option Addr) (on oc kn kc : Nat) (w : World), m n → n < 9223372036854775808 → field.length ≤ 300000000000 → text.length ≤ 300000000000 → lc.length ≤ 300000000000 → rc.length ≤ 300000000000 →
 Calls Tryd.prog 93 #[.agg #[.int .i64 kind, .string (str field), .string (str text), .int .i64 (n : Int), .bool la, .bool lb, .string (str lc), .bool ra, .bool rb, .string (str rc), .slice oa on oc, .slice ka kn kc]] w (StrRet (str (headF field ++ leafF kind text n ⟨la, lb, lc⟩ ⟨ra, rb, rc⟩)) w)
theorem rhead_str {field : List UInt8} (h : ¬ field = []) : str (wordL field) ++ ⟨#[58]⟩ = str (headF field) := by
 unfold headF; rw [if_neg h, show (⟨#[58]⟩ : ByteArray) = str [58] from rfl, cat15]
theorem dlf_1 : DlfOk 1 (fun n => True) := by
 intro n field text la lb lc ra rb rc oa ka on oc kn kc w hm hn hfl htl hlc hrc
 clear hm
 have HB := LH ((Below.refl w.heap.size w).alloc (Nat.le_refl _) (.cells #[.int .i64 1, .string (str field), .string (str text), .int .i64 (n : Int), .bool la, .bool lb, .string (str lc), .bool ra, .bool rb, .string (str rc), .slice oa on oc, .slice ka kn kc] 27))
 have HBK := LH (Blk.new w 27 #[.int .i64 1, .string (str field), .string (str text), .int .i64 (n : Int), .bool la, .bool lb, .string (str lc), .bool ra, .bool rb, .string (str rc), .slice oa on oc, .slice ka kn kc])
 have HF := LH (show leafF 1 text n ⟨la, lb, lc⟩ ⟨ra, rb, rc⟩ = wordL text from by unfold leafF; simp)
 have HQ := LH (fun W => refWord_any (str text) W (by rw [str_size]; omega))
 simp only [str_data] at HQ
 have g1 := wordL_len15 text
 rw [← str_size] at g1
 rw [HF.out, ← cat15]
 clear HF
 generalize str (wordL text) = sa at *
 by_cases h0 : field = []
 ·subst h0
  have e0 : ((str []).toList != []) = false := by rw [ba_toList]; rfl
  have e1 : ((str []).toList == []) = true := by rw [ba_toList]; rfl
  have q1 := fun W => str_add (P := Tryd.prog) ⟨#[]⟩ sa (by rw [show (⟨#[]⟩ : ByteArray).size = 0 from rfl]; omega) W
  have HR := LH (show (⟨#[]⟩ : ByteArray) ++ sa = str (headF []) ++ sa from rfl)
  go_enter Tryd.func93, Tryd.ntmps93
  go_wp2_with fail
  refine (HQ.out _).mono ?_
  rintro e w2 ⟨rfl, hb2⟩
  have HB2 := LH (HB.out.trans (hb2.mono HB.out.size))
  clear hb2
  go_wp2
  go_ret
  exact ⟨ret_strx HR.out, HB2.out⟩
 ·have e1 : ((str field).toList == []) = false := by rw [ba_toList, str_data]; cases field with | nil => exact absurd rfl h0 | cons c q => rfl
  have e0 : ((str field).toList != []) = true := by rw [bne, e1]; rfl
  have HW := LH (fun W => refWord_any (str field) W (by rw [str_size]; omega))
  simp only [str_data] at HW
  have g2 := wordL_len15 field
  rw [← str_size] at g2
  rw [← rhead_str h0]
  generalize str (wordL field) = sf at *
  have q0 := fun W => str_add (P := Tryd.prog) sf ⟨#[58]⟩ (by rw [show (⟨#[58]⟩ : ByteArray).size = 1 from rfl]; omega) W
  have q1 := fun W => str_add (P := Tryd.prog) (sf ++ ⟨#[58]⟩) sa (by rw [ba_append_size, show (⟨#[58]⟩ : ByteArray).size = 1 from rfl]; omega) W
  generalize (sf ++ ⟨#[58]⟩ : ByteArray) = sh at *
  clear h0 g1 g2
  go_enter Tryd.func93, Tryd.ntmps93
  go_wp2_with fail
  refine (HW.out _).mono ?_
  rintro e w1 ⟨rfl, hb2⟩
  have HB1 := LH (HB.out.trans (hb2.mono HB.out.size))
  have HBK1 := LH (HBK.out.belowW hb2)
  clear hb2
  have bzz := HBK1.out
  obtain ⟨b0, b1, b2, b3, b4, b5, b6, b7, b8, b9, b10, b11, -, -, -, -, -, -, -, -, -, -, -, -, lb⟩ := blk12 bzz
  clear bzz
  go_wp2_with fail
  refine (HQ.out _).mono ?_
  rintro e w2 ⟨rfl, hb2⟩
  have HB2 := LH (HB1.out.trans (hb2.mono HB1.out.size))
  clear hb2
  go_wp2
  go_ret
  exact ⟨rfl, HB2.out⟩
theorem dlf_2z : DlfOk 2 (fun n => n = 0) := by
 intro n field text la lb lc ra rb rc oa ka on oc kn kc w hm hn hfl htl hlc hrc
 subst hm
 have HB := LH ((Below.refl w.heap.size w).alloc (Nat.le_refl _) (.cells #[.int .i64 2, .string (str field), .string (str text), .int .i64 ((0 : Nat) : Int), .bool la, .bool lb, .string (str lc), .bool ra, .bool rb, .string (str rc), .slice oa on oc, .slice ka kn kc] 27))
 have HBK := LH (Blk.new w 27 #[.int .i64 2, .string (str field), .string (str text), .int .i64 ((0 : Nat) : Int), .bool la, .bool lb, .string (str lc), .bool ra, .bool rb, .string (str rc), .slice oa on oc, .slice ka kn kc])
 have HF := LH (show leafF 2 text ((0 : Nat) : Int) ⟨la, lb, lc⟩ ⟨ra, rb, rc⟩ = quoteL text from by unfold leafF; simp)
 have HQ := LH (fun W => refQuote_any (str text) W (by rw [str_size]; omega))
 simp only [str_data] at HQ
 have g1 := quoteL_len15 text
 rw [← str_size] at g1
 rw [HF.out, ← cat15]
 clear HF
 generalize str (quoteL text) = sa at *
 by_cases h0 : field = []
 ·subst h0
  have e0 : ((str []).toList != []) = false := by rw [ba_toList]; rfl
  have e1 : ((str []).toList == []) = true := by rw [ba_toList]; rfl
  have q1 := fun W => str_add (P := Tryd.prog) ⟨#[]⟩ sa (by rw [show (⟨#[]⟩ : ByteArray).size = 0 from rfl]; omega) W
  have HR := LH (show (⟨#[]⟩ : ByteArray) ++ sa = str (headF []) ++ sa from rfl)
  go_enter Tryd.func93, Tryd.ntmps93
  go_wp2_with fail
  refine (HQ.out _).mono ?_
  rintro e w2 ⟨rfl, hb2⟩
  have HB2 := LH (HB.out.trans (hb2.mono HB.out.size))
  clear hb2
  go_wp2
  go_ret
  exact ⟨ret_strx HR.out, HB2.out⟩
 ·have e1 : ((str field).toList == []) = false := by rw [ba_toList, str_data]; cases field with | nil => exact absurd rfl h0 | cons c q => rfl
  have e0 : ((str field).toList != []) = true := by rw [bne, e1]; rfl
  have HW := LH (fun W => refWord_any (str field) W (by rw [str_size]; omega))
  simp only [str_data] at HW
  have g2 := wordL_len15 field
  rw [← str_size] at g2
  rw [← rhead_str h0]
  generalize str (wordL field) = sf at *
  have q0 := fun W => str_add (P := Tryd.prog) sf ⟨#[58]⟩ (by rw [show (⟨#[58]⟩ : ByteArray).size = 1 from rfl]; omega) W
  have q1 := fun W => str_add (P := Tryd.prog) (sf ++ ⟨#[58]⟩) sa (by rw [ba_append_size, show (⟨#[58]⟩ : ByteArray).size = 1 from rfl]; omega) W
  generalize (sf ++ ⟨#[58]⟩ : ByteArray) = sh at *
  clear h0 g1 g2
  go_enter Tryd.func93, Tryd.ntmps93
  go_wp2_with fail
  refine (HW.out _).mono ?_
  rintro e w1 ⟨rfl, hb2⟩
  have HB1 := LH (HB.out.trans (hb2.mono HB.out.size))
  have HBK1 := LH (HBK.out.belowW hb2)
  clear hb2
  have bzz := HBK1.out
  obtain ⟨b0, b1, b2, b3, b4, b5, b6, b7, b8, b9, b10, b11, -, -, -, -, -, -, -, -, -, -, -, -, lb⟩ := blk12 bzz
  clear bzz
  go_wp2_with fail
  refine (HQ.out _).mono ?_
  rintro e w2 ⟨rfl, hb2⟩
  have HB2 := LH (HB1.out.trans (hb2.mono HB1.out.size))
  clear hb2
  go_wp2
  go_ret
  exact ⟨rfl, HB2.out⟩
theorem dlf_4 : DlfOk 4 (fun n => True) := by
 intro n field text la lb lc ra rb rc oa ka on oc kn kc w hm hn hfl htl hlc hrc
 clear hm
 have HB := LH ((Below.refl w.heap.size w).alloc (Nat.le_refl _) (.cells #[.int .i64 4, .string (str field), .string (str text), .int .i64 (n : Int), .bool la, .bool lb, .string (str lc), .bool ra, .bool rb, .string (str rc), .slice oa on oc, .slice ka kn kc] 27))
 have HBK := LH (Blk.new w 27 #[.int .i64 4, .string (str field), .string (str text), .int .i64 (n : Int), .bool la, .bool lb, .string (str lc), .bool ra, .bool rb, .string (str rc), .slice oa on oc, .slice ka kn kc])
 have HF := LH (show leafF 4 text n ⟨la, lb, lc⟩ ⟨ra, rb, rc⟩ = patternL text from by unfold leafF; simp)
 have HQ := LH (fun W => refPattern_any (str text) W (by rw [str_size]; omega))
 simp only [str_data] at HQ
 have g1 := patternL_len15 text
 rw [← str_size] at g1
 rw [HF.out, ← cat15]
 clear HF
 generalize str (patternL text) = sa at *
 by_cases h0 : field = []
 ·subst h0
  have e0 : ((str []).toList != []) = false := by rw [ba_toList]; rfl
  have e1 : ((str []).toList == []) = true := by rw [ba_toList]; rfl
  have q1 := fun W => str_add (P := Tryd.prog) ⟨#[]⟩ sa (by rw [show (⟨#[]⟩ : ByteArray).size = 0 from rfl]; omega) W
  have HR := LH (show (⟨#[]⟩ : ByteArray) ++ sa = str (headF []) ++ sa from rfl)
  go_enter Tryd.func93, Tryd.ntmps93
  go_wp2_with fail
  refine (HQ.out _).mono ?_
  rintro e w2 ⟨rfl, hb2⟩
  have HB2 := LH (HB.out.trans (hb2.mono HB.out.size))
  clear hb2
  go_wp2
  go_ret
  exact ⟨ret_strx HR.out, HB2.out⟩
 ·have e1 : ((str field).toList == []) = false := by rw [ba_toList, str_data]; cases field with | nil => exact absurd rfl h0 | cons c q => rfl
  have e0 : ((str field).toList != []) = true := by rw [bne, e1]; rfl
  have HW := LH (fun W => refWord_any (str field) W (by rw [str_size]; omega))
  simp only [str_data] at HW
  have g2 := wordL_len15 field
  rw [← str_size] at g2
  rw [← rhead_str h0]
  generalize str (wordL field) = sf at *
  have q0 := fun W => str_add (P := Tryd.prog) sf ⟨#[58]⟩ (by rw [show (⟨#[58]⟩ : ByteArray).size = 1 from rfl]; omega) W
  have q1 := fun W => str_add (P := Tryd.prog) (sf ++ ⟨#[58]⟩) sa (by rw [ba_append_size, show (⟨#[58]⟩ : ByteArray).size = 1 from rfl]; omega) W
  generalize (sf ++ ⟨#[58]⟩ : ByteArray) = sh at *
  clear h0 g1 g2
  go_enter Tryd.func93, Tryd.ntmps93
  go_wp2_with fail
  refine (HW.out _).mono ?_
  rintro e w1 ⟨rfl, hb2⟩
  have HB1 := LH (HB.out.trans (hb2.mono HB.out.size))
  have HBK1 := LH (HBK.out.belowW hb2)
  clear hb2
  have bzz := HBK1.out
  obtain ⟨b0, b1, b2, b3, b4, b5, b6, b7, b8, b9, b10, b11, -, -, -, -, -, -, -, -, -, -, -, -, lb⟩ := blk12 bzz
  clear bzz
  go_wp2_with fail
  refine (HQ.out _).mono ?_
  rintro e w2 ⟨rfl, hb2⟩
  have HB2 := LH (HB1.out.trans (hb2.mono HB1.out.size))
  clear hb2
  go_wp2
  go_ret
  exact ⟨rfl, HB2.out⟩
theorem dlf_2n : DlfOk 2 (fun n => 0 < n) := by
 intro n field text la lb lc ra rb rc oa ka on oc kn kc w hm hn hfl htl hlc hrc
 have HB := LH ((Below.refl w.heap.size w).alloc (Nat.le_refl _) (.cells #[.int .i64 2, .string (str field), .string (str text), .int .i64 (n : Int), .bool la, .bool lb, .string (str lc), .bool ra, .bool rb, .string (str rc), .slice oa on oc, .slice ka kn kc] 27))
 have HBK := LH (Blk.new w 27 #[.int .i64 2, .string (str field), .string (str text), .int .i64 (n : Int), .bool la, .bool lb, .string (str lc), .bool ra, .bool rb, .string (str rc), .slice oa on oc, .slice ka kn kc])
 have HF := LH (show str (quoteL text) ++ ⟨#[126]⟩ ++ str (decN n) = str (leafF 2 text n ⟨la, lb, lc⟩ ⟨ra, rb, rc⟩) from by
  rw [show (⟨#[126]⟩ : ByteArray) = str [126] from rfl, cat15, cat15]
  unfold leafF
  simp [hm])
 have g1 := quoteL_len15 text
 have g3 := decN_len n hn
 rw [← str_size] at g1 g3
 have hn0 : (0 : Int) < (n : Int) := by omega
 by_cases h0 : field = []
 ·subst h0
  have e0 : ((str []).toList != []) = false := by rw [ba_toList]; rfl
  have e1 : ((str []).toList == []) = true := by rw [ba_toList]; rfl
  have HH := LH (show (⟨#[]⟩ : ByteArray) = str (headF []) from rfl)
  have gh : (⟨#[]⟩ : ByteArray).size ≤ 1000000000000 := by decide
  have q1 := fun W => str_add (P := Tryd.prog) ⟨#[]⟩ (str (quoteL text)) (by omega) W
  have q2 := fun W => str_add (P := Tryd.prog) (⟨#[]⟩ ++ str (quoteL text)) ⟨#[126]⟩ (by rw [ba_append_size, show (⟨#[126]⟩ : ByteArray).size = 1 from rfl]; omega) W
  have q3 := fun W => str_add (P := Tryd.prog) (⟨#[]⟩ ++ str (quoteL text) ++ ⟨#[126]⟩) (str (decN n)) (by rw [ba_append_size, ba_append_size, show (⟨#[126]⟩ : ByteArray).size = 1 from rfl]; omega) W
  have HR := LH (show ⟨#[]⟩ ++ str (quoteL text) ++ ⟨#[126]⟩ ++ str (decN n) = str (headF [] ++ leafF 2 text n ⟨la, lb, lc⟩ ⟨ra, rb, rc⟩) from by
   rw [← cat15, ← HF.out, ← HH.out]
   exact ba_ext (by simp only [ba_append, List.append_assoc]))
  generalize (⟨#[]⟩ ++ str (quoteL text) : ByteArray) = s1 at *
  generalize (s1 ++ ⟨#[126]⟩ : ByteArray) = s2 at *
  generalize (s2 ++ str (decN n) : ByteArray) = s3 at *
  go_enter Tryd.func93, Tryd.ntmps93
  go_wp2_with fail
  have HSF := LH (fun (W : World) (hW : Below (w.alloc (.cells #[.int .i64 2, .string (str []), .string (str text), .int .i64 (n : Int), .bool la, .bool lb, .string (str lc), .bool ra, .bool rb, .string (str rc), .slice oa on oc, .slice ka kn kc] 27)).heap.size (w.alloc (.cells #[.int .i64 2, .string (str []), .string (str text), .int .i64 (n : Int), .bool la, .bool lb, .string (str lc), .bool ra, .bool rb, .string (str rc), .slice oa on oc, .slice ka kn kc] 27)) W) => (show W.cell? ⟨w.heap.size, 0, none⟩ = some (.int .i64 2) ∧ W.cell? ⟨w.heap.size, 1, none⟩ = some (.string (str [])) ∧ W.cell? ⟨w.heap.size, 2, none⟩ = some (.string (str text)) ∧ W.cell? ⟨w.heap.size, 3, none⟩ = some (.int .i64 (n : Int)) ∧ W.cell? ⟨w.heap.size, 4, none⟩ = some (.bool la) ∧ W.cell? ⟨w.heap.size, 5, none⟩ = some (.bool lb) ∧ W.cell? ⟨w.heap.size, 6, none⟩ = some (.string (str lc)) ∧ W.cell? ⟨w.heap.size, 7, none⟩ = some (.bool ra) ∧ W.cell? ⟨w.heap.size, 8, none⟩ = some (.bool rb) ∧ W.cell? ⟨w.heap.size, 9, none⟩ = some (.string (str rc)) ∧ Below (w.alloc (.cells #[.int .i64 2, .string (str []), .string (str text), .int .i64 (n : Int), .bool la, .bool lb, .string (str lc), .bool ra, .bool rb, .string (str rc), .slice oa on oc, .slice ka kn kc] 27)).heap.size (w.alloc (.cells #[.int .i64 2, .string (str []), .string (str text), .int .i64 (n : Int), .bool la, .bool lb, .string (str lc), .bool ra, .bool rb, .string (str rc), .slice oa on oc, .slice ka kn kc] 27)) W from by
   have hb := HBK.out.belowW hW
   refine ⟨hb.cell 0, hb.cell 1, hb.cell 2, hb.cell 3, hb.cell 4, hb.cell 5, hb.cell 6, hb.cell 7, hb.cell 8, hb.cell 9, hW⟩))
  have HC1 := LH (fun (W : World) (hW : Below (w.alloc (.cells #[.int .i64 2, .string (str []), .string (str text), .int .i64 (n : Int), .bool la, .bool lb, .string (str lc), .bool ra, .bool rb, .string (str rc), .slice oa on oc, .slice ka kn kc] 27)).heap.size (w.alloc (.cells #[.int .i64 2, .string (str []), .string (str text), .int .i64 (n : Int), .bool la, .bool lb, .string (str lc), .bool ra, .bool rb, .string (str rc), .slice oa on oc, .slice ka kn kc] 27)) W) => (show Calls Tryd.prog 102 #[.string (str text)] W fun e w' => e = .returned (.string (str (quoteL text))) ∧ Below (w.alloc (.cells #[.int .i64 2, .string (str []), .string (str text), .int .i64 (n : Int), .bool la, .bool lb, .string (str lc), .bool ra, .bool rb, .string (str rc), .slice oa on oc, .slice ka kn kc] 27)).heap.size (w.alloc (.cells #[.int .i64 2, .string (str []), .string (str text), .int .i64 (n : Int), .bool la, .bool lb, .string (str lc), .bool ra, .bool rb, .string (str rc), .slice oa on oc, .slice ka kn kc] 27)) w' from (refQuote_any (str text) W (by rw [str_size]; omega)).mono (fun e w' h => ⟨h.1, hW.trans (h.2.mono hW.size)⟩)))
  have HC2 := LH (fun (W : World) (hW : Below (w.alloc (.cells #[.int .i64 2, .string (str []), .string (str text), .int .i64 (n : Int), .bool la, .bool lb, .string (str lc), .bool ra, .bool rb, .string (str rc), .slice oa on oc, .slice ka kn kc] 27)).heap.size (w.alloc (.cells #[.int .i64 2, .string (str []), .string (str text), .int .i64 (n : Int), .bool la, .bool lb, .string (str lc), .bool ra, .bool rb, .string (str rc), .slice oa on oc, .slice ka kn kc] 27)) W) => (show Calls Tryd.prog 95 #[.int .i64 (n : Int)] W fun e w' => e = .returned (.string (str (decN n))) ∧ Below (w.alloc (.cells #[.int .i64 2, .string (str []), .string (str text), .int .i64 (n : Int), .bool la, .bool lb, .string (str lc), .bool ra, .bool rb, .string (str rc), .slice oa on oc, .slice ka kn kc] 27)).heap.size (w.alloc (.cells #[.int .i64 2, .string (str []), .string (str text), .int .i64 (n : Int), .bool la, .bool lb, .string (str lc), .bool ra, .bool rb, .string (str rc), .slice oa on oc, .slice ka kn kc] 27)) w' from (rdigits_any n hn W).mono (fun e w' h => ⟨h.1, hW.trans (h.2.mono hW.size)⟩)))
  go_region_held3 (fun W => W.cell? ⟨w.heap.size, 0, none⟩ = some (.int .i64 2) ∧ W.cell? ⟨w.heap.size, 1, none⟩ = some (.string (str [])) ∧ W.cell? ⟨w.heap.size, 2, none⟩ = some (.string (str text)) ∧ W.cell? ⟨w.heap.size, 3, none⟩ = some (.int .i64 (n : Int)) ∧ W.cell? ⟨w.heap.size, 4, none⟩ = some (.bool la) ∧ W.cell? ⟨w.heap.size, 5, none⟩ = some (.bool lb) ∧ W.cell? ⟨w.heap.size, 6, none⟩ = some (.string (str lc)) ∧ W.cell? ⟨w.heap.size, 7, none⟩ = some (.bool ra) ∧ W.cell? ⟨w.heap.size, 8, none⟩ = some (.bool rb) ∧ W.cell? ⟨w.heap.size, 9, none⟩ = some (.string (str rc)) ∧ Below (w.alloc (.cells #[.int .i64 2, .string (str []), .string (str text), .int .i64 (n : Int), .bool la, .bool lb, .string (str lc), .bool ra, .bool rb, .string (str rc), .slice oa on oc, .slice ka kn kc] 27)).heap.size (w.alloc (.cells #[.int .i64 2, .string (str []), .string (str text), .int .i64 (n : Int), .bool la, .bool lb, .string (str lc), .bool ra, .bool rb, .string (str rc), .slice oa on oc, .slice ka kn kc] 27)) W) (exact HSF.out _ (by repeat (first | assumption | exact Below.refl _ _ | with_reducible refine Below.drew ?_))) (first | ((with_reducible refine (HC1.out _ ?_).mono ?_); (repeat (first | assumption | exact Below.refl _ _ | with_reducible refine Below.drew ?_)); (rintro e w5 ⟨rfl, hk0⟩)) | ((with_reducible refine (HC2.out _ ?_).mono ?_); (repeat (first | assumption | exact Below.refl _ _ | with_reducible refine Below.drew ?_)); (rintro e w5 ⟨rfl, hk1⟩)))
  all_goals
   rename_i hfin
   have HBF := LH (show Below w.heap.size w _ from HB.out.trans (hfin.2.2.2.2.2.2.2.2.2.2.mono HB.out.size))
   clear hfin
   go_wp2
   go_ret
   exact ⟨ret_strx (by exact HR.out), HBF.out⟩
 ·have e1 : ((str field).toList == []) = false := by rw [ba_toList, str_data]; cases field with | nil => exact absurd rfl h0 | cons c q => rfl
  have e0 : ((str field).toList != []) = true := by rw [bne, e1]; rfl
  have HW := LH (fun W => refWord_any (str field) W (by rw [str_size]; omega))
  simp only [str_data] at HW
  have g2 := wordL_len15 field
  rw [← str_size] at g2
  have HH := LH (rhead_str h0)
  generalize str (wordL field) = sf at *
  have q0 := fun W => str_add (P := Tryd.prog) sf ⟨#[58]⟩ (by rw [show (⟨#[58]⟩ : ByteArray).size = 1 from rfl]; omega) W
  have gh : (sf ++ ⟨#[58]⟩ : ByteArray).size ≤ 1000000000000 := by rw [ba_append_size, show (⟨#[58]⟩ : ByteArray).size = 1 from rfl]; omega
  generalize (sf ++ ⟨#[58]⟩ : ByteArray) = sh at *
  clear h0 g2
  have q1 := fun W => str_add (P := Tryd.prog) sh (str (quoteL text)) (by omega) W
  have q2 := fun W => str_add (P := Tryd.prog) (sh ++ str (quoteL text)) ⟨#[126]⟩ (by rw [ba_append_size, show (⟨#[126]⟩ : ByteArray).size = 1 from rfl]; omega) W
  have q3 := fun W => str_add (P := Tryd.prog) (sh ++ str (quoteL text) ++ ⟨#[126]⟩) (str (decN n)) (by rw [ba_append_size, ba_append_size, show (⟨#[126]⟩ : ByteArray).size = 1 from rfl]; omega) W
  have HR := LH (show sh ++ str (quoteL text) ++ ⟨#[126]⟩ ++ str (decN n) = str (headF field ++ leafF 2 text n ⟨la, lb, lc⟩ ⟨ra, rb, rc⟩) from by
   rw [← cat15, ← HF.out, ← HH.out]
   exact ba_ext (by simp only [ba_append, List.append_assoc]))
  generalize (sh ++ str (quoteL text) : ByteArray) = s1 at *
  generalize (s1 ++ ⟨#[126]⟩ : ByteArray) = s2 at *
  generalize (s2 ++ str (decN n) : ByteArray) = s3 at *
  go_enter Tryd.func93, Tryd.ntmps93
  go_wp2_with fail
  refine (HW.out _).mono ?_
  rintro e w1 ⟨rfl, hb2⟩
  have HB1 := LH (HB.out.trans (hb2.mono HB.out.size))
  have HBK1 := LH (HBK.out.belowW hb2)
  clear hb2
  have bzz := HBK1.out
  obtain ⟨b0, b1, b2, b3, b4, b5, b6, b7, b8, b9, b10, b11, -, -, -, -, -, -, -, -, -, -, -, -, lb⟩ := blk12 bzz
  clear bzz
  go_wp2_with fail
  clear b0 b1 b2 b3 b4 b5 b6 b7 b8 b9 b10 b11 lb
  have HSF := LH (fun (W : World) (hW : Below w1.heap.size w1 W) => (show W.cell? ⟨w.heap.size, 0, none⟩ = some (.int .i64 2) ∧ W.cell? ⟨w.heap.size, 1, none⟩ = some (.string (str field)) ∧ W.cell? ⟨w.heap.size, 2, none⟩ = some (.string (str text)) ∧ W.cell? ⟨w.heap.size, 3, none⟩ = some (.int .i64 (n : Int)) ∧ W.cell? ⟨w.heap.size, 4, none⟩ = some (.bool la) ∧ W.cell? ⟨w.heap.size, 5, none⟩ = some (.bool lb) ∧ W.cell? ⟨w.heap.size, 6, none⟩ = some (.string (str lc)) ∧ W.cell? ⟨w.heap.size, 7, none⟩ = some (.bool ra) ∧ W.cell? ⟨w.heap.size, 8, none⟩ = some (.bool rb) ∧ W.cell? ⟨w.heap.size, 9, none⟩ = some (.string (str rc)) ∧ Below w1.heap.size w1 W from by
   have hb := HBK1.out.belowW hW
   refine ⟨hb.cell 0, hb.cell 1, hb.cell 2, hb.cell 3, hb.cell 4, hb.cell 5, hb.cell 6, hb.cell 7, hb.cell 8, hb.cell 9, hW⟩))
  have HC1 := LH (fun (W : World) (hW : Below w1.heap.size w1 W) => (show Calls Tryd.prog 102 #[.string (str text)] W fun e w' => e = .returned (.string (str (quoteL text))) ∧ Below w1.heap.size w1 w' from (refQuote_any (str text) W (by rw [str_size]; omega)).mono (fun e w' h => ⟨h.1, hW.trans (h.2.mono hW.size)⟩)))
  have HC2 := LH (fun (W : World) (hW : Below w1.heap.size w1 W) => (show Calls Tryd.prog 95 #[.int .i64 (n : Int)] W fun e w' => e = .returned (.string (str (decN n))) ∧ Below w1.heap.size w1 w' from (rdigits_any n hn W).mono (fun e w' h => ⟨h.1, hW.trans (h.2.mono hW.size)⟩)))
  go_region_held3 (fun W => W.cell? ⟨w.heap.size, 0, none⟩ = some (.int .i64 2) ∧ W.cell? ⟨w.heap.size, 1, none⟩ = some (.string (str field)) ∧ W.cell? ⟨w.heap.size, 2, none⟩ = some (.string (str text)) ∧ W.cell? ⟨w.heap.size, 3, none⟩ = some (.int .i64 (n : Int)) ∧ W.cell? ⟨w.heap.size, 4, none⟩ = some (.bool la) ∧ W.cell? ⟨w.heap.size, 5, none⟩ = some (.bool lb) ∧ W.cell? ⟨w.heap.size, 6, none⟩ = some (.string (str lc)) ∧ W.cell? ⟨w.heap.size, 7, none⟩ = some (.bool ra) ∧ W.cell? ⟨w.heap.size, 8, none⟩ = some (.bool rb) ∧ W.cell? ⟨w.heap.size, 9, none⟩ = some (.string (str rc)) ∧ Below w1.heap.size w1 W) (exact HSF.out _ (by repeat (first | assumption | exact Below.refl _ _ | with_reducible refine Below.drew ?_))) (first | ((with_reducible refine (HC1.out _ ?_).mono ?_); (repeat (first | assumption | exact Below.refl _ _ | with_reducible refine Below.drew ?_)); (rintro e w5 ⟨rfl, hk0⟩)) | ((with_reducible refine (HC2.out _ ?_).mono ?_); (repeat (first | assumption | exact Below.refl _ _ | with_reducible refine Below.drew ?_)); (rintro e w5 ⟨rfl, hk1⟩)))
  all_goals
   rename_i hfin
   have HBF := LH (show Below w.heap.size w _ from HB1.out.trans (hfin.2.2.2.2.2.2.2.2.2.2.mono HB1.out.size))
   clear hfin
   go_wp2
   go_ret
   exact ⟨ret_strx (by exact HR.out), HBF.out⟩
theorem dlf_5 : DlfOk 5 (fun n => True) := by
 intro n field text la lb lc ra rb rc oa ka on oc kn kc w hm hn hfl htl hlc hrc
 have HB := LH ((Below.refl w.heap.size w).alloc (Nat.le_refl _) (.cells #[.int .i64 5, .string (str field), .string (str text), .int .i64 (n : Int), .bool la, .bool lb, .string (str lc), .bool ra, .bool rb, .string (str rc), .slice oa on oc, .slice ka kn kc] 27))
 have HBK := LH (Blk.new w 27 #[.int .i64 5, .string (str field), .string (str text), .int .i64 (n : Int), .bool la, .bool lb, .string (str lc), .bool ra, .bool rb, .string (str rc), .slice oa on oc, .slice ka kn kc])
 have HF := LH (show str (wordL text) ++ ⟨#[126]⟩ ++ str (decN n) = str (leafF 5 text n ⟨la, lb, lc⟩ ⟨ra, rb, rc⟩) from by
  rw [show (⟨#[126]⟩ : ByteArray) = str [126] from rfl, cat15, cat15]
  unfold leafF
  simp)
 have g1 := wordL_len15 text
 have g3 := decN_len n hn
 rw [← str_size] at g1 g3
 by_cases h0 : field = []
 ·subst h0
  have e0 : ((str []).toList != []) = false := by rw [ba_toList]; rfl
  have e1 : ((str []).toList == []) = true := by rw [ba_toList]; rfl
  have HH := LH (show (⟨#[]⟩ : ByteArray) = str (headF []) from rfl)
  have gh : (⟨#[]⟩ : ByteArray).size ≤ 1000000000000 := by decide
  have q1 := fun W => str_add (P := Tryd.prog) ⟨#[]⟩ (str (wordL text)) (by omega) W
  have q2 := fun W => str_add (P := Tryd.prog) (⟨#[]⟩ ++ str (wordL text)) ⟨#[126]⟩ (by rw [ba_append_size, show (⟨#[126]⟩ : ByteArray).size = 1 from rfl]; omega) W
  have q3 := fun W => str_add (P := Tryd.prog) (⟨#[]⟩ ++ str (wordL text) ++ ⟨#[126]⟩) (str (decN n)) (by rw [ba_append_size, ba_append_size, show (⟨#[126]⟩ : ByteArray).size = 1 from rfl]; omega) W
  have HR := LH (show ⟨#[]⟩ ++ str (wordL text) ++ ⟨#[126]⟩ ++ str (decN n) = str (headF [] ++ leafF 5 text n ⟨la, lb, lc⟩ ⟨ra, rb, rc⟩) from by
   rw [← cat15, ← HF.out, ← HH.out]
   exact ba_ext (by simp only [ba_append, List.append_assoc]))
  generalize (⟨#[]⟩ ++ str (wordL text) : ByteArray) = s1 at *
  generalize (s1 ++ ⟨#[126]⟩ : ByteArray) = s2 at *
  generalize (s2 ++ str (decN n) : ByteArray) = s3 at *
  go_enter Tryd.func93, Tryd.ntmps93
  go_wp2_with fail
  have HSF := LH (fun (W : World) (hW : Below (w.alloc (.cells #[.int .i64 5, .string (str []), .string (str text), .int .i64 (n : Int), .bool la, .bool lb, .string (str lc), .bool ra, .bool rb, .string (str rc), .slice oa on oc, .slice ka kn kc] 27)).heap.size (w.alloc (.cells #[.int .i64 5, .string (str []), .string (str text), .int .i64 (n : Int), .bool la, .bool lb, .string (str lc), .bool ra, .bool rb, .string (str rc), .slice oa on oc, .slice ka kn kc] 27)) W) => (show W.cell? ⟨w.heap.size, 0, none⟩ = some (.int .i64 5) ∧ W.cell? ⟨w.heap.size, 1, none⟩ = some (.string (str [])) ∧ W.cell? ⟨w.heap.size, 2, none⟩ = some (.string (str text)) ∧ W.cell? ⟨w.heap.size, 3, none⟩ = some (.int .i64 (n : Int)) ∧ W.cell? ⟨w.heap.size, 4, none⟩ = some (.bool la) ∧ W.cell? ⟨w.heap.size, 5, none⟩ = some (.bool lb) ∧ W.cell? ⟨w.heap.size, 6, none⟩ = some (.string (str lc)) ∧ W.cell? ⟨w.heap.size, 7, none⟩ = some (.bool ra) ∧ W.cell? ⟨w.heap.size, 8, none⟩ = some (.bool rb) ∧ W.cell? ⟨w.heap.size, 9, none⟩ = some (.string (str rc)) ∧ Below (w.alloc (.cells #[.int .i64 5, .string (str []), .string (str text), .int .i64 (n : Int), .bool la, .bool lb, .string (str lc), .bool ra, .bool rb, .string (str rc), .slice oa on oc, .slice ka kn kc] 27)).heap.size (w.alloc (.cells #[.int .i64 5, .string (str []), .string (str text), .int .i64 (n : Int), .bool la, .bool lb, .string (str lc), .bool ra, .bool rb, .string (str rc), .slice oa on oc, .slice ka kn kc] 27)) W from by
   have hb := HBK.out.belowW hW
   refine ⟨hb.cell 0, hb.cell 1, hb.cell 2, hb.cell 3, hb.cell 4, hb.cell 5, hb.cell 6, hb.cell 7, hb.cell 8, hb.cell 9, hW⟩))
  have HC1 := LH (fun (W : World) (hW : Below (w.alloc (.cells #[.int .i64 5, .string (str []), .string (str text), .int .i64 (n : Int), .bool la, .bool lb, .string (str lc), .bool ra, .bool rb, .string (str rc), .slice oa on oc, .slice ka kn kc] 27)).heap.size (w.alloc (.cells #[.int .i64 5, .string (str []), .string (str text), .int .i64 (n : Int), .bool la, .bool lb, .string (str lc), .bool ra, .bool rb, .string (str rc), .slice oa on oc, .slice ka kn kc] 27)) W) => (show Calls Tryd.prog 101 #[.string (str text)] W fun e w' => e = .returned (.string (str (wordL text))) ∧ Below (w.alloc (.cells #[.int .i64 5, .string (str []), .string (str text), .int .i64 (n : Int), .bool la, .bool lb, .string (str lc), .bool ra, .bool rb, .string (str rc), .slice oa on oc, .slice ka kn kc] 27)).heap.size (w.alloc (.cells #[.int .i64 5, .string (str []), .string (str text), .int .i64 (n : Int), .bool la, .bool lb, .string (str lc), .bool ra, .bool rb, .string (str rc), .slice oa on oc, .slice ka kn kc] 27)) w' from (refWord_any (str text) W (by rw [str_size]; omega)).mono (fun e w' h => ⟨h.1, hW.trans (h.2.mono hW.size)⟩)))
  have HC2 := LH (fun (W : World) (hW : Below (w.alloc (.cells #[.int .i64 5, .string (str []), .string (str text), .int .i64 (n : Int), .bool la, .bool lb, .string (str lc), .bool ra, .bool rb, .string (str rc), .slice oa on oc, .slice ka kn kc] 27)).heap.size (w.alloc (.cells #[.int .i64 5, .string (str []), .string (str text), .int .i64 (n : Int), .bool la, .bool lb, .string (str lc), .bool ra, .bool rb, .string (str rc), .slice oa on oc, .slice ka kn kc] 27)) W) => (show Calls Tryd.prog 95 #[.int .i64 (n : Int)] W fun e w' => e = .returned (.string (str (decN n))) ∧ Below (w.alloc (.cells #[.int .i64 5, .string (str []), .string (str text), .int .i64 (n : Int), .bool la, .bool lb, .string (str lc), .bool ra, .bool rb, .string (str rc), .slice oa on oc, .slice ka kn kc] 27)).heap.size (w.alloc (.cells #[.int .i64 5, .string (str []), .string (str text), .int .i64 (n : Int), .bool la, .bool lb, .string (str lc), .bool ra, .bool rb, .string (str rc), .slice oa on oc, .slice ka kn kc] 27)) w' from (rdigits_any n hn W).mono (fun e w' h => ⟨h.1, hW.trans (h.2.mono hW.size)⟩)))
  go_region_held3 (fun W => W.cell? ⟨w.heap.size, 0, none⟩ = some (.int .i64 5) ∧ W.cell? ⟨w.heap.size, 1, none⟩ = some (.string (str [])) ∧ W.cell? ⟨w.heap.size, 2, none⟩ = some (.string (str text)) ∧ W.cell? ⟨w.heap.size, 3, none⟩ = some (.int .i64 (n : Int)) ∧ W.cell? ⟨w.heap.size, 4, none⟩ = some (.bool la) ∧ W.cell? ⟨w.heap.size, 5, none⟩ = some (.bool lb) ∧ W.cell? ⟨w.heap.size, 6, none⟩ = some (.string (str lc)) ∧ W.cell? ⟨w.heap.size, 7, none⟩ = some (.bool ra) ∧ W.cell? ⟨w.heap.size, 8, none⟩ = some (.bool rb) ∧ W.cell? ⟨w.heap.size, 9, none⟩ = some (.string (str rc)) ∧ Below (w.alloc (.cells #[.int .i64 5, .string (str []), .string (str text), .int .i64 (n : Int), .bool la, .bool lb, .string (str lc), .bool ra, .bool rb, .string (str rc), .slice oa on oc, .slice ka kn kc] 27)).heap.size (w.alloc (.cells #[.int .i64 5, .string (str []), .string (str text), .int .i64 (n : Int), .bool la, .bool lb, .string (str lc), .bool ra, .bool rb, .string (str rc), .slice oa on oc, .slice ka kn kc] 27)) W) (exact HSF.out _ (by repeat (first | assumption | exact Below.refl _ _ | with_reducible refine Below.drew ?_))) (first | ((with_reducible refine (HC1.out _ ?_).mono ?_); (repeat (first | assumption | exact Below.refl _ _ | with_reducible refine Below.drew ?_)); (rintro e w5 ⟨rfl, hk0⟩)) | ((with_reducible refine (HC2.out _ ?_).mono ?_); (repeat (first | assumption | exact Below.refl _ _ | with_reducible refine Below.drew ?_)); (rintro e w5 ⟨rfl, hk1⟩)))
  all_goals
   rename_i hfin
   have HBF := LH (show Below w.heap.size w _ from HB.out.trans (hfin.2.2.2.2.2.2.2.2.2.2.mono HB.out.size))
   clear hfin
   go_wp2
   go_ret
   exact ⟨ret_strx (by exact HR.out), HBF.out⟩
 ·have e1 : ((str field).toList == []) = false := by rw [ba_toList, str_data]; cases field with | nil => exact absurd rfl h0 | cons c q => rfl
  have e0 : ((str field).toList != []) = true := by rw [bne, e1]; rfl
  have HW := LH (fun W => refWord_any (str field) W (by rw [str_size]; omega))
  simp only [str_data] at HW
  have g2 := wordL_len15 field
  rw [← str_size] at g2
  have HH := LH (rhead_str h0)
  generalize str (wordL field) = sf at *
  have q0 := fun W => str_add (P := Tryd.prog) sf ⟨#[58]⟩ (by rw [show (⟨#[58]⟩ : ByteArray).size = 1 from rfl]; omega) W
  have gh : (sf ++ ⟨#[58]⟩ : ByteArray).size ≤ 1000000000000 := by rw [ba_append_size, show (⟨#[58]⟩ : ByteArray).size = 1 from rfl]; omega
  generalize (sf ++ ⟨#[58]⟩ : ByteArray) = sh at *
  clear h0 g2
  have q1 := fun W => str_add (P := Tryd.prog) sh (str (wordL text)) (by omega) W
  have q2 := fun W => str_add (P := Tryd.prog) (sh ++ str (wordL text)) ⟨#[126]⟩ (by rw [ba_append_size, show (⟨#[126]⟩ : ByteArray).size = 1 from rfl]; omega) W
  have q3 := fun W => str_add (P := Tryd.prog) (sh ++ str (wordL text) ++ ⟨#[126]⟩) (str (decN n)) (by rw [ba_append_size, ba_append_size, show (⟨#[126]⟩ : ByteArray).size = 1 from rfl]; omega) W
  have HR := LH (show sh ++ str (wordL text) ++ ⟨#[126]⟩ ++ str (decN n) = str (headF field ++ leafF 5 text n ⟨la, lb, lc⟩ ⟨ra, rb, rc⟩) from by
   rw [← cat15, ← HF.out, ← HH.out]
   exact ba_ext (by simp only [ba_append, List.append_assoc]))
  generalize (sh ++ str (wordL text) : ByteArray) = s1 at *
  generalize (s1 ++ ⟨#[126]⟩ : ByteArray) = s2 at *
  generalize (s2 ++ str (decN n) : ByteArray) = s3 at *
  go_enter Tryd.func93, Tryd.ntmps93
  go_wp2_with fail
  refine (HW.out _).mono ?_
  rintro e w1 ⟨rfl, hb2⟩
  have HB1 := LH (HB.out.trans (hb2.mono HB.out.size))
  have HBK1 := LH (HBK.out.belowW hb2)
  clear hb2
  have bzz := HBK1.out
  obtain ⟨b0, b1, b2, b3, b4, b5, b6, b7, b8, b9, b10, b11, -, -, -, -, -, -, -, -, -, -, -, -, lb⟩ := blk12 bzz
  clear bzz
  go_wp2_with fail
  clear b0 b1 b2 b3 b4 b5 b6 b7 b8 b9 b10 b11 lb
  have HSF := LH (fun (W : World) (hW : Below w1.heap.size w1 W) => (show W.cell? ⟨w.heap.size, 0, none⟩ = some (.int .i64 5) ∧ W.cell? ⟨w.heap.size, 1, none⟩ = some (.string (str field)) ∧ W.cell? ⟨w.heap.size, 2, none⟩ = some (.string (str text)) ∧ W.cell? ⟨w.heap.size, 3, none⟩ = some (.int .i64 (n : Int)) ∧ W.cell? ⟨w.heap.size, 4, none⟩ = some (.bool la) ∧ W.cell? ⟨w.heap.size, 5, none⟩ = some (.bool lb) ∧ W.cell? ⟨w.heap.size, 6, none⟩ = some (.string (str lc)) ∧ W.cell? ⟨w.heap.size, 7, none⟩ = some (.bool ra) ∧ W.cell? ⟨w.heap.size, 8, none⟩ = some (.bool rb) ∧ W.cell? ⟨w.heap.size, 9, none⟩ = some (.string (str rc)) ∧ Below w1.heap.size w1 W from by
   have hb := HBK1.out.belowW hW
   refine ⟨hb.cell 0, hb.cell 1, hb.cell 2, hb.cell 3, hb.cell 4, hb.cell 5, hb.cell 6, hb.cell 7, hb.cell 8, hb.cell 9, hW⟩))
  have HC1 := LH (fun (W : World) (hW : Below w1.heap.size w1 W) => (show Calls Tryd.prog 101 #[.string (str text)] W fun e w' => e = .returned (.string (str (wordL text))) ∧ Below w1.heap.size w1 w' from (refWord_any (str text) W (by rw [str_size]; omega)).mono (fun e w' h => ⟨h.1, hW.trans (h.2.mono hW.size)⟩)))
  have HC2 := LH (fun (W : World) (hW : Below w1.heap.size w1 W) => (show Calls Tryd.prog 95 #[.int .i64 (n : Int)] W fun e w' => e = .returned (.string (str (decN n))) ∧ Below w1.heap.size w1 w' from (rdigits_any n hn W).mono (fun e w' h => ⟨h.1, hW.trans (h.2.mono hW.size)⟩)))
  go_region_held3 (fun W => W.cell? ⟨w.heap.size, 0, none⟩ = some (.int .i64 5) ∧ W.cell? ⟨w.heap.size, 1, none⟩ = some (.string (str field)) ∧ W.cell? ⟨w.heap.size, 2, none⟩ = some (.string (str text)) ∧ W.cell? ⟨w.heap.size, 3, none⟩ = some (.int .i64 (n : Int)) ∧ W.cell? ⟨w.heap.size, 4, none⟩ = some (.bool la) ∧ W.cell? ⟨w.heap.size, 5, none⟩ = some (.bool lb) ∧ W.cell? ⟨w.heap.size, 6, none⟩ = some (.string (str lc)) ∧ W.cell? ⟨w.heap.size, 7, none⟩ = some (.bool ra) ∧ W.cell? ⟨w.heap.size, 8, none⟩ = some (.bool rb) ∧ W.cell? ⟨w.heap.size, 9, none⟩ = some (.string (str rc)) ∧ Below w1.heap.size w1 W) (exact HSF.out _ (by repeat (first | assumption | exact Below.refl _ _ | with_reducible refine Below.drew ?_))) (first | ((with_reducible refine (HC1.out _ ?_).mono ?_); (repeat (first | assumption | exact Below.refl _ _ | with_reducible refine Below.drew ?_)); (rintro e w5 ⟨rfl, hk0⟩)) | ((with_reducible refine (HC2.out _ ?_).mono ?_); (repeat (first | assumption | exact Below.refl _ _ | with_reducible refine Below.drew ?_)); (rintro e w5 ⟨rfl, hk1⟩)))
  all_goals
   rename_i hfin
   have HBF := LH (show Below w.heap.size w _ from HB1.out.trans (hfin.2.2.2.2.2.2.2.2.2.2.mono HB1.out.size))
   clear hfin
   go_wp2
   go_ret
   exact ⟨ret_strx (by exact HR.out), HBF.out⟩
theorem dlf_3 : DlfOk 3 (fun n => True) := by
 intro n field text la lb lc ra rb rc oa ka on oc kn kc w hm hn hfl htl hlc hrc
 have HB := LH ((Below.refl w.heap.size w).alloc (Nat.le_refl _) (.cells #[.int .i64 3, .string (str field), .string (str text), .int .i64 (n : Int), .bool la, .bool lb, .string (str lc), .bool ra, .bool rb, .string (str rc), .slice oa on oc, .slice ka kn kc] 27))
 have HBK := LH (Blk.new w 27 #[.int .i64 3, .string (str field), .string (str text), .int .i64 (n : Int), .bool la, .bool lb, .string (str lc), .bool ra, .bool rb, .string (str rc), .slice oa on oc, .slice ka kn kc])
 have HF := LH (show leafF 3 text n ⟨la, lb, lc⟩ ⟨ra, rb, rc⟩ = patternL (litL text ++ [42]) from by unfold leafF; simp)
 have HS := LH (fun W => starred_any (str text) W (by rw [str_size]; omega))
 have hll := litL_length text
 have HP := LH (fun W => refPattern_any (str (litL text ++ [42])) W (by rw [str_size, List.length_append, List.length_singleton]; omega))
 simp only [str_data] at HS HP
 have g1 := patternL_len15 (litL text ++ [42])
 rw [List.length_append, List.length_singleton, ← str_size] at g1
 by_cases h0 : field = []
 ·subst h0
  have e0 : ((str []).toList != []) = false := by rw [ba_toList]; rfl
  have e1 : ((str []).toList == []) = true := by rw [ba_toList]; rfl
  have HH := LH (show (⟨#[]⟩ : ByteArray) = str (headF []) from rfl)
  have gh : (⟨#[]⟩ : ByteArray).size ≤ 1000000000000 := by decide
  have q1 := fun W => str_add (P := Tryd.prog) ⟨#[]⟩ (str (patternL (litL text ++ [42]))) (by omega) W
  have HR := LH (show ⟨#[]⟩ ++ str (patternL (litL text ++ [42])) = str (headF [] ++ leafF 3 text n ⟨la, lb, lc⟩ ⟨ra, rb, rc⟩) from by
   rw [← cat15, HF.out, ← HH.out])
  generalize str (patternL (litL text ++ [42])) = sq at *
  generalize str (litL text ++ [42]) = sl at *
  go_enter Tryd.func93, Tryd.ntmps93
  go_wp2_with fail
  refine (HS.out _).mono ?_
  rintro e w2 ⟨rfl, hb2⟩
  have HB2 := LH (HB.out.trans (hb2.mono HB.out.size))
  clear hb2
  go_wp2_with fail
  refine (HP.out _).mono ?_
  rintro e w3 ⟨rfl, hb2⟩
  have HB3 := LH (HB2.out.trans (hb2.mono HB2.out.size))
  clear hb2
  go_wp2
  go_ret
  exact ⟨ret_strx (by exact HR.out), HB3.out⟩
 ·have e1 : ((str field).toList == []) = false := by rw [ba_toList, str_data]; cases field with | nil => exact absurd rfl h0 | cons c q => rfl
  have e0 : ((str field).toList != []) = true := by rw [bne, e1]; rfl
  have HW := LH (fun W => refWord_any (str field) W (by rw [str_size]; omega))
  simp only [str_data] at HW
  have g2 := wordL_len15 field
  rw [← str_size] at g2
  have HH := LH (rhead_str h0)
  generalize str (wordL field) = sf at *
  have q0 := fun W => str_add (P := Tryd.prog) sf ⟨#[58]⟩ (by rw [show (⟨#[58]⟩ : ByteArray).size = 1 from rfl]; omega) W
  have gh : (sf ++ ⟨#[58]⟩ : ByteArray).size ≤ 1000000000000 := by rw [ba_append_size, show (⟨#[58]⟩ : ByteArray).size = 1 from rfl]; omega
  generalize (sf ++ ⟨#[58]⟩ : ByteArray) = sh at *
  clear h0 g2
  have q1 := fun W => str_add (P := Tryd.prog) sh (str (patternL (litL text ++ [42]))) (by omega) W
  have HR := LH (show sh ++ str (patternL (litL text ++ [42])) = str (headF field ++ leafF 3 text n ⟨la, lb, lc⟩ ⟨ra, rb, rc⟩) from by
   rw [← cat15, HF.out, ← HH.out])
  generalize str (patternL (litL text ++ [42])) = sq at *
  generalize str (litL text ++ [42]) = sl at *
  go_enter Tryd.func93, Tryd.ntmps93
  go_wp2_with fail
  refine (HW.out _).mono ?_
  rintro e w1 ⟨rfl, hb2⟩
  have HB1 := LH (HB.out.trans (hb2.mono HB.out.size))
  have HBK1 := LH (HBK.out.belowW hb2)
  clear hb2
  have bzz := HBK1.out
  obtain ⟨b0, b1, b2, b3, b4, b5, b6, b7, b8, b9, b10, b11, -, -, -, -, -, -, -, -, -, -, -, -, lb⟩ := blk12 bzz
  clear bzz
  go_wp2_with fail
  refine (HS.out _).mono ?_
  rintro e w2 ⟨rfl, hb2⟩
  have HB2 := LH (HB1.out.trans (hb2.mono HB1.out.size))
  clear hb2
  go_wp2_with fail
  refine (HP.out _).mono ?_
  rintro e w3 ⟨rfl, hb2⟩
  have HB3 := LH (HB2.out.trans (hb2.mono HB2.out.size))
  clear hb2
  go_wp2
  go_ret
  exact ⟨ret_strx (by exact HR.out), HB3.out⟩
theorem dlf_6 : DlfOk 6 (fun n => True) := by
 intro n field text la lb lc ra rb rc oa ka on oc kn kc w hm hn hfl htl hlc hrc
 have HB := LH ((Below.refl w.heap.size w).alloc (Nat.le_refl _) (.cells #[.int .i64 6, .string (str field), .string (str text), .int .i64 (n : Int), .bool la, .bool lb, .string (str lc), .bool ra, .bool rb, .string (str rc), .slice oa on oc, .slice ka kn kc] 27))
 have HBK := LH (Blk.new w 27 #[.int .i64 6, .string (str field), .string (str text), .int .i64 (n : Int), .bool la, .bool lb, .string (str lc), .bool ra, .bool rb, .string (str rc), .slice oa on oc, .slice ka kn kc])
 have HS := LH (fun W => rspan_any la lb ra rb n field text lc rc oa ka on oc kn kc W hlc hrc)
 have g1 : (leafF 6 text n ⟨la, lb, lc⟩ ⟨ra, rb, rc⟩).length ≤ 1800000000000 := by
  have h1 := sideF_len ⟨la, lb, lc⟩
  have h2 := sideF_len ⟨ra, rb, rc⟩
  simp only [] at h1 h2
  unfold leafF
  simp only [show ¬ (6 : Int) = 1 by decide, show ¬ (6 : Int) = 2 by decide, show ¬ (6 : Int) = 3 by decide, show ¬ (6 : Int) = 4 by decide, show ¬ (6 : Int) = 5 by decide, if_false, if_true, List.length_cons, List.length_append, List.length_nil]
  omega
 rw [← str_size] at g1
 by_cases h0 : field = []
 ·subst h0
  have e0 : ((str []).toList != []) = false := by rw [ba_toList]; rfl
  have e1 : ((str []).toList == []) = true := by rw [ba_toList]; rfl
  have HH := LH (show (⟨#[]⟩ : ByteArray) = str (headF []) from rfl)
  have gh : (⟨#[]⟩ : ByteArray).size ≤ 1000000000000 := by decide
  have q1 := fun W => str_add (P := Tryd.prog) ⟨#[]⟩ (str (leafF 6 text n ⟨la, lb, lc⟩ ⟨ra, rb, rc⟩)) (by omega) W
  have HR := LH (show ⟨#[]⟩ ++ str (leafF 6 text n ⟨la, lb, lc⟩ ⟨ra, rb, rc⟩) = str (headF [] ++ leafF 6 text n ⟨la, lb, lc⟩ ⟨ra, rb, rc⟩) from by
   rw [← cat15, ← HH.out])
  generalize str (leafF 6 text n ⟨la, lb, lc⟩ ⟨ra, rb, rc⟩) = sq at *
  go_enter Tryd.func93, Tryd.ntmps93
  go_wp2_with fail
  refine (HS.out _).mono ?_
  rintro e w2 ⟨rfl, hb2⟩
  have HB2 := LH (HB.out.trans (hb2.mono HB.out.size))
  clear hb2
  go_wp2
  go_ret
  exact ⟨ret_strx (by exact HR.out), HB2.out⟩
 ·have e1 : ((str field).toList == []) = false := by rw [ba_toList, str_data]; cases field with | nil => exact absurd rfl h0 | cons c q => rfl
  have e0 : ((str field).toList != []) = true := by rw [bne, e1]; rfl
  have HW := LH (fun W => refWord_any (str field) W (by rw [str_size]; omega))
  simp only [str_data] at HW
  have g2 := wordL_len15 field
  rw [← str_size] at g2
  have HH := LH (rhead_str h0)
  generalize str (wordL field) = sf at *
  have q0 := fun W => str_add (P := Tryd.prog) sf ⟨#[58]⟩ (by rw [show (⟨#[58]⟩ : ByteArray).size = 1 from rfl]; omega) W
  have gh : (sf ++ ⟨#[58]⟩ : ByteArray).size ≤ 1000000000000 := by rw [ba_append_size, show (⟨#[58]⟩ : ByteArray).size = 1 from rfl]; omega
  generalize (sf ++ ⟨#[58]⟩ : ByteArray) = sh at *
  clear h0 g2
  have q1 := fun W => str_add (P := Tryd.prog) sh (str (leafF 6 text n ⟨la, lb, lc⟩ ⟨ra, rb, rc⟩)) (by omega) W
  have HR := LH (show sh ++ str (leafF 6 text n ⟨la, lb, lc⟩ ⟨ra, rb, rc⟩) = str (headF field ++ leafF 6 text n ⟨la, lb, lc⟩ ⟨ra, rb, rc⟩) from by
   rw [← cat15, ← HH.out])
  generalize str (leafF 6 text n ⟨la, lb, lc⟩ ⟨ra, rb, rc⟩) = sq at *
  go_enter Tryd.func93, Tryd.ntmps93
  go_wp2_with fail
  refine (HW.out _).mono ?_
  rintro e w1 ⟨rfl, hb2⟩
  have HB1 := LH (HB.out.trans (hb2.mono HB.out.size))
  have HBK1 := LH (HBK.out.belowW hb2)
  clear hb2
  have bzz := HBK1.out
  obtain ⟨b0, b1, b2, b3, b4, b5, b6, b7, b8, b9, b10, b11, -, -, -, -, -, -, -, -, -, -, -, -, lb⟩ := blk12 bzz
  clear bzz
  go_wp2_with fail
  refine (HS.out _).mono ?_
  rintro e w2 ⟨rfl, hb2⟩
  have HB2 := LH (HB1.out.trans (hb2.mono HB1.out.size))
  clear hb2
  go_wp2
  go_ret
  exact ⟨ret_strx (by exact HR.out), HB2.out⟩
theorem dlf_7 : DlfOk 7 (fun n => True) := by
 intro n field text la lb lc ra rb rc oa ka on oc kn kc w hm hn hfl htl hlc hrc
 have HB := LH ((Below.refl w.heap.size w).alloc (Nat.le_refl _) (.cells #[.int .i64 7, .string (str field), .string (str text), .int .i64 (n : Int), .bool la, .bool lb, .string (str lc), .bool ra, .bool rb, .string (str rc), .slice oa on oc, .slice ka kn kc] 27))
 have HBK := LH (Blk.new w 27 #[.int .i64 7, .string (str field), .string (str text), .int .i64 (n : Int), .bool la, .bool lb, .string (str lc), .bool ra, .bool rb, .string (str rc), .slice oa on oc, .slice ka kn kc])
 by_cases h0 : field = []
 ·subst h0
  have e0 : ((str []).toList != []) = false := by rw [ba_toList]; rfl
  have e1 : ((str []).toList == []) = true := by rw [ba_toList]; rfl
  have HH := LH (show (⟨#[]⟩ : ByteArray) = str (headF []) from rfl)
  have gh : (⟨#[]⟩ : ByteArray).size ≤ 1000000000000 := by decide
  have q1 := fun W => str_add (P := Tryd.prog) ⟨#[]⟩ ⟨#[42]⟩ (by rw [show (⟨#[42]⟩ : ByteArray).size = 1 from rfl]; omega) W
  have HR := LH (show ⟨#[]⟩ ++ ⟨#[42]⟩ = str (headF [] ++ leafF 7 text n ⟨la, lb, lc⟩ ⟨ra, rb, rc⟩) from by
   rw [← cat15, ← HH.out]; rfl)
  go_enter Tryd.func93, Tryd.ntmps93
  go_wp2_with fail
  go_wp2
  go_ret
  exact ⟨ret_strx (by exact HR.out), HB.out⟩
 ·have e1 : ((str field).toList == []) = false := by rw [ba_toList, str_data]; cases field with | nil => exact absurd rfl h0 | cons c q => rfl
  have e0 : ((str field).toList != []) = true := by rw [bne, e1]; rfl
  have HW := LH (fun W => refWord_any (str field) W (by rw [str_size]; omega))
  simp only [str_data] at HW
  have g2 := wordL_len15 field
  rw [← str_size] at g2
  have HH := LH (rhead_str h0)
  generalize str (wordL field) = sf at *
  have q0 := fun W => str_add (P := Tryd.prog) sf ⟨#[58]⟩ (by rw [show (⟨#[58]⟩ : ByteArray).size = 1 from rfl]; omega) W
  have gh : (sf ++ ⟨#[58]⟩ : ByteArray).size ≤ 1000000000000 := by rw [ba_append_size, show (⟨#[58]⟩ : ByteArray).size = 1 from rfl]; omega
  generalize (sf ++ ⟨#[58]⟩ : ByteArray) = sh at *
  clear h0 g2
  have q1 := fun W => str_add (P := Tryd.prog) sh ⟨#[42]⟩ (by rw [show (⟨#[42]⟩ : ByteArray).size = 1 from rfl]; omega) W
  have HR := LH (show sh ++ ⟨#[42]⟩ = str (headF field ++ leafF 7 text n ⟨la, lb, lc⟩ ⟨ra, rb, rc⟩) from by
   rw [← cat15, ← HH.out]; rfl)
  go_enter Tryd.func93, Tryd.ntmps93
  go_wp2_with fail
  refine (HW.out _).mono ?_
  rintro e w1 ⟨rfl, hb2⟩
  have HB1 := LH (HB.out.trans (hb2.mono HB.out.size))
  have HBK1 := LH (HBK.out.belowW hb2)
  clear hb2
  have bzz := HBK1.out
  obtain ⟨b0, b1, b2, b3, b4, b5, b6, b7, b8, b9, b10, b11, -, -, -, -, -, -, -, -, -, -, -, -, lb⟩ := blk12 bzz
  clear bzz
  go_wp2
  go_ret
  exact ⟨ret_strx (by exact HR.out), HB1.out⟩
theorem rformleaf_8 (n : Int) (field text : List UInt8) (lo hi : Bd) (oa ka : Option Addr) (on oc kn kc : Nat) (w : World) :
  Calls Tryd.prog 93 #[.agg #[.int .i64 8, .string (str []), .string (str text), .int .i64 n, .bool lo.open_, .bool lo.in_, .string (str lo.text), .bool hi.open_, .bool hi.in_, .string (str hi.text), .slice oa on oc, .slice ka kn kc]] w (StrRet (str [42, 58, 42]) w) := by
 have HB := LH ((Below.refl w.heap.size w).alloc (Nat.le_refl _) (.cells #[.int .i64 8, .string (str []), .string (str text), .int .i64 n, .bool lo.open_, .bool lo.in_, .string (str lo.text), .bool hi.open_, .bool hi.in_, .string (str hi.text), .slice oa on oc, .slice ka kn kc] 27))
 have e0 : ((str []).toList != []) = false := by rw [ba_toList]; rfl
 have e1 : ((str []).toList == []) = true := by rw [ba_toList]; rfl
 go_enter Tryd.func93, Tryd.ntmps93
 go_wp2
 go_ret
 exact ⟨rfl, HB.out⟩
theorem rformleaf_any {kind : Int} {n : Nat} {field text : List UInt8} {lo hi : Bd} {oa ka : Option Addr} {on oc kn kc : Nat} {w : World} (hk : 1 ≤ kind ∧ kind < 8) (hn : n < 9223372036854775808) (hf : field.length ≤ 300000000000) (ht : text.length ≤ 300000000000) (hl : lo.text.length ≤ 300000000000) (hh : hi.text.length ≤ 300000000000) :
  Calls Tryd.prog 93 #[.agg #[.int .i64 kind, .string (str field), .string (str text), .int .i64 (n : Int), .bool lo.open_, .bool lo.in_, .string (str lo.text), .bool hi.open_, .bool hi.in_, .string (str hi.text), .slice oa on oc, .slice ka kn kc]] w (StrRet (str (headF field ++ leafF kind text n lo hi)) w) := by
 obtain ⟨la, lb, lc⟩ := lo
 obtain ⟨ra, rb, rc⟩ := hi
 have h7 : kind = 1 ∨ kind = 2 ∨ kind = 3 ∨ kind = 4 ∨ kind = 5 ∨ kind = 6 ∨ kind = 7 := by omega
 rcases h7 with rfl | rfl | rfl | rfl | rfl | rfl | rfl
 ·exact dlf_1 n field text la lb lc ra rb rc oa ka on oc kn kc w trivial hn hf ht hl hh
 ·by_cases h0 : n = 0
  ·exact dlf_2z n field text la lb lc ra rb rc oa ka on oc kn kc w h0 hn hf ht hl hh
  ·exact dlf_2n n field text la lb lc ra rb rc oa ka on oc kn kc w (by omega) hn hf ht hl hh
 ·exact dlf_3 n field text la lb lc ra rb rc oa ka on oc kn kc w trivial hn hf ht hl hh
 ·exact dlf_4 n field text la lb lc ra rb rc oa ka on oc kn kc w trivial hn hf ht hl hh
 ·exact dlf_5 n field text la lb lc ra rb rc oa ka on oc kn kc w trivial hn hf ht hl hh
 ·exact dlf_6 n field text la lb lc ra rb rc oa ka on oc kn kc w trivial hn hf ht hl hh
 ·exact dlf_7 n field text la lb lc ra rb rc oa ka on oc kn kc w trivial hn hf ht hl hh
end Go.Proofs.YthcldpminmhgkaaDoor
end
