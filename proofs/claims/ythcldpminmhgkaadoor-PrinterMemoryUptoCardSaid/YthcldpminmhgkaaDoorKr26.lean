/- Merged for a claim by shake.py: Jac -/
import Derived.Test.YthcldpminmhgkaaDoorKrA
import Derived.Test.YthcldpminmhgkaaDoorKr25
set_option maxRecDepth 100000
set_option maxHeartbeats 4000000
set_option linter.unusedSimpArgs false
set_option linter.unusedVariables false
section
namespace Go.Proofs.YthcldpminmhgkaaDoor
open Go.RowKit
theorem cat15 (a b : List UInt8) : str a ++ str b = str (a ++ b) := ba_ext (by rw [ba_append, str_data, str_data, str_data])
theorem wordL_len15 (l : List UInt8) : (wordL l).length ≤ 2 * l.length + 1 := by
 unfold wordL
 split
 ·simp; omega
 ·have := lettersTo_length true l l.length
  unfold lettersL; omega
theorem quoteL_len15 (l : List UInt8) : (quoteL l).length ≤ 2 * l.length + 2 := by
 unfold quoteL
 have := quoteTo_length l l.length
 rw [List.length_append, List.length_singleton]; omega
theorem decN_len (n : Nat) (h : n < 9223372036854775808) : (decN n).length ≤ 20 := by
 unfold decN
 rw [Lib.decDigits_length]
 rcases Nat.eq_zero_or_pos n with h0 | h0
 ·rw [h0, Lib.nDigits]; decide
 ·have h1 := Lib.numDigits_eq n h0 (by omega)
  split at h1 <;> omega
theorem sideF_len (b : Bd) : (sideF b).length ≤ 2 * b.text.length + 2 := by
 unfold sideF
 split
 ·simp
 ·split
  ·have := quoteL_len15 []; simp only [List.length_nil] at this; omega
  ·have := wordL_len15 b.text; omega
theorem ret_strx {a b : ByteArray} (h : a = b) : Ending.returned (.string a) = .returned (.string b) := by rw [h]
theorem lside_any (a b : Bool) (l : List UInt8) (w : World) (hE : ClsEnv w) (hl : l.length ≤ 300000000000) :
  Calls Tryd.prog 82 #[.agg #[.bool a, .bool b, .string (str l)]] w (StrRet (str (sideF ⟨a, b, l⟩)) w) := by
 have HB := LH ((Below.refl w.heap.size w).alloc (Nat.le_refl _) (.cells #[.bool a, .bool b, .string (str l)] 23))
 cases a with
 | true =>
  go_enter Tryd.func82, Tryd.ntmps82
  go_wp2
  go_ret
  exact ⟨ret_strx (by unfold sideF; rw [if_pos rfl]; rfl), HB.out⟩
 | false =>
  by_cases h0 : l = []
  ·subst h0
   have t0 : ((str []).toList == []) = true := by rw [ba_toList]; rfl
   have HQ := LH (fun W => quote_any (str []) W (by show (0 : Nat) ≤ _; omega))
   go_enter Tryd.func82, Tryd.ntmps82
   go_wp2_with fail
   refine (HQ.out _).mono ?_
   rintro e w2 ⟨rfl, hb2⟩
   have HB2 := LH (HB.out.trans (hb2.mono HB.out.size))
   clear hb2
   go_wp2
   go_ret
   exact ⟨ret_strx (by unfold sideF; rw [if_neg (by simp), if_pos rfl]; rfl), HB2.out⟩
  ·have t0 : ((str l).toList == []) = false := by rw [ba_toList, str_data]; cases l with | nil => exact absurd rfl h0 | cons c l => rfl
   have HQ := LH (word_any (str l) _ (hE.below HB.out) (by rw [str_size]; omega))
   have HF := LH (show sideF ⟨false, b, l⟩ = wordL l from by unfold sideF; rw [if_neg (by simp), if_neg h0])
   rw [str_data] at HQ
   clear hE h0
   go_enter Tryd.func82, Tryd.ntmps82
   go_wp2_with fail
   refine HQ.out.mono ?_
   rintro e w2 ⟨rfl, hb2⟩
   have HB2 := LH (HB.out.trans (hb2.mono HB.out.size))
   clear hb2
   go_wp2
   go_ret
   exact ⟨ret_strx (by rw [HF.out]), HB2.out⟩
def PlfOk (kind : Int) (m : Nat → Prop) : Prop := ∀ (n : Nat) (field text : List UInt8) (la lb : Bool) (lc : List UInt8) (ra rb : Bool) (rc : List UInt8) (oa ka : Option Addr) (on oc kn kc : Nat) (w : World), m n → n < 9223372036854775808 → text.length ≤ 300000000000 → lc.length ≤ 300000000000 → rc.length ≤ 300000000000 → ClsEnv w → P10 w →
 Calls Tryd.prog 58 #[.agg #[.int .i64 kind, .string (str field), .string (str text), .int .i64 (n : Int), .bool la, .bool lb, .string (str lc), .bool ra, .bool rb, .string (str rc), .slice oa on oc, .slice ka kn kc]] w (StrRet (str (leafF kind text n ⟨la, lb, lc⟩ ⟨ra, rb, rc⟩)) w)
theorem plf_1 : PlfOk 1 (fun _ => True) := by
 intro n field text la lb lc ra rb rc oa ka on oc kn kc w hm hn htl hlc hrc hE hP
 have HB := LH ((Below.refl w.heap.size w).alloc (Nat.le_refl _) (.cells #[.int .i64 1, .string (str field), .string (str text), .int .i64 (n : Int), .bool la, .bool lb, .string (str lc), .bool ra, .bool rb, .string (str rc), .slice oa on oc, .slice ka kn kc] 27))
 have HQ := LH (word_any (str text) _ (hE.below HB.out) (by rw [str_size]; omega))
 have HF := LH (show leafF 1 text n ⟨la, lb, lc⟩ ⟨ra, rb, rc⟩ = wordL text from by unfold leafF; simp)
 rw [str_data] at HQ
 clear hE hP
 go_enter Tryd.func58, Tryd.ntmps58
 go_wp2_with fail
 refine HQ.out.mono ?_
 rintro e w2 ⟨rfl, hb2⟩
 have HB2 := LH (HB.out.trans (hb2.mono HB.out.size))
 clear hb2
 go_wp2
 go_ret
 exact ⟨ret_strx (by rw [HF.out]), HB2.out⟩
theorem plf_4 : PlfOk 4 (fun _ => True) := by
 intro n field text la lb lc ra rb rc oa ka on oc kn kc w hm hn htl hlc hrc hE hP
 have HB := LH ((Below.refl w.heap.size w).alloc (Nat.le_refl _) (.cells #[.int .i64 4, .string (str field), .string (str text), .int .i64 (n : Int), .bool la, .bool lb, .string (str lc), .bool ra, .bool rb, .string (str rc), .slice oa on oc, .slice ka kn kc] 27))
 have HQ := LH (pattern_any (str text) _ (by rw [str_size]; omega) (hE.below HB.out))
 have HF := LH (show leafF 4 text n ⟨la, lb, lc⟩ ⟨ra, rb, rc⟩ = patternL text from by unfold leafF; simp)
 rw [str_data] at HQ
 clear hE hP
 go_enter Tryd.func58, Tryd.ntmps58
 go_wp2_with fail
 refine HQ.out.mono ?_
 rintro e w2 ⟨rfl, hb2⟩
 have HB2 := LH (HB.out.trans (hb2.mono HB.out.size))
 clear hb2
 go_wp2
 go_ret
 exact ⟨ret_strx (by rw [HF.out]), HB2.out⟩
theorem plf_2z : PlfOk 2 (fun n => n = 0) := by
 intro n field text la lb lc ra rb rc oa ka on oc kn kc w hm hn htl hlc hrc hE hP
 have HB := LH ((Below.refl w.heap.size w).alloc (Nat.le_refl _) (.cells #[.int .i64 2, .string (str field), .string (str text), .int .i64 (n : Int), .bool la, .bool lb, .string (str lc), .bool ra, .bool rb, .string (str rc), .slice oa on oc, .slice ka kn kc] 27))
 have HQ := LH (quote_any (str text) (w.alloc (.cells #[.int .i64 2, .string (str field), .string (str text), .int .i64 (n : Int), .bool la, .bool lb, .string (str lc), .bool ra, .bool rb, .string (str rc), .slice oa on oc, .slice ka kn kc] 27)) (by rw [str_size]; omega))
 have HF := LH (show leafF 2 text n ⟨la, lb, lc⟩ ⟨ra, rb, rc⟩ = quoteL text from by unfold leafF; rw [hm]; simp)
 rw [str_data] at HQ
 clear hE hP
 subst hm
 go_enter Tryd.func58, Tryd.ntmps58
 go_wp2_with fail
 refine HQ.out.mono ?_
 rintro e w2 ⟨rfl, hb2⟩
 have HB2 := LH (HB.out.trans (hb2.mono HB.out.size))
 clear hb2
 go_wp2
 go_ret
 exact ⟨ret_strx (by rw [HF.out]), HB2.out⟩
theorem plf_7 : PlfOk 7 (fun _ => True) := by
 intro n field text la lb lc ra rb rc oa ka on oc kn kc w hm hn htl hlc hrc hE hP
 have HB := LH ((Below.refl w.heap.size w).alloc (Nat.le_refl _) (.cells #[.int .i64 7, .string (str field), .string (str text), .int .i64 (n : Int), .bool la, .bool lb, .string (str lc), .bool ra, .bool rb, .string (str rc), .slice oa on oc, .slice ka kn kc] 27))
 clear hE hP
 go_enter Tryd.func58, Tryd.ntmps58
 go_wp2
 go_ret
 exact ⟨ret_strx (by unfold leafF; rfl), HB.out⟩
theorem plf_2n : PlfOk 2 (fun n => 0 < n) := by
 intro n field text la lb lc ra rb rc oa ka on oc kn kc w hm hn htl hlc hrc hE hP
 have HB := LH ((Below.refl w.heap.size w).alloc (Nat.le_refl _) (.cells #[.int .i64 2, .string (str field), .string (str text), .int .i64 (n : Int), .bool la, .bool lb, .string (str lc), .bool ra, .bool rb, .string (str rc), .slice oa on oc, .slice ka kn kc] 27))
 have HW := LH (Blk.new w 27 #[.int .i64 2, .string (str field), .string (str text), .int .i64 (n : Int), .bool la, .bool lb, .string (str lc), .bool ra, .bool rb, .string (str rc), .slice oa on oc, .slice ka kn kc])
 have HEE := LH (hE.below HB.out)
 have HPP := LH (hP.below HB.out)
 have HSF := LH (fun (W : World) (hW : Below (w.alloc (.cells #[.int .i64 2, .string (str field), .string (str text), .int .i64 (n : Int), .bool la, .bool lb, .string (str lc), .bool ra, .bool rb, .string (str rc), .slice oa on oc, .slice ka kn kc] 27)).heap.size (w.alloc (.cells #[.int .i64 2, .string (str field), .string (str text), .int .i64 (n : Int), .bool la, .bool lb, .string (str lc), .bool ra, .bool rb, .string (str rc), .slice oa on oc, .slice ka kn kc] 27)) W) => (show W.cell? ⟨w.heap.size, 0, none⟩ = some (.int .i64 2) ∧ W.cell? ⟨w.heap.size, 1, none⟩ = some (.string (str field)) ∧ W.cell? ⟨w.heap.size, 2, none⟩ = some (.string (str text)) ∧ W.cell? ⟨w.heap.size, 3, none⟩ = some (.int .i64 (n : Int)) ∧ W.cell? ⟨w.heap.size, 4, none⟩ = some (.bool la) ∧ W.cell? ⟨w.heap.size, 5, none⟩ = some (.bool lb) ∧ W.cell? ⟨w.heap.size, 6, none⟩ = some (.string (str lc)) ∧ W.cell? ⟨w.heap.size, 7, none⟩ = some (.bool ra) ∧ W.cell? ⟨w.heap.size, 8, none⟩ = some (.bool rb) ∧ W.cell? ⟨w.heap.size, 9, none⟩ = some (.string (str rc)) ∧ Below (w.alloc (.cells #[.int .i64 2, .string (str field), .string (str text), .int .i64 (n : Int), .bool la, .bool lb, .string (str lc), .bool ra, .bool rb, .string (str rc), .slice oa on oc, .slice ka kn kc] 27)).heap.size (w.alloc (.cells #[.int .i64 2, .string (str field), .string (str text), .int .i64 (n : Int), .bool la, .bool lb, .string (str lc), .bool ra, .bool rb, .string (str rc), .slice oa on oc, .slice ka kn kc] 27)) W from by
  have hb := HW.out.belowW hW
  refine ⟨hb.cell 0, hb.cell 1, hb.cell 2, hb.cell 3, hb.cell 4, hb.cell 5, hb.cell 6, hb.cell 7, hb.cell 8, hb.cell 9, hW⟩))
 have HC1 := LH (fun (W : World) (hW : Below (w.alloc (.cells #[.int .i64 2, .string (str field), .string (str text), .int .i64 (n : Int), .bool la, .bool lb, .string (str lc), .bool ra, .bool rb, .string (str rc), .slice oa on oc, .slice ka kn kc] 27)).heap.size (w.alloc (.cells #[.int .i64 2, .string (str field), .string (str text), .int .i64 (n : Int), .bool la, .bool lb, .string (str lc), .bool ra, .bool rb, .string (str rc), .slice oa on oc, .slice ka kn kc] 27)) W) => (show Calls Tryd.prog 78 #[.string (str text)] W fun e w' => e = .returned (.string (str (quoteL text))) ∧ Below (w.alloc (.cells #[.int .i64 2, .string (str field), .string (str text), .int .i64 (n : Int), .bool la, .bool lb, .string (str lc), .bool ra, .bool rb, .string (str rc), .slice oa on oc, .slice ka kn kc] 27)).heap.size (w.alloc (.cells #[.int .i64 2, .string (str field), .string (str text), .int .i64 (n : Int), .bool la, .bool lb, .string (str lc), .bool ra, .bool rb, .string (str rc), .slice oa on oc, .slice ka kn kc] 27)) w' from (quote_any (str text) W (by rw [str_size]; omega)).mono (fun e w' h => ⟨h.1, hW.trans (h.2.mono hW.size)⟩)))
 have HC2 := LH (fun (W : World) (hW : Below (w.alloc (.cells #[.int .i64 2, .string (str field), .string (str text), .int .i64 (n : Int), .bool la, .bool lb, .string (str lc), .bool ra, .bool rb, .string (str rc), .slice oa on oc, .slice ka kn kc] 27)).heap.size (w.alloc (.cells #[.int .i64 2, .string (str field), .string (str text), .int .i64 (n : Int), .bool la, .bool lb, .string (str lc), .bool ra, .bool rb, .string (str rc), .slice oa on oc, .slice ka kn kc] 27)) W) => (show Calls Tryd.prog 79 #[.int .i64 (n : Int)] W fun e w' => e = .returned (.string (str (decN n))) ∧ Below (w.alloc (.cells #[.int .i64 2, .string (str field), .string (str text), .int .i64 (n : Int), .bool la, .bool lb, .string (str lc), .bool ra, .bool rb, .string (str rc), .slice oa on oc, .slice ka kn kc] 27)).heap.size (w.alloc (.cells #[.int .i64 2, .string (str field), .string (str text), .int .i64 (n : Int), .bool la, .bool lb, .string (str lc), .bool ra, .bool rb, .string (str rc), .slice oa on oc, .slice ka kn kc] 27)) w' from (itoa_any n hn W (HPP.out.below hW)).mono (fun e w' h => ⟨h.1, hW.trans (h.2.mono hW.size)⟩)))
 have HF := LH (show str (quoteL text) ++ ⟨#[126]⟩ ++ str (decN n) = str (leafF 2 text n ⟨la, lb, lc⟩ ⟨ra, rb, rc⟩) from by
  rw [show (⟨#[126]⟩ : ByteArray) = str [126] from rfl, cat15, cat15]
  unfold leafF
  simp [hm])
 have g1 := quoteL_len15 text
 have g2 := decN_len n hn
 have q1 := fun W => str_add (P := Tryd.prog) (str (quoteL text)) ⟨#[126]⟩ (by rw [str_size, show (⟨#[126]⟩ : ByteArray).size = 1 from rfl]; omega) W
 have q2 := fun W => str_add (P := Tryd.prog) (str (quoteL text) ++ ⟨#[126]⟩) (str (decN n)) (by rw [ba_append_size, str_size, str_size, show (⟨#[126]⟩ : ByteArray).size = 1 from rfl]; omega) W
 have hn0 : (0 : Int) < (n : Int) := by omega
 clear g1 g2 hE hP hlc hrc htl
 generalize str (quoteL text) = sa at *
 generalize str (decN n) = sb at *
 generalize (sa ++ ⟨#[126]⟩ : ByteArray) = sc at *
 go_enter Tryd.func58, Tryd.ntmps58
 go_wp2_with fail
 go_region_held3 (fun W => W.cell? ⟨w.heap.size, 0, none⟩ = some (.int .i64 2) ∧ W.cell? ⟨w.heap.size, 1, none⟩ = some (.string (str field)) ∧ W.cell? ⟨w.heap.size, 2, none⟩ = some (.string (str text)) ∧ W.cell? ⟨w.heap.size, 3, none⟩ = some (.int .i64 (n : Int)) ∧ W.cell? ⟨w.heap.size, 4, none⟩ = some (.bool la) ∧ W.cell? ⟨w.heap.size, 5, none⟩ = some (.bool lb) ∧ W.cell? ⟨w.heap.size, 6, none⟩ = some (.string (str lc)) ∧ W.cell? ⟨w.heap.size, 7, none⟩ = some (.bool ra) ∧ W.cell? ⟨w.heap.size, 8, none⟩ = some (.bool rb) ∧ W.cell? ⟨w.heap.size, 9, none⟩ = some (.string (str rc)) ∧ Below (w.alloc (.cells #[.int .i64 2, .string (str field), .string (str text), .int .i64 (n : Int), .bool la, .bool lb, .string (str lc), .bool ra, .bool rb, .string (str rc), .slice oa on oc, .slice ka kn kc] 27)).heap.size (w.alloc (.cells #[.int .i64 2, .string (str field), .string (str text), .int .i64 (n : Int), .bool la, .bool lb, .string (str lc), .bool ra, .bool rb, .string (str rc), .slice oa on oc, .slice ka kn kc] 27)) W) (exact HSF.out _ (by repeat (first | assumption | exact Below.refl _ _ | with_reducible refine Below.drew ?_))) (first | ((with_reducible refine (HC1.out _ ?_).mono ?_); (repeat (first | assumption | exact Below.refl _ _ | with_reducible refine Below.drew ?_)); (rintro e w5 ⟨rfl, hk0⟩)) | ((with_reducible refine (HC2.out _ ?_).mono ?_); (repeat (first | assumption | exact Below.refl _ _ | with_reducible refine Below.drew ?_)); (rintro e w5 ⟨rfl, hk1⟩)))
 all_goals
  rename_i hfin
  have HBF := LH (show Below w.heap.size w _ from HB.out.trans (hfin.2.2.2.2.2.2.2.2.2.2.mono HB.out.size))
  clear hfin
  go_wp2
  go_ret
  exact ⟨ret_strx HF.out, HBF.out⟩
theorem plf_5 : PlfOk 5 (fun n => True) := by
 intro n field text la lb lc ra rb rc oa ka on oc kn kc w hm hn htl hlc hrc hE hP
 have HB := LH ((Below.refl w.heap.size w).alloc (Nat.le_refl _) (.cells #[.int .i64 5, .string (str field), .string (str text), .int .i64 (n : Int), .bool la, .bool lb, .string (str lc), .bool ra, .bool rb, .string (str rc), .slice oa on oc, .slice ka kn kc] 27))
 have HW := LH (Blk.new w 27 #[.int .i64 5, .string (str field), .string (str text), .int .i64 (n : Int), .bool la, .bool lb, .string (str lc), .bool ra, .bool rb, .string (str rc), .slice oa on oc, .slice ka kn kc])
 have HEE := LH (hE.below HB.out)
 have HPP := LH (hP.below HB.out)
 have HSF := LH (fun (W : World) (hW : Below (w.alloc (.cells #[.int .i64 5, .string (str field), .string (str text), .int .i64 (n : Int), .bool la, .bool lb, .string (str lc), .bool ra, .bool rb, .string (str rc), .slice oa on oc, .slice ka kn kc] 27)).heap.size (w.alloc (.cells #[.int .i64 5, .string (str field), .string (str text), .int .i64 (n : Int), .bool la, .bool lb, .string (str lc), .bool ra, .bool rb, .string (str rc), .slice oa on oc, .slice ka kn kc] 27)) W) => (show W.cell? ⟨w.heap.size, 0, none⟩ = some (.int .i64 5) ∧ W.cell? ⟨w.heap.size, 1, none⟩ = some (.string (str field)) ∧ W.cell? ⟨w.heap.size, 2, none⟩ = some (.string (str text)) ∧ W.cell? ⟨w.heap.size, 3, none⟩ = some (.int .i64 (n : Int)) ∧ W.cell? ⟨w.heap.size, 4, none⟩ = some (.bool la) ∧ W.cell? ⟨w.heap.size, 5, none⟩ = some (.bool lb) ∧ W.cell? ⟨w.heap.size, 6, none⟩ = some (.string (str lc)) ∧ W.cell? ⟨w.heap.size, 7, none⟩ = some (.bool ra) ∧ W.cell? ⟨w.heap.size, 8, none⟩ = some (.bool rb) ∧ W.cell? ⟨w.heap.size, 9, none⟩ = some (.string (str rc)) ∧ Below (w.alloc (.cells #[.int .i64 5, .string (str field), .string (str text), .int .i64 (n : Int), .bool la, .bool lb, .string (str lc), .bool ra, .bool rb, .string (str rc), .slice oa on oc, .slice ka kn kc] 27)).heap.size (w.alloc (.cells #[.int .i64 5, .string (str field), .string (str text), .int .i64 (n : Int), .bool la, .bool lb, .string (str lc), .bool ra, .bool rb, .string (str rc), .slice oa on oc, .slice ka kn kc] 27)) W from by
  have hb := HW.out.belowW hW
  refine ⟨hb.cell 0, hb.cell 1, hb.cell 2, hb.cell 3, hb.cell 4, hb.cell 5, hb.cell 6, hb.cell 7, hb.cell 8, hb.cell 9, hW⟩))
 have HC1 := LH (fun (W : World) (hW : Below (w.alloc (.cells #[.int .i64 5, .string (str field), .string (str text), .int .i64 (n : Int), .bool la, .bool lb, .string (str lc), .bool ra, .bool rb, .string (str rc), .slice oa on oc, .slice ka kn kc] 27)).heap.size (w.alloc (.cells #[.int .i64 5, .string (str field), .string (str text), .int .i64 (n : Int), .bool la, .bool lb, .string (str lc), .bool ra, .bool rb, .string (str rc), .slice oa on oc, .slice ka kn kc] 27)) W) => (show Calls Tryd.prog 57 #[.string (str text)] W fun e w' => e = .returned (.string (str (wordL text))) ∧ Below (w.alloc (.cells #[.int .i64 5, .string (str field), .string (str text), .int .i64 (n : Int), .bool la, .bool lb, .string (str lc), .bool ra, .bool rb, .string (str rc), .slice oa on oc, .slice ka kn kc] 27)).heap.size (w.alloc (.cells #[.int .i64 5, .string (str field), .string (str text), .int .i64 (n : Int), .bool la, .bool lb, .string (str lc), .bool ra, .bool rb, .string (str rc), .slice oa on oc, .slice ka kn kc] 27)) w' from (word_any (str text) W (HEE.out.below hW) (by rw [str_size]; omega)).mono (fun e w' h => ⟨h.1, hW.trans (h.2.mono hW.size)⟩)))
 have HC2 := LH (fun (W : World) (hW : Below (w.alloc (.cells #[.int .i64 5, .string (str field), .string (str text), .int .i64 (n : Int), .bool la, .bool lb, .string (str lc), .bool ra, .bool rb, .string (str rc), .slice oa on oc, .slice ka kn kc] 27)).heap.size (w.alloc (.cells #[.int .i64 5, .string (str field), .string (str text), .int .i64 (n : Int), .bool la, .bool lb, .string (str lc), .bool ra, .bool rb, .string (str rc), .slice oa on oc, .slice ka kn kc] 27)) W) => (show Calls Tryd.prog 79 #[.int .i64 (n : Int)] W fun e w' => e = .returned (.string (str (decN n))) ∧ Below (w.alloc (.cells #[.int .i64 5, .string (str field), .string (str text), .int .i64 (n : Int), .bool la, .bool lb, .string (str lc), .bool ra, .bool rb, .string (str rc), .slice oa on oc, .slice ka kn kc] 27)).heap.size (w.alloc (.cells #[.int .i64 5, .string (str field), .string (str text), .int .i64 (n : Int), .bool la, .bool lb, .string (str lc), .bool ra, .bool rb, .string (str rc), .slice oa on oc, .slice ka kn kc] 27)) w' from (itoa_any n hn W (HPP.out.below hW)).mono (fun e w' h => ⟨h.1, hW.trans (h.2.mono hW.size)⟩)))
 have HF := LH (show str (wordL text) ++ ⟨#[126]⟩ ++ str (decN n) = str (leafF 5 text n ⟨la, lb, lc⟩ ⟨ra, rb, rc⟩) from by
  rw [show (⟨#[126]⟩ : ByteArray) = str [126] from rfl, cat15, cat15]
  unfold leafF
  simp)
 have g1 := wordL_len15 text
 have g2 := decN_len n hn
 have q1 := fun W => str_add (P := Tryd.prog) (str (wordL text)) ⟨#[126]⟩ (by rw [str_size, show (⟨#[126]⟩ : ByteArray).size = 1 from rfl]; omega) W
 have q2 := fun W => str_add (P := Tryd.prog) (str (wordL text) ++ ⟨#[126]⟩) (str (decN n)) (by rw [ba_append_size, str_size, str_size, show (⟨#[126]⟩ : ByteArray).size = 1 from rfl]; omega) W
 clear g1 g2 hE hP hlc hrc htl
 generalize str (wordL text) = sa at *
 generalize str (decN n) = sb at *
 generalize (sa ++ ⟨#[126]⟩ : ByteArray) = sc at *
 go_enter Tryd.func58, Tryd.ntmps58
 go_wp2_with fail
 go_region_held3 (fun W => W.cell? ⟨w.heap.size, 0, none⟩ = some (.int .i64 5) ∧ W.cell? ⟨w.heap.size, 1, none⟩ = some (.string (str field)) ∧ W.cell? ⟨w.heap.size, 2, none⟩ = some (.string (str text)) ∧ W.cell? ⟨w.heap.size, 3, none⟩ = some (.int .i64 (n : Int)) ∧ W.cell? ⟨w.heap.size, 4, none⟩ = some (.bool la) ∧ W.cell? ⟨w.heap.size, 5, none⟩ = some (.bool lb) ∧ W.cell? ⟨w.heap.size, 6, none⟩ = some (.string (str lc)) ∧ W.cell? ⟨w.heap.size, 7, none⟩ = some (.bool ra) ∧ W.cell? ⟨w.heap.size, 8, none⟩ = some (.bool rb) ∧ W.cell? ⟨w.heap.size, 9, none⟩ = some (.string (str rc)) ∧ Below (w.alloc (.cells #[.int .i64 5, .string (str field), .string (str text), .int .i64 (n : Int), .bool la, .bool lb, .string (str lc), .bool ra, .bool rb, .string (str rc), .slice oa on oc, .slice ka kn kc] 27)).heap.size (w.alloc (.cells #[.int .i64 5, .string (str field), .string (str text), .int .i64 (n : Int), .bool la, .bool lb, .string (str lc), .bool ra, .bool rb, .string (str rc), .slice oa on oc, .slice ka kn kc] 27)) W) (exact HSF.out _ (by repeat (first | assumption | exact Below.refl _ _ | with_reducible refine Below.drew ?_))) (first | ((with_reducible refine (HC1.out _ ?_).mono ?_); (repeat (first | assumption | exact Below.refl _ _ | with_reducible refine Below.drew ?_)); (rintro e w5 ⟨rfl, hk0⟩)) | ((with_reducible refine (HC2.out _ ?_).mono ?_); (repeat (first | assumption | exact Below.refl _ _ | with_reducible refine Below.drew ?_)); (rintro e w5 ⟨rfl, hk1⟩)))
 all_goals
  rename_i hfin
  have HBF := LH (show Below w.heap.size w _ from HB.out.trans (hfin.2.2.2.2.2.2.2.2.2.2.mono HB.out.size))
  clear hfin
  go_wp2
  go_ret
  exact ⟨ret_strx HF.out, HBF.out⟩
theorem plf_3 : PlfOk 3 (fun _ => True) := by
 intro n field text la lb lc ra rb rc oa ka on oc kn kc w hm hn htl hlc hrc hE hP
 have HB := LH ((Below.refl w.heap.size w).alloc (Nat.le_refl _) (.cells #[.int .i64 3, .string (str field), .string (str text), .int .i64 (n : Int), .bool la, .bool lb, .string (str lc), .bool ra, .bool rb, .string (str rc), .slice oa on oc, .slice ka kn kc] 27))
 have HQ := LH (fun W => literal_any (str text) W (by rw [str_size]; omega))
 have hll := litL_length text
 have q1 := fun W => str_add (P := Tryd.prog) (str (litL text)) ⟨#[42]⟩ (by rw [str_size, show (⟨#[42]⟩ : ByteArray).size = 1 from rfl]; omega) W
 have HE := LH (hE.below HB.out)
 have HP := LH (fun (W : World) (hW : ClsEnv W) => (show Calls Tryd.prog 80 #[.string (str (litL text) ++ ⟨#[42]⟩)] W (StrRet (str (patternL (litL text ++ [42]))) W) from by
  have h := pattern_any (str (litL text) ++ ⟨#[42]⟩) W (by rw [ba_append_size, str_size, show (⟨#[42]⟩ : ByteArray).size = 1 from rfl]; omega) hW
  rw [show (str (litL text) ++ ⟨#[42]⟩ : ByteArray) = str (litL text ++ [42]) from by rw [show (⟨#[42]⟩ : ByteArray) = str [42] from rfl, cat15]] at h ⊢
  rw [str_data] at h
  exact h))
 have HF := LH (show leafF 3 text n ⟨la, lb, lc⟩ ⟨ra, rb, rc⟩ = patternL (litL text ++ [42]) from by unfold leafF; simp)
 simp only [str_data] at HQ
 generalize str (litL text) = sl at *
 generalize (sl ++ ⟨#[42]⟩ : ByteArray) = sm at *
 clear hE hP hll
 go_enter Tryd.func58, Tryd.ntmps58
 go_wp2_with fail
 refine (HQ.out _).mono ?_
 rintro e w2 ⟨rfl, hb2⟩
 have HB2 := LH (HB.out.trans (hb2.mono HB.out.size))
 have HE2 := LH (HE.out.below hb2)
 clear hb2
 go_wp2_with fail
 refine (HP.out _ HE2.out).mono ?_
 rintro e w3 ⟨rfl, hb3⟩
 have HB3 := LH (HB2.out.trans (hb3.mono HB2.out.size))
 clear hb3
 go_wp2
 go_ret
 exact ⟨ret_strx (by rw [HF.out]), HB3.out⟩
theorem plf_6 : PlfOk 6 (fun _ => True) := by
 intro n field text la lb lc ra rb rc oa ka on oc kn kc w hm hn htl hlc hrc hE hP
 have HB := LH ((Below.refl w.heap.size w).alloc (Nat.le_refl _) (.cells #[.int .i64 6, .string (str field), .string (str text), .int .i64 (n : Int), .bool la, .bool lb, .string (str lc), .bool ra, .bool rb, .string (str rc), .slice oa on oc, .slice ka kn kc] 27))
 have HW := LH (Blk.new w 27 #[.int .i64 6, .string (str field), .string (str text), .int .i64 (n : Int), .bool la, .bool lb, .string (str lc), .bool ra, .bool rb, .string (str rc), .slice oa on oc, .slice ka kn kc])
 have HEE := LH (hE.below HB.out)
 have HPP := LH (hP.below HB.out)
 have HSF := LH (fun (W : World) (hW : Below (w.alloc (.cells #[.int .i64 6, .string (str field), .string (str text), .int .i64 (n : Int), .bool la, .bool lb, .string (str lc), .bool ra, .bool rb, .string (str rc), .slice oa on oc, .slice ka kn kc] 27)).heap.size (w.alloc (.cells #[.int .i64 6, .string (str field), .string (str text), .int .i64 (n : Int), .bool la, .bool lb, .string (str lc), .bool ra, .bool rb, .string (str rc), .slice oa on oc, .slice ka kn kc] 27)) W) => (show W.cell? ⟨w.heap.size, 0, none⟩ = some (.int .i64 6) ∧ W.cell? ⟨w.heap.size, 1, none⟩ = some (.string (str field)) ∧ W.cell? ⟨w.heap.size, 2, none⟩ = some (.string (str text)) ∧ W.cell? ⟨w.heap.size, 3, none⟩ = some (.int .i64 (n : Int)) ∧ W.cell? ⟨w.heap.size, 4, none⟩ = some (.bool la) ∧ W.cell? ⟨w.heap.size, 5, none⟩ = some (.bool lb) ∧ W.cell? ⟨w.heap.size, 6, none⟩ = some (.string (str lc)) ∧ W.cell? ⟨w.heap.size, 7, none⟩ = some (.bool ra) ∧ W.cell? ⟨w.heap.size, 8, none⟩ = some (.bool rb) ∧ W.cell? ⟨w.heap.size, 9, none⟩ = some (.string (str rc)) ∧ Below (w.alloc (.cells #[.int .i64 6, .string (str field), .string (str text), .int .i64 (n : Int), .bool la, .bool lb, .string (str lc), .bool ra, .bool rb, .string (str rc), .slice oa on oc, .slice ka kn kc] 27)).heap.size (w.alloc (.cells #[.int .i64 6, .string (str field), .string (str text), .int .i64 (n : Int), .bool la, .bool lb, .string (str lc), .bool ra, .bool rb, .string (str rc), .slice oa on oc, .slice ka kn kc] 27)) W from by
  have hb := HW.out.belowW hW
  refine ⟨hb.cell 0, hb.cell 1, hb.cell 2, hb.cell 3, hb.cell 4, hb.cell 5, hb.cell 6, hb.cell 7, hb.cell 8, hb.cell 9, hW⟩))
 have HC1 := LH (fun (W : World) (hW : Below (w.alloc (.cells #[.int .i64 6, .string (str field), .string (str text), .int .i64 (n : Int), .bool la, .bool lb, .string (str lc), .bool ra, .bool rb, .string (str rc), .slice oa on oc, .slice ka kn kc] 27)).heap.size (w.alloc (.cells #[.int .i64 6, .string (str field), .string (str text), .int .i64 (n : Int), .bool la, .bool lb, .string (str lc), .bool ra, .bool rb, .string (str rc), .slice oa on oc, .slice ka kn kc] 27)) W) => (show Calls Tryd.prog 82 #[.agg #[.bool la, .bool lb, .string (str lc)]] W fun e w' => e = .returned (.string (str (sideF ⟨la, lb, lc⟩))) ∧ Below (w.alloc (.cells #[.int .i64 6, .string (str field), .string (str text), .int .i64 (n : Int), .bool la, .bool lb, .string (str lc), .bool ra, .bool rb, .string (str rc), .slice oa on oc, .slice ka kn kc] 27)).heap.size (w.alloc (.cells #[.int .i64 6, .string (str field), .string (str text), .int .i64 (n : Int), .bool la, .bool lb, .string (str lc), .bool ra, .bool rb, .string (str rc), .slice oa on oc, .slice ka kn kc] 27)) w' from (lside_any la lb lc W (HEE.out.below hW) (by omega)).mono (fun e w' h => ⟨h.1, hW.trans (h.2.mono hW.size)⟩)))
 have HC2 := LH (fun (W : World) (hW : Below (w.alloc (.cells #[.int .i64 6, .string (str field), .string (str text), .int .i64 (n : Int), .bool la, .bool lb, .string (str lc), .bool ra, .bool rb, .string (str rc), .slice oa on oc, .slice ka kn kc] 27)).heap.size (w.alloc (.cells #[.int .i64 6, .string (str field), .string (str text), .int .i64 (n : Int), .bool la, .bool lb, .string (str lc), .bool ra, .bool rb, .string (str rc), .slice oa on oc, .slice ka kn kc] 27)) W) => (show Calls Tryd.prog 82 #[.agg #[.bool ra, .bool rb, .string (str rc)]] W fun e w' => e = .returned (.string (str (sideF ⟨ra, rb, rc⟩))) ∧ Below (w.alloc (.cells #[.int .i64 6, .string (str field), .string (str text), .int .i64 (n : Int), .bool la, .bool lb, .string (str lc), .bool ra, .bool rb, .string (str rc), .slice oa on oc, .slice ka kn kc] 27)).heap.size (w.alloc (.cells #[.int .i64 6, .string (str field), .string (str text), .int .i64 (n : Int), .bool la, .bool lb, .string (str lc), .bool ra, .bool rb, .string (str rc), .slice oa on oc, .slice ka kn kc] 27)) w' from (lside_any ra rb rc W (HEE.out.below hW) (by omega)).mono (fun e w' h => ⟨h.1, hW.trans (h.2.mono hW.size)⟩)))
 have HF := LH (fun (o z : UInt8) (ho : (if lb = true ∨ la = true then 91 else 123) = o) (hz : (if rb = true ∨ ra = true then 93 else 125) = z) => (show str [o] ++ str (sideF ⟨la, lb, lc⟩) ++ ⟨#[32, 84, 79, 32]⟩ ++ str (sideF ⟨ra, rb, rc⟩) ++ str [z] = str (leafF 6 text n ⟨la, lb, lc⟩ ⟨ra, rb, rc⟩) from by
  rw [← ho, ← hz, show (⟨#[32, 84, 79, 32]⟩ : ByteArray) = str [32, 84, 79, 32] from rfl, cat15, cat15, cat15, cat15]
  unfold leafF
  simp))
 have g1 := sideF_len ⟨la, lb, lc⟩
 have g2 := sideF_len ⟨ra, rb, rc⟩
 simp only [] at g1 g2
 rw [← str_size] at g1 g2
 generalize str (sideF ⟨la, lb, lc⟩) = sa at *
 generalize str (sideF ⟨ra, rb, rc⟩) = sb at *
 have HOR := LH (fun (a b : Bool) (v : Bool) (h : (b || a) = v) (x y : UInt8) => (show (if b = true ∨ a = true then x else y) = (if v = true then x else y) from by rw [← h]; cases a <;> cases b <;> rfl))
 clear hE hP
 go_enter Tryd.func58, Tryd.ntmps58
 go_upto_region 16 with (fail)
 go_cut [59] (fun v wx => v = .bool (lb || la) ∧ wx = (w.alloc (.cells #[.int .i64 6, .string (str field), .string (str text), .int .i64 (n : Int), .bool la, .bool lb, .string (str lc), .bool ra, .bool rb, .string (str rc), .slice oa on oc, .slice ka kn kc] 27)))
 case first =>
  cases la <;> cases lb
  all_goals
   go_wp2
   go_meet
   exact ⟨rfl, rfl⟩
 case rest =>
 obtain ⟨rfl, rfl⟩ := hcut
 cases hlo : (lb || la)
 ·have H1 := LH (HOR.out la lb _ hlo 91 123)
  clear hlo
  go_upto_region 18 with (fail)
  go_cut [67] (fun v wx => v = .bool (rb || ra) ∧ wx = (w.alloc (.cells #[.int .i64 6, .string (str field), .string (str text), .int .i64 (n : Int), .bool la, .bool lb, .string (str lc), .bool ra, .bool rb, .string (str rc), .slice oa on oc, .slice ka kn kc] 27)))
  case first =>
   cases ra <;> cases rb
   all_goals
    go_wp2
    go_meet
    exact ⟨rfl, rfl⟩
  case rest =>
  obtain ⟨rfl, rfl⟩ := hcut
  cases hhi : (rb || ra)
  ·have H2 := LH (HOR.out ra rb _ hhi 93 125)
   clear hhi
   have HR := LH (show (⟨#[123]⟩ : ByteArray) ++ sa ++ ⟨#[32, 84, 79, 32]⟩ ++ sb ++ ⟨#[125]⟩ = str (leafF 6 text n ⟨la, lb, lc⟩ ⟨ra, rb, rc⟩) from HF.out 123 125 H1.out H2.out)
   have q1 := fun W => str_add (P := Tryd.prog) ⟨#[123]⟩ sa (by rw [show (⟨#[123]⟩ : ByteArray).size = 1 from rfl]; omega) W
   have q2 := fun W => str_add (P := Tryd.prog) (⟨#[123]⟩ ++ sa) ⟨#[32, 84, 79, 32]⟩ (by rw [ba_append_size, show (⟨#[123]⟩ : ByteArray).size = 1 from rfl, show (⟨#[32, 84, 79, 32]⟩ : ByteArray).size = 4 from rfl]; omega) W
   have q3 := fun W => str_add (P := Tryd.prog) (⟨#[123]⟩ ++ sa ++ ⟨#[32, 84, 79, 32]⟩) sb (by rw [ba_append_size, ba_append_size, show (⟨#[123]⟩ : ByteArray).size = 1 from rfl, show (⟨#[32, 84, 79, 32]⟩ : ByteArray).size = 4 from rfl]; omega) W
   have q4 := fun W => str_add (P := Tryd.prog) (⟨#[123]⟩ ++ sa ++ ⟨#[32, 84, 79, 32]⟩ ++ sb) ⟨#[125]⟩ (by rw [ba_append_size, ba_append_size, ba_append_size, show (⟨#[123]⟩ : ByteArray).size = 1 from rfl, show (⟨#[32, 84, 79, 32]⟩ : ByteArray).size = 4 from rfl, show (⟨#[125]⟩ : ByteArray).size = 1 from rfl]; omega) W
   clear g1 g2 hlc hrc
   generalize (⟨#[123]⟩ ++ sa : ByteArray) = s1 at *
   generalize (s1 ++ ⟨#[32, 84, 79, 32]⟩ : ByteArray) = s2 at *
   generalize (s2 ++ sb : ByteArray) = s3 at *
   generalize (s3 ++ ⟨#[125]⟩ : ByteArray) = s4 at *
   go_wp2_with fail
   go_region_held3 (fun W => W.cell? ⟨w.heap.size, 0, none⟩ = some (.int .i64 6) ∧ W.cell? ⟨w.heap.size, 1, none⟩ = some (.string (str field)) ∧ W.cell? ⟨w.heap.size, 2, none⟩ = some (.string (str text)) ∧ W.cell? ⟨w.heap.size, 3, none⟩ = some (.int .i64 (n : Int)) ∧ W.cell? ⟨w.heap.size, 4, none⟩ = some (.bool la) ∧ W.cell? ⟨w.heap.size, 5, none⟩ = some (.bool lb) ∧ W.cell? ⟨w.heap.size, 6, none⟩ = some (.string (str lc)) ∧ W.cell? ⟨w.heap.size, 7, none⟩ = some (.bool ra) ∧ W.cell? ⟨w.heap.size, 8, none⟩ = some (.bool rb) ∧ W.cell? ⟨w.heap.size, 9, none⟩ = some (.string (str rc)) ∧ Below (w.alloc (.cells #[.int .i64 6, .string (str field), .string (str text), .int .i64 (n : Int), .bool la, .bool lb, .string (str lc), .bool ra, .bool rb, .string (str rc), .slice oa on oc, .slice ka kn kc] 27)).heap.size (w.alloc (.cells #[.int .i64 6, .string (str field), .string (str text), .int .i64 (n : Int), .bool la, .bool lb, .string (str lc), .bool ra, .bool rb, .string (str rc), .slice oa on oc, .slice ka kn kc] 27)) W) (exact HSF.out _ (by repeat (first | assumption | exact Below.refl _ _ | with_reducible refine Below.drew ?_))) (first | ((with_reducible refine (HC1.out _ ?_).mono ?_); (repeat (first | assumption | exact Below.refl _ _ | with_reducible refine Below.drew ?_)); (rintro e w5 ⟨rfl, hk0⟩)) | ((with_reducible refine (HC2.out _ ?_).mono ?_); (repeat (first | assumption | exact Below.refl _ _ | with_reducible refine Below.drew ?_)); (rintro e w5 ⟨rfl, hk1⟩)))
   all_goals
    rename_i hfin
    have HBF := LH (show Below w.heap.size w _ from HB.out.trans (hfin.2.2.2.2.2.2.2.2.2.2.mono HB.out.size))
    clear hfin
    go_wp2
    go_ret
    exact ⟨ret_strx HR.out, HBF.out⟩
  ·have H2 := LH (HOR.out ra rb _ hhi 93 125)
   clear hhi
   have HR := LH (show (⟨#[123]⟩ : ByteArray) ++ sa ++ ⟨#[32, 84, 79, 32]⟩ ++ sb ++ ⟨#[93]⟩ = str (leafF 6 text n ⟨la, lb, lc⟩ ⟨ra, rb, rc⟩) from HF.out 123 93 H1.out H2.out)
   have q1 := fun W => str_add (P := Tryd.prog) ⟨#[123]⟩ sa (by rw [show (⟨#[123]⟩ : ByteArray).size = 1 from rfl]; omega) W
   have q2 := fun W => str_add (P := Tryd.prog) (⟨#[123]⟩ ++ sa) ⟨#[32, 84, 79, 32]⟩ (by rw [ba_append_size, show (⟨#[123]⟩ : ByteArray).size = 1 from rfl, show (⟨#[32, 84, 79, 32]⟩ : ByteArray).size = 4 from rfl]; omega) W
   have q3 := fun W => str_add (P := Tryd.prog) (⟨#[123]⟩ ++ sa ++ ⟨#[32, 84, 79, 32]⟩) sb (by rw [ba_append_size, ba_append_size, show (⟨#[123]⟩ : ByteArray).size = 1 from rfl, show (⟨#[32, 84, 79, 32]⟩ : ByteArray).size = 4 from rfl]; omega) W
   have q4 := fun W => str_add (P := Tryd.prog) (⟨#[123]⟩ ++ sa ++ ⟨#[32, 84, 79, 32]⟩ ++ sb) ⟨#[93]⟩ (by rw [ba_append_size, ba_append_size, ba_append_size, show (⟨#[123]⟩ : ByteArray).size = 1 from rfl, show (⟨#[32, 84, 79, 32]⟩ : ByteArray).size = 4 from rfl, show (⟨#[93]⟩ : ByteArray).size = 1 from rfl]; omega) W
   clear g1 g2 hlc hrc
   generalize (⟨#[123]⟩ ++ sa : ByteArray) = s1 at *
   generalize (s1 ++ ⟨#[32, 84, 79, 32]⟩ : ByteArray) = s2 at *
   generalize (s2 ++ sb : ByteArray) = s3 at *
   generalize (s3 ++ ⟨#[93]⟩ : ByteArray) = s4 at *
   go_wp2_with fail
   go_region_held3 (fun W => W.cell? ⟨w.heap.size, 0, none⟩ = some (.int .i64 6) ∧ W.cell? ⟨w.heap.size, 1, none⟩ = some (.string (str field)) ∧ W.cell? ⟨w.heap.size, 2, none⟩ = some (.string (str text)) ∧ W.cell? ⟨w.heap.size, 3, none⟩ = some (.int .i64 (n : Int)) ∧ W.cell? ⟨w.heap.size, 4, none⟩ = some (.bool la) ∧ W.cell? ⟨w.heap.size, 5, none⟩ = some (.bool lb) ∧ W.cell? ⟨w.heap.size, 6, none⟩ = some (.string (str lc)) ∧ W.cell? ⟨w.heap.size, 7, none⟩ = some (.bool ra) ∧ W.cell? ⟨w.heap.size, 8, none⟩ = some (.bool rb) ∧ W.cell? ⟨w.heap.size, 9, none⟩ = some (.string (str rc)) ∧ Below (w.alloc (.cells #[.int .i64 6, .string (str field), .string (str text), .int .i64 (n : Int), .bool la, .bool lb, .string (str lc), .bool ra, .bool rb, .string (str rc), .slice oa on oc, .slice ka kn kc] 27)).heap.size (w.alloc (.cells #[.int .i64 6, .string (str field), .string (str text), .int .i64 (n : Int), .bool la, .bool lb, .string (str lc), .bool ra, .bool rb, .string (str rc), .slice oa on oc, .slice ka kn kc] 27)) W) (exact HSF.out _ (by repeat (first | assumption | exact Below.refl _ _ | with_reducible refine Below.drew ?_))) (first | ((with_reducible refine (HC1.out _ ?_).mono ?_); (repeat (first | assumption | exact Below.refl _ _ | with_reducible refine Below.drew ?_)); (rintro e w5 ⟨rfl, hk0⟩)) | ((with_reducible refine (HC2.out _ ?_).mono ?_); (repeat (first | assumption | exact Below.refl _ _ | with_reducible refine Below.drew ?_)); (rintro e w5 ⟨rfl, hk1⟩)))
   all_goals
    rename_i hfin
    have HBF := LH (show Below w.heap.size w _ from HB.out.trans (hfin.2.2.2.2.2.2.2.2.2.2.mono HB.out.size))
    clear hfin
    go_wp2
    go_ret
    exact ⟨ret_strx HR.out, HBF.out⟩
 ·have H1 := LH (HOR.out la lb _ hlo 91 123)
  clear hlo
  go_upto_region 18 with (fail)
  go_cut [67] (fun v wx => v = .bool (rb || ra) ∧ wx = (w.alloc (.cells #[.int .i64 6, .string (str field), .string (str text), .int .i64 (n : Int), .bool la, .bool lb, .string (str lc), .bool ra, .bool rb, .string (str rc), .slice oa on oc, .slice ka kn kc] 27)))
  case first =>
   cases ra <;> cases rb
   all_goals
    go_wp2
    go_meet
    exact ⟨rfl, rfl⟩
  case rest =>
  obtain ⟨rfl, rfl⟩ := hcut
  cases hhi : (rb || ra)
  ·have H2 := LH (HOR.out ra rb _ hhi 93 125)
   clear hhi
   have HR := LH (show (⟨#[91]⟩ : ByteArray) ++ sa ++ ⟨#[32, 84, 79, 32]⟩ ++ sb ++ ⟨#[125]⟩ = str (leafF 6 text n ⟨la, lb, lc⟩ ⟨ra, rb, rc⟩) from HF.out 91 125 H1.out H2.out)
   have q1 := fun W => str_add (P := Tryd.prog) ⟨#[91]⟩ sa (by rw [show (⟨#[91]⟩ : ByteArray).size = 1 from rfl]; omega) W
   have q2 := fun W => str_add (P := Tryd.prog) (⟨#[91]⟩ ++ sa) ⟨#[32, 84, 79, 32]⟩ (by rw [ba_append_size, show (⟨#[91]⟩ : ByteArray).size = 1 from rfl, show (⟨#[32, 84, 79, 32]⟩ : ByteArray).size = 4 from rfl]; omega) W
   have q3 := fun W => str_add (P := Tryd.prog) (⟨#[91]⟩ ++ sa ++ ⟨#[32, 84, 79, 32]⟩) sb (by rw [ba_append_size, ba_append_size, show (⟨#[91]⟩ : ByteArray).size = 1 from rfl, show (⟨#[32, 84, 79, 32]⟩ : ByteArray).size = 4 from rfl]; omega) W
   have q4 := fun W => str_add (P := Tryd.prog) (⟨#[91]⟩ ++ sa ++ ⟨#[32, 84, 79, 32]⟩ ++ sb) ⟨#[125]⟩ (by rw [ba_append_size, ba_append_size, ba_append_size, show (⟨#[91]⟩ : ByteArray).size = 1 from rfl, show (⟨#[32, 84, 79, 32]⟩ : ByteArray).size = 4 from rfl, show (⟨#[125]⟩ : ByteArray).size = 1 from rfl]; omega) W
   clear g1 g2 hlc hrc
   generalize (⟨#[91]⟩ ++ sa : ByteArray) = s1 at *
   generalize (s1 ++ ⟨#[32, 84, 79, 32]⟩ : ByteArray) = s2 at *
   generalize (s2 ++ sb : ByteArray) = s3 at *
   generalize (s3 ++ ⟨#[125]⟩ : ByteArray) = s4 at *
   go_wp2_with fail
   go_region_held3 (fun W => W.cell? ⟨w.heap.size, 0, none⟩ = some (.int .i64 6) ∧ W.cell? ⟨w.heap.size, 1, none⟩ = some (.string (str field)) ∧ W.cell? ⟨w.heap.size, 2, none⟩ = some (.string (str text)) ∧ W.cell? ⟨w.heap.size, 3, none⟩ = some (.int .i64 (n : Int)) ∧ W.cell? ⟨w.heap.size, 4, none⟩ = some (.bool la) ∧ W.cell? ⟨w.heap.size, 5, none⟩ = some (.bool lb) ∧ W.cell? ⟨w.heap.size, 6, none⟩ = some (.string (str lc)) ∧ W.cell? ⟨w.heap.size, 7, none⟩ = some (.bool ra) ∧ W.cell? ⟨w.heap.size, 8, none⟩ = some (.bool rb) ∧ W.cell? ⟨w.heap.size, 9, none⟩ = some (.string (str rc)) ∧ Below (w.alloc (.cells #[.int .i64 6, .string (str field), .string (str text), .int .i64 (n : Int), .bool la, .bool lb, .string (str lc), .bool ra, .bool rb, .string (str rc), .slice oa on oc, .slice ka kn kc] 27)).heap.size (w.alloc (.cells #[.int .i64 6, .string (str field), .string (str text), .int .i64 (n : Int), .bool la, .bool lb, .string (str lc), .bool ra, .bool rb, .string (str rc), .slice oa on oc, .slice ka kn kc] 27)) W) (exact HSF.out _ (by repeat (first | assumption | exact Below.refl _ _ | with_reducible refine Below.drew ?_))) (first | ((with_reducible refine (HC1.out _ ?_).mono ?_); (repeat (first | assumption | exact Below.refl _ _ | with_reducible refine Below.drew ?_)); (rintro e w5 ⟨rfl, hk0⟩)) | ((with_reducible refine (HC2.out _ ?_).mono ?_); (repeat (first | assumption | exact Below.refl _ _ | with_reducible refine Below.drew ?_)); (rintro e w5 ⟨rfl, hk1⟩)))
   all_goals
    rename_i hfin
    have HBF := LH (show Below w.heap.size w _ from HB.out.trans (hfin.2.2.2.2.2.2.2.2.2.2.mono HB.out.size))
    clear hfin
    go_wp2
    go_ret
    exact ⟨ret_strx HR.out, HBF.out⟩
  ·have H2 := LH (HOR.out ra rb _ hhi 93 125)
   clear hhi
   have HR := LH (show (⟨#[91]⟩ : ByteArray) ++ sa ++ ⟨#[32, 84, 79, 32]⟩ ++ sb ++ ⟨#[93]⟩ = str (leafF 6 text n ⟨la, lb, lc⟩ ⟨ra, rb, rc⟩) from HF.out 91 93 H1.out H2.out)
   have q1 := fun W => str_add (P := Tryd.prog) ⟨#[91]⟩ sa (by rw [show (⟨#[91]⟩ : ByteArray).size = 1 from rfl]; omega) W
   have q2 := fun W => str_add (P := Tryd.prog) (⟨#[91]⟩ ++ sa) ⟨#[32, 84, 79, 32]⟩ (by rw [ba_append_size, show (⟨#[91]⟩ : ByteArray).size = 1 from rfl, show (⟨#[32, 84, 79, 32]⟩ : ByteArray).size = 4 from rfl]; omega) W
   have q3 := fun W => str_add (P := Tryd.prog) (⟨#[91]⟩ ++ sa ++ ⟨#[32, 84, 79, 32]⟩) sb (by rw [ba_append_size, ba_append_size, show (⟨#[91]⟩ : ByteArray).size = 1 from rfl, show (⟨#[32, 84, 79, 32]⟩ : ByteArray).size = 4 from rfl]; omega) W
   have q4 := fun W => str_add (P := Tryd.prog) (⟨#[91]⟩ ++ sa ++ ⟨#[32, 84, 79, 32]⟩ ++ sb) ⟨#[93]⟩ (by rw [ba_append_size, ba_append_size, ba_append_size, show (⟨#[91]⟩ : ByteArray).size = 1 from rfl, show (⟨#[32, 84, 79, 32]⟩ : ByteArray).size = 4 from rfl, show (⟨#[93]⟩ : ByteArray).size = 1 from rfl]; omega) W
   clear g1 g2 hlc hrc
   generalize (⟨#[91]⟩ ++ sa : ByteArray) = s1 at *
   generalize (s1 ++ ⟨#[32, 84, 79, 32]⟩ : ByteArray) = s2 at *
   generalize (s2 ++ sb : ByteArray) = s3 at *
   generalize (s3 ++ ⟨#[93]⟩ : ByteArray) = s4 at *
   go_wp2_with fail
   go_region_held3 (fun W => W.cell? ⟨w.heap.size, 0, none⟩ = some (.int .i64 6) ∧ W.cell? ⟨w.heap.size, 1, none⟩ = some (.string (str field)) ∧ W.cell? ⟨w.heap.size, 2, none⟩ = some (.string (str text)) ∧ W.cell? ⟨w.heap.size, 3, none⟩ = some (.int .i64 (n : Int)) ∧ W.cell? ⟨w.heap.size, 4, none⟩ = some (.bool la) ∧ W.cell? ⟨w.heap.size, 5, none⟩ = some (.bool lb) ∧ W.cell? ⟨w.heap.size, 6, none⟩ = some (.string (str lc)) ∧ W.cell? ⟨w.heap.size, 7, none⟩ = some (.bool ra) ∧ W.cell? ⟨w.heap.size, 8, none⟩ = some (.bool rb) ∧ W.cell? ⟨w.heap.size, 9, none⟩ = some (.string (str rc)) ∧ Below (w.alloc (.cells #[.int .i64 6, .string (str field), .string (str text), .int .i64 (n : Int), .bool la, .bool lb, .string (str lc), .bool ra, .bool rb, .string (str rc), .slice oa on oc, .slice ka kn kc] 27)).heap.size (w.alloc (.cells #[.int .i64 6, .string (str field), .string (str text), .int .i64 (n : Int), .bool la, .bool lb, .string (str lc), .bool ra, .bool rb, .string (str rc), .slice oa on oc, .slice ka kn kc] 27)) W) (exact HSF.out _ (by repeat (first | assumption | exact Below.refl _ _ | with_reducible refine Below.drew ?_))) (first | ((with_reducible refine (HC1.out _ ?_).mono ?_); (repeat (first | assumption | exact Below.refl _ _ | with_reducible refine Below.drew ?_)); (rintro e w5 ⟨rfl, hk0⟩)) | ((with_reducible refine (HC2.out _ ?_).mono ?_); (repeat (first | assumption | exact Below.refl _ _ | with_reducible refine Below.drew ?_)); (rintro e w5 ⟨rfl, hk1⟩)))
   all_goals
    rename_i hfin
    have HBF := LH (show Below w.heap.size w _ from HB.out.trans (hfin.2.2.2.2.2.2.2.2.2.2.mono HB.out.size))
    clear hfin
    go_wp2
    go_ret
    exact ⟨ret_strx HR.out, HBF.out⟩
theorem prleaf_any {kind : Int} {n : Nat} {field text : List UInt8} {lo hi : Bd} {oa ka : Option Addr} {on oc kn kc : Nat} {w : World} (hk : 1 ≤ kind ∧ kind < 8) (hn : n < 9223372036854775808) (ht : text.length ≤ 300000000000) (hl : lo.text.length ≤ 300000000000) (hh : hi.text.length ≤ 300000000000) (hE : ClsEnv w) (hP : P10 w) :
  Calls Tryd.prog 58 #[.agg #[.int .i64 kind, .string (str field), .string (str text), .int .i64 (n : Int), .bool lo.open_, .bool lo.in_, .string (str lo.text), .bool hi.open_, .bool hi.in_, .string (str hi.text), .slice oa on oc, .slice ka kn kc]] w (StrRet (str (leafF kind text n lo hi)) w) := by
 obtain ⟨la, lb, lc⟩ := lo
 obtain ⟨ra, rb, rc⟩ := hi
 have h7 : kind = 1 ∨ kind = 2 ∨ kind = 3 ∨ kind = 4 ∨ kind = 5 ∨ kind = 6 ∨ kind = 7 := by omega
 rcases h7 with rfl | rfl | rfl | rfl | rfl | rfl | rfl
 ·exact plf_1 n field text la lb lc ra rb rc oa ka on oc kn kc w trivial hn ht hl hh hE hP
 ·by_cases h0 : n = 0
  ·exact plf_2z n field text la lb lc ra rb rc oa ka on oc kn kc w h0 hn ht hl hh hE hP
  ·exact plf_2n n field text la lb lc ra rb rc oa ka on oc kn kc w (by omega) hn ht hl hh hE hP
 ·exact plf_3 n field text la lb lc ra rb rc oa ka on oc kn kc w trivial hn ht hl hh hE hP
 ·exact plf_4 n field text la lb lc ra rb rc oa ka on oc kn kc w trivial hn ht hl hh hE hP
 ·exact plf_5 n field text la lb lc ra rb rc oa ka on oc kn kc w trivial hn ht hl hh hE hP
 ·exact plf_6 n field text la lb lc ra rb rc oa ka on oc kn kc w trivial hn ht hl hh hE hP
 ·exact plf_7 n field text la lb lc ra rb rc oa ka on oc kn kc w trivial hn ht hl hh hE hP
end Go.Proofs.YthcldpminmhgkaaDoor
end
