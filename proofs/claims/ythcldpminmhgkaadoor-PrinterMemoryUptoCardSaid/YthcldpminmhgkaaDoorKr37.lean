/- Merged for a claim by shake.py: Jap -/
import Derived.Test.YthcldpminmhgkaaDoorKrA
import Derived.Test.YthcldpminmhgkaaDoorKr36
set_option maxRecDepth 100000
set_option maxHeartbeats 4000000
set_option linter.unusedSimpArgs false
set_option linter.unusedVariables false
section
namespace Go.Proofs.YthcldpminmhgkaaDoor
open Go.RowKit
theorem rside_any (a b : Bool) (l : List UInt8) (w : World) (hl : l.length ≤ 300000000000) :
  Calls Tryd.prog 117 #[.agg #[.bool a, .bool b, .string (str l)]] w (StrRet (str (sideF ⟨a, b, l⟩)) w) := by
 have HB := LH ((Below.refl w.heap.size w).alloc (Nat.le_refl _) (.cells #[.bool a, .bool b, .string (str l)] 23))
 cases a with
 | true =>
  go_enter Tryd.func117, Tryd.ntmps117
  go_wp2
  go_ret
  exact ⟨ret_strx (by unfold sideF; rw [if_pos rfl]; rfl), HB.out⟩
 | false =>
  by_cases h0 : l = []
  ·subst h0
   have t0 : ((str []).toList == []) = true := by rw [ba_toList]; rfl
   have HQ := LH (fun W => refQuote_any (str []) W (by show (0 : Nat) ≤ _; omega))
   go_enter Tryd.func117, Tryd.ntmps117
   go_wp2_with fail
   refine (HQ.out _).mono ?_
   rintro e w2 ⟨rfl, hb2⟩
   have HB2 := LH (HB.out.trans (hb2.mono HB.out.size))
   clear hb2
   go_wp2
   go_ret
   exact ⟨ret_strx (by unfold sideF; rw [if_neg (by simp), if_pos rfl]; rfl), HB2.out⟩
  ·have t0 : ((str l).toList == []) = false := by rw [ba_toList, str_data]; cases l with | nil => exact absurd rfl h0 | cons c l => rfl
   have HQ := LH (fun W => refWord_any (str l) W (by rw [str_size]; omega))
   have HF := LH (show sideF ⟨false, b, l⟩ = wordL l from by unfold sideF; rw [if_neg (by simp), if_neg h0])
   simp only [str_data] at HQ
   clear h0
   go_enter Tryd.func117, Tryd.ntmps117
   go_wp2_with fail
   refine (HQ.out _).mono ?_
   rintro e w2 ⟨rfl, hb2⟩
   have HB2 := LH (HB.out.trans (hb2.mono HB.out.size))
   clear hb2
   go_wp2
   go_ret
   exact ⟨ret_strx (by rw [HF.out]), HB2.out⟩
theorem slice_one15 (s : ByteArray) (k : Nat) (h : k < s.size) : (s.extract k (k + 1)).data.toList = [s[k]] ∧ (s.extract k (k + 1)).size = 1 := by
 constructor
 ·rw [ByteArray.data_extract, Array.toList_extract]
  have h2 : k < s.data.toList.length := by rw [Array.length_toList]; exact h
  rw [List.extract_eq_take_drop, show k + 1 - k = 1 by omega, List.drop_eq_getElem_cons h2]
  rfl
 ·rw [ByteArray.size_extract]; omega
def StRel (s : ByteArray) (w : World) (pv iv : Value) (wr : World) : Prop := ∃ (k : Nat) (p : ByteArray), k ≤ s.size ∧ iv = .int .i64 (k : Int) ∧ pv = .string p ∧ p.data.toList = litL (s.data.toList.take k) ∧ Below w.heap.size w wr
theorem starred_any (s : ByteArray) (w : World) (hs : s.size ≤ 900000000000) :
  Calls Tryd.prog 104 #[.string s] w (StrRet (str (litL s.data.toList ++ [42])) w) := by
 go_enter Tryd.func104, Tryd.ntmps104
 go_wp2
 go_loopw [3, 4] (fun v i wr => StRel s w v i wr) (fun _ i _ => s.size - (RowKit.intOf i).toNat)
 case atStart => exact ⟨0, ⟨#[]⟩, by omega, rfl, rfl, rfl, Below.refl _ _⟩
 case round =>
  obtain ⟨k, p, hk, rfl, rfl, hp, hb⟩ := hrel
  have HB := LH hb; have HP := LH hp
  have hll : p.size ≤ 1800000000000 := by
   have h1 := litL_length (s.data.toList.take k)
   have h2 := List.length_take_le k s.data.toList
   rw [ba_size, hp]
   omega
  clear hb hp
  by_cases hlt : k < s.size
  ·have hbx := u8_lt s[k]
   have hkl : k < s.data.toList.length := by rw [← ba_size]; exact hlt
   have HT := LH (show litL (s.data.toList.take (k + 1)) = litL (s.data.toList.take k) ++ pesc s[k] from litL_take hkl)
   have HS1 := LH (slice_one15 s k hlt)
   have hx1 : (s.extract k (k + 1)).size = 1 := HS1.out.2
   have hx2 : p.size + (s.extract k (k + 1)).size ≤ 140737488355328 := by omega
   have hx3 : (p ++ ⟨#[92]⟩ : ByteArray).size + (s.extract k (k + 1)).size ≤ 140737488355328 := by rw [ba_append_size, show (⟨#[92]⟩ : ByteArray).size = 1 from rfl]; omega
   rcases pesc_cases s[k] with ⟨g1, g2⟩ | ⟨g1, g3, g2⟩ | ⟨g1, g3, g4, g2⟩ | ⟨g1, g3, g4, g2⟩
   ·have HX := LH g2; clear g2
    go_wp2
    go_roundw
    case rel =>
     refine ⟨k + 1, _, by omega, by go_num, rfl, ?_, HB.out⟩
     rw [HT.out, HX.out, ba_append, HS1.out.1]
     rw [ba_append, HP.out, List.append_assoc]; rfl
    case measure => simp [RowKit.intOf]; omega
   ·have HX := LH g2; clear g2
    go_wp2
    go_roundw
    case rel =>
     refine ⟨k + 1, _, by omega, by go_num, rfl, ?_, HB.out⟩
     rw [HT.out, HX.out, ba_append, HS1.out.1]
     rw [ba_append, HP.out, List.append_assoc]; rfl
    case measure => simp [RowKit.intOf]; omega
   ·have HX := LH g2; clear g2
    go_wp2
    go_roundw
    case rel =>
     refine ⟨k + 1, _, by omega, by go_num, rfl, ?_, HB.out⟩
     rw [HT.out, HX.out, ba_append, HS1.out.1]
     rw [ba_append, HP.out, List.append_assoc]; rfl
    case measure => simp [RowKit.intOf]; omega
   ·have HX := LH g2; clear g2
    go_wp2
    go_roundw
    case rel =>
     refine ⟨k + 1, _, by omega, by go_num, rfl, ?_, HB.out⟩
     rw [HT.out, HX.out, ba_append, HS1.out.1]
     rw [HP.out]
    case measure => simp [RowKit.intOf]; omega
  ·obtain rfl : k = s.size := by omega
   have HF := LH (show p ++ ⟨#[42]⟩ = str (litL s.data.toList ++ [42]) from ba_ext (by rw [ba_append, str_data, HP.out, List.take_of_length_le (by rw [← ba_size]; exact Nat.le_refl _)]))
   go_wp2
   go_ret
   exact ⟨ret_strx HF.out, HB.out⟩
theorem rspan_any (la lb ra rb : Bool) (n : Nat) (field text : List UInt8) (lc rc : List UInt8) (oa ka : Option Addr) (on oc kn kc : Nat) (w : World) (hlc : lc.length ≤ 300000000000) (hrc : rc.length ≤ 300000000000) :
  Calls Tryd.prog 105 #[.agg #[.int .i64 6, .string (str field), .string (str text), .int .i64 (n : Int), .bool la, .bool lb, .string (str lc), .bool ra, .bool rb, .string (str rc), .slice oa on oc, .slice ka kn kc]] w (StrRet (str (leafF 6 text n ⟨la, lb, lc⟩ ⟨ra, rb, rc⟩)) w) := by
 have HB := LH ((Below.refl w.heap.size w).alloc (Nat.le_refl _) (.cells #[.int .i64 6, .string (str field), .string (str text), .int .i64 (n : Int), .bool la, .bool lb, .string (str lc), .bool ra, .bool rb, .string (str rc), .slice oa on oc, .slice ka kn kc] 27))
 have HW := LH (Blk.new w 27 #[.int .i64 6, .string (str field), .string (str text), .int .i64 (n : Int), .bool la, .bool lb, .string (str lc), .bool ra, .bool rb, .string (str rc), .slice oa on oc, .slice ka kn kc])
 have HSF := LH (fun (W : World) (hW : Below (w.alloc (.cells #[.int .i64 6, .string (str field), .string (str text), .int .i64 (n : Int), .bool la, .bool lb, .string (str lc), .bool ra, .bool rb, .string (str rc), .slice oa on oc, .slice ka kn kc] 27)).heap.size (w.alloc (.cells #[.int .i64 6, .string (str field), .string (str text), .int .i64 (n : Int), .bool la, .bool lb, .string (str lc), .bool ra, .bool rb, .string (str rc), .slice oa on oc, .slice ka kn kc] 27)) W) => (show W.cell? ⟨w.heap.size, 0, none⟩ = some (.int .i64 6) ∧ W.cell? ⟨w.heap.size, 1, none⟩ = some (.string (str field)) ∧ W.cell? ⟨w.heap.size, 2, none⟩ = some (.string (str text)) ∧ W.cell? ⟨w.heap.size, 3, none⟩ = some (.int .i64 (n : Int)) ∧ W.cell? ⟨w.heap.size, 4, none⟩ = some (.bool la) ∧ W.cell? ⟨w.heap.size, 5, none⟩ = some (.bool lb) ∧ W.cell? ⟨w.heap.size, 6, none⟩ = some (.string (str lc)) ∧ W.cell? ⟨w.heap.size, 7, none⟩ = some (.bool ra) ∧ W.cell? ⟨w.heap.size, 8, none⟩ = some (.bool rb) ∧ W.cell? ⟨w.heap.size, 9, none⟩ = some (.string (str rc)) ∧ Below (w.alloc (.cells #[.int .i64 6, .string (str field), .string (str text), .int .i64 (n : Int), .bool la, .bool lb, .string (str lc), .bool ra, .bool rb, .string (str rc), .slice oa on oc, .slice ka kn kc] 27)).heap.size (w.alloc (.cells #[.int .i64 6, .string (str field), .string (str text), .int .i64 (n : Int), .bool la, .bool lb, .string (str lc), .bool ra, .bool rb, .string (str rc), .slice oa on oc, .slice ka kn kc] 27)) W from by
  have hb := HW.out.belowW hW
  refine ⟨hb.cell 0, hb.cell 1, hb.cell 2, hb.cell 3, hb.cell 4, hb.cell 5, hb.cell 6, hb.cell 7, hb.cell 8, hb.cell 9, hW⟩))
 have HC1 := LH (fun (W : World) (hW : Below (w.alloc (.cells #[.int .i64 6, .string (str field), .string (str text), .int .i64 (n : Int), .bool la, .bool lb, .string (str lc), .bool ra, .bool rb, .string (str rc), .slice oa on oc, .slice ka kn kc] 27)).heap.size (w.alloc (.cells #[.int .i64 6, .string (str field), .string (str text), .int .i64 (n : Int), .bool la, .bool lb, .string (str lc), .bool ra, .bool rb, .string (str rc), .slice oa on oc, .slice ka kn kc] 27)) W) => (show Calls Tryd.prog 117 #[.agg #[.bool la, .bool lb, .string (str lc)]] W fun e w' => e = .returned (.string (str (sideF ⟨la, lb, lc⟩))) ∧ Below (w.alloc (.cells #[.int .i64 6, .string (str field), .string (str text), .int .i64 (n : Int), .bool la, .bool lb, .string (str lc), .bool ra, .bool rb, .string (str rc), .slice oa on oc, .slice ka kn kc] 27)).heap.size (w.alloc (.cells #[.int .i64 6, .string (str field), .string (str text), .int .i64 (n : Int), .bool la, .bool lb, .string (str lc), .bool ra, .bool rb, .string (str rc), .slice oa on oc, .slice ka kn kc] 27)) w' from (rside_any la lb lc W (by omega)).mono (fun e w' h => ⟨h.1, hW.trans (h.2.mono hW.size)⟩)))
 have HC2 := LH (fun (W : World) (hW : Below (w.alloc (.cells #[.int .i64 6, .string (str field), .string (str text), .int .i64 (n : Int), .bool la, .bool lb, .string (str lc), .bool ra, .bool rb, .string (str rc), .slice oa on oc, .slice ka kn kc] 27)).heap.size (w.alloc (.cells #[.int .i64 6, .string (str field), .string (str text), .int .i64 (n : Int), .bool la, .bool lb, .string (str lc), .bool ra, .bool rb, .string (str rc), .slice oa on oc, .slice ka kn kc] 27)) W) => (show Calls Tryd.prog 117 #[.agg #[.bool ra, .bool rb, .string (str rc)]] W fun e w' => e = .returned (.string (str (sideF ⟨ra, rb, rc⟩))) ∧ Below (w.alloc (.cells #[.int .i64 6, .string (str field), .string (str text), .int .i64 (n : Int), .bool la, .bool lb, .string (str lc), .bool ra, .bool rb, .string (str rc), .slice oa on oc, .slice ka kn kc] 27)).heap.size (w.alloc (.cells #[.int .i64 6, .string (str field), .string (str text), .int .i64 (n : Int), .bool la, .bool lb, .string (str lc), .bool ra, .bool rb, .string (str rc), .slice oa on oc, .slice ka kn kc] 27)) w' from (rside_any ra rb rc W (by omega)).mono (fun e w' h => ⟨h.1, hW.trans (h.2.mono hW.size)⟩)))
 have HF := LH (fun (o z : UInt8) (ho : (if lb = true ∨ la = true then 91 else 123) = o) (hz : (if rb = true ∨ ra = true then 93 else 125) = z) => (show str [o] ++ str (sideF ⟨la, lb, lc⟩) ++ ⟨#[32, 84, 79, 32]⟩ ++ str (sideF ⟨ra, rb, rc⟩) ++ str [z] = str (leafF 6 text n ⟨la, lb, lc⟩ ⟨ra, rb, rc⟩) from by
  rw [← ho, ← hz, show (⟨#[32, 84, 79, 32]⟩ : ByteArray) = str [32, 84, 79, 32] from rfl, cat15, cat15, cat15, cat15]
  unfold leafF
  simp))
 have g1 := sideF_len ⟨la, lb, lc⟩
 have g2 := sideF_len ⟨ra, rb, rc⟩
 simp only [] at g1 g2
 rw [← str_size] at g1 g2
 generalize str (sideF ⟨la, lb, lc⟩) = sa at *
 generalize str (sideF ⟨ra, rb, rc⟩) = sb at *
 have HOR := LH (fun (a b : Bool) (v : Bool) (h : (b || a) = v) (x y : UInt8) => (show (if b = true ∨ a = true then x else y) = (if v = true then x else y) from by rw [← h]; cases a <;> cases b <;> rfl))
 go_enter Tryd.func105, Tryd.ntmps105
 go_upto_region 2 with (fail)
 go_cut [11] (fun v wx => v = .bool (lb || la) ∧ wx = (w.alloc (.cells #[.int .i64 6, .string (str field), .string (str text), .int .i64 (n : Int), .bool la, .bool lb, .string (str lc), .bool ra, .bool rb, .string (str rc), .slice oa on oc, .slice ka kn kc] 27)))
 case first =>
  cases la <;> cases lb
  all_goals
   go_wp2
   go_meet
   exact ⟨rfl, rfl⟩
 case rest =>
 obtain ⟨rfl, rfl⟩ := hcut
 cases hlo : (lb || la)
 ·have H1 := LH (HOR.out la lb _ hlo 91 123)
  clear hlo
  have q1 := fun W => str_add (P := Tryd.prog) ⟨#[123]⟩ sa (by rw [show (⟨#[123]⟩ : ByteArray).size = 1 from rfl]; omega) W
  have q2 := fun W => str_add (P := Tryd.prog) (⟨#[123]⟩ ++ sa) ⟨#[32, 84, 79, 32]⟩ (by rw [ba_append_size, show (⟨#[123]⟩ : ByteArray).size = 1 from rfl, show (⟨#[32, 84, 79, 32]⟩ : ByteArray).size = 4 from rfl]; omega) W
  have q3 := fun W => str_add (P := Tryd.prog) (⟨#[123]⟩ ++ sa ++ ⟨#[32, 84, 79, 32]⟩) sb (by rw [ba_append_size, ba_append_size, show (⟨#[123]⟩ : ByteArray).size = 1 from rfl, show (⟨#[32, 84, 79, 32]⟩ : ByteArray).size = 4 from rfl]; omega) W
  obtain ⟨s1, h1⟩ : ∃ s1, s1 = (⟨#[123]⟩ ++ sa : ByteArray) := ⟨_, rfl⟩
  obtain ⟨s2, h2⟩ : ∃ s2, s2 = (s1 ++ ⟨#[32, 84, 79, 32]⟩ : ByteArray) := ⟨_, rfl⟩
  obtain ⟨s3, h3⟩ : ∃ s3, s3 = (s2 ++ sb : ByteArray) := ⟨_, rfl⟩
  simp only [← h1] at q1 q2 q3
  simp only [← h2] at q2 q3
  simp only [← h3] at q3
  have hs3 : s3.size ≤ 1400000000000 := by rw [h3, h2, h1, ba_append_size, ba_append_size, ba_append_size, show (⟨#[123]⟩ : ByteArray).size = 1 from rfl, show (⟨#[32, 84, 79, 32]⟩ : ByteArray).size = 4 from rfl]; omega
  have HS3 := LH (show s3 = ⟨#[123]⟩ ++ sa ++ ⟨#[32, 84, 79, 32]⟩ ++ sb from by rw [h3, h2, h1])
  clear h1 h2 h3 g1 g2
  go_wp2_with fail
  go_region_held3 (fun W => W.cell? ⟨w.heap.size, 0, none⟩ = some (.int .i64 6) ∧ W.cell? ⟨w.heap.size, 1, none⟩ = some (.string (str field)) ∧ W.cell? ⟨w.heap.size, 2, none⟩ = some (.string (str text)) ∧ W.cell? ⟨w.heap.size, 3, none⟩ = some (.int .i64 (n : Int)) ∧ W.cell? ⟨w.heap.size, 4, none⟩ = some (.bool la) ∧ W.cell? ⟨w.heap.size, 5, none⟩ = some (.bool lb) ∧ W.cell? ⟨w.heap.size, 6, none⟩ = some (.string (str lc)) ∧ W.cell? ⟨w.heap.size, 7, none⟩ = some (.bool ra) ∧ W.cell? ⟨w.heap.size, 8, none⟩ = some (.bool rb) ∧ W.cell? ⟨w.heap.size, 9, none⟩ = some (.string (str rc)) ∧ Below (w.alloc (.cells #[.int .i64 6, .string (str field), .string (str text), .int .i64 (n : Int), .bool la, .bool lb, .string (str lc), .bool ra, .bool rb, .string (str rc), .slice oa on oc, .slice ka kn kc] 27)).heap.size (w.alloc (.cells #[.int .i64 6, .string (str field), .string (str text), .int .i64 (n : Int), .bool la, .bool lb, .string (str lc), .bool ra, .bool rb, .string (str rc), .slice oa on oc, .slice ka kn kc] 27)) W) (exact HSF.out _ (by repeat (first | assumption | exact Below.refl _ _ | with_reducible refine Below.drew ?_))) (first | ((with_reducible refine (HC1.out _ ?_).mono ?_); (repeat (first | assumption | exact Below.refl _ _ | with_reducible refine Below.drew ?_)); (rintro e w5 ⟨rfl, hk0⟩)) | ((with_reducible refine (HC2.out _ ?_).mono ?_); (repeat (first | assumption | exact Below.refl _ _ | with_reducible refine Below.drew ?_)); (rintro e w5 ⟨rfl, hk1⟩)))
  all_goals
   rename_i hfin
   have HBF := LH (show Below w.heap.size w _ from HB.out.trans (hfin.2.2.2.2.2.2.2.2.2.2.mono HB.out.size))
   obtain ⟨y0, y1, y2, y3, y4, y5, y6, y7, y8, y9, -⟩ := hfin
   go_upto_region 5 with (fail)
   go_cut [29] (fun v wx => v = .bool (rb || ra) ∧ Below w.heap.size w wx)
   case first =>
    cases ra <;> cases rb
    all_goals
     go_wp2
     go_meet
     exact ⟨rfl, HBF.out⟩
   case rest =>
   obtain ⟨rfl, hbf⟩ := hcut
   have HBG := LH hbf
   clear hbf
   cases hhi : (rb || ra)
   ·have H2 := LH (HOR.out ra rb _ hhi 93 125)
    clear hhi
    have q4 := fun W => str_add (P := Tryd.prog) s3 ⟨#[125]⟩ (by rw [show (⟨#[125]⟩ : ByteArray).size = 1 from rfl]; omega) W
    have HR := LH (show s3 ++ ⟨#[125]⟩ = str (leafF 6 text n ⟨la, lb, lc⟩ ⟨ra, rb, rc⟩) from by rw [HS3.out]; exact HF.out 123 125 H1.out H2.out)
    go_wp2
    go_ret
    exact ⟨ret_strx HR.out, HBG.out⟩
   ·have H2 := LH (HOR.out ra rb _ hhi 93 125)
    clear hhi
    have q4 := fun W => str_add (P := Tryd.prog) s3 ⟨#[93]⟩ (by rw [show (⟨#[93]⟩ : ByteArray).size = 1 from rfl]; omega) W
    have HR := LH (show s3 ++ ⟨#[93]⟩ = str (leafF 6 text n ⟨la, lb, lc⟩ ⟨ra, rb, rc⟩) from by rw [HS3.out]; exact HF.out 123 93 H1.out H2.out)
    go_wp2
    go_ret
    exact ⟨ret_strx HR.out, HBG.out⟩
 ·have H1 := LH (HOR.out la lb _ hlo 91 123)
  clear hlo
  have q1 := fun W => str_add (P := Tryd.prog) ⟨#[91]⟩ sa (by rw [show (⟨#[91]⟩ : ByteArray).size = 1 from rfl]; omega) W
  have q2 := fun W => str_add (P := Tryd.prog) (⟨#[91]⟩ ++ sa) ⟨#[32, 84, 79, 32]⟩ (by rw [ba_append_size, show (⟨#[91]⟩ : ByteArray).size = 1 from rfl, show (⟨#[32, 84, 79, 32]⟩ : ByteArray).size = 4 from rfl]; omega) W
  have q3 := fun W => str_add (P := Tryd.prog) (⟨#[91]⟩ ++ sa ++ ⟨#[32, 84, 79, 32]⟩) sb (by rw [ba_append_size, ba_append_size, show (⟨#[91]⟩ : ByteArray).size = 1 from rfl, show (⟨#[32, 84, 79, 32]⟩ : ByteArray).size = 4 from rfl]; omega) W
  obtain ⟨s1, h1⟩ : ∃ s1, s1 = (⟨#[91]⟩ ++ sa : ByteArray) := ⟨_, rfl⟩
  obtain ⟨s2, h2⟩ : ∃ s2, s2 = (s1 ++ ⟨#[32, 84, 79, 32]⟩ : ByteArray) := ⟨_, rfl⟩
  obtain ⟨s3, h3⟩ : ∃ s3, s3 = (s2 ++ sb : ByteArray) := ⟨_, rfl⟩
  simp only [← h1] at q1 q2 q3
  simp only [← h2] at q2 q3
  simp only [← h3] at q3
  have hs3 : s3.size ≤ 1400000000000 := by rw [h3, h2, h1, ba_append_size, ba_append_size, ba_append_size, show (⟨#[91]⟩ : ByteArray).size = 1 from rfl, show (⟨#[32, 84, 79, 32]⟩ : ByteArray).size = 4 from rfl]; omega
  have HS3 := LH (show s3 = ⟨#[91]⟩ ++ sa ++ ⟨#[32, 84, 79, 32]⟩ ++ sb from by rw [h3, h2, h1])
  clear h1 h2 h3 g1 g2
  go_wp2_with fail
  go_region_held3 (fun W => W.cell? ⟨w.heap.size, 0, none⟩ = some (.int .i64 6) ∧ W.cell? ⟨w.heap.size, 1, none⟩ = some (.string (str field)) ∧ W.cell? ⟨w.heap.size, 2, none⟩ = some (.string (str text)) ∧ W.cell? ⟨w.heap.size, 3, none⟩ = some (.int .i64 (n : Int)) ∧ W.cell? ⟨w.heap.size, 4, none⟩ = some (.bool la) ∧ W.cell? ⟨w.heap.size, 5, none⟩ = some (.bool lb) ∧ W.cell? ⟨w.heap.size, 6, none⟩ = some (.string (str lc)) ∧ W.cell? ⟨w.heap.size, 7, none⟩ = some (.bool ra) ∧ W.cell? ⟨w.heap.size, 8, none⟩ = some (.bool rb) ∧ W.cell? ⟨w.heap.size, 9, none⟩ = some (.string (str rc)) ∧ Below (w.alloc (.cells #[.int .i64 6, .string (str field), .string (str text), .int .i64 (n : Int), .bool la, .bool lb, .string (str lc), .bool ra, .bool rb, .string (str rc), .slice oa on oc, .slice ka kn kc] 27)).heap.size (w.alloc (.cells #[.int .i64 6, .string (str field), .string (str text), .int .i64 (n : Int), .bool la, .bool lb, .string (str lc), .bool ra, .bool rb, .string (str rc), .slice oa on oc, .slice ka kn kc] 27)) W) (exact HSF.out _ (by repeat (first | assumption | exact Below.refl _ _ | with_reducible refine Below.drew ?_))) (first | ((with_reducible refine (HC1.out _ ?_).mono ?_); (repeat (first | assumption | exact Below.refl _ _ | with_reducible refine Below.drew ?_)); (rintro e w5 ⟨rfl, hk0⟩)) | ((with_reducible refine (HC2.out _ ?_).mono ?_); (repeat (first | assumption | exact Below.refl _ _ | with_reducible refine Below.drew ?_)); (rintro e w5 ⟨rfl, hk1⟩)))
  all_goals
   rename_i hfin
   have HBF := LH (show Below w.heap.size w _ from HB.out.trans (hfin.2.2.2.2.2.2.2.2.2.2.mono HB.out.size))
   obtain ⟨y0, y1, y2, y3, y4, y5, y6, y7, y8, y9, -⟩ := hfin
   go_upto_region 5 with (fail)
   go_cut [29] (fun v wx => v = .bool (rb || ra) ∧ Below w.heap.size w wx)
   case first =>
    cases ra <;> cases rb
    all_goals
     go_wp2
     go_meet
     exact ⟨rfl, HBF.out⟩
   case rest =>
   obtain ⟨rfl, hbf⟩ := hcut
   have HBG := LH hbf
   clear hbf
   cases hhi : (rb || ra)
   ·have H2 := LH (HOR.out ra rb _ hhi 93 125)
    clear hhi
    have q4 := fun W => str_add (P := Tryd.prog) s3 ⟨#[125]⟩ (by rw [show (⟨#[125]⟩ : ByteArray).size = 1 from rfl]; omega) W
    have HR := LH (show s3 ++ ⟨#[125]⟩ = str (leafF 6 text n ⟨la, lb, lc⟩ ⟨ra, rb, rc⟩) from by rw [HS3.out]; exact HF.out 91 125 H1.out H2.out)
    go_wp2
    go_ret
    exact ⟨ret_strx HR.out, HBG.out⟩
   ·have H2 := LH (HOR.out ra rb _ hhi 93 125)
    clear hhi
    have q4 := fun W => str_add (P := Tryd.prog) s3 ⟨#[93]⟩ (by rw [show (⟨#[93]⟩ : ByteArray).size = 1 from rfl]; omega) W
    have HR := LH (show s3 ++ ⟨#[93]⟩ = str (leafF 6 text n ⟨la, lb, lc⟩ ⟨ra, rb, rc⟩) from by rw [HS3.out]; exact HF.out 91 93 H1.out H2.out)
    go_wp2
    go_ret
    exact ⟨ret_strx HR.out, HBG.out⟩
end Go.Proofs.YthcldpminmhgkaaDoor
end
