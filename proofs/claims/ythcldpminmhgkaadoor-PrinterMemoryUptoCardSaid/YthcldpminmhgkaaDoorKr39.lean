/- Merged for a claim by shake.py: Jar -/
import Derived.Test.YthcldpminmhgkaaDoorKrA
import Derived.Test.YthcldpminmhgkaaDoorKr25
import Derived.Test.YthcldpminmhgkaaDoorKr38
set_option maxRecDepth 100000
set_option maxHeartbeats 4000000
set_option linter.unusedSimpArgs false
set_option linter.unusedVariables false
section
namespace Go.Proofs.YthcldpminmhgkaaDoor
open Go.RowKit
theorem rbetween_any (kind n : Int) (field text : List UInt8) (lo hi : Bd) (oa ka : Option Addr) (on oc kn kc : Nat) (w : World) :
  Calls Tryd.prog 94 #[.agg #[.int .i64 kind, .string (str field), .string (str text), .int .i64 n, .bool lo.open_, .bool lo.in_, .string (str lo.text), .bool hi.open_, .bool hi.in_, .string (str hi.text), .slice oa on oc, .slice ka kn kc]] w fun e w' => e = .returned (.string (str (sepF kind))) ∧ w.alloc (.cells #[.int .i64 kind, .string (str field), .string (str text), .int .i64 n, .bool lo.open_, .bool lo.in_, .string (str lo.text), .bool hi.open_, .bool hi.in_, .string (str hi.text), .slice oa on oc, .slice ka kn kc] 27) = w' := by
 by_cases h1 : kind = 11
 ·subst h1
  go_enter Tryd.func94, Tryd.ntmps94
  go_wp2
  go_ret
  exact ⟨rfl, rfl⟩
 by_cases h2 : kind = 10
 ·subst h2
  go_enter Tryd.func94, Tryd.ntmps94
  go_wp2
  go_ret
  exact ⟨rfl, rfl⟩
 by_cases h3 : kind = 12
 ·subst h3
  go_enter Tryd.func94, Tryd.ntmps94
  go_wp2
  go_ret
  exact ⟨rfl, rfl⟩
 have e1 : (kind == 11) = false := by rw [beq_eq_false_iff_ne]; exact h1
 have e2 : (kind == 10) = false := by rw [beq_eq_false_iff_ne]; exact h2
 have e3 : (kind == 12) = false := by rw [beq_eq_false_iff_ne]; exact h3
 have HS := LH (show sepF kind = [32] from by unfold sepF; rw [if_neg h2, if_neg h1, if_neg h3])
 clear h1 h2 h3
 go_enter Tryd.func94, Tryd.ntmps94
 go_wp2
 go_ret
 exact ⟨ret_strx (by rw [HS.out]; rfl), rfl⟩
def RfmOk (t : Nd) : Prop := ∀ (w : World) (F : Nat → Prop) (x : NV), NdR w F x t → bkN t ≤ 300000000000 → goodN t = true → AskEnv w → Calls Tryd.prog 70 #[x.val] w (StrRet (str (formN t)) w)
def RprOk (t : Nd) : Prop := ∀ (w : World) (F : Nat → Prop) (x : NV) (m : Nat), NdR w F x t → bkN t ≤ 300000000000 → goodN t = true → AskEnv w → m ≤ 10 → Calls Tryd.prog 49 #[x.val, .int .i64 (m : Int)] w (StrRet (str (brF (decide (levN t < m)) (formN t))) w)
theorem form_len15 {t : Nd} (hg : goodN t = true) (hb : bkN t ≤ 300000000000) : (formN t).length ≤ 20000000000000 := by
 have h1 := form_len t hg
 have h2 := size_bk t
 omega
theorem rprinted_of (t : Nd) (h : RfmOk t) : RprOk t := by
 intro w F x m hx hbk hg hA hm
 have hkk := hx.kinds hg
 have HLV := LH (show levN t = levK x.kind x.n from hx.lev)
 have hfl := form_len15 hg hbk
 rw [← str_size] at hfl
 obtain ⟨kd, fl, tx, xn, ⟨la, lb, lc⟩, ⟨ra, rb, rc⟩, ⟨oa, on, oc⟩, ⟨ka, kn, kc⟩⟩ := x
 simp only [] at hkk HLV
 have HB1 := LH ((Below.refl w.heap.size w).alloc (Nat.le_refl _) (.cells #[.int .i64 kd, .string (str fl), .string (str tx), .int .i64 xn, .bool la, .bool lb, .string (str lc), .bool ra, .bool rb, .string (str rc), .slice oa on oc, .slice ka kn kc] 27))
 have HN1 := LH (Blk.new w 27 #[.int .i64 kd, .string (str fl), .string (str tx), .int .i64 xn, .bool la, .bool lb, .string (str lc), .bool ra, .bool rb, .string (str rc), .slice oa on oc, .slice ka kn kc])
 have HLC := LH (fun (W : World) => rlv_any kd xn fl tx ⟨la, lb, lc⟩ ⟨ra, rb, rc⟩ oa ka on oc kn kc W hkk.2.2)
 have HF := LH (fun (W : World) (hW : Below w.heap.size w W) => h W F _ (hx.belowW hW) hbk hg (hA.below hW))
 have HR := LH (show (levK kd xn < m → (⟨#[40]⟩ : ByteArray) ++ str (formN t) ++ ⟨#[41]⟩ = str (brF (decide (levN t < m)) (formN t))) ∧ (¬ levK kd xn < m → str (formN t) = str (brF (decide (levN t < m)) (formN t))) from by
  refine ⟨fun hl => ?_, fun hl => ?_⟩
  ·rw [HLV.out, decide_eq_true hl, show (⟨#[40]⟩ : ByteArray) = str [40] from rfl, show (⟨#[41]⟩ : ByteArray) = str [41] from rfl, cat15, cat15]; rfl
  ·rw [HLV.out, decide_eq_false hl]; rfl)
 have q1 := fun W => str_add (P := Tryd.prog) ⟨#[40]⟩ (str (formN t)) (by rw [show (⟨#[40]⟩ : ByteArray).size = 1 from rfl]; omega) W
 have q2 := fun W => str_add (P := Tryd.prog) (⟨#[40]⟩ ++ str (formN t)) ⟨#[41]⟩ (by rw [ba_append_size, show (⟨#[40]⟩ : ByteArray).size = 1 from rfl, show (⟨#[41]⟩ : ByteArray).size = 1 from rfl]; omega) W
 unfold NV.val at HF ⊢
 simp only [] at HF HLC
 generalize str (formN t) = sf at *
 generalize str (brF (decide (levN t < m)) (formN t)) = sr at *
 generalize (⟨#[40]⟩ ++ sf : ByteArray) = s1 at *
 generalize (s1 ++ ⟨#[41]⟩ : ByteArray) = s2 at *
 generalize levK kd xn = lv at *
 clear HLV hx h hkk hfl hA
 go_enter Tryd.func49, Tryd.ntmps49
 go_wp2_with fail
 generalize (w.alloc (.cells #[.int .i64 kd, .string (str fl), .string (str tx), .int .i64 xn, .bool la, .bool lb, .string (str lc), .bool ra, .bool rb, .string (str rc), .slice oa on oc, .slice ka kn kc] 27)) = w1 at *
 refine (HLC.out _).mono ?_
 rintro e w2 ⟨rfl, hw2⟩
 have HB2 := LH (show Below w.heap.size w w2 from by rw [← hw2]; exact HB1.out.alloc HB1.out.size _)
 have HN2 := LH (show Blk w2 w.heap.size 27 #[.int .i64 kd, .string (str fl), .string (str tx), .int .i64 xn, .bool la, .bool lb, .string (str lc), .bool ra, .bool rb, .string (str rc), .slice oa on oc, .slice ka kn kc] from by rw [← hw2]; exact HN1.out.alloc _)
 have HFF := LH (HF.out w2 HB2.out)
 clear hw2
 have hnk := HN2.out
 obtain ⟨n0, n1, n2, n3, n4, n5, n6, n7, n8, n9, n10, n11, -, -, -, -, -, -, -, -, -, -, -, -, ln⟩ := blk12 hnk
 clear hnk
 by_cases hl : lv < m
 ·have hl2 : decide ((lv : Int) < (m : Int)) = true := decide_eq_true (by omega)
  have hl3 : (lv : Int) < (m : Int) := by omega
  have HRR := LH (HR.out.1 hl)
  clear hl
  go_wp2_with fail
  refine HFF.out.mono ?_
  rintro e w3 ⟨rfl, hb3⟩
  have HB3 := LH (HB2.out.trans (hb3.mono HB2.out.size))
  clear hb3
  go_wp2
  go_ret
  exact ⟨ret_strx HRR.out, HB3.out⟩
 ·have hl2 : decide ((lv : Int) < (m : Int)) = false := decide_eq_false (by omega)
  have hl3 : ¬ (lv : Int) < (m : Int) := by omega
  have HRR := LH (HR.out.2 hl)
  clear hl
  go_wp2_with fail
  refine HFF.out.mono ?_
  rintro e w3 ⟨rfl, hb3⟩
  have HB3 := LH (HB2.out.trans (hb3.mono HB2.out.size))
  clear hb3
  go_wp2
  go_ret
  exact ⟨ret_strx HRR.out, HB3.out⟩
def RfRel (kind : Int) (occ : List Int) (ks : List Nd) (T : List UInt8) (w : World) (sv iv : Value) (wr : World) : Prop := ∃ (j : Nat) (m : List UInt8), j ≤ ks.length ∧ iv = .int .i64 (j : Int) ∧ sv = .string (str m) ∧ m ++ formNs kind (decide (j = 0)) (occ.drop j) (ks.drop j) = T ∧ Below w.heap.size w wr
theorem add1 (m : List UInt8) (s : ByteArray) (a : List UInt8) (h : s = str a) : str m ++ s = str (m ++ a) := by rw [h, cat15]
theorem rform_leafy (kind n : Int) (field text : List UInt8) (lo hi : Bd) (occ : List Int) (ks : List Nd) (h9 : kind < 9) : RfmOk (.mk kind field text n lo hi occ ks) := by
 intro w F x hx hbk hg hA
 have hn := good_num hg
 obtain ⟨oa, ka, oc, kc, e, -, hO, hK⟩ := hx.open_
 rw [e]
 clear e hx x
 have hkl : ks.length ≤ 9223372036854775807 := by have h := Nat.le_trans hK.len.1 hK.len.2; unfold maxLen at h; omega
 have hol : occ.length ≤ 9223372036854775807 := by have h : occ.length ≤ maxLen := Nat.le_trans hO.2.1 hO.2.2.1; unfold maxLen at h; omega
 have HK := LH hK; have HO := LH hO
 have hb : field.length ≤ 300000000000 ∧ text.length ≤ 300000000000 ∧ lo.text.length ≤ 300000000000 ∧ hi.text.length ≤ 300000000000 := by rw [bkN] at hbk; omega
 have HT := LH (show formN (.mk kind field text n lo hi occ ks) = (if kind = 8 then [42, 58, 42] else headF field ++ leafF kind text n lo hi) from by rw [formN, if_pos h9])
 have HF8 := LH (show kind = 8 → field = [] from fun e => by
  rw [goodN, Bool.and_eq_true] at hg
  rcases own_cases hg.1 with ⟨_, _, _, h8, _⟩ | ⟨h, _⟩
  ·exact h8 e
  ·omega)
 generalize formN (.mk kind field text n lo hi occ ks) = T at *
 clear hO hK hbk HK HO
 have HBX := LH ((Below.refl w.heap.size w).alloc (Nat.le_refl _) (.cells #[.int .i64 kind, .string (str field), .string (str text), .int .i64 n, .bool lo.open_, .bool lo.in_, .string (str lo.text), .bool hi.open_, .bool hi.in_, .string (str hi.text), .slice oa occ.length oc, .slice ka ks.length kc] 27))
 have HBK := LH (Blk.new w 27 #[.int .i64 kind, .string (str field), .string (str text), .int .i64 n, .bool lo.open_, .bool lo.in_, .string (str lo.text), .bool hi.open_, .bool hi.in_, .string (str hi.text), .slice oa occ.length oc, .slice ka ks.length kc])
 obtain ⟨nn, rfl⟩ : ∃ k : Nat, n = (k : Int) := ⟨n.toNat, by omega⟩
 have HFL := LH (show ∀ W : World, Calls Tryd.prog 93 #[.agg #[.int .i64 kind, .string (str field), .string (str text), .int .i64 (nn : Int), .bool lo.open_, .bool lo.in_, .string (str lo.text), .bool hi.open_, .bool hi.in_, .string (str hi.text), .slice oa occ.length oc, .slice ka ks.length kc]] W (StrRet (str T) W) from fun W => by
  by_cases h8 : kind = 8
  ·subst h8
   obtain rfl := HF8.out rfl
   rw [HT.out, if_pos rfl]
   exact rformleaf_8 (nn : Int) [] text lo hi oa ka occ.length oc ks.length kc W
  ·rw [HT.out, if_neg h8]
   exact rformleaf_any ⟨hn.1, by omega⟩ (by omega) hb.1 hb.2.1 hb.2.2.1 hb.2.2.2)
 clear HT HF8 hg hn hb
 go_enter Tryd.func70, Tryd.ntmps70
 go_wp2_with fail
 refine (HFL.out _).mono ?_
 rintro e w2 ⟨rfl, hb2⟩
 have HB2 := LH (HBX.out.trans (hb2.mono HBX.out.size))
 clear hb2
 go_wp2
 go_ret
 exact ⟨rfl, HB2.out⟩
theorem rform_of (kind n : Int) (field text : List UInt8) (lo hi : Bd) (occ : List Int) (ks : List Nd) (ih : ∀ t ∈ ks, RfmOk t) : RfmOk (.mk kind field text n lo hi occ ks) := by
 by_cases h9 : kind < 9
 ·exact rform_leafy kind n field text lo hi occ ks h9
 intro w F x hx hbk hg hA
 have hn := good_num hg
 obtain ⟨oa, ka, oc, kc, e, -, hO, hK⟩ := hx.open_
 rw [e]
 clear e hx x
 have hkl : ks.length ≤ 9223372036854775807 := by have h := Nat.le_trans hK.len.1 hK.len.2; unfold maxLen at h; omega
 have hol : occ.length ≤ 9223372036854775807 := by have h : occ.length ≤ maxLen := Nat.le_trans hO.2.1 hO.2.2.1; unfold maxLen at h; omega
 have HK := LH hK; have HO := LH hO
 have hb : bkNs ks ≤ 300000000000 := by rw [bkN] at hbk; omega
 have hgd := hg
 rw [goodN, Bool.and_eq_true] at hgd
 have HIH := LH (fun t (ht : t ∈ ks) (W : World) (hW : Below w.heap.size w W) (y : NV) (m : Nat) (hm : m ≤ 10) (hy : NdR W F y t) => rprinted_of t (ih t ht) W F y m hy (Nat.le_trans (bkNs_mem ht) hb) ((goodNs_all _).1 hgd.2 t ht) (hA.below hW) hm)
 have HAE := LH hA
 have HOC := LH (show 9 ≤ kind ∧ kind ≤ 15 ∧ (kind = 9 → occ.length = ks.length) ∧ (kind = 9 → ∀ o ∈ occ, 0 ≤ o ∧ o ≤ 2) ∧ ((kind = 13 ∨ kind = 14 ∨ kind = 15) → ks.length = 1) from by
  rcases own_cases hgd.1 with ⟨_, _, _, _, h⟩ | ⟨h9, h15, hf, ht, hlo, hhi, hn0, hn1, hp, hoc, -, hz, h1⟩
  ·omega
  ·exact ⟨h9, h15, fun e => (hoc e).1, fun e => (hoc e).2, fun e => h1 (by omega)⟩)
 have HT := LH (show formN (.mk kind field text n lo hi occ ks) = aroundF kind n (formNs kind true occ ks) from by rw [formN, if_neg h9])
 have HLT := LH (show (formNs kind true occ ks).length ≤ 20000000000000 from by
  have h1 := forms_len ks kind true occ hgd.2
  have h2 := sizes_bk ks
  omega)
 generalize hTT : formN (.mk kind field text n lo hi occ ks) = TT at *
 generalize hT0 : formNs kind true occ ks = T at *
 have HT0 := LH hT0
 clear hO hK hbk hb ih hTT hg hgd hT0 hA
 have HBX := LH ((Below.refl w.heap.size w).alloc (Nat.le_refl _) (.cells #[.int .i64 kind, .string (str field), .string (str text), .int .i64 n, .bool lo.open_, .bool lo.in_, .string (str lo.text), .bool hi.open_, .bool hi.in_, .string (str hi.text), .slice oa occ.length oc, .slice ka ks.length kc] 27))
 have HBK := LH (Blk.new w 27 #[.int .i64 kind, .string (str field), .string (str text), .int .i64 n, .bool lo.open_, .bool lo.in_, .string (str lo.text), .bool hi.open_, .bool hi.in_, .string (str hi.text), .slice oa occ.length oc, .slice ka ks.length kc])
 obtain ⟨nn, rfl⟩ : ∃ k : Nat, n = (k : Int) := ⟨n.toNat, by omega⟩
 have HDG := LH (fun W => rdigits_any nn (by omega) W)
 have g9 := decN_len nn (by omega)
 rw [← str_size] at g9
 have h9d : decide (kind < 9) = false := decide_eq_false h9
 go_enter Tryd.func70, Tryd.ntmps70
 go_wp2
 generalize hw2 : (w.alloc (.cells #[.int .i64 kind, .string (str field), .string (str text), .int .i64 (nn : Int), .bool lo.open_, .bool lo.in_, .string (str lo.text), .bool hi.open_, .bool hi.in_, .string (str hi.text), .slice oa occ.length oc, .slice ka ks.length kc] 27)) = w2 at *
 have HBK2 := LH HBK.out
 clear hw2
 go_loopw [3, 4] (fun sv iv wr => RfRel kind occ ks T w2 sv iv wr) (fun _ iv _ => ks.length - (intOf iv).toNat)
 case atStart => exact ⟨0, [], Nat.zero_le _, rfl, rfl, by rw [← HT0.out]; rfl, Below.refl _ _⟩
 case round =>
  obtain ⟨j, m, hj, rfl, rfl, hmx, hb⟩ := hrel
  have HBR := LH hb; have HM := LH hmx
  have HBW := LH (HBX.out.trans (hb.mono HBX.out.size))
  have hnk := HBK2.out.belowW hb
  obtain ⟨n0, n1, n2, n3, n4, n5, n6, n7, n8, n9, n10, n11, -, -, -, -, -, -, -, -, -, -, -, -, ln⟩ := blk12 hnk
  clear hb hmx hnk
  by_cases hlt : j < ks.length
  ·obtain ⟨a, y, rfl, ⟨hab, q0, q1, q2, q3, q4, q5, q6, q7, q8, q9, q10, q11⟩, hy⟩ := (HK.out.belowW HBW.out).kid hlt
   have hih := HIH.out ks[j] (List.getElem_mem hlt)
   have HST := LH (formNs_at (kind := kind) (b := decide (j = 0)) (occ := occ) hlt)
   generalize ks[j] = t at *
   obtain ⟨kd3, fl3, tx3, xn3, ⟨la3, lb3, lc3⟩, ⟨ra3, rb3, rc3⟩, ⟨oa3, on3, oc3⟩, ⟨ka3, kn3, kc3⟩⟩ := y
   simp only [] at q0 q1 q2 q3 q4 q5 q6 q7 q8 q9 q10 q11
   have hoc := HOC.out
   have HCB := LH (fun (W : World) (hW : Below wr.heap.size wr W) => (rat_any hoc.1 hoc.2.1 (nn : Int) field text lo hi occ oa (some a) oc ks.length kc j W F (HAE.out.below (HBW.out.trans (hW.mono HBW.out.size))) (HO.out.belowW (HBW.out.trans (hW.mono HBW.out.size))) (fun e => by rw [hoc.2.2.1 e]; exact hlt)).mono (fun e w' h => (show e = .returned (.int .i64 (barK kind (occ.getD j 0) : Int)) ∧ Below wr.heap.size wr w' from ⟨h.1, by rw [← h.2]; exact hW.alloc hW.size _⟩)))
   have HCN := LH (fun (W : World) (hW : Below wr.heap.size wr W) => (hih W (HBW.out.trans (hW.mono HBW.out.size)) _ (barK kind (occ.getD j 0)) (barK_le _ _) (hy.belowW hW)).mono (fun e w' h => (show e = .returned (.string (str (brF (decide (levN t < barK kind (occ.getD j 0))) (formN t)))) ∧ Below wr.heap.size wr w' from ⟨h.1, hW.trans (h.2.mono hW.size)⟩)))
   unfold NV.val at HCN
   simp only [] at HCN
   have HSF := LH (fun (W : World) (hW : Below wr.heap.size wr W) => (show W.cell? ⟨w.heap.size, 0, none⟩ = some (.int .i64 kind) ∧ W.cell? ⟨w.heap.size, 1, none⟩ = some (.string (str field)) ∧ W.cell? ⟨w.heap.size, 2, none⟩ = some (.string (str text)) ∧ W.cell? ⟨w.heap.size, 3, none⟩ = some (.int .i64 (nn : Int)) ∧ W.cell? ⟨w.heap.size, 4, none⟩ = some (.bool lo.open_) ∧ W.cell? ⟨w.heap.size, 5, none⟩ = some (.bool lo.in_) ∧ W.cell? ⟨w.heap.size, 6, none⟩ = some (.string (str lo.text)) ∧ W.cell? ⟨w.heap.size, 7, none⟩ = some (.bool hi.open_) ∧ W.cell? ⟨w.heap.size, 8, none⟩ = some (.bool hi.in_) ∧ W.cell? ⟨w.heap.size, 9, none⟩ = some (.string (str hi.text)) ∧ W.cell? ⟨w.heap.size, 10, none⟩ = some (.slice oa occ.length oc) ∧ W.cell? ⟨w.heap.size, 11, none⟩ = some (.slice (some a) ks.length kc) ∧ W.cell? (a.add (j * 12)) = some (.int .i64 kd3) ∧ W.cell? ⟨(a.add (j * 12)).block, (a.add (j * 12)).off + 1, none⟩ = some (.string (str fl3)) ∧ W.cell? ⟨(a.add (j * 12)).block, (a.add (j * 12)).off + 2, none⟩ = some (.string (str tx3)) ∧ W.cell? ⟨(a.add (j * 12)).block, (a.add (j * 12)).off + 3, none⟩ = some (.int .i64 xn3) ∧ W.cell? ⟨(a.add (j * 12)).block, (a.add (j * 12)).off + 4, none⟩ = some (.bool la3) ∧ W.cell? ⟨(a.add (j * 12)).block, (a.add (j * 12)).off + 5, none⟩ = some (.bool lb3) ∧ W.cell? ⟨(a.add (j * 12)).block, (a.add (j * 12)).off + 6, none⟩ = some (.string (str lc3)) ∧ W.cell? ⟨(a.add (j * 12)).block, (a.add (j * 12)).off + 7, none⟩ = some (.bool ra3) ∧ W.cell? ⟨(a.add (j * 12)).block, (a.add (j * 12)).off + 8, none⟩ = some (.bool rb3) ∧ W.cell? ⟨(a.add (j * 12)).block, (a.add (j * 12)).off + 9, none⟩ = some (.string (str rc3)) ∧ W.cell? ⟨(a.add (j * 12)).block, (a.add (j * 12)).off + 10, none⟩ = some (.slice oa3 on3 oc3) ∧ W.cell? ⟨(a.add (j * 12)).block, (a.add (j * 12)).off + 11, none⟩ = some (.slice ka3 kn3 kc3) ∧ Below wr.heap.size wr W from ⟨(hW.cell (p := ⟨w.heap.size, 0, none⟩) ln).trans n0, (hW.cell (p := ⟨w.heap.size, 1, none⟩) ln).trans n1, (hW.cell (p := ⟨w.heap.size, 2, none⟩) ln).trans n2, (hW.cell (p := ⟨w.heap.size, 3, none⟩) ln).trans n3, (hW.cell (p := ⟨w.heap.size, 4, none⟩) ln).trans n4, (hW.cell (p := ⟨w.heap.size, 5, none⟩) ln).trans n5, (hW.cell (p := ⟨w.heap.size, 6, none⟩) ln).trans n6, (hW.cell (p := ⟨w.heap.size, 7, none⟩) ln).trans n7, (hW.cell (p := ⟨w.heap.size, 8, none⟩) ln).trans n8, (hW.cell (p := ⟨w.heap.size, 9, none⟩) ln).trans n9, (hW.cell (p := ⟨w.heap.size, 10, none⟩) ln).trans n10, (hW.cell (p := ⟨w.heap.size, 11, none⟩) ln).trans n11, (hW.cell (p := a.add (j * 12)) hab).trans q0, (hW.cell (p := ⟨(a.add (j * 12)).block, (a.add (j * 12)).off + 1, none⟩) hab).trans q1, (hW.cell (p := ⟨(a.add (j * 12)).block, (a.add (j * 12)).off + 2, none⟩) hab).trans q2, (hW.cell (p := ⟨(a.add (j * 12)).block, (a.add (j * 12)).off + 3, none⟩) hab).trans q3, (hW.cell (p := ⟨(a.add (j * 12)).block, (a.add (j * 12)).off + 4, none⟩) hab).trans q4, (hW.cell (p := ⟨(a.add (j * 12)).block, (a.add (j * 12)).off + 5, none⟩) hab).trans q5, (hW.cell (p := ⟨(a.add (j * 12)).block, (a.add (j * 12)).off + 6, none⟩) hab).trans q6, (hW.cell (p := ⟨(a.add (j * 12)).block, (a.add (j * 12)).off + 7, none⟩) hab).trans q7, (hW.cell (p := ⟨(a.add (j * 12)).block, (a.add (j * 12)).off + 8, none⟩) hab).trans q8, (hW.cell (p := ⟨(a.add (j * 12)).block, (a.add (j * 12)).off + 9, none⟩) hab).trans q9, (hW.cell (p := ⟨(a.add (j * 12)).block, (a.add (j * 12)).off + 10, none⟩) hab).trans q10, (hW.cell (p := ⟨(a.add (j * 12)).block, (a.add (j * 12)).off + 11, none⟩) hab).trans q11, hW⟩))
   have g0 := str_size m
   have HML := LH (show m.length + ((if decide (j = 0) = true then [] else sepF kind) ++ ((if kind = 9 then signF (occ.getD j 0) else []) ++ (brF (decide (levN t < barK kind (occ.getD j 0))) (formN t) ++ formNs kind false (occ.drop (j + 1)) (ks.drop (j + 1))))).length ≤ 20000000000000 from by
    have h := HLT.out
    rw [← HM.out, HST.out, List.length_append] at h
    exact h)
   have HEQ0 := LH (show m ++ ((if decide (j = 0) = true then [] else sepF kind) ++ ((if kind = 9 then signF (occ.getD j 0) else []) ++ (brF (decide (levN t < barK kind (occ.getD j 0))) (formN t) ++ formNs kind false (occ.drop (j + 1)) (ks.drop (j + 1))))) = T from by rw [← HST.out]; exact HM.out)
   have gk := str_size (brF (decide (levN t < barK kind (occ.getD j 0))) (formN t))
   generalize brF (decide (levN t < barK kind (occ.getD j 0))) (formN t) = kf at *
   generalize barK kind (occ.getD j 0) = br at *
   have HRR := LH (show formNs kind (decide (j + 1 = 0)) (occ.drop (j + 1)) (ks.drop (j + 1)) = formNs kind false (occ.drop (j + 1)) (ks.drop (j + 1)) from by rw [decide_eq_false (by omega : ¬ j + 1 = 0)])
   generalize formNs kind false (occ.drop (j + 1)) (ks.drop (j + 1)) = R at *
   clear HM HST hih hy
   by_cases hk : kind = 9
   ·subst hk
    have hjo : j < occ.length := by rw [hoc.2.2.1 rfl]; exact hlt
    obtain ⟨ao, rfl, hc0⟩ := occ_cell (HO.out.belowW HBW.out) hjo
    have hib : (j : Int) < (occ.length : Int) := by omega
    have hgx : occ.getD j 0 = occ[j] := by rw [List.getD_eq_getElem?_getD, List.getElem?_eq_getElem hjo]; rfl
    have hx2 := hoc.2.2.2.1 rfl _ (List.getElem_mem hjo)
    rw [hgx] at HML HEQ0
    clear hgx hoc
    generalize occ[j] = x at *
    have h3 : x = 1 ∨ x = 2 ∨ x = 0 := by omega
    clear hx2
    rcases h3 with rfl | rfl | rfl
    ·by_cases hj0 : j = 0
     ·have hml := HML.out
      have heq := HEQ0.out
      rw [decide_eq_true hj0, if_pos rfl, if_pos rfl] at hml heq
      have HEQ := LH (show m ++ ([] ++ ([43] ++ (kf ++ R))) = T from heq)
      rw [show signF 1 = [43] from rfl] at hml
      simp only [List.length_append, List.length_cons, List.length_nil] at hml
      clear heq HML HEQ0
      have gp := str_size (sepF 9)
      have hjn : ¬ 0 < j := by omega
      have hjd : decide ((0 : Int) < (j : Int)) = false := decide_eq_false (by omega)
      clear hj0 
      have HBZ := LH (show Below wr.heap.size wr wr from Below.refl _ _)
      have hbz := HBZ.out
      obtain ⟨z0, z1, z2, z3, z4, z5, z6, z7, z8, z9, z10, z11, y0, y1, y2, y3, y4, y5, y6, y7, y8, y9, y10, y11, -⟩ := HSF.out wr HBZ.out
      have hcx := (HBZ.out.cell (World.block_lt_of_cell? _ _ hc0)).trans hc0
      have hcl := World.block_lt_of_cell? _ _ hcx
      have qs2 := fun W => str_add (P := Tryd.prog) (str m) ((⟨#[43]⟩ : ByteArray)) (by rw [show (⟨#[43]⟩ : ByteArray).size = 1 from rfl]; omega) W
      obtain ⟨s2, hnew⟩ : ∃ z, z = str m ++ (⟨#[43]⟩ : ByteArray) := ⟨_, rfl⟩
      simp only [← hnew] at qs2
      have Hs2 := LH (show s2 = str (m ++ [43]) from by rw [hnew]; exact add1 _ _ _ rfl)
      have gs2 : s2.size = (str m).size + ((⟨#[43]⟩ : ByteArray)).size := by rw [hnew, ba_append_size]
      clear hnew
      rw [show (⟨#[43]⟩ : ByteArray).size = 1 from rfl] at gs2
      have qs3 := fun W => str_add (P := Tryd.prog) (s2) (str kf) (by omega) W
      obtain ⟨s3, hnew⟩ : ∃ z, z = s2 ++ str kf := ⟨_, rfl⟩
      simp only [← hnew] at qs3
      have Hs3 := LH (show s3 = str (m ++ [43] ++ kf) from by rw [hnew, Hs2.out]; exact add1 _ _ _ rfl)
      have gs3 : s3.size = (s2).size + (str kf).size := by rw [hnew, ba_append_size]
      clear hnew
      generalize str kf = sk at *
      go_wp2_with fail
      clear n0 n1 n2 n3 n4 n5 n6 n7 n8 n9 n10 n11 q0 q1 q2 q3 q4 q5 q6 q7 q8 q9 q10 q11 z0 z1 z2 z3 z4 z5 z6 z7 z8 z9 z10 z11 y0 y1 y2 y3 y4 y5 y6 y7 y8 y9 y10 y11 hcx hcl
      go_region_held3 (fun W => W.cell? ⟨w.heap.size, 0, none⟩ = some (.int .i64 9) ∧ W.cell? ⟨w.heap.size, 1, none⟩ = some (.string (str field)) ∧ W.cell? ⟨w.heap.size, 2, none⟩ = some (.string (str text)) ∧ W.cell? ⟨w.heap.size, 3, none⟩ = some (.int .i64 (nn : Int)) ∧ W.cell? ⟨w.heap.size, 4, none⟩ = some (.bool lo.open_) ∧ W.cell? ⟨w.heap.size, 5, none⟩ = some (.bool lo.in_) ∧ W.cell? ⟨w.heap.size, 6, none⟩ = some (.string (str lo.text)) ∧ W.cell? ⟨w.heap.size, 7, none⟩ = some (.bool hi.open_) ∧ W.cell? ⟨w.heap.size, 8, none⟩ = some (.bool hi.in_) ∧ W.cell? ⟨w.heap.size, 9, none⟩ = some (.string (str hi.text)) ∧ W.cell? ⟨w.heap.size, 10, none⟩ = some (.slice (some ao) occ.length oc) ∧ W.cell? ⟨w.heap.size, 11, none⟩ = some (.slice (some a) ks.length kc) ∧ W.cell? (a.add (j * 12)) = some (.int .i64 kd3) ∧ W.cell? ⟨(a.add (j * 12)).block, (a.add (j * 12)).off + 1, none⟩ = some (.string (str fl3)) ∧ W.cell? ⟨(a.add (j * 12)).block, (a.add (j * 12)).off + 2, none⟩ = some (.string (str tx3)) ∧ W.cell? ⟨(a.add (j * 12)).block, (a.add (j * 12)).off + 3, none⟩ = some (.int .i64 xn3) ∧ W.cell? ⟨(a.add (j * 12)).block, (a.add (j * 12)).off + 4, none⟩ = some (.bool la3) ∧ W.cell? ⟨(a.add (j * 12)).block, (a.add (j * 12)).off + 5, none⟩ = some (.bool lb3) ∧ W.cell? ⟨(a.add (j * 12)).block, (a.add (j * 12)).off + 6, none⟩ = some (.string (str lc3)) ∧ W.cell? ⟨(a.add (j * 12)).block, (a.add (j * 12)).off + 7, none⟩ = some (.bool ra3) ∧ W.cell? ⟨(a.add (j * 12)).block, (a.add (j * 12)).off + 8, none⟩ = some (.bool rb3) ∧ W.cell? ⟨(a.add (j * 12)).block, (a.add (j * 12)).off + 9, none⟩ = some (.string (str rc3)) ∧ W.cell? ⟨(a.add (j * 12)).block, (a.add (j * 12)).off + 10, none⟩ = some (.slice oa3 on3 oc3) ∧ W.cell? ⟨(a.add (j * 12)).block, (a.add (j * 12)).off + 11, none⟩ = some (.slice ka3 kn3 kc3) ∧ Below wr.heap.size wr W) (exact HSF.out _ (by repeat (first | assumption | exact Below.refl _ _ | with_reducible refine Below.drew ?_))) ((first | ((with_reducible refine (HCB.out _ ?_).mono ?_); (repeat (first | assumption | exact Below.refl _ _ | with_reducible refine Below.drew ?_)); (rintro e w' ⟨rfl, hk1⟩)) | ((with_reducible refine (HCN.out _ ?_).mono ?_); (repeat (first | assumption | exact Below.refl _ _ | with_reducible refine Below.drew ?_)); (rintro e w' ⟨rfl, hk2⟩))))
      rename_i hfin
      have HBF := LH (show Below w2.heap.size w2 _ from HBR.out.trans (hfin.2.2.2.2.2.2.2.2.2.2.2.2.2.2.2.2.2.2.2.2.2.2.2.2.mono HBR.out.size))
      clear hfin
      go_wp2
      go_roundw
      case rel =>
       refine ⟨j + 1, m ++ [43] ++ kf, hlt, by go_num, by rw [Hs3.out], ?_, HBF.out⟩
       rw [HRR.out, ← HEQ.out]
       simp
      case measure => simp [intOf]; omega
     ·have hml := HML.out
      have heq := HEQ0.out
      rw [decide_eq_false hj0, if_neg (by simp), if_pos rfl] at hml heq
      have HEQ := LH (show m ++ (sepF 9 ++ ([43] ++ (kf ++ R))) = T from heq)
      rw [show signF 1 = [43] from rfl] at hml
      simp only [List.length_append, List.length_cons, List.length_nil] at hml
      clear heq HML HEQ0
      have gp := str_size (sepF 9)
      have hjn : 0 < j := by omega
      have hjd : decide ((0 : Int) < (j : Int)) = true := decide_eq_true (by omega)
      clear hj0 
      have qs1 := fun W => str_add (P := Tryd.prog) (str m) (str (sepF 9)) (by omega) W
      obtain ⟨s1, hnew⟩ : ∃ z, z = str m ++ str (sepF 9) := ⟨_, rfl⟩
      simp only [← hnew] at qs1
      have Hs1 := LH (show s1 = str (m ++ sepF 9) from by rw [hnew]; exact add1 _ _ _ rfl)
      have gs1 : s1.size = (str m).size + (str (sepF 9)).size := by rw [hnew, ba_append_size]
      clear hnew
      go_wp2_with fail
      refine (rbetween_any 9 (nn : Int) field text lo hi (some ao) (some a) occ.length oc ks.length kc _).mono ?_
      rintro e wz ⟨rfl, hwz⟩
      have HBZ := LH (show Below wr.heap.size wr wz from by rw [← hwz]; exact (Below.refl _ _).alloc (Nat.le_refl _) _)
      have hbz := HBZ.out
      clear hwz
      obtain ⟨z0, z1, z2, z3, z4, z5, z6, z7, z8, z9, z10, z11, y0, y1, y2, y3, y4, y5, y6, y7, y8, y9, y10, y11, -⟩ := HSF.out wz HBZ.out
      have hcx := (HBZ.out.cell (World.block_lt_of_cell? _ _ hc0)).trans hc0
      have hcl := World.block_lt_of_cell? _ _ hcx
      have qs2 := fun W => str_add (P := Tryd.prog) (s1) ((⟨#[43]⟩ : ByteArray)) (by rw [show (⟨#[43]⟩ : ByteArray).size = 1 from rfl]; omega) W
      obtain ⟨s2, hnew⟩ : ∃ z, z = s1 ++ (⟨#[43]⟩ : ByteArray) := ⟨_, rfl⟩
      simp only [← hnew] at qs2
      have Hs2 := LH (show s2 = str (m ++ sepF 9 ++ [43]) from by rw [hnew, Hs1.out]; exact add1 _ _ _ rfl)
      have gs2 : s2.size = (s1).size + ((⟨#[43]⟩ : ByteArray)).size := by rw [hnew, ba_append_size]
      clear hnew
      rw [show (⟨#[43]⟩ : ByteArray).size = 1 from rfl] at gs2
      have qs3 := fun W => str_add (P := Tryd.prog) (s2) (str kf) (by omega) W
      obtain ⟨s3, hnew⟩ : ∃ z, z = s2 ++ str kf := ⟨_, rfl⟩
      simp only [← hnew] at qs3
      have Hs3 := LH (show s3 = str (m ++ sepF 9 ++ [43] ++ kf) from by rw [hnew, Hs2.out]; exact add1 _ _ _ rfl)
      have gs3 : s3.size = (s2).size + (str kf).size := by rw [hnew, ba_append_size]
      clear hnew
      generalize str kf = sk at *
      go_wp2_with fail
      clear n0 n1 n2 n3 n4 n5 n6 n7 n8 n9 n10 n11 q0 q1 q2 q3 q4 q5 q6 q7 q8 q9 q10 q11 z0 z1 z2 z3 z4 z5 z6 z7 z8 z9 z10 z11 y0 y1 y2 y3 y4 y5 y6 y7 y8 y9 y10 y11 hcx hcl
      go_region_held3 (fun W => W.cell? ⟨w.heap.size, 0, none⟩ = some (.int .i64 9) ∧ W.cell? ⟨w.heap.size, 1, none⟩ = some (.string (str field)) ∧ W.cell? ⟨w.heap.size, 2, none⟩ = some (.string (str text)) ∧ W.cell? ⟨w.heap.size, 3, none⟩ = some (.int .i64 (nn : Int)) ∧ W.cell? ⟨w.heap.size, 4, none⟩ = some (.bool lo.open_) ∧ W.cell? ⟨w.heap.size, 5, none⟩ = some (.bool lo.in_) ∧ W.cell? ⟨w.heap.size, 6, none⟩ = some (.string (str lo.text)) ∧ W.cell? ⟨w.heap.size, 7, none⟩ = some (.bool hi.open_) ∧ W.cell? ⟨w.heap.size, 8, none⟩ = some (.bool hi.in_) ∧ W.cell? ⟨w.heap.size, 9, none⟩ = some (.string (str hi.text)) ∧ W.cell? ⟨w.heap.size, 10, none⟩ = some (.slice (some ao) occ.length oc) ∧ W.cell? ⟨w.heap.size, 11, none⟩ = some (.slice (some a) ks.length kc) ∧ W.cell? (a.add (j * 12)) = some (.int .i64 kd3) ∧ W.cell? ⟨(a.add (j * 12)).block, (a.add (j * 12)).off + 1, none⟩ = some (.string (str fl3)) ∧ W.cell? ⟨(a.add (j * 12)).block, (a.add (j * 12)).off + 2, none⟩ = some (.string (str tx3)) ∧ W.cell? ⟨(a.add (j * 12)).block, (a.add (j * 12)).off + 3, none⟩ = some (.int .i64 xn3) ∧ W.cell? ⟨(a.add (j * 12)).block, (a.add (j * 12)).off + 4, none⟩ = some (.bool la3) ∧ W.cell? ⟨(a.add (j * 12)).block, (a.add (j * 12)).off + 5, none⟩ = some (.bool lb3) ∧ W.cell? ⟨(a.add (j * 12)).block, (a.add (j * 12)).off + 6, none⟩ = some (.string (str lc3)) ∧ W.cell? ⟨(a.add (j * 12)).block, (a.add (j * 12)).off + 7, none⟩ = some (.bool ra3) ∧ W.cell? ⟨(a.add (j * 12)).block, (a.add (j * 12)).off + 8, none⟩ = some (.bool rb3) ∧ W.cell? ⟨(a.add (j * 12)).block, (a.add (j * 12)).off + 9, none⟩ = some (.string (str rc3)) ∧ W.cell? ⟨(a.add (j * 12)).block, (a.add (j * 12)).off + 10, none⟩ = some (.slice oa3 on3 oc3) ∧ W.cell? ⟨(a.add (j * 12)).block, (a.add (j * 12)).off + 11, none⟩ = some (.slice ka3 kn3 kc3) ∧ Below wr.heap.size wr W) (exact HSF.out _ (by repeat (first | assumption | exact Below.refl _ _ | with_reducible refine Below.drew ?_))) ((first | ((with_reducible refine (HCB.out _ ?_).mono ?_); (repeat (first | assumption | exact Below.refl _ _ | with_reducible refine Below.drew ?_)); (rintro e w' ⟨rfl, hk1⟩)) | ((with_reducible refine (HCN.out _ ?_).mono ?_); (repeat (first | assumption | exact Below.refl _ _ | with_reducible refine Below.drew ?_)); (rintro e w' ⟨rfl, hk2⟩))))
      rename_i hfin
      have HBF := LH (show Below w2.heap.size w2 _ from HBR.out.trans (hfin.2.2.2.2.2.2.2.2.2.2.2.2.2.2.2.2.2.2.2.2.2.2.2.2.mono HBR.out.size))
      clear hfin
      go_wp2
      go_roundw
      case rel =>
       refine ⟨j + 1, m ++ sepF 9 ++ [43] ++ kf, hlt, by go_num, by rw [Hs3.out], ?_, HBF.out⟩
       rw [HRR.out, ← HEQ.out]
       simp
      case measure => simp [intOf]; omega
    ·by_cases hj0 : j = 0
     ·have hml := HML.out
      have heq := HEQ0.out
      rw [decide_eq_true hj0, if_pos rfl, if_pos rfl] at hml heq
      have HEQ := LH (show m ++ ([] ++ ([45] ++ (kf ++ R))) = T from heq)
      rw [show signF 2 = [45] from rfl] at hml
      simp only [List.length_append, List.length_cons, List.length_nil] at hml
      clear heq HML HEQ0
      have gp := str_size (sepF 9)
      have hjn : ¬ 0 < j := by omega
      have hjd : decide ((0 : Int) < (j : Int)) = false := decide_eq_false (by omega)
      clear hj0 
      have HBZ := LH (show Below wr.heap.size wr wr from Below.refl _ _)
      have hbz := HBZ.out
      obtain ⟨z0, z1, z2, z3, z4, z5, z6, z7, z8, z9, z10, z11, y0, y1, y2, y3, y4, y5, y6, y7, y8, y9, y10, y11, -⟩ := HSF.out wr HBZ.out
      have hcx := (HBZ.out.cell (World.block_lt_of_cell? _ _ hc0)).trans hc0
      have hcl := World.block_lt_of_cell? _ _ hcx
      have qs2 := fun W => str_add (P := Tryd.prog) (str m) ((⟨#[45]⟩ : ByteArray)) (by rw [show (⟨#[45]⟩ : ByteArray).size = 1 from rfl]; omega) W
      obtain ⟨s2, hnew⟩ : ∃ z, z = str m ++ (⟨#[45]⟩ : ByteArray) := ⟨_, rfl⟩
      simp only [← hnew] at qs2
      have Hs2 := LH (show s2 = str (m ++ [45]) from by rw [hnew]; exact add1 _ _ _ rfl)
      have gs2 : s2.size = (str m).size + ((⟨#[45]⟩ : ByteArray)).size := by rw [hnew, ba_append_size]
      clear hnew
      rw [show (⟨#[45]⟩ : ByteArray).size = 1 from rfl] at gs2
      have qs3 := fun W => str_add (P := Tryd.prog) (s2) (str kf) (by omega) W
      obtain ⟨s3, hnew⟩ : ∃ z, z = s2 ++ str kf := ⟨_, rfl⟩
      simp only [← hnew] at qs3
      have Hs3 := LH (show s3 = str (m ++ [45] ++ kf) from by rw [hnew, Hs2.out]; exact add1 _ _ _ rfl)
      have gs3 : s3.size = (s2).size + (str kf).size := by rw [hnew, ba_append_size]
      clear hnew
      generalize str kf = sk at *
      go_wp2_with fail
      clear n0 n1 n2 n3 n4 n5 n6 n7 n8 n9 n10 n11 q0 q1 q2 q3 q4 q5 q6 q7 q8 q9 q10 q11 z0 z1 z2 z3 z4 z5 z6 z7 z8 z9 z10 z11 y0 y1 y2 y3 y4 y5 y6 y7 y8 y9 y10 y11 hcx hcl
      go_region_held3 (fun W => W.cell? ⟨w.heap.size, 0, none⟩ = some (.int .i64 9) ∧ W.cell? ⟨w.heap.size, 1, none⟩ = some (.string (str field)) ∧ W.cell? ⟨w.heap.size, 2, none⟩ = some (.string (str text)) ∧ W.cell? ⟨w.heap.size, 3, none⟩ = some (.int .i64 (nn : Int)) ∧ W.cell? ⟨w.heap.size, 4, none⟩ = some (.bool lo.open_) ∧ W.cell? ⟨w.heap.size, 5, none⟩ = some (.bool lo.in_) ∧ W.cell? ⟨w.heap.size, 6, none⟩ = some (.string (str lo.text)) ∧ W.cell? ⟨w.heap.size, 7, none⟩ = some (.bool hi.open_) ∧ W.cell? ⟨w.heap.size, 8, none⟩ = some (.bool hi.in_) ∧ W.cell? ⟨w.heap.size, 9, none⟩ = some (.string (str hi.text)) ∧ W.cell? ⟨w.heap.size, 10, none⟩ = some (.slice (some ao) occ.length oc) ∧ W.cell? ⟨w.heap.size, 11, none⟩ = some (.slice (some a) ks.length kc) ∧ W.cell? (a.add (j * 12)) = some (.int .i64 kd3) ∧ W.cell? ⟨(a.add (j * 12)).block, (a.add (j * 12)).off + 1, none⟩ = some (.string (str fl3)) ∧ W.cell? ⟨(a.add (j * 12)).block, (a.add (j * 12)).off + 2, none⟩ = some (.string (str tx3)) ∧ W.cell? ⟨(a.add (j * 12)).block, (a.add (j * 12)).off + 3, none⟩ = some (.int .i64 xn3) ∧ W.cell? ⟨(a.add (j * 12)).block, (a.add (j * 12)).off + 4, none⟩ = some (.bool la3) ∧ W.cell? ⟨(a.add (j * 12)).block, (a.add (j * 12)).off + 5, none⟩ = some (.bool lb3) ∧ W.cell? ⟨(a.add (j * 12)).block, (a.add (j * 12)).off + 6, none⟩ = some (.string (str lc3)) ∧ W.cell? ⟨(a.add (j * 12)).block, (a.add (j * 12)).off + 7, none⟩ = some (.bool ra3) ∧ W.cell? ⟨(a.add (j * 12)).block, (a.add (j * 12)).off + 8, none⟩ = some (.bool rb3) ∧ W.cell? ⟨(a.add (j * 12)).block, (a.add (j * 12)).off + 9, none⟩ = some (.string (str rc3)) ∧ W.cell? ⟨(a.add (j * 12)).block, (a.add (j * 12)).off + 10, none⟩ = some (.slice oa3 on3 oc3) ∧ W.cell? ⟨(a.add (j * 12)).block, (a.add (j * 12)).off + 11, none⟩ = some (.slice ka3 kn3 kc3) ∧ Below wr.heap.size wr W) (exact HSF.out _ (by repeat (first | assumption | exact Below.refl _ _ | with_reducible refine Below.drew ?_))) ((first | ((with_reducible refine (HCB.out _ ?_).mono ?_); (repeat (first | assumption | exact Below.refl _ _ | with_reducible refine Below.drew ?_)); (rintro e w' ⟨rfl, hk1⟩)) | ((with_reducible refine (HCN.out _ ?_).mono ?_); (repeat (first | assumption | exact Below.refl _ _ | with_reducible refine Below.drew ?_)); (rintro e w' ⟨rfl, hk2⟩))))
      rename_i hfin
      have HBF := LH (show Below w2.heap.size w2 _ from HBR.out.trans (hfin.2.2.2.2.2.2.2.2.2.2.2.2.2.2.2.2.2.2.2.2.2.2.2.2.mono HBR.out.size))
      clear hfin
      go_wp2
      go_roundw
      case rel =>
       refine ⟨j + 1, m ++ [45] ++ kf, hlt, by go_num, by rw [Hs3.out], ?_, HBF.out⟩
       rw [HRR.out, ← HEQ.out]
       simp
      case measure => simp [intOf]; omega
     ·have hml := HML.out
      have heq := HEQ0.out
      rw [decide_eq_false hj0, if_neg (by simp), if_pos rfl] at hml heq
      have HEQ := LH (show m ++ (sepF 9 ++ ([45] ++ (kf ++ R))) = T from heq)
      rw [show signF 2 = [45] from rfl] at hml
      simp only [List.length_append, List.length_cons, List.length_nil] at hml
      clear heq HML HEQ0
      have gp := str_size (sepF 9)
      have hjn : 0 < j := by omega
      have hjd : decide ((0 : Int) < (j : Int)) = true := decide_eq_true (by omega)
      clear hj0 
      have qs1 := fun W => str_add (P := Tryd.prog) (str m) (str (sepF 9)) (by omega) W
      obtain ⟨s1, hnew⟩ : ∃ z, z = str m ++ str (sepF 9) := ⟨_, rfl⟩
      simp only [← hnew] at qs1
      have Hs1 := LH (show s1 = str (m ++ sepF 9) from by rw [hnew]; exact add1 _ _ _ rfl)
      have gs1 : s1.size = (str m).size + (str (sepF 9)).size := by rw [hnew, ba_append_size]
      clear hnew
      go_wp2_with fail
      refine (rbetween_any 9 (nn : Int) field text lo hi (some ao) (some a) occ.length oc ks.length kc _).mono ?_
      rintro e wz ⟨rfl, hwz⟩
      have HBZ := LH (show Below wr.heap.size wr wz from by rw [← hwz]; exact (Below.refl _ _).alloc (Nat.le_refl _) _)
      have hbz := HBZ.out
      clear hwz
      obtain ⟨z0, z1, z2, z3, z4, z5, z6, z7, z8, z9, z10, z11, y0, y1, y2, y3, y4, y5, y6, y7, y8, y9, y10, y11, -⟩ := HSF.out wz HBZ.out
      have hcx := (HBZ.out.cell (World.block_lt_of_cell? _ _ hc0)).trans hc0
      have hcl := World.block_lt_of_cell? _ _ hcx
      have qs2 := fun W => str_add (P := Tryd.prog) (s1) ((⟨#[45]⟩ : ByteArray)) (by rw [show (⟨#[45]⟩ : ByteArray).size = 1 from rfl]; omega) W
      obtain ⟨s2, hnew⟩ : ∃ z, z = s1 ++ (⟨#[45]⟩ : ByteArray) := ⟨_, rfl⟩
      simp only [← hnew] at qs2
      have Hs2 := LH (show s2 = str (m ++ sepF 9 ++ [45]) from by rw [hnew, Hs1.out]; exact add1 _ _ _ rfl)
      have gs2 : s2.size = (s1).size + ((⟨#[45]⟩ : ByteArray)).size := by rw [hnew, ba_append_size]
      clear hnew
      rw [show (⟨#[45]⟩ : ByteArray).size = 1 from rfl] at gs2
      have qs3 := fun W => str_add (P := Tryd.prog) (s2) (str kf) (by omega) W
      obtain ⟨s3, hnew⟩ : ∃ z, z = s2 ++ str kf := ⟨_, rfl⟩
      simp only [← hnew] at qs3
      have Hs3 := LH (show s3 = str (m ++ sepF 9 ++ [45] ++ kf) from by rw [hnew, Hs2.out]; exact add1 _ _ _ rfl)
      have gs3 : s3.size = (s2).size + (str kf).size := by rw [hnew, ba_append_size]
      clear hnew
      generalize str kf = sk at *
      go_wp2_with fail
      clear n0 n1 n2 n3 n4 n5 n6 n7 n8 n9 n10 n11 q0 q1 q2 q3 q4 q5 q6 q7 q8 q9 q10 q11 z0 z1 z2 z3 z4 z5 z6 z7 z8 z9 z10 z11 y0 y1 y2 y3 y4 y5 y6 y7 y8 y9 y10 y11 hcx hcl
      go_region_held3 (fun W => W.cell? ⟨w.heap.size, 0, none⟩ = some (.int .i64 9) ∧ W.cell? ⟨w.heap.size, 1, none⟩ = some (.string (str field)) ∧ W.cell? ⟨w.heap.size, 2, none⟩ = some (.string (str text)) ∧ W.cell? ⟨w.heap.size, 3, none⟩ = some (.int .i64 (nn : Int)) ∧ W.cell? ⟨w.heap.size, 4, none⟩ = some (.bool lo.open_) ∧ W.cell? ⟨w.heap.size, 5, none⟩ = some (.bool lo.in_) ∧ W.cell? ⟨w.heap.size, 6, none⟩ = some (.string (str lo.text)) ∧ W.cell? ⟨w.heap.size, 7, none⟩ = some (.bool hi.open_) ∧ W.cell? ⟨w.heap.size, 8, none⟩ = some (.bool hi.in_) ∧ W.cell? ⟨w.heap.size, 9, none⟩ = some (.string (str hi.text)) ∧ W.cell? ⟨w.heap.size, 10, none⟩ = some (.slice (some ao) occ.length oc) ∧ W.cell? ⟨w.heap.size, 11, none⟩ = some (.slice (some a) ks.length kc) ∧ W.cell? (a.add (j * 12)) = some (.int .i64 kd3) ∧ W.cell? ⟨(a.add (j * 12)).block, (a.add (j * 12)).off + 1, none⟩ = some (.string (str fl3)) ∧ W.cell? ⟨(a.add (j * 12)).block, (a.add (j * 12)).off + 2, none⟩ = some (.string (str tx3)) ∧ W.cell? ⟨(a.add (j * 12)).block, (a.add (j * 12)).off + 3, none⟩ = some (.int .i64 xn3) ∧ W.cell? ⟨(a.add (j * 12)).block, (a.add (j * 12)).off + 4, none⟩ = some (.bool la3) ∧ W.cell? ⟨(a.add (j * 12)).block, (a.add (j * 12)).off + 5, none⟩ = some (.bool lb3) ∧ W.cell? ⟨(a.add (j * 12)).block, (a.add (j * 12)).off + 6, none⟩ = some (.string (str lc3)) ∧ W.cell? ⟨(a.add (j * 12)).block, (a.add (j * 12)).off + 7, none⟩ = some (.bool ra3) ∧ W.cell? ⟨(a.add (j * 12)).block, (a.add (j * 12)).off + 8, none⟩ = some (.bool rb3) ∧ W.cell? ⟨(a.add (j * 12)).block, (a.add (j * 12)).off + 9, none⟩ = some (.string (str rc3)) ∧ W.cell? ⟨(a.add (j * 12)).block, (a.add (j * 12)).off + 10, none⟩ = some (.slice oa3 on3 oc3) ∧ W.cell? ⟨(a.add (j * 12)).block, (a.add (j * 12)).off + 11, none⟩ = some (.slice ka3 kn3 kc3) ∧ Below wr.heap.size wr W) (exact HSF.out _ (by repeat (first | assumption | exact Below.refl _ _ | with_reducible refine Below.drew ?_))) ((first | ((with_reducible refine (HCB.out _ ?_).mono ?_); (repeat (first | assumption | exact Below.refl _ _ | with_reducible refine Below.drew ?_)); (rintro e w' ⟨rfl, hk1⟩)) | ((with_reducible refine (HCN.out _ ?_).mono ?_); (repeat (first | assumption | exact Below.refl _ _ | with_reducible refine Below.drew ?_)); (rintro e w' ⟨rfl, hk2⟩))))
      rename_i hfin
      have HBF := LH (show Below w2.heap.size w2 _ from HBR.out.trans (hfin.2.2.2.2.2.2.2.2.2.2.2.2.2.2.2.2.2.2.2.2.2.2.2.2.mono HBR.out.size))
      clear hfin
      go_wp2
      go_roundw
      case rel =>
       refine ⟨j + 1, m ++ sepF 9 ++ [45] ++ kf, hlt, by go_num, by rw [Hs3.out], ?_, HBF.out⟩
       rw [HRR.out, ← HEQ.out]
       simp
      case measure => simp [intOf]; omega
    ·by_cases hj0 : j = 0
     ·have hml := HML.out
      have heq := HEQ0.out
      rw [decide_eq_true hj0, if_pos rfl, if_pos rfl] at hml heq
      have HEQ := LH (show m ++ ([] ++ ([] ++ (kf ++ R))) = T from heq)
      rw [show signF 0 = [] from rfl] at hml
      simp only [List.length_append, List.length_cons, List.length_nil] at hml
      clear heq HML HEQ0
      have gp := str_size (sepF 9)
      have hjn : ¬ 0 < j := by omega
      have hjd : decide ((0 : Int) < (j : Int)) = false := decide_eq_false (by omega)
      clear hj0 
      have HBZ := LH (show Below wr.heap.size wr wr from Below.refl _ _)
      have hbz := HBZ.out
      obtain ⟨z0, z1, z2, z3, z4, z5, z6, z7, z8, z9, z10, z11, y0, y1, y2, y3, y4, y5, y6, y7, y8, y9, y10, y11, -⟩ := HSF.out wr HBZ.out
      have hcx := (HBZ.out.cell (World.block_lt_of_cell? _ _ hc0)).trans hc0
      have hcl := World.block_lt_of_cell? _ _ hcx
      have qs3 := fun W => str_add (P := Tryd.prog) (str m) (str kf) (by omega) W
      obtain ⟨s3, hnew⟩ : ∃ z, z = str m ++ str kf := ⟨_, rfl⟩
      simp only [← hnew] at qs3
      have Hs3 := LH (show s3 = str (m ++ kf) from by rw [hnew]; exact add1 _ _ _ rfl)
      have gs3 : s3.size = (str m).size + (str kf).size := by rw [hnew, ba_append_size]
      clear hnew
      generalize str kf = sk at *
      go_wp2_with fail
      clear n0 n1 n2 n3 n4 n5 n6 n7 n8 n9 n10 n11 q0 q1 q2 q3 q4 q5 q6 q7 q8 q9 q10 q11 z0 z1 z2 z3 z4 z5 z6 z7 z8 z9 z10 z11 y0 y1 y2 y3 y4 y5 y6 y7 y8 y9 y10 y11 hcx hcl
      go_region_held3 (fun W => W.cell? ⟨w.heap.size, 0, none⟩ = some (.int .i64 9) ∧ W.cell? ⟨w.heap.size, 1, none⟩ = some (.string (str field)) ∧ W.cell? ⟨w.heap.size, 2, none⟩ = some (.string (str text)) ∧ W.cell? ⟨w.heap.size, 3, none⟩ = some (.int .i64 (nn : Int)) ∧ W.cell? ⟨w.heap.size, 4, none⟩ = some (.bool lo.open_) ∧ W.cell? ⟨w.heap.size, 5, none⟩ = some (.bool lo.in_) ∧ W.cell? ⟨w.heap.size, 6, none⟩ = some (.string (str lo.text)) ∧ W.cell? ⟨w.heap.size, 7, none⟩ = some (.bool hi.open_) ∧ W.cell? ⟨w.heap.size, 8, none⟩ = some (.bool hi.in_) ∧ W.cell? ⟨w.heap.size, 9, none⟩ = some (.string (str hi.text)) ∧ W.cell? ⟨w.heap.size, 10, none⟩ = some (.slice (some ao) occ.length oc) ∧ W.cell? ⟨w.heap.size, 11, none⟩ = some (.slice (some a) ks.length kc) ∧ W.cell? (a.add (j * 12)) = some (.int .i64 kd3) ∧ W.cell? ⟨(a.add (j * 12)).block, (a.add (j * 12)).off + 1, none⟩ = some (.string (str fl3)) ∧ W.cell? ⟨(a.add (j * 12)).block, (a.add (j * 12)).off + 2, none⟩ = some (.string (str tx3)) ∧ W.cell? ⟨(a.add (j * 12)).block, (a.add (j * 12)).off + 3, none⟩ = some (.int .i64 xn3) ∧ W.cell? ⟨(a.add (j * 12)).block, (a.add (j * 12)).off + 4, none⟩ = some (.bool la3) ∧ W.cell? ⟨(a.add (j * 12)).block, (a.add (j * 12)).off + 5, none⟩ = some (.bool lb3) ∧ W.cell? ⟨(a.add (j * 12)).block, (a.add (j * 12)).off + 6, none⟩ = some (.string (str lc3)) ∧ W.cell? ⟨(a.add (j * 12)).block, (a.add (j * 12)).off + 7, none⟩ = some (.bool ra3) ∧ W.cell? ⟨(a.add (j * 12)).block, (a.add (j * 12)).off + 8, none⟩ = some (.bool rb3) ∧ W.cell? ⟨(a.add (j * 12)).block, (a.add (j * 12)).off + 9, none⟩ = some (.string (str rc3)) ∧ W.cell? ⟨(a.add (j * 12)).block, (a.add (j * 12)).off + 10, none⟩ = some (.slice oa3 on3 oc3) ∧ W.cell? ⟨(a.add (j * 12)).block, (a.add (j * 12)).off + 11, none⟩ = some (.slice ka3 kn3 kc3) ∧ Below wr.heap.size wr W) (exact HSF.out _ (by repeat (first | assumption | exact Below.refl _ _ | with_reducible refine Below.drew ?_))) ((first | ((with_reducible refine (HCB.out _ ?_).mono ?_); (repeat (first | assumption | exact Below.refl _ _ | with_reducible refine Below.drew ?_)); (rintro e w' ⟨rfl, hk1⟩)) | ((with_reducible refine (HCN.out _ ?_).mono ?_); (repeat (first | assumption | exact Below.refl _ _ | with_reducible refine Below.drew ?_)); (rintro e w' ⟨rfl, hk2⟩))))
      rename_i hfin
      have HBF := LH (show Below w2.heap.size w2 _ from HBR.out.trans (hfin.2.2.2.2.2.2.2.2.2.2.2.2.2.2.2.2.2.2.2.2.2.2.2.2.mono HBR.out.size))
      clear hfin
      go_wp2
      go_roundw
      case rel =>
       refine ⟨j + 1, m ++ kf, hlt, by go_num, by rw [Hs3.out], ?_, HBF.out⟩
       rw [HRR.out, ← HEQ.out]
       simp
      case measure => simp [intOf]; omega
     ·have hml := HML.out
      have heq := HEQ0.out
      rw [decide_eq_false hj0, if_neg (by simp), if_pos rfl] at hml heq
      have HEQ := LH (show m ++ (sepF 9 ++ ([] ++ (kf ++ R))) = T from heq)
      rw [show signF 0 = [] from rfl] at hml
      simp only [List.length_append, List.length_cons, List.length_nil] at hml
      clear heq HML HEQ0
      have gp := str_size (sepF 9)
      have hjn : 0 < j := by omega
      have hjd : decide ((0 : Int) < (j : Int)) = true := decide_eq_true (by omega)
      clear hj0 
      have qs1 := fun W => str_add (P := Tryd.prog) (str m) (str (sepF 9)) (by omega) W
      obtain ⟨s1, hnew⟩ : ∃ z, z = str m ++ str (sepF 9) := ⟨_, rfl⟩
      simp only [← hnew] at qs1
      have Hs1 := LH (show s1 = str (m ++ sepF 9) from by rw [hnew]; exact add1 _ _ _ rfl)
      have gs1 : s1.size = (str m).size + (str (sepF 9)).size := by rw [hnew, ba_append_size]
      clear hnew
      go_wp2_with fail
      refine (rbetween_any 9 (nn : Int) field text lo hi (some ao) (some a) occ.length oc ks.length kc _).mono ?_
      rintro e wz ⟨rfl, hwz⟩
      have HBZ := LH (show Below wr.heap.size wr wz from by rw [← hwz]; exact (Below.refl _ _).alloc (Nat.le_refl _) _)
      have hbz := HBZ.out
      clear hwz
      obtain ⟨z0, z1, z2, z3, z4, z5, z6, z7, z8, z9, z10, z11, y0, y1, y2, y3, y4, y5, y6, y7, y8, y9, y10, y11, -⟩ := HSF.out wz HBZ.out
      have hcx := (HBZ.out.cell (World.block_lt_of_cell? _ _ hc0)).trans hc0
      have hcl := World.block_lt_of_cell? _ _ hcx
      have qs3 := fun W => str_add (P := Tryd.prog) (s1) (str kf) (by omega) W
      obtain ⟨s3, hnew⟩ : ∃ z, z = s1 ++ str kf := ⟨_, rfl⟩
      simp only [← hnew] at qs3
      have Hs3 := LH (show s3 = str (m ++ sepF 9 ++ kf) from by rw [hnew, Hs1.out]; exact add1 _ _ _ rfl)
      have gs3 : s3.size = (s1).size + (str kf).size := by rw [hnew, ba_append_size]
      clear hnew
      generalize str kf = sk at *
      go_wp2_with fail
      clear n0 n1 n2 n3 n4 n5 n6 n7 n8 n9 n10 n11 q0 q1 q2 q3 q4 q5 q6 q7 q8 q9 q10 q11 z0 z1 z2 z3 z4 z5 z6 z7 z8 z9 z10 z11 y0 y1 y2 y3 y4 y5 y6 y7 y8 y9 y10 y11 hcx hcl
      go_region_held3 (fun W => W.cell? ⟨w.heap.size, 0, none⟩ = some (.int .i64 9) ∧ W.cell? ⟨w.heap.size, 1, none⟩ = some (.string (str field)) ∧ W.cell? ⟨w.heap.size, 2, none⟩ = some (.string (str text)) ∧ W.cell? ⟨w.heap.size, 3, none⟩ = some (.int .i64 (nn : Int)) ∧ W.cell? ⟨w.heap.size, 4, none⟩ = some (.bool lo.open_) ∧ W.cell? ⟨w.heap.size, 5, none⟩ = some (.bool lo.in_) ∧ W.cell? ⟨w.heap.size, 6, none⟩ = some (.string (str lo.text)) ∧ W.cell? ⟨w.heap.size, 7, none⟩ = some (.bool hi.open_) ∧ W.cell? ⟨w.heap.size, 8, none⟩ = some (.bool hi.in_) ∧ W.cell? ⟨w.heap.size, 9, none⟩ = some (.string (str hi.text)) ∧ W.cell? ⟨w.heap.size, 10, none⟩ = some (.slice (some ao) occ.length oc) ∧ W.cell? ⟨w.heap.size, 11, none⟩ = some (.slice (some a) ks.length kc) ∧ W.cell? (a.add (j * 12)) = some (.int .i64 kd3) ∧ W.cell? ⟨(a.add (j * 12)).block, (a.add (j * 12)).off + 1, none⟩ = some (.string (str fl3)) ∧ W.cell? ⟨(a.add (j * 12)).block, (a.add (j * 12)).off + 2, none⟩ = some (.string (str tx3)) ∧ W.cell? ⟨(a.add (j * 12)).block, (a.add (j * 12)).off + 3, none⟩ = some (.int .i64 xn3) ∧ W.cell? ⟨(a.add (j * 12)).block, (a.add (j * 12)).off + 4, none⟩ = some (.bool la3) ∧ W.cell? ⟨(a.add (j * 12)).block, (a.add (j * 12)).off + 5, none⟩ = some (.bool lb3) ∧ W.cell? ⟨(a.add (j * 12)).block, (a.add (j * 12)).off + 6, none⟩ = some (.string (str lc3)) ∧ W.cell? ⟨(a.add (j * 12)).block, (a.add (j * 12)).off + 7, none⟩ = some (.bool ra3) ∧ W.cell? ⟨(a.add (j * 12)).block, (a.add (j * 12)).off + 8, none⟩ = some (.bool rb3) ∧ W.cell? ⟨(a.add (j * 12)).block, (a.add (j * 12)).off + 9, none⟩ = some (.string (str rc3)) ∧ W.cell? ⟨(a.add (j * 12)).block, (a.add (j * 12)).off + 10, none⟩ = some (.slice oa3 on3 oc3) ∧ W.cell? ⟨(a.add (j * 12)).block, (a.add (j * 12)).off + 11, none⟩ = some (.slice ka3 kn3 kc3) ∧ Below wr.heap.size wr W) (exact HSF.out _ (by repeat (first | assumption | exact Below.refl _ _ | with_reducible refine Below.drew ?_))) ((first | ((with_reducible refine (HCB.out _ ?_).mono ?_); (repeat (first | assumption | exact Below.refl _ _ | with_reducible refine Below.drew ?_)); (rintro e w' ⟨rfl, hk1⟩)) | ((with_reducible refine (HCN.out _ ?_).mono ?_); (repeat (first | assumption | exact Below.refl _ _ | with_reducible refine Below.drew ?_)); (rintro e w' ⟨rfl, hk2⟩))))
      rename_i hfin
      have HBF := LH (show Below w2.heap.size w2 _ from HBR.out.trans (hfin.2.2.2.2.2.2.2.2.2.2.2.2.2.2.2.2.2.2.2.2.2.2.2.2.mono HBR.out.size))
      clear hfin
      go_wp2
      go_roundw
      case rel =>
       refine ⟨j + 1, m ++ sepF 9 ++ kf, hlt, by go_num, by rw [Hs3.out], ?_, HBF.out⟩
       rw [HRR.out, ← HEQ.out]
       simp
      case measure => simp [intOf]; omega
   ·have hkb : (kind == 9) = false := by rw [beq_eq_false_iff_ne]; exact hk
    clear hoc
    by_cases hj0 : j = 0
    ·have hml := HML.out
     have heq := HEQ0.out
     rw [decide_eq_true hj0, if_pos rfl, if_neg hk] at hml heq
     have HEQ := LH (show m ++ ([] ++ ([] ++ (kf ++ R))) = T from heq)
     skip
     simp only [List.length_append, List.length_cons, List.length_nil] at hml
     clear heq HML HEQ0
     have gp := str_size (sepF kind)
     have hjn : ¬ 0 < j := by omega
     have hjd : decide ((0 : Int) < (j : Int)) = false := decide_eq_false (by omega)
     clear hj0 hk
     have HBZ := LH (show Below wr.heap.size wr wr from Below.refl _ _)
     have hbz := HBZ.out
     obtain ⟨z0, z1, z2, z3, z4, z5, z6, z7, z8, z9, z10, z11, y0, y1, y2, y3, y4, y5, y6, y7, y8, y9, y10, y11, -⟩ := HSF.out wr HBZ.out
     have qs3 := fun W => str_add (P := Tryd.prog) (str m) (str kf) (by omega) W
     obtain ⟨s3, hnew⟩ : ∃ z, z = str m ++ str kf := ⟨_, rfl⟩
     simp only [← hnew] at qs3
     have Hs3 := LH (show s3 = str (m ++ kf) from by rw [hnew]; exact add1 _ _ _ rfl)
     have gs3 : s3.size = (str m).size + (str kf).size := by rw [hnew, ba_append_size]
     clear hnew
     generalize str kf = sk at *
     go_wp2_with fail
     clear n0 n1 n2 n3 n4 n5 n6 n7 n8 n9 n10 n11 q0 q1 q2 q3 q4 q5 q6 q7 q8 q9 q10 q11 z0 z1 z2 z3 z4 z5 z6 z7 z8 z9 z10 z11 y0 y1 y2 y3 y4 y5 y6 y7 y8 y9 y10 y11 
     go_region_held3 (fun W => W.cell? ⟨w.heap.size, 0, none⟩ = some (.int .i64 kind) ∧ W.cell? ⟨w.heap.size, 1, none⟩ = some (.string (str field)) ∧ W.cell? ⟨w.heap.size, 2, none⟩ = some (.string (str text)) ∧ W.cell? ⟨w.heap.size, 3, none⟩ = some (.int .i64 (nn : Int)) ∧ W.cell? ⟨w.heap.size, 4, none⟩ = some (.bool lo.open_) ∧ W.cell? ⟨w.heap.size, 5, none⟩ = some (.bool lo.in_) ∧ W.cell? ⟨w.heap.size, 6, none⟩ = some (.string (str lo.text)) ∧ W.cell? ⟨w.heap.size, 7, none⟩ = some (.bool hi.open_) ∧ W.cell? ⟨w.heap.size, 8, none⟩ = some (.bool hi.in_) ∧ W.cell? ⟨w.heap.size, 9, none⟩ = some (.string (str hi.text)) ∧ W.cell? ⟨w.heap.size, 10, none⟩ = some (.slice oa occ.length oc) ∧ W.cell? ⟨w.heap.size, 11, none⟩ = some (.slice (some a) ks.length kc) ∧ W.cell? (a.add (j * 12)) = some (.int .i64 kd3) ∧ W.cell? ⟨(a.add (j * 12)).block, (a.add (j * 12)).off + 1, none⟩ = some (.string (str fl3)) ∧ W.cell? ⟨(a.add (j * 12)).block, (a.add (j * 12)).off + 2, none⟩ = some (.string (str tx3)) ∧ W.cell? ⟨(a.add (j * 12)).block, (a.add (j * 12)).off + 3, none⟩ = some (.int .i64 xn3) ∧ W.cell? ⟨(a.add (j * 12)).block, (a.add (j * 12)).off + 4, none⟩ = some (.bool la3) ∧ W.cell? ⟨(a.add (j * 12)).block, (a.add (j * 12)).off + 5, none⟩ = some (.bool lb3) ∧ W.cell? ⟨(a.add (j * 12)).block, (a.add (j * 12)).off + 6, none⟩ = some (.string (str lc3)) ∧ W.cell? ⟨(a.add (j * 12)).block, (a.add (j * 12)).off + 7, none⟩ = some (.bool ra3) ∧ W.cell? ⟨(a.add (j * 12)).block, (a.add (j * 12)).off + 8, none⟩ = some (.bool rb3) ∧ W.cell? ⟨(a.add (j * 12)).block, (a.add (j * 12)).off + 9, none⟩ = some (.string (str rc3)) ∧ W.cell? ⟨(a.add (j * 12)).block, (a.add (j * 12)).off + 10, none⟩ = some (.slice oa3 on3 oc3) ∧ W.cell? ⟨(a.add (j * 12)).block, (a.add (j * 12)).off + 11, none⟩ = some (.slice ka3 kn3 kc3) ∧ Below wr.heap.size wr W) (exact HSF.out _ (by repeat (first | assumption | exact Below.refl _ _ | with_reducible refine Below.drew ?_))) ((first | ((with_reducible refine (HCB.out _ ?_).mono ?_); (repeat (first | assumption | exact Below.refl _ _ | with_reducible refine Below.drew ?_)); (rintro e w' ⟨rfl, hk1⟩)) | ((with_reducible refine (HCN.out _ ?_).mono ?_); (repeat (first | assumption | exact Below.refl _ _ | with_reducible refine Below.drew ?_)); (rintro e w' ⟨rfl, hk2⟩))))
     rename_i hfin
     have HBF := LH (show Below w2.heap.size w2 _ from HBR.out.trans (hfin.2.2.2.2.2.2.2.2.2.2.2.2.2.2.2.2.2.2.2.2.2.2.2.2.mono HBR.out.size))
     clear hfin
     go_wp2
     go_roundw
     case rel =>
      refine ⟨j + 1, m ++ kf, hlt, by go_num, by rw [Hs3.out], ?_, HBF.out⟩
      rw [HRR.out, ← HEQ.out]
      simp
     case measure => simp [intOf]; omega
    ·have hml := HML.out
     have heq := HEQ0.out
     rw [decide_eq_false hj0, if_neg (by simp), if_neg hk] at hml heq
     have HEQ := LH (show m ++ (sepF kind ++ ([] ++ (kf ++ R))) = T from heq)
     skip
     simp only [List.length_append, List.length_cons, List.length_nil] at hml
     clear heq HML HEQ0
     have gp := str_size (sepF kind)
     have hjn : 0 < j := by omega
     have hjd : decide ((0 : Int) < (j : Int)) = true := decide_eq_true (by omega)
     clear hj0 hk
     have qs1 := fun W => str_add (P := Tryd.prog) (str m) (str (sepF kind)) (by omega) W
     obtain ⟨s1, hnew⟩ : ∃ z, z = str m ++ str (sepF kind) := ⟨_, rfl⟩
     simp only [← hnew] at qs1
     have Hs1 := LH (show s1 = str (m ++ sepF kind) from by rw [hnew]; exact add1 _ _ _ rfl)
     have gs1 : s1.size = (str m).size + (str (sepF kind)).size := by rw [hnew, ba_append_size]
     clear hnew
     go_wp2_with fail
     refine (rbetween_any kind (nn : Int) field text lo hi oa (some a) occ.length oc ks.length kc _).mono ?_
     rintro e wz ⟨rfl, hwz⟩
     have HBZ := LH (show Below wr.heap.size wr wz from by rw [← hwz]; exact (Below.refl _ _).alloc (Nat.le_refl _) _)
     have hbz := HBZ.out
     clear hwz
     obtain ⟨z0, z1, z2, z3, z4, z5, z6, z7, z8, z9, z10, z11, y0, y1, y2, y3, y4, y5, y6, y7, y8, y9, y10, y11, -⟩ := HSF.out wz HBZ.out
     have qs3 := fun W => str_add (P := Tryd.prog) (s1) (str kf) (by omega) W
     obtain ⟨s3, hnew⟩ : ∃ z, z = s1 ++ str kf := ⟨_, rfl⟩
     simp only [← hnew] at qs3
     have Hs3 := LH (show s3 = str (m ++ sepF kind ++ kf) from by rw [hnew, Hs1.out]; exact add1 _ _ _ rfl)
     have gs3 : s3.size = (s1).size + (str kf).size := by rw [hnew, ba_append_size]
     clear hnew
     generalize str kf = sk at *
     go_wp2_with fail
     clear n0 n1 n2 n3 n4 n5 n6 n7 n8 n9 n10 n11 q0 q1 q2 q3 q4 q5 q6 q7 q8 q9 q10 q11 z0 z1 z2 z3 z4 z5 z6 z7 z8 z9 z10 z11 y0 y1 y2 y3 y4 y5 y6 y7 y8 y9 y10 y11 
     go_region_held3 (fun W => W.cell? ⟨w.heap.size, 0, none⟩ = some (.int .i64 kind) ∧ W.cell? ⟨w.heap.size, 1, none⟩ = some (.string (str field)) ∧ W.cell? ⟨w.heap.size, 2, none⟩ = some (.string (str text)) ∧ W.cell? ⟨w.heap.size, 3, none⟩ = some (.int .i64 (nn : Int)) ∧ W.cell? ⟨w.heap.size, 4, none⟩ = some (.bool lo.open_) ∧ W.cell? ⟨w.heap.size, 5, none⟩ = some (.bool lo.in_) ∧ W.cell? ⟨w.heap.size, 6, none⟩ = some (.string (str lo.text)) ∧ W.cell? ⟨w.heap.size, 7, none⟩ = some (.bool hi.open_) ∧ W.cell? ⟨w.heap.size, 8, none⟩ = some (.bool hi.in_) ∧ W.cell? ⟨w.heap.size, 9, none⟩ = some (.string (str hi.text)) ∧ W.cell? ⟨w.heap.size, 10, none⟩ = some (.slice oa occ.length oc) ∧ W.cell? ⟨w.heap.size, 11, none⟩ = some (.slice (some a) ks.length kc) ∧ W.cell? (a.add (j * 12)) = some (.int .i64 kd3) ∧ W.cell? ⟨(a.add (j * 12)).block, (a.add (j * 12)).off + 1, none⟩ = some (.string (str fl3)) ∧ W.cell? ⟨(a.add (j * 12)).block, (a.add (j * 12)).off + 2, none⟩ = some (.string (str tx3)) ∧ W.cell? ⟨(a.add (j * 12)).block, (a.add (j * 12)).off + 3, none⟩ = some (.int .i64 xn3) ∧ W.cell? ⟨(a.add (j * 12)).block, (a.add (j * 12)).off + 4, none⟩ = some (.bool la3) ∧ W.cell? ⟨(a.add (j * 12)).block, (a.add (j * 12)).off + 5, none⟩ = some (.bool lb3) ∧ W.cell? ⟨(a.add (j * 12)).block, (a.add (j * 12)).off + 6, none⟩ = some (.string (str lc3)) ∧ W.cell? ⟨(a.add (j * 12)).block, (a.add (j * 12)).off + 7, none⟩ = some (.bool ra3) ∧ W.cell? ⟨(a.add (j * 12)).block, (a.add (j * 12)).off + 8, none⟩ = some (.bool rb3) ∧ W.cell? ⟨(a.add (j * 12)).block, (a.add (j * 12)).off + 9, none⟩ = some (.string (str rc3)) ∧ W.cell? ⟨(a.add (j * 12)).block, (a.add (j * 12)).off + 10, none⟩ = some (.slice oa3 on3 oc3) ∧ W.cell? ⟨(a.add (j * 12)).block, (a.add (j * 12)).off + 11, none⟩ = some (.slice ka3 kn3 kc3) ∧ Below wr.heap.size wr W) (exact HSF.out _ (by repeat (first | assumption | exact Below.refl _ _ | with_reducible refine Below.drew ?_))) ((first | ((with_reducible refine (HCB.out _ ?_).mono ?_); (repeat (first | assumption | exact Below.refl _ _ | with_reducible refine Below.drew ?_)); (rintro e w' ⟨rfl, hk1⟩)) | ((with_reducible refine (HCN.out _ ?_).mono ?_); (repeat (first | assumption | exact Below.refl _ _ | with_reducible refine Below.drew ?_)); (rintro e w' ⟨rfl, hk2⟩))))
     rename_i hfin
     have HBF := LH (show Below w2.heap.size w2 _ from HBR.out.trans (hfin.2.2.2.2.2.2.2.2.2.2.2.2.2.2.2.2.2.2.2.2.2.2.2.2.mono HBR.out.size))
     clear hfin
     go_wp2
     go_roundw
     case rel =>
      refine ⟨j + 1, m ++ sepF kind ++ kf, hlt, by go_num, by rw [Hs3.out], ?_, HBF.out⟩
      rw [HRR.out, ← HEQ.out]
      simp
     case measure => simp [intOf]; omega
  ·have HE := LH (show m = T from by
    have h := HM.out
    rw [List.drop_eq_nil_of_le (by omega : ks.length ≤ j), formNs, List.append_nil] at h
    exact h)
   rw [HE.out]
   have hoc := HOC.out
   have gT := str_size T
   have hTl := HLT.out
   clear HM
   have h7 : kind = 9 ∨ kind = 10 ∨ kind = 11 ∨ kind = 12 ∨ kind = 13 ∨ kind = 14 ∨ kind = 15 := by omega
   clear hoc
   rcases h7 with rfl | rfl | rfl | rfl | rfl | rfl | rfl
   ·by_cases hn0 : 0 < nn
    ·have hn1 : (0 : Int) < (nn : Int) := by omega
     have HTE := LH (show (⟨#[40]⟩ : ByteArray) ++ str T ++ ⟨#[41, 64]⟩ ++ str (decN nn) = str TT from by
      rw [HT.out, show (⟨#[40]⟩ : ByteArray) = str [40] from rfl, show (⟨#[41, 64]⟩ : ByteArray) = str [41, 64] from rfl, cat15, cat15, cat15]
      unfold aroundF
      rw [if_pos rfl, if_pos hn1]
      simp)
     have qa := fun W => str_add (P := Tryd.prog) ⟨#[40]⟩ (str T) (by rw [show (⟨#[40]⟩ : ByteArray).size = 1 from rfl]; omega) W
     have qb := fun W => str_add (P := Tryd.prog) (⟨#[40]⟩ ++ str T) ⟨#[41, 64]⟩ (by rw [ba_append_size, show (⟨#[40]⟩ : ByteArray).size = 1 from rfl, show (⟨#[41, 64]⟩ : ByteArray).size = 2 from rfl]; omega) W
     have qc := fun W => str_add (P := Tryd.prog) (⟨#[40]⟩ ++ str T ++ ⟨#[41, 64]⟩) (str (decN nn)) (by rw [ba_append_size, ba_append_size, show (⟨#[40]⟩ : ByteArray).size = 1 from rfl, show (⟨#[41, 64]⟩ : ByteArray).size = 2 from rfl]; omega) W
     generalize str (decN nn) = sd at *
     generalize str T = sT at *
     generalize (⟨#[40]⟩ ++ sT : ByteArray) = s1 at *
     generalize (s1 ++ ⟨#[41, 64]⟩ : ByteArray) = s2 at *
     generalize (s2 ++ sd : ByteArray) = s3 at *
     go_wp2_with fail
     refine (HDG.out _).mono ?_
     rintro e w5 ⟨rfl, hb5⟩
     have HB5 := LH (HBW.out.trans (hb5.mono HBW.out.size))
     clear hb5
     go_wp2
     go_ret
     exact ⟨ret_strx HTE.out, HB5.out⟩
    ·have hn1 : ¬ (0 : Int) < (nn : Int) := by omega
     have HTE := LH (show str T = str TT from by
      rw [HT.out]
      unfold aroundF
      rw [if_pos rfl, if_neg hn1])
     generalize str T = sT at *
     go_wp2
     go_ret
     exact ⟨ret_strx HTE.out, HBW.out⟩
   ·have HTE := LH (show str T = str TT from by rw [HT.out]; rfl)
    generalize str T = sT at *
    go_wp2
    go_ret
    exact ⟨ret_strx HTE.out, HBW.out⟩
   ·have HTE := LH (show str T = str TT from by rw [HT.out]; rfl)
    generalize str T = sT at *
    go_wp2
    go_ret
    exact ⟨ret_strx HTE.out, HBW.out⟩
   ·have HTE := LH (show str T = str TT from by rw [HT.out]; rfl)
    generalize str T = sT at *
    go_wp2
    go_ret
    exact ⟨ret_strx HTE.out, HBW.out⟩
   ·have HTE := LH (show (⟨#[78, 79, 84, 32]⟩ : ByteArray) ++ str T = str TT from by rw [HT.out, show (⟨#[78, 79, 84, 32]⟩ : ByteArray) = str [78, 79, 84, 32] from rfl, cat15]; rfl)
    have qa := fun W => str_add (P := Tryd.prog) ⟨#[78, 79, 84, 32]⟩ (str T) (by rw [show (⟨#[78, 79, 84, 32]⟩ : ByteArray).size = 4 from rfl]; omega) W
    generalize str T = sT at *
    generalize (⟨#[78, 79, 84, 32]⟩ ++ sT : ByteArray) = s1 at *
    go_wp2
    go_ret
    exact ⟨ret_strx HTE.out, HBW.out⟩
   ·have HTE := LH (show str T ++ ⟨#[94]⟩ ++ str (decN nn) = str TT from by
     rw [HT.out, show (⟨#[94]⟩ : ByteArray) = str [94] from rfl, cat15, cat15]
     unfold aroundF
     simp)
    have qb := fun W => str_add (P := Tryd.prog) (str T) ⟨#[94]⟩ (by rw [show (⟨#[94]⟩ : ByteArray).size = 1 from rfl]; omega) W
    have qc := fun W => str_add (P := Tryd.prog) (str T ++ ⟨#[94]⟩) (str (decN nn)) (by rw [ba_append_size, show (⟨#[94]⟩ : ByteArray).size = 1 from rfl]; omega) W
    generalize str (decN nn) = sd at *
    generalize str T = sT at *
    generalize (sT ++ ⟨#[94]⟩ : ByteArray) = s2 at *
    generalize (s2 ++ sd : ByteArray) = s3 at *
    go_wp2_with fail
    refine (HDG.out _).mono ?_
    rintro e w5 ⟨rfl, hb5⟩
    have HB5 := LH (HBW.out.trans (hb5.mono HBW.out.size))
    clear hb5
    go_wp2
    go_ret
    exact ⟨ret_strx HTE.out, HB5.out⟩
   ·have HTE := LH (show str T ++ ⟨#[94, 61]⟩ ++ str (decN nn) = str TT from by
     rw [HT.out, show (⟨#[94, 61]⟩ : ByteArray) = str [94, 61] from rfl, cat15, cat15]
     unfold aroundF
     simp)
    have qb := fun W => str_add (P := Tryd.prog) (str T) ⟨#[94, 61]⟩ (by rw [show (⟨#[94, 61]⟩ : ByteArray).size = 2 from rfl]; omega) W
    have qc := fun W => str_add (P := Tryd.prog) (str T ++ ⟨#[94, 61]⟩) (str (decN nn)) (by rw [ba_append_size, show (⟨#[94, 61]⟩ : ByteArray).size = 2 from rfl]; omega) W
    generalize str (decN nn) = sd at *
    generalize str T = sT at *
    generalize (sT ++ ⟨#[94, 61]⟩ : ByteArray) = s2 at *
    generalize (s2 ++ sd : ByteArray) = s3 at *
    go_wp2_with fail
    refine (HDG.out _).mono ?_
    rintro e w5 ⟨rfl, hb5⟩
    have HB5 := LH (HBW.out.trans (hb5.mono HBW.out.size))
    clear hb5
    go_wp2
    go_ret
    exact ⟨ret_strx HTE.out, HB5.out⟩
theorem rform_any (t : Nd) : RfmOk t := nd_ind rform_of t
theorem rprinted_any (t : Nd) : RprOk t := rprinted_of t (rform_any t)
end Go.Proofs.YthcldpminmhgkaaDoor
end
