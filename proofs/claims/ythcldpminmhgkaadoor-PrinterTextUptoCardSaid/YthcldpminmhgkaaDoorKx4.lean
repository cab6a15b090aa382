/- Merged for a claim by shake.py: Sr -/
import Derived.Test.YthcldpminmhgkaaDoorKxA
import Derived.Test.YthcldpminmhgkaaDoorKx1
import Derived.Test.YthcldpminmhgkaaDoorKx3
set_option maxRecDepth 100000
set_option maxHeartbeats 1000000
section
namespace Go.Proofs.YthcldpminmhgkaaDoor
open Go.RowKit
def RPos (s : ByteArray) (i k : Nat) (T P : List UInt8) (W : Nat) : Prop :=
 i ≤ k ∧ k ≤ s.size ∧ T.length ≤ k ∧ P.length ≤ 2 * k ∧ W ≤ k ∧ runL (s.data.toList.drop i) = (runL (s.data.toList.drop k)).map (Rn.add ⟨T, P, W, k - i⟩)
theorem RPos_start (s : ByteArray) (i : Nat) (h : i ≤ s.size) : RPos s i i [] [] 0 := by
 refine ⟨by omega, h, by simp, by simp, by omega, ?_⟩
 rw [Nat.sub_self]
 cases runL (s.data.toList.drop i) with
 | none => rfl
 | some x => simp [Rn.add]
theorem runL_stop {c : UInt8} (t : List UInt8) (h : cls c = 1 ∨ cls c = 2) : runL (c :: t) = some ⟨[], [], 0, 0⟩ := by
 cases t <;> (unfold runL; rw [if_pos h])
theorem runL_wild {c : UInt8} (t : List UInt8) (h : cls c = 3) : runL (c :: t) = (runL t).map (Rn.add ⟨[], [c], 1, 1⟩) := by
 cases t with
 | nil => unfold runL; rw [if_neg (by omega), if_pos h]; rfl
 | cons d t => rw [runL, if_neg (by omega), if_pos h]
theorem runL_esc {c : UInt8} (d : UInt8) (t : List UInt8) (h : cls c = 4) : runL (c :: d :: t) = (runL t).map (Rn.add ⟨[d], pe d, 0, 2⟩) := by
 rw [runL, if_neg (by omega), if_neg (by omega), if_pos h]
theorem runL_esc_end {c : UInt8} (h : cls c = 4) : runL [c] = none := by
 rw [runL, if_neg (by omega), if_neg (by omega), if_pos h]
theorem runL_letter {c : UInt8} (t : List UInt8) (h : cls c = 0) : runL (c :: t) = (runL t).map (Rn.add ⟨[c], [c], 0, 1⟩) := by
 cases t with
 | nil => unfold runL; rw [if_neg (by omega), if_neg (by omega), if_neg (by omega)]; rfl
 | cons d t => rw [runL, if_neg (by omega), if_neg (by omega), if_neg (by omega)]
theorem Rn_add_add (a b c : Rn) : Rn.add a (Rn.add b c) = Rn.add (Rn.add a b) c := by simp [Rn.add, Nat.add_assoc]
section
variable {s : ByteArray} {i k W : Nat} {T P : List UInt8}
theorem RPos_map {n : Nat} {x : Rn} (h : RPos s i k T P W) (hx : runL (s.data.toList.drop k) = (runL (s.data.toList.drop (k + n))).map (Rn.add x)) (hn : x.len = n) (hk : k + n ≤ s.size) (ht : x.text.length ≤ n) (hp : x.pat.length ≤ 2 * n) (hw : x.wilds ≤ n) :
  RPos s i (k + n) (T ++ x.text) (P ++ x.pat) (W + x.wilds) := by
 obtain ⟨g1, g2, g3, g4, g5, g6⟩ := h
 refine ⟨by omega, hk, by simp; omega, by simp; omega, by omega, ?_⟩
 rw [g6, hx, Option.map_map]
 congr 1
 funext y
 rw [Function.comp, Rn_add_add]
 congr 1
 simp [Rn.add, hn]; omega
theorem RPos_wild (h : RPos s i k T P W) (hk : k < s.size) (hc : cls s[k] = 3) : RPos s i (k + 1) T (P ++ [s[k]]) (W + 1) := by
 have := RPos_map (n := 1) (x := ⟨[], [s[k]], 1, 1⟩) h (by rw [dropB s hk, runL_wild _ hc]) rfl hk (by simp) (by simp) (by simp)
 simpa using this
theorem RPos_esc (h : RPos s i k T P W) (hk : k + 1 < s.size) (hc : cls s[k] = 4) : RPos s i (k + 2) (T ++ [s[k + 1]]) (P ++ pe s[k + 1]) W := by
 have := RPos_map (n := 2) (x := ⟨[s[k + 1]], pe s[k + 1], 0, 2⟩) h (by rw [dropB s (by omega : k < s.size), dropB s hk, runL_esc _ _ hc]) rfl (by omega) (by simp) (by unfold pe; split <;> simp) (by simp)
 simpa using this
theorem RPos_letter (h : RPos s i k T P W) (hk : k < s.size) (hc : cls s[k] = 0) : RPos s i (k + 1) (T ++ [s[k]]) (P ++ [s[k]]) W := by
 have := RPos_map (n := 1) (x := ⟨[s[k]], [s[k]], 0, 1⟩) h (by rw [dropB s hk, runL_letter _ hc]) rfl hk (by simp) (by simp) (by simp)
 simpa using this
theorem RPos_bad (h : RPos s i k T P W) (hk : k < s.size) (hk2 : ¬ k + 1 < s.size) (hc : cls s[k] = 4) : runL (s.data.toList.drop i) = none := by
 rw [h.2.2.2.2.2, dropB s hk, dropB_nil s (by omega : s.size ≤ k + 1), runL_esc_end hc]; rfl
theorem RPos_stop (h : RPos s i k T P W) (hk : k < s.size) (hc : cls s[k] = 1 ∨ cls s[k] = 2) : runL (s.data.toList.drop i) = some ⟨T, P, W, k - i⟩ := by
 rw [h.2.2.2.2.2, dropB s hk, runL_stop _ hc]; simp [Rn.add]
theorem RPos_end (h : RPos s i k T P W) (hk : ¬ k < s.size) : runL (s.data.toList.drop i) = some ⟨T, P, W, k - i⟩ := by
 rw [h.2.2.2.2.2, dropB_nil s (by omega)]; simp [runL, Rn.add]
end
def RuRel (s : ByteArray) (i : Nat) (w : World) (tv pv wv iv : Value) (wr : World) : Prop :=
 ∃ k T P W, RPos s i k T P W ∧ iv = .int .i64 (k : Int) ∧ wv = .int .i64 (W : Int) ∧ OwnB wr (w.heap.size + 2) tv T ∧ OwnB wr (w.heap.size + 2) pv P ∧ Apart tv pv
  ∧ Blk5 wr w.heap.size (.int .i64 0) (.string ⟨#[]⟩) (.int .i64 0) (.int .i64 0) (.int .i64 0) ∧ Blk5 wr (w.heap.size + 1) (.int .i64 0) (.string ⟨#[]⟩) (.int .i64 0) (.int .i64 i) (.int .i64 0) ∧ Below w.heap.size w wr ∧ ClsEnv wr
def rTok (s : ByteArray) (i : Nat) : Option Lx := (runTk (s.data.toList.drop i)).map fun k => k.lx i
theorem wp_scope_forward {Pr : Program} {c rest : Code} {Q : Exit → Act → World → Prop} {a : Act} {w : World} (l : Nat) (hf : findLabel c l = some rest)
  (first : ∀ J : Act → World → Prop, Hid (∀ a w, rest.wp Pr (Exit.jump l (fun _ _ => False) Q) a w → J a w) → c.wp Pr (Exit.jump l J Q) a w) : (Code.scope c).wp Pr Q a w := by
 refine wp_scope_jumps l (fun a w => rest.wp Pr (Exit.jump l (fun _ _ => False) Q) a w) (fun _ _ => 0) hf (first _ (fun _ _ h => h)) (fun a w h => Code.wp_mono (fun e a' w' hq => ?_) h)
 cases e <;> first | exact hq | exact absurd hq.2 id
theorem OwnB.setCell {w : World} {B : Nat} {v : Value} {l : List UInt8} (h : OwnB w B v l) {p : Addr} (hp : p.block < B) (u : Value) : OwnB (w.setCell p u) B v l := ownsRow_setCell_below h hp u
theorem jump_ret {l : Nat} {J : Act → World → Prop} {Q : Exit → Act → World → Prop} {a : Act} {w : World} (h : Q .ret a w) : Exit.jump l J Q .ret a w := h
theorem run_any (s : ByteArray) (i : Nat) (w : World) (hs : s.size ≤ 900000000000) (hi : i < s.size) (hE : ClsEnv w) :
  Calls Tryd.prog 85 #[.string s, .int .i64 (i : Int)] w (RetLx w (rTok s i)) := by
 have HI := LH hi
 have hgw := hE.2
 have HE := LH hE; clear hE
 go_enter Tryd.func85, Tryd.ntmps85
 go_wp2
 refine wp_scope_forward 0 rfl ?_
 intro J HJ
 go_wp2
 go_loopw [7, 8, 9, 10] (fun tv pv wv iv wr => RuRel s i w tv pv wv iv wr) (fun _ _ _ iv _ => s.size - (intOf iv).toNat)
 case atStart =>
  have hA := Blk5.new w (.int .i64 0) (.string ⟨#[]⟩) (.int .i64 0) (.int .i64 0) (.int .i64 0)
  have hB := Blk5.new (w.alloc (.cells #[.int .i64 0, .string ⟨#[]⟩, .int .i64 0, .int .i64 0, .int .i64 0] 74)) (.int .i64 0) (.string ⟨#[]⟩) (.int .i64 0) (.int .i64 i) (.int .i64 0)
  have b1 : Below w.heap.size w (w.alloc (.cells #[.int .i64 0, .string ⟨#[]⟩, .int .i64 0, .int .i64 0, .int .i64 0] 74)) := (Below.refl _ _).alloc (Nat.le_refl _) _
  have b2 := b1.alloc b1.size (.cells #[.int .i64 0, .string ⟨#[]⟩, .int .i64 0, .int .i64 i, .int .i64 0] 74)
  have b3 := b2.alloc b2.size (.cells #[] 5)
  have b4 := b3.alloc b3.size (.cells #[] 5)
  have o1 := (OwnB.lit0 ((w.alloc (.cells #[.int .i64 0, .string ⟨#[]⟩, .int .i64 0, .int .i64 0, .int .i64 0] 74)).alloc (.cells #[.int .i64 0, .string ⟨#[]⟩, .int .i64 0, .int .i64 i, .int .i64 0] 74)) (B := w.heap.size + 2) (by simp)).alloc (.cells #[] 5)
  have o2 := OwnB.lit0 (((w.alloc (.cells #[.int .i64 0, .string ⟨#[]⟩, .int .i64 0, .int .i64 0, .int .i64 0] 74)).alloc (.cells #[.int .i64 0, .string ⟨#[]⟩, .int .i64 0, .int .i64 i, .int .i64 0] 74)).alloc (.cells #[] 5)) (B := w.heap.size + 2) (by simp)
  refine ⟨i, [], [], 0, RPos_start s i (Nat.le_of_lt HI.out), rfl, rfl, by simpa using o1, by simpa using o2, ?_, ?_, ?_, b4, HE.out.below b4⟩
  ·intro g h1 h2
   have e1 : w.heap.size + 1 + 1 = g := by simpa [Value.ownBlock] using h1
   have e2 : w.heap.size + 1 + 1 + 1 = g := by simpa [Value.ownBlock] using h2
   omega
  ·exact (hA.below (((Below.refl _ _).alloc (Nat.le_refl _) (.cells #[.int .i64 0, .string ⟨#[]⟩, .int .i64 0, .int .i64 i, .int .i64 0] 74)).alloc (by simp) (.cells #[] 5)) (by simp)).below ((Below.refl _ _).alloc (Nat.le_refl _) (.cells #[] 5)) (by simp; omega)
  ·have := (hB.below ((Below.refl _ _).alloc (Nat.le_refl _) (.cells #[] 5)) (by simp)).below ((Below.refl _ _).alloc (Nat.le_refl _) (.cells #[] 5)) (by simp)
   simpa using this
 case round =>
  obtain ⟨k, T, P, W, hp, rfl, rfl, ht, hpo, hap, hb4, hb6, hb, hEr⟩ := hrel
  have hk := hp.2.1
  have hTl := hp.2.2.1
  have hPl := hp.2.2.2.1
  have hWl := hp.2.2.2.2.1
  have HP := LH hp; have HT := LH ht; have HPO := LH hpo; have HAP := LH hap; have H4 := LH hb4; have H6 := LH hb6; have HEr := LH hEr; have HBE := LH hb
  have hBr : w.heap.size + 2 ≤ wr.heap.size := hb6.lt
  clear hp ht hpo hap hb4 hb6 hEr HE hb
  by_cases hlt : k < s.size
  ·have hbx := u8_lt s[k]
   have hcb := cls_bd s[k]
   by_cases hc12 : cls s[k] = 1 ∨ cls s[k] = 2
   ·have HR := LH (RPos_stop HP.out hlt hc12)
    rcases hc12 with hc | hc
    ·obtain ⟨⟨c0, c1, c2, c3, c4⟩, f0, f1, f2, f3, f4⟩ := H6.out.facts
     obtain ⟨⟨d0, d1, d2, d3, d4⟩, e0, e1, e2, e3, e4⟩ := H4.out.facts
     by_cases hW : 0 < W
     ·have HQ := LH (show rTok s i = some ⟨2, P, 0, i, k⟩ from by unfold rTok runTk; rw [HR.out]; simp only [Option.map_some, if_pos hW, Tk.lx]; rw [show i + (k - i) = k from by have := HP.out.1; omega])
      have q1 := (((HPO.out.setCell (p := ⟨w.heap.size + 1, 4, none⟩) (by simp) (.int .i64 (k : Int)))).drew).conv
      have q2 := (((HPO.out.setCell (p := ⟨w.heap.size + 1, 4, none⟩) (by simp) (.int .i64 (k : Int))).setCell (p := ⟨w.heap.size + 1, 0, none⟩) (by simp) (.int .i64 2)).drew).conv
      go_wp2_with fail
      refine (class_any s[k] _ HEr.out).mono ?_
      rintro e wc ⟨rfl, rfl⟩
      go_wp2
      go_step3
      refine ⟨rfl, HJ.out _ _ ?_⟩
      go_wp2
      go_region
      go_wp2
      refine jump_ret (bodyPost_ret (v := .tuple #[lxVal ⟨2, P, 0, i, k⟩, .bool true]) ?_ rfl ⟨?_, ?_⟩)
      ·simp [results, Tryd.results85, go_sem, lxVal, d0, d1, d2, d3, d4]
      ·repeat (first | with_reducible refine Below.drew ?_ | with_reducible refine Below.setCell ?_ (by simp) _)
       exact HBE.out
      ·rw [HQ.out]
     ·have hW2 : W = 0 := by omega
      have HKK : Hid ((s.extract i k).data.toList = (s.data.toList.drop i).take (k - i)) := Lib.extract_data s i k
      generalize hK : kwd ((s.data.toList.drop i).take (k - i)) = K
      have HQ0 := LH (show rTok s i = some ⟨K, if K = 1 then T else [], 0, i, k⟩ from by unfold rTok runTk; rw [HR.out]; simp only [Option.map_some, if_neg hW, Tk.lx, hK]; rw [show i + (k - i) = k from by have := HP.out.1; omega])
      have HKW := LH hK
      have hik := HP.out.1
      clear hK hW2
      by_cases hkw : K = 1
      ·have HQ := LH (show rTok s i = some ⟨K, T, 0, i, k⟩ from by rw [HQ0.out, if_pos hkw])
       have hkb : (K == 1) = true := by rw [hkw]; rfl
       have q3 := ((HT.out.setCell (p := ⟨w.heap.size + 1, 4, none⟩) (by simp) (.int .i64 (k : Int))).setCell (p := ⟨w.heap.size + 1, 0, none⟩) (by simp) (.int .i64 K)).conv
       clear hkw
       go_wp2_with fail
       refine (class_any s[k] _ HEr.out).mono ?_
       rintro e wc ⟨rfl, rfl⟩
       go_wp2
       go_step3
       refine ⟨rfl, HJ.out _ _ ?_⟩
       go_wp2_with fail
       refine (keyword_any (s.extract i k) _).mono ?_
       rintro e wk ⟨he, rfl⟩
       rw [HKK.out, HKW.out] at he
       subst he
       go_wp2
       refine jump_ret (bodyPost_ret (v := .tuple #[lxVal ⟨K, T, 0, i, k⟩, .bool true]) ?_ rfl ⟨?_, ?_⟩)
       ·simp [results, Tryd.results85, go_sem, lxVal, d0, d1, d2, d3, d4]
       ·repeat (first | with_reducible refine Below.drew ?_ | with_reducible refine Below.setCell ?_ (by simp) _)
        exact HBE.out
       ·rw [HQ.out]
      ·have HQ := LH (show rTok s i = some ⟨K, [], 0, i, k⟩ from by rw [HQ0.out, if_neg hkw])
       have hkb : (K == 1) = false := beq_eq_false_iff_ne.2 hkw
       clear hkw
       go_wp2_with fail
       refine (class_any s[k] _ HEr.out).mono ?_
       rintro e wc ⟨rfl, rfl⟩
       go_wp2
       go_step3
       refine ⟨rfl, HJ.out _ _ ?_⟩
       go_wp2_with fail
       refine (keyword_any (s.extract i k) _).mono ?_
       rintro e wk ⟨he, rfl⟩
       rw [HKK.out, HKW.out] at he
       subst he
       go_wp2
       refine jump_ret (bodyPost_ret (v := .tuple #[lxVal ⟨K, [], 0, i, k⟩, .bool true]) ?_ rfl ⟨?_, ?_⟩)
       ·simp [results, Tryd.results85, go_sem, lxVal, d0, d1, d2, d3, d4, str]
       ·repeat (first | with_reducible refine Below.drew ?_ | with_reducible refine Below.setCell ?_ (by simp) _)
        exact HBE.out
       ·rw [HQ.out]
    ·obtain ⟨⟨c0, c1, c2, c3, c4⟩, f0, f1, f2, f3, f4⟩ := H6.out.facts
     obtain ⟨⟨d0, d1, d2, d3, d4⟩, e0, e1, e2, e3, e4⟩ := H4.out.facts
     by_cases hW : 0 < W
     ·have HQ := LH (show rTok s i = some ⟨2, P, 0, i, k⟩ from by unfold rTok runTk; rw [HR.out]; simp only [Option.map_some, if_pos hW, Tk.lx]; rw [show i + (k - i) = k from by have := HP.out.1; omega])
      have q1 := (((HPO.out.setCell (p := ⟨w.heap.size + 1, 4, none⟩) (by simp) (.int .i64 (k : Int)))).drew).conv
      have q2 := (((HPO.out.setCell (p := ⟨w.heap.size + 1, 4, none⟩) (by simp) (.int .i64 (k : Int))).setCell (p := ⟨w.heap.size + 1, 0, none⟩) (by simp) (.int .i64 2)).drew).conv
      go_wp2_with fail
      refine (class_any s[k] _ HEr.out).mono ?_
      rintro e wc ⟨rfl, rfl⟩
      go_wp2
      go_step3
      refine ⟨rfl, HJ.out _ _ ?_⟩
      go_wp2
      go_region
      go_wp2
      refine jump_ret (bodyPost_ret (v := .tuple #[lxVal ⟨2, P, 0, i, k⟩, .bool true]) ?_ rfl ⟨?_, ?_⟩)
      ·simp [results, Tryd.results85, go_sem, lxVal, d0, d1, d2, d3, d4]
      ·repeat (first | with_reducible refine Below.drew ?_ | with_reducible refine Below.setCell ?_ (by simp) _)
       exact HBE.out
      ·rw [HQ.out]
     ·have hW2 : W = 0 := by omega
      have HKK : Hid ((s.extract i k).data.toList = (s.data.toList.drop i).take (k - i)) := Lib.extract_data s i k
      generalize hK : kwd ((s.data.toList.drop i).take (k - i)) = K
      have HQ0 := LH (show rTok s i = some ⟨K, if K = 1 then T else [], 0, i, k⟩ from by unfold rTok runTk; rw [HR.out]; simp only [Option.map_some, if_neg hW, Tk.lx, hK]; rw [show i + (k - i) = k from by have := HP.out.1; omega])
      have HKW := LH hK
      have hik := HP.out.1
      clear hK hW2
      by_cases hkw : K = 1
      ·have HQ := LH (show rTok s i = some ⟨K, T, 0, i, k⟩ from by rw [HQ0.out, if_pos hkw])
       have hkb : (K == 1) = true := by rw [hkw]; rfl
       have q3 := ((HT.out.setCell (p := ⟨w.heap.size + 1, 4, none⟩) (by simp) (.int .i64 (k : Int))).setCell (p := ⟨w.heap.size + 1, 0, none⟩) (by simp) (.int .i64 K)).conv
       clear hkw
       go_wp2_with fail
       refine (class_any s[k] _ HEr.out).mono ?_
       rintro e wc ⟨rfl, rfl⟩
       go_wp2
       go_step3
       refine ⟨rfl, HJ.out _ _ ?_⟩
       go_wp2_with fail
       refine (keyword_any (s.extract i k) _).mono ?_
       rintro e wk ⟨he, rfl⟩
       rw [HKK.out, HKW.out] at he
       subst he
       go_wp2
       refine jump_ret (bodyPost_ret (v := .tuple #[lxVal ⟨K, T, 0, i, k⟩, .bool true]) ?_ rfl ⟨?_, ?_⟩)
       ·simp [results, Tryd.results85, go_sem, lxVal, d0, d1, d2, d3, d4]
       ·repeat (first | with_reducible refine Below.drew ?_ | with_reducible refine Below.setCell ?_ (by simp) _)
        exact HBE.out
       ·rw [HQ.out]
      ·have HQ := LH (show rTok s i = some ⟨K, [], 0, i, k⟩ from by rw [HQ0.out, if_neg hkw])
       have hkb : (K == 1) = false := beq_eq_false_iff_ne.2 hkw
       clear hkw
       go_wp2_with fail
       refine (class_any s[k] _ HEr.out).mono ?_
       rintro e wc ⟨rfl, rfl⟩
       go_wp2
       go_step3
       refine ⟨rfl, HJ.out _ _ ?_⟩
       go_wp2_with fail
       refine (keyword_any (s.extract i k) _).mono ?_
       rintro e wk ⟨he, rfl⟩
       rw [HKK.out, HKW.out] at he
       subst he
       go_wp2
       refine jump_ret (bodyPost_ret (v := .tuple #[lxVal ⟨K, [], 0, i, k⟩, .bool true]) ?_ rfl ⟨?_, ?_⟩)
       ·simp [results, Tryd.results85, go_sem, lxVal, d0, d1, d2, d3, d4, str]
       ·repeat (first | with_reducible refine Below.drew ?_ | with_reducible refine Below.setCell ?_ (by simp) _)
        exact HBE.out
       ·rw [HQ.out]
   ·by_cases hc3 : cls s[k] = 3
    ·have HPN := LH (RPos_wild HP.out hlt hc3)
     clear hc12 hcb
     have HOT := HT
     go_wp2_with fail
     refine (class_any s[k] _ HEr.out).mono ?_
     rintro e wc ⟨rfl, rfl⟩
     go_wp2_with (at_builtin; refine OwnB.append2 HPO.out HT.out HAP.out.symm _ _ rfl _ _ rfl rfl rfl ?_ ?_ ?_ hBr ?_ ?_)
     all_goals first | omega | exact (World.size_alloc ..).symm | skip
     intro v' w' a1 a2 a3 a4
     have A1 := LH a1; have A2 := LH a2; have A3 := LH a3; have A4 := LH a4
     clear a1 a2 a3 a4
     go_wp2
     go_roundw
     case rel =>
      refine ⟨k + 1, _, _, _, HPN.out, by go_num, by go_num, A2.out, ?_, A3.out.symm, H4.out.below A4.out (by omega), H6.out.below A4.out (by omega), HBE.out.trans (A4.out.mono (by omega)), HEr.out.belowB (by omega) A4.out⟩
      simpa [ofNat_byte] using A1.out
     case measure => simp [intOf]; omega
    ·by_cases hc4 : cls s[k] = 4
     ·by_cases hlt2 : k + 1 < s.size
      ·have HPN := LH (RPos_esc HP.out hlt2 hc4)
       have hne : ((k : Int) + 1 == (s.size : Int)) = false := by rw [beq_eq_false_iff_ne]; omega
       have hbx2 := u8_lt s[k + 1]
       clear hc12 hc3 hcb
       by_cases hd : cls s[k + 1] = 3 ∨ cls s[k + 1] = 4
       ·have HPE := LH (show pe s[k + 1] = [92, s[k + 1]] from by unfold pe; rw [if_pos hd])
        have hd2 : (cls s[k + 1] == 3) = true ∨ ((cls s[k + 1] == 3) = false ∧ (cls s[k + 1] == 4) = true) := by
         rcases hd with h | h
         ·left; rw [h]; rfl
         ·right; rw [h]; exact ⟨rfl, rfl⟩
        clear hd
        rcases hd2 with hd2 | ⟨hd2, hd3⟩
        ·go_wp2_with fail
         refine (class_any s[k] _ HEr.out).mono ?_
         rintro e wc ⟨rfl, rfl⟩
         go_wp2_with fail
         refine (class_any s[k + 1] _ HEr.out).mono ?_
         rintro e wc ⟨rfl, rfl⟩
         go_wp2_with (at_builtin; refine OwnB.append2 HPO.out HT.out HAP.out.symm _ _ rfl _ _ rfl rfl rfl ?_ ?_ ?_ hBr ?_ ?_)
         all_goals first | omega | exact (World.size_alloc ..).symm | skip
         intro v0 w0 z1 z2 z3 z4
         have Z1 := LH z1; have Z2 := LH z2; have Z3 := LH z3; have Z4 := LH z4
         have hBr0 := Nat.le_trans hBr z4.size
         clear z1 z2 z3 z4
         go_wp2_with (at_builtin; refine OwnB.append2 Z2.out Z1.out Z3.out.symm _ _ rfl _ _ rfl rfl rfl ?_ ?_ ?_ hBr0 ?_ ?_)
         all_goals first | omega | exact (World.size_alloc ..).symm | skip
         intro v1 w1 a1 a2 a3 a4
         have A1 := LH a1; have A2 := LH a2; have A3 := LH a3; have A4 := LH (Z4.out.trans a4)
         have hBr1 := Nat.le_trans hBr0 a4.size
         clear a1 a2 a3 a4
         go_wp2_with (at_builtin; refine OwnB.append2 A2.out A1.out A3.out.symm _ _ rfl _ _ rfl rfl rfl ?_ ?_ ?_ hBr1 ?_ ?_)
         all_goals first | omega | exact (World.size_alloc ..).symm | (rw [List.length_append, List.length_singleton]; omega) | skip
         intro v2 w2 b1 b2 b3 b4
         have B1 := LH b1; have B2 := LH b2; have B3 := LH b3; have B4 := LH (A4.out.trans b4)
         clear b1 b2 b3 b4
         go_wp2
         go_roundw
         case rel =>
          refine ⟨k + 2, _, _, _, HPN.out, by go_num, rfl, ?_, ?_, B3.out.symm, H4.out.below B4.out (by omega), H6.out.below B4.out (by omega), HBE.out.trans (B4.out.mono (by omega)), HEr.out.belowB (by omega) B4.out⟩
          ·simpa [ofNat_byte] using B2.out
          ·rw [HPE.out]; simpa [ofNat_byte] using B1.out
         case measure => simp [intOf]; omega
        ·go_wp2_with fail
         refine (class_any s[k] _ HEr.out).mono ?_
         rintro e wc ⟨rfl, rfl⟩
         go_wp2_with fail
         refine (class_any s[k + 1] _ HEr.out).mono ?_
         rintro e wc ⟨rfl, rfl⟩
         go_wp2_with fail
         refine (class_any s[k + 1] _ HEr.out).mono ?_
         rintro e wc ⟨rfl, rfl⟩
         go_wp2_with (at_builtin; refine OwnB.append2 HPO.out HT.out HAP.out.symm _ _ rfl _ _ rfl rfl rfl ?_ ?_ ?_ hBr ?_ ?_)
         all_goals first | omega | exact (World.size_alloc ..).symm | skip
         intro v0 w0 z1 z2 z3 z4
         have Z1 := LH z1; have Z2 := LH z2; have Z3 := LH z3; have Z4 := LH z4
         have hBr0 := Nat.le_trans hBr z4.size
         clear z1 z2 z3 z4
         go_wp2_with (at_builtin; refine OwnB.append2 Z2.out Z1.out Z3.out.symm _ _ rfl _ _ rfl rfl rfl ?_ ?_ ?_ hBr0 ?_ ?_)
         all_goals first | omega | exact (World.size_alloc ..).symm | skip
         intro v1 w1 a1 a2 a3 a4
         have A1 := LH a1; have A2 := LH a2; have A3 := LH a3; have A4 := LH (Z4.out.trans a4)
         have hBr1 := Nat.le_trans hBr0 a4.size
         clear a1 a2 a3 a4
         go_wp2_with (at_builtin; refine OwnB.append2 A2.out A1.out A3.out.symm _ _ rfl _ _ rfl rfl rfl ?_ ?_ ?_ hBr1 ?_ ?_)
         all_goals first | omega | exact (World.size_alloc ..).symm | (rw [List.length_append, List.length_singleton]; omega) | skip
         intro v2 w2 b1 b2 b3 b4
         have B1 := LH b1; have B2 := LH b2; have B3 := LH b3; have B4 := LH (A4.out.trans b4)
         clear b1 b2 b3 b4
         go_wp2
         go_roundw
         case rel =>
          refine ⟨k + 2, _, _, _, HPN.out, by go_num, rfl, ?_, ?_, B3.out.symm, H4.out.below B4.out (by omega), H6.out.below B4.out (by omega), HBE.out.trans (B4.out.mono (by omega)), HEr.out.belowB (by omega) B4.out⟩
          ·simpa [ofNat_byte] using B2.out
          ·rw [HPE.out]; simpa [ofNat_byte] using B1.out
         case measure => simp [intOf]; omega
       ·have HPE := LH (show pe s[k + 1] = [s[k + 1]] from by unfold pe; rw [if_neg hd])
        have hd2 : (cls s[k + 1] == 3) = false := beq_eq_false_iff_ne.2 (fun h => hd (.inl h))
        have hd3 : (cls s[k + 1] == 4) = false := beq_eq_false_iff_ne.2 (fun h => hd (.inr h))
        clear hd
        go_wp2_with fail
        refine (class_any s[k] _ HEr.out).mono ?_
        rintro e wc ⟨rfl, rfl⟩
        go_wp2_with fail
        refine (class_any s[k + 1] _ HEr.out).mono ?_
        rintro e wc ⟨rfl, rfl⟩
        go_wp2_with fail
        refine (class_any s[k + 1] _ HEr.out).mono ?_
        rintro e wc ⟨rfl, rfl⟩
        go_wp2_with (at_builtin; refine OwnB.append2 HT.out HPO.out HAP.out _ _ rfl _ _ rfl rfl rfl ?_ ?_ ?_ hBr ?_ ?_)
        all_goals first | omega | exact (World.size_alloc ..).symm | skip
        intro v1 w1 a1 a2 a3 a4
        have A1 := LH a1; have A2 := LH a2; have A3 := LH a3; have A4 := LH a4
        have hBr1 := Nat.le_trans hBr a4.size
        clear a1 a2 a3 a4
        go_wp2_with (at_builtin; refine OwnB.append2 A2.out A1.out A3.out.symm _ _ rfl _ _ rfl rfl rfl ?_ ?_ ?_ hBr1 ?_ ?_)
        all_goals first | omega | exact (World.size_alloc ..).symm | skip
        intro v2 w2 b1 b2 b3 b4
        have B1 := LH b1; have B2 := LH b2; have B3 := LH b3; have B4 := LH (A4.out.trans b4)
        clear b1 b2 b3 b4
        go_wp2
        go_roundw
        case rel =>
         refine ⟨k + 2, _, _, _, HPN.out, by go_num, rfl, ?_, ?_, B3.out.symm, H4.out.below B4.out (by omega), H6.out.below B4.out (by omega), HBE.out.trans (B4.out.mono (by omega)), HEr.out.belowB (by omega) B4.out⟩
         ·simpa [ofNat_byte] using B2.out
         ·rw [HPE.out]; simpa [ofNat_byte] using B1.out
        case measure => simp [intOf]; omega
      ·have HQ := LH (show rTok s i = none from by unfold rTok runTk; rw [RPos_bad HP.out hlt hlt2 hc4]; rfl)
       have hne : ((k : Int) + 1 == (s.size : Int)) = true := by rw [beq_iff_eq]; omega
       obtain ⟨⟨c0, c1, c2, c3, c4⟩, f0, f1, f2, f3, f4⟩ := H6.out.facts
       obtain ⟨⟨d0, d1, d2, d3, d4⟩, e0, e1, e2, e3, e4⟩ := H4.out.facts
       clear hc12 hc3 hcb
       go_wp2_with fail
       refine (class_any s[k] _ HEr.out).mono ?_
       rintro e wc ⟨rfl, rfl⟩
       go_wp2
       refine jump_ret (bodyPost_ret (v := .tuple #[lxVal ⟨0, [], 0, i, 0⟩, .bool false]) ?_ rfl ⟨?_, ?_⟩)
       ·simp [results, Tryd.results85, go_sem, lxVal, d0, d1, d2, d3, d4, str]
       ·repeat (first | with_reducible refine Below.drew ?_ | with_reducible refine Below.setCell ?_ (by simp) _)
        exact HBE.out
       ·rw [HQ.out]; exact ⟨_, rfl⟩
     ·have hc0 : cls s[k] = 0 := by omega
      have HPN := LH (RPos_letter HP.out hlt hc0)
      clear hc12 hc3 hc4 hcb
      go_wp2_with fail
      refine (class_any s[k] _ HEr.out).mono ?_
      rintro e wc ⟨rfl, rfl⟩
      go_wp2_with (at_builtin; refine OwnB.append2 HT.out HPO.out HAP.out _ _ rfl _ _ rfl rfl rfl ?_ ?_ ?_ hBr ?_ ?_)
      all_goals first | omega | exact (World.size_alloc ..).symm | skip
      intro v1 w1 a1 a2 a3 a4
      have A1 := LH a1; have A2 := LH a2; have A3 := LH a3; have A4 := LH a4
      have hBr1 := Nat.le_trans hBr a4.size
      clear a1 a2 a3 a4
      go_wp2_with (at_builtin; refine OwnB.append2 A2.out A1.out A3.out.symm _ _ rfl _ _ rfl rfl rfl ?_ ?_ ?_ hBr1 ?_ ?_)
      all_goals first | omega | exact (World.size_alloc ..).symm | skip
      intro v2 w2 b1 b2 b3 b4
      have B1 := LH b1; have B2 := LH b2; have B3 := LH b3; have B4 := LH (A4.out.trans b4)
      clear b1 b2 b3 b4
      go_wp2
      go_roundw
      case rel =>
       refine ⟨k + 1, _, _, _, HPN.out, by go_num, rfl, ?_, ?_, B3.out.symm, H4.out.below B4.out (by omega), H6.out.below B4.out (by omega), HBE.out.trans (B4.out.mono (by omega)), HEr.out.belowB (by omega) B4.out⟩
       ·simpa [ofNat_byte] using B2.out
       ·simpa [ofNat_byte] using B1.out
      case measure => simp [intOf]; omega
  ·have HR := LH (RPos_end HP.out hlt)
   obtain ⟨⟨c0, c1, c2, c3, c4⟩, f0, f1, f2, f3, f4⟩ := H6.out.facts
   obtain ⟨⟨d0, d1, d2, d3, d4⟩, e0, e1, e2, e3, e4⟩ := H4.out.facts
   by_cases hW : 0 < W
   ·have HQ := LH (show rTok s i = some ⟨2, P, 0, i, k⟩ from by unfold rTok runTk; rw [HR.out]; simp only [Option.map_some, if_pos hW, Tk.lx]; rw [show i + (k - i) = k from by have := HP.out.1; omega])
    have q1 := (((HPO.out.setCell (p := ⟨w.heap.size + 1, 4, none⟩) (by simp) (.int .i64 (k : Int)))).drew).conv
    have q2 := (((HPO.out.setCell (p := ⟨w.heap.size + 1, 4, none⟩) (by simp) (.int .i64 (k : Int))).setCell (p := ⟨w.heap.size + 1, 0, none⟩) (by simp) (.int .i64 2)).drew).conv
    go_wp2
    go_step3
    go_wp2
    go_region
    go_wp2
    refine jump_ret (bodyPost_ret (v := .tuple #[lxVal ⟨2, P, 0, i, k⟩, .bool true]) ?_ rfl ⟨?_, ?_⟩)
    ·simp [results, Tryd.results85, go_sem, lxVal, d0, d1, d2, d3, d4]
    ·repeat (first | with_reducible refine Below.drew ?_ | with_reducible refine Below.setCell ?_ (by simp) _)
     exact HBE.out
    ·rw [HQ.out]
   ·have hW2 : W = 0 := by omega
    have HKK : Hid ((s.extract i k).data.toList = (s.data.toList.drop i).take (k - i)) := Lib.extract_data s i k
    generalize hK : kwd ((s.data.toList.drop i).take (k - i)) = K
    have HQ0 := LH (show rTok s i = some ⟨K, if K = 1 then T else [], 0, i, k⟩ from by unfold rTok runTk; rw [HR.out]; simp only [Option.map_some, if_neg hW, Tk.lx, hK]; rw [show i + (k - i) = k from by have := HP.out.1; omega])
    have HKW := LH hK
    have hik := HP.out.1
    clear hK hW2
    by_cases hkw : K = 1
    ·have HQ := LH (show rTok s i = some ⟨K, T, 0, i, k⟩ from by rw [HQ0.out, if_pos hkw])
     have hkb : (K == 1) = true := by rw [hkw]; rfl
     have q3 := ((HT.out.setCell (p := ⟨w.heap.size + 1, 4, none⟩) (by simp) (.int .i64 (k : Int))).setCell (p := ⟨w.heap.size + 1, 0, none⟩) (by simp) (.int .i64 K)).conv
     clear hkw
     go_wp2
     go_step3
     go_wp2_with fail
     refine (keyword_any (s.extract i k) _).mono ?_
     rintro e wk ⟨he, rfl⟩
     rw [HKK.out, HKW.out] at he
     subst he
     go_wp2
     refine jump_ret (bodyPost_ret (v := .tuple #[lxVal ⟨K, T, 0, i, k⟩, .bool true]) ?_ rfl ⟨?_, ?_⟩)
     ·simp [results, Tryd.results85, go_sem, lxVal, d0, d1, d2, d3, d4]
     ·repeat (first | with_reducible refine Below.drew ?_ | with_reducible refine Below.setCell ?_ (by simp) _)
      exact HBE.out
     ·rw [HQ.out]
    ·have HQ := LH (show rTok s i = some ⟨K, [], 0, i, k⟩ from by rw [HQ0.out, if_neg hkw])
     have hkb : (K == 1) = false := beq_eq_false_iff_ne.2 hkw
     clear hkw
     go_wp2
     go_step3
     go_wp2_with fail
     refine (keyword_any (s.extract i k) _).mono ?_
     rintro e wk ⟨he, rfl⟩
     rw [HKK.out, HKW.out] at he
     subst he
     go_wp2
     refine jump_ret (bodyPost_ret (v := .tuple #[lxVal ⟨K, [], 0, i, k⟩, .bool true]) ?_ rfl ⟨?_, ?_⟩)
     ·simp [results, Tryd.results85, go_sem, lxVal, d0, d1, d2, d3, d4, str]
     ·repeat (first | with_reducible refine Below.drew ?_ | with_reducible refine Below.setCell ?_ (by simp) _)
      exact HBE.out
     ·rw [HQ.out]
end Go.Proofs.YthcldpminmhgkaaDoor
end
