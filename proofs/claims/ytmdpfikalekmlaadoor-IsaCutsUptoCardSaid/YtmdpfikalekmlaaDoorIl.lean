/- Layer 20: the laws' lives. -/
import Derived.Test.YtmdpfikalekmlaaDoorTx
import Derived.Test.YtmdpfikalekmlaaDoorIf
import Derived.KernelRfl
namespace Go.Proofs.YtmdpfikalekmlaaDoor
open Go.RowKit
set_option maxRecDepth 100000
set_option maxHeartbeats 4000000
set_option linter.unusedSimpArgs false
set_option linter.unusedVariables false

def lvI : List Ins := [⟨2, 0, 0⟩, ⟨12, 300, 0⟩, ⟨0, 0, 0⟩]
def lvP : Pg := ⟨[3], [], [], true, [], [2, 12, 172, 2, 0]⟩
theorem lv_ok : lvI.all insOk = true := by kernel_rfl
theorem lv_small : SmallIns lvI := by
  intro x hx
  simp only [lvI, List.mem_cons, List.not_mem_nil, or_false] at hx
  rcases hx with rfl | rfl | rfl <;> decide
theorem lv_enc : encI lvI = [2, 12, 172, 2, 0] := by
  have h : uvL 300 = [172, 2] := by rw [uvL_big (by decide), uvL_small (by decide)]; rfl
  unfold encI lvI
  simp only [List.flatMap_cons, List.flatMap_nil, insB]
  rw [show argsN 2 = some 0 from rfl, show argsN 12 = some 1 from rfl, show argsN 0 = some 0 from rfl]
  simp only []
  rw [h]; rfl
theorem lv_dec : decI lvP.code = some lvI := by
  have h := decI_encI lv_ok lv_small
  rw [lv_enc] at h
  exact h
theorem lv_text : textP lvP = some [97, 118, 103, 115, 32, 51, 10, 101, 118, 101, 114, 121, 10, 97, 108, 108, 10, 115, 99, 97, 108, 101, 32, 51, 48, 48, 10, 101, 110, 100, 10] := by
  have h3 : dgt 3 = [51] := dgt_small (by decide)
  have h30 : dgt 30 = [51, 48] := by rw [dgt_big (by decide), show 30 / 10 = 3 from rfl, h3]; rfl
  have h300 : dgt 300 = [51, 48, 48] := by rw [dgt_big (by decide), show 300 / 10 = 30 from rfl, h30]; rfl
  have hu := (textP_some (p := lvP) (code := lvI) (by rw [if_pos (by decide), lv_dec])).2.2
  rw [hu]
  have e1 : lineL [97, 118, 103, 115] lvP.avgs = [97, 118, 103, 115, 32, 51] := by
    unfold lineL lvP numC
    simp only [List.flatMap_cons, List.flatMap_nil]
    rw [show (3 : Int).toNat = 3 from rfl, h3]; rfl
  have e2 : insL ⟨2, 0, 0⟩ = [97, 108, 108] := insL_0 (o := 2) rfl
  have e3 : insL ⟨12, 300, 0⟩ = [115, 99, 97, 108, 101, 32, 51, 48, 48] := by rw [show insL ⟨12, 300, 0⟩ = _ from insL_1 (o := 12) rfl, h300]; rfl
  have e4 : insL ⟨0, 0, 0⟩ = [101, 110, 100] := insL_0 (o := 0) rfl
  unfold linesL headL
  rw [e1]
  unfold lvI
  simp only [List.map_cons, List.map_nil, e2, e3, e4]
  rfl
theorem lives_any (w : World) (ea : List Addr) (hE : ErrFew w ea) (hT : TabEnv w) (hP : Pow10 w) :
    Calls Tryd.prog 11 #[] w fun e w' => e = .returned (.bool true) ∧ Below w.heap.size w w' := by
  have HE := Lib.hid hE; have HT := Lib.hid hT; have HP := Lib.hid hP
  clear hE hT hP
  go_enter Tryd.func11, Tryd.ntmps11
  go_wp2_with fail
  have hb0 : Below w.heap.size w (w.alloc (.cells #[.int .i64 2, .int .u64 0, .int .u64 0, .int .i64 12, .int .u64 300, .int .u64 0, .int .i64 0, .int .u64 0, .int .u64 0] 64)) := (Below.refl _ _).alloc (Nat.le_refl _) _
  have hr0 : RdL insS (w.alloc (.cells #[.int .i64 2, .int .u64 0, .int .u64 0, .int .i64 12, .int .u64 300, .int .u64 0, .int .i64 0, .int .u64 0, .int .u64 0] 64)) (w.alloc (.cells #[.int .i64 2, .int .u64 0, .int .u64 0, .int .i64 12, .int .u64 300, .int .u64 0, .int .i64 0, .int .u64 0, .int .u64 0] 64)).heap.size (.slice (some ⟨w.heap.size, 0, none⟩) 3 3) lvI :=
    RdL.of_own (B := w.heap.size) (World.ownsRow_lit w #[.int .i64 2, .int .u64 0, .int .u64 0, .int .i64 12, .int .u64 300, .int .u64 0, .int .i64 0, .int .u64 0, .int .u64 0] 3 (Nat.le_refl _) (by unfold maxLen; omega) rfl)
  refine (iencode_any _ lvI ea _ _ (Nat.le_refl _) hr0 (by decide) lv_small (HE.out.below hb0) (HT.out.below hb0)).mono ?_
  rintro e w1 ⟨v, rfl, ho, hb1⟩
  rw [show lvI.all insOk = true from lv_ok, if_pos rfl, lv_enc] at ho
  obtain ⟨A, cap, rfl⟩ := ownB_form ho
  have HB1 := Lib.hid (hb0.trans (hb1.mono hb0.size))
  have hcv := ho.conv
  have HO := Lib.hid ho
  rw [show lvI.all insOk = true from lv_ok, if_pos rfl]
  have hs : str [2, 12, 172, 2, 0] = ⟨#[2, 12, 172, 2, 0]⟩ := rfl
  rw [hs] at hcv
  clear hb0 hr0 ho hb1 hs
  simp only [List.length_cons, List.length_nil] at hcv HO ⊢
  go_wp2_with fail
  have hb2 : Below w1.heap.size w1 (w1.alloc (.cells #[.int .i64 3] 3)) := (Below.refl _ _).alloc (Nat.le_refl _) _
  have hb3 := HB1.out.trans (hb2.mono HB1.out.size)
  have hr1 : RdL intS (w1.alloc (.cells #[.int .i64 3] 3)) (w1.alloc (.cells #[.int .i64 3] 3)).heap.size (.slice (some ⟨w1.heap.size, 0, none⟩) 1 1) [3] := rdl_one (by rw [World.cell?_alloc_new]; rfl)
  have hr2 := RdL.ofB (HO.out.below hb2)
  refine (Text_any ⟨.slice (some ⟨w1.heap.size, 0, none⟩) 1 1, .slice none 0 0, .slice none 0 0, .slice none 0 0, .slice A 5 cap, []⟩ lvP _ ea ⟨hr1, RdL.nil _ _ _, RdL.nil _ _ _, rfl, (fun y hy => absurd hy List.not_mem_nil), RdL.nil _ _ _, hr2⟩ ⟨⟨by intro x hx; obtain rfl := List.mem_singleton.1 hx; decide, by decide⟩, ⟨(fun y hy => absurd hy List.not_mem_nil), by decide⟩, ⟨(fun y hy => absurd hy List.not_mem_nil), by decide⟩, ⟨(fun y hy => absurd hy List.not_mem_nil), by decide⟩, by decide⟩ (HE.out.below hb3) (HT.out.below hb3) (HP.out.below hb3)).mono ?_
  rintro e w4 ⟨hb4, rfl⟩
  have HB4 := Lib.hid (hb3.trans (hb4.mono hb3.size))
  rw [lv_text]
  clear hb2 hb3 hr1 hr2 hb4
  simp only [str]
  go_wp2
  go_ret
  exact ⟨rfl, HB4.out⟩
end Go.Proofs.YtmdpfikalekmlaaDoor
