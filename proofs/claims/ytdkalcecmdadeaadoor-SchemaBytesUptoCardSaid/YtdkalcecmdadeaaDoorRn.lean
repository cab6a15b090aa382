/- Layer 4, the reference: Encode. -/
import Derived.Test.YtdkalcecmdadeaaDoorEn
import Derived.Test.YtdkalcecmdadeaaDoorRx
import Derived.Test.YtdkalcecmdadeaaDoorRck
namespace Go.Proofs.YtdkalcecmdadeaaDoor
open Go.RowKit
set_option maxRecDepth 100000
set_option maxHeartbeats 4000000
set_option linter.unusedSimpArgs false
set_option linter.unusedVariables false

def RenRel (l : List Fd) (w : World) (bv iv : Value) (wr : World) : Prop :=
  ∃ k : Nat, k ≤ l.length ∧ iv = .int .i64 (k : Int) ∧ OwnB wr w.heap.size bv (encTo l k) ∧ Below w.heap.size w wr
theorem rencode_any (fs : Value) (l : List Fd) (w : World) (B : Nat) (hB : B ≤ w.heap.size) (h : RdL fdS w B fs l) :
    Calls Tryd.prog 23 #[.agg #[fs]] w (EncRet l (.int .i64 11) (.int .i64 0) w) := by
  obtain ⟨A, cap, rfl, hc, hc2⟩ := h.open_
  unfold maxLen at hc2
  have H := Lib.hid h
  clear h
  go_enter Tryd.func23, Tryd.ntmps23
  go_wp2_with fail
  refine (rcheck_any _ l _ B (by rw [World.size_alloc]; omega) (H.out.alloc hB _)).mono ?_
  rintro e w1 ⟨he, hb1⟩
  have cb : w1.cell? ⟨w.heap.size, 0, none⟩ = some (.slice A l.length cap) := cellN hb1 rfl
  have hsz1 : w.heap.size < w1.heap.size := World.block_lt_of_cell? w1 ⟨w.heap.size, 0, none⟩ cb
  have HW1 := Lib.hid (((Below.refl _ _).alloc (Nat.le_refl _) _ : Below w.heap.size w (w.alloc (.cells #[.slice A l.length cap] 24))).trans (hb1.mono (by rw [World.size_alloc]; omega)))
  clear hb1
  cases hck : chkL l with
  | false =>
    rw [hck] at he
    simp only [Bool.false_eq_true, if_false] at he
    subst he
    have HCK := Lib.hid hck
    clear hck
    go_wp2
    go_ret2
    exact encRet_bad HCK.out (OwnB.lit0 _ (by omega)) (HW1.out.alloc (by omega) _)
  | true =>
    rw [hck] at he
    simp only [if_true] at he
    subst he
    obtain ⟨hl1, hl16⟩ := chk_len hck
    have HCK := Lib.hid hck
    clear hck
    go_wp2_with fail
    refine (rfuvarint_any l.length w1 (by omega)).mono ?_
    rintro e w2 ⟨v2, rfl, ho2, hb2⟩
    have cb2 : w2.cell? ⟨w.heap.size, 0, none⟩ = some (.slice A l.length cap) := (hb2.cell (p := ⟨w.heap.size, 0, none⟩) hsz1).trans cb
    have HW2 := Lib.hid (HW1.out.trans (hb2.mono (by omega)))
    have HO2 := Lib.hid (ownB_iff.2 ((ownB_iff.1 ho2).more (B2 := w.heap.size) (by omega)))
    clear hb2 ho2 cb HW1
    go_wp2
    go_loopw [5, 23] (fun bv iv wr => RenRel l w bv iv wr) (fun _ iv _ => l.length - (intOf iv).toNat)
    case atStart => exact ⟨0, by omega, rfl, HO2.out, HW2.out⟩
    case round =>
      obtain ⟨k, hk, rfl, hor, hbl⟩ := hrel
      have hel : (encTo l k).length ≤ 1000 := by
        have := encTo_length HCK.out hl16 k hk
        omega
      have HB := Lib.hid hbl
      have HF := Lib.hid (H.out.belowW hB hbl)
      have HR := Lib.hid hor
      have hszr : w.heap.size ≤ wr.heap.size := hbl.size
      clear hbl hor
      by_cases hlt : k < l.length
      · obtain ⟨a, rfl, hab, c0, c1, c2, c3, c4⟩ := at_fd HF.out hlt
        have hza : (a.add (k * 5)).block < wr.heap.size := by omega
        obtain ⟨hn32, -, hkd⟩ := chk_name32 HCK.out hlt
        have hkf := kind_flags hkd
        have HTX := Lib.hid (encTo_succ hlt)
        clear hkd
        generalize l[k] = f at *
        obtain ⟨nm, kd, fa, fb, fc⟩ := f
        simp only [] at c0 c1 c2 c3 c4 hn32 hkf
        go_wp2_with fail
        refine (rftext_any nm _ (by omega)).mono ?_
        rintro e w4 ⟨x4, rfl, ho4, hb4⟩
        have hszf : wr.heap.size < w4.heap.size := by
          have := hb4.size
          rw [World.size_alloc] at this; omega
        have hfb : Blk w4 wr.heap.size 34 #[.string nm, .int .i64 kd, .bool fa, .bool fb, .bool fc] := (Blk.new wr _ _).belowW hb4
        have HWR : Below wr.heap.size wr w4 := ((Below.refl _ _).alloc (Nat.le_refl _) _).trans (hb4.mono (by rw [World.size_alloc]; omega))
        have HR4 := Lib.hid (HR.out.below HWR)
        have HB4 := Lib.hid (HB.out.trans (HWR.mono hszr))
        have HX4 := Lib.hid ho4
        have HFB := Lib.hid hfb
        have hne := HR.out.ne_new (Nat.le_refl wr.heap.size)
        have HNE := Lib.hid hne
        have htl : (txL nm).length ≤ 50 := by
          have h3 := uvL_len64 (n := nm.size) (by omega)
          unfold txL
          simp only [List.length_append, ← ba_size]
          omega
        have hs4 : w.heap.size ≤ w4.heap.size := by omega
        clear hb4 ho4 hfb c0 c1 c2 c3 c4 HWR hne
        go_wp2_with (at_builtin; refine OwnB.appendAllK HR4.out HX4.out rfl _ _ rfl rfl rfl hs4 (by omega) ?_)
        intro v5 w5 ho5 hb5 hk5
        have hfb5 : Blk w5 wr.heap.size 34 #[.string nm, .int .i64 kd, .bool fa, .bool fb, .bool fc] := (hk5 wr.heap.size hszf HNE.out).trans HFB.out
        have d1 := hfb5.cell 1
        have d2 := hfb5.cell 2
        have d3 := hfb5.cell 3
        have d4 := hfb5.cell 4
        simp only [List.getElem?_toArray, List.getElem?_cons_zero, List.getElem?_cons_succ] at d1 d2 d3 d4
        have HB5 := Lib.hid (HB4.out.trans hb5)
        have HO5 := Lib.hid ho5
        have hs5 : w.heap.size ≤ w5.heap.size := HB5.out.size
        have htl5 : (encTo l k ++ txL nm).length ≤ 1050 := by rw [List.length_append]; omega
        clear hb5 ho5 hk5 hfb5
        have fin : ∀ (x : UInt8) (bv : Value) (w6 : World), x = UInt8.ofNat (kindN ⟨nm, kd, fa, fb, fc⟩) → OwnB w6 w.heap.size bv (encTo l k ++ (txL nm ++ [x])) → Below w.heap.size w5 w6 → RenRel l w bv (.int .i64 ((k : Int) + 1)) w6 := fun x bv w6 hx h1 h2 => by
          refine ⟨k + 1, by omega, by go_num, ?_, HB5.out.trans h2⟩
          rw [HTX.out, fieldB]
          rw [hx] at h1; exact h1
        have FIN := Lib.hid fin
        clear fin
        rcases hkf with rfl | ⟨rfl, rfl, rfl, rfl⟩ | ⟨rfl, rfl, rfl, rfl⟩
        · cases fa <;> cases fb <;> cases fc
          · go_wp2_with (at_builtin; refine OwnB.appendAt HO5.out 1 w5.heap.size rfl _ _ rfl rfl rfl rfl (by omega) (by omega) hs5 (by omega) ?_)
            intro v6 w6 h6 h7 hk6
            have H6 := Lib.hid h6
            have H7 := Lib.hid h7
            clear h6 h7 hk6
            go_wp2
            go_roundw
            case rel => exact FIN.out _ _ _ (by rfl) H6.out H7.out
            case measure => simp [intOf]; omega
          · go_wp2_with (at_builtin; refine OwnB.appendAt HO5.out 17 w5.heap.size rfl _ _ rfl rfl rfl rfl (by omega) (by omega) hs5 (by omega) ?_)
            intro v6 w6 h6 h7 hk6
            have H6 := Lib.hid h6
            have H7 := Lib.hid h7
            clear h6 h7 hk6
            go_wp2
            go_roundw
            case rel => exact FIN.out _ _ _ (by rfl) H6.out H7.out
            case measure => simp [intOf]; omega
          · go_wp2_with (at_builtin; refine OwnB.appendAt HO5.out 9 w5.heap.size rfl _ _ rfl rfl rfl rfl (by omega) (by omega) hs5 (by omega) ?_)
            intro v6 w6 h6 h7 hk6
            have H6 := Lib.hid h6
            have H7 := Lib.hid h7
            clear h6 h7 hk6
            go_wp2
            go_roundw
            case rel => exact FIN.out _ _ _ (by rfl) H6.out H7.out
            case measure => simp [intOf]; omega
          · go_wp2_with (at_builtin; refine OwnB.appendAt HO5.out 25 w5.heap.size rfl _ _ rfl rfl rfl rfl (by omega) (by omega) hs5 (by omega) ?_)
            intro v6 w6 h6 h7 hk6
            have H6 := Lib.hid h6
            have H7 := Lib.hid h7
            clear h6 h7 hk6
            go_wp2
            go_roundw
            case rel => exact FIN.out _ _ _ (by rfl) H6.out H7.out
            case measure => simp [intOf]; omega
          · go_wp2_with (at_builtin; refine OwnB.appendAt HO5.out 5 w5.heap.size rfl _ _ rfl rfl rfl rfl (by omega) (by omega) hs5 (by omega) ?_)
            intro v6 w6 h6 h7 hk6
            have H6 := Lib.hid h6
            have H7 := Lib.hid h7
            clear h6 h7 hk6
            go_wp2
            go_roundw
            case rel => exact FIN.out _ _ _ (by rfl) H6.out H7.out
            case measure => simp [intOf]; omega
          · go_wp2_with (at_builtin; refine OwnB.appendAt HO5.out 21 w5.heap.size rfl _ _ rfl rfl rfl rfl (by omega) (by omega) hs5 (by omega) ?_)
            intro v6 w6 h6 h7 hk6
            have H6 := Lib.hid h6
            have H7 := Lib.hid h7
            clear h6 h7 hk6
            go_wp2
            go_roundw
            case rel => exact FIN.out _ _ _ (by rfl) H6.out H7.out
            case measure => simp [intOf]; omega
          · go_wp2_with (at_builtin; refine OwnB.appendAt HO5.out 13 w5.heap.size rfl _ _ rfl rfl rfl rfl (by omega) (by omega) hs5 (by omega) ?_)
            intro v6 w6 h6 h7 hk6
            have H6 := Lib.hid h6
            have H7 := Lib.hid h7
            clear h6 h7 hk6
            go_wp2
            go_roundw
            case rel => exact FIN.out _ _ _ (by rfl) H6.out H7.out
            case measure => simp [intOf]; omega
          · go_wp2_with (at_builtin; refine OwnB.appendAt HO5.out 29 w5.heap.size rfl _ _ rfl rfl rfl rfl (by omega) (by omega) hs5 (by omega) ?_)
            intro v6 w6 h6 h7 hk6
            have H6 := Lib.hid h6
            have H7 := Lib.hid h7
            clear h6 h7 hk6
            go_wp2
            go_roundw
            case rel => exact FIN.out _ _ _ (by rfl) H6.out H7.out
            case measure => simp [intOf]; omega
        · go_wp2_with (at_builtin; refine OwnB.appendAt HO5.out 2 w5.heap.size rfl _ _ rfl rfl rfl rfl (by omega) (by omega) hs5 (by omega) ?_)
          intro v6 w6 h6 h7 hk6
          have H6 := Lib.hid h6
          have H7 := Lib.hid h7
          clear h6 h7 hk6
          go_wp2
          go_roundw
          case rel => exact FIN.out _ _ _ (by rfl) H6.out H7.out
          case measure => simp [intOf]; omega
        · go_wp2_with (at_builtin; refine OwnB.appendAt HO5.out 3 w5.heap.size rfl _ _ rfl rfl rfl rfl (by omega) (by omega) hs5 (by omega) ?_)
          intro v6 w6 h6 h7 hk6
          have H6 := Lib.hid h6
          have H7 := Lib.hid h7
          clear h6 h7 hk6
          go_wp2
          go_roundw
          case rel => exact FIN.out _ _ _ (by rfl) H6.out H7.out
          case measure => simp [intOf]; omega
      · have HEQ := Lib.hid (show encTo l k = encL l from by unfold encL; congr 1; omega)
        go_wp2
        go_ret2
        exact encRet_ok HCK.out HEQ.out HR.out HB.out
end Go.Proofs.YtdkalcecmdadeaaDoor
