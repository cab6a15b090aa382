/- Layer 4: Encode. -/
import Derived.Test.YtdkalcecmdadeaaDoorBd
import Derived.Test.YtdkalcecmdadeaaDoorTx
import Derived.Test.YtdkalcecmdadeaaDoorWt
namespace Go.Proofs.YtdkalcecmdadeaaDoor
open Go.RowKit
set_option maxRecDepth 100000
set_option maxHeartbeats 4000000
set_option linter.unusedSimpArgs false
set_option linter.unusedVariables false

def EncRet (l : List Fd) (bad ok : Value) (w : World) (e : Ending) (w' : World) : Prop :=
  ∃ v, e = .returned (.tuple #[v, if chkL l then ok else bad]) ∧ OwnB w' w.heap.size v (if chkL l then encL l else []) ∧ Below w.heap.size w w'
theorem encRet_bad {l : List Fd} {bad ok v : Value} {w w' : World} (h : chkL l = false) (ho : OwnB w' w.heap.size v []) (hb : Below w.heap.size w w') : EncRet l bad ok w (.returned (.tuple #[v, bad])) w' := by
  refine ⟨v, ?_, ?_, hb⟩
  · rw [h]; rfl
  · rw [h]; exact ho
theorem encRet_ok {l : List Fd} {bad ok v : Value} {w w' : World} {m : List UInt8} (h : chkL l = true) (hm : m = encL l) (ho : OwnB w' w.heap.size v m) (hb : Below w.heap.size w w') : EncRet l bad ok w (.returned (.tuple #[v, ok])) w' := by
  subst hm
  refine ⟨v, ?_, ?_, hb⟩
  · rw [h]; rfl
  · rw [h]; exact ho
theorem kind_flags {f : Fd} (h : goodKindF f = true) : f.kind = 1 ∨ (f.kind = 2 ∧ f.fold = false ∧ f.stop = false ∧ f.stem = false) ∨ (f.kind = 3 ∧ f.fold = false ∧ f.stop = false ∧ f.stem = false) := by
  unfold goodKindF at h
  simp only [Bool.or_eq_true, Bool.and_eq_true, decide_eq_true_eq, Bool.not_eq_true'] at h
  rcases h with h | ⟨h | h, h2⟩
  · exact .inl h
  · exact .inr (.inl ⟨h, h2.1.1, h2.1.2, h2.2⟩)
  · exact .inr (.inr ⟨h, h2.1.1, h2.1.2, h2.2⟩)
theorem or_1_4 : bits .or .u8 1 4 = 5 := by decide +kernel
theorem or_1_8 : bits .or .u8 1 8 = 9 := by decide +kernel
theorem or_5_8 : bits .or .u8 5 8 = 13 := by decide +kernel
theorem or_1_16 : bits .or .u8 1 16 = 17 := by decide +kernel
theorem or_5_16 : bits .or .u8 5 16 = 21 := by decide +kernel
theorem or_9_16 : bits .or .u8 9 16 = 25 := by decide +kernel
theorem or_13_16 : bits .or .u8 13 16 = 29 := by decide +kernel
/-- Encode's loop. -/
def EnRel (l : List Fd) (g : Nat) (w : World) (iv : Value) (wr : World) : Prop :=
  ∃ k : Nat, k ≤ l.length ∧ iv = .int .i64 (k : Int) ∧ WrAt wr g (encTo l k) ∧ Below w.heap.size w wr
theorem encode_any (fs : Value) (l : List Fd) (ea : List Addr) (w : World) (B : Nat) (hB : B ≤ w.heap.size) (h : RdL fdS w B fs l) (hn : SmallNames l) (hE : SchEnv w ea) :
    Calls Tryd.prog 22 #[.agg #[fs]] w (EncRet l (errI ea 10) .nilIface w) := by
  obtain ⟨A, cap, rfl, hc, hc2⟩ := h.open_
  unfold maxLen at hc2
  have H := Lib.hid h; have HN := Lib.hid hn; have HE := Lib.hid hE
  clear h hn hE
  go_enter Tryd.func22, Tryd.ntmps22
  go_wp2_with fail
  refine (check_any _ l ea _ B (by rw [World.size_alloc]; omega) (H.out.alloc hB _) HN.out (HE.out.below ((Below.refl _ _).alloc (Nat.le_refl _) _))).mono ?_
  rintro e w1 ⟨he, hb1⟩
  have cb : w1.cell? ⟨w.heap.size, 0, none⟩ = some (.slice A l.length cap) := cellN hb1 rfl
  have hsz1 : w.heap.size < w1.heap.size := World.block_lt_of_cell? w1 ⟨w.heap.size, 0, none⟩ cb
  have HW1 := Lib.hid (((Below.refl _ _).alloc (Nat.le_refl _) _ : Below w.heap.size w (w.alloc (.cells #[.slice A l.length cap] 24))).trans (hb1.mono (by rw [World.size_alloc]; omega)))
  clear hb1
  have k1 := fun W => errI_nnil ea 10 W
  have k2 := fun op x y W => errI_guard0 ea 10 op x y W
  cases hck : chkL l with
  | false =>
    rw [hck] at he
    simp only [Bool.false_eq_true, if_false] at he
    subst he
    have HCK := Lib.hid hck
    clear hck
    go_wp2
    go_ret2
    exact encRet_bad HCK.out (OwnB.nil _ _) HW1.out
  | true =>
    rw [hck] at he
    simp only [if_true] at he
    subst he
    obtain ⟨hl1, hl16⟩ := chk_len hck
    have HCK := Lib.hid hck
    clear hck k1 k2
    go_wp2_with fail
    refine (newWriter_any w1).mono ?_
    rintro e w2 ⟨rfl, hw2, hb2⟩
    have cb2 : w2.cell? ⟨w.heap.size, 0, none⟩ = some (.slice A l.length cap) := (hb2.cell (p := ⟨w.heap.size, 0, none⟩) hsz1).trans cb
    generalize hg : w1.heap.size = g at hw2 hb2 hsz1 ⊢
    have HW2 := Lib.hid (HW1.out.trans (hb2.mono (by omega)))
    have HWA := Lib.hid hw2
    clear hb2 hw2 cb hg HW1
    go_wp2_with fail
    refine (wuvarint_any l.length g [] w2 HWA.out (by omega) (by simp)).mono ?_
    rintro e w3 ⟨rfl, hw3, hb3, hk3⟩
    have cb3 : w3.cell? ⟨w.heap.size, 0, none⟩ = some (.slice A l.length cap) := (hb3.cell (p := ⟨w.heap.size, 0, none⟩) hsz1).trans cb2
    rw [List.nil_append] at hw3
    have HW3 := Lib.hid (HW2.out.trans (hb3.mono (by omega)))
    have HWB := Lib.hid hw3
    clear hb3 hw3 hk3 cb2
    go_wp2
    go_loopw [24] (fun iv wr => EnRel l g w iv wr) (fun iv _ => l.length - (intOf iv).toNat)
    case atStart => exact ⟨0, by omega, rfl, HWB.out, HW3.out⟩
    case round =>
      obtain ⟨k, hk, rfl, hwr, hbl⟩ := hrel
      have hel : (encTo l k).length ≤ 1000 := by
        have := encTo_length HCK.out hl16 k hk
        omega
      have HB := Lib.hid hbl
      have HF := Lib.hid (H.out.belowW hB hbl)
      have HR := Lib.hid hwr
      have hszr : w.heap.size ≤ wr.heap.size := hbl.size
      have hgl : g < wr.heap.size := hwr.lt
      clear hbl hwr
      by_cases hlt : k < l.length
      · obtain ⟨a, rfl, hab, c0, c1, c2, c3, c4⟩ := at_fd HF.out hlt
        have hza : (a.add (k * 5)).block < wr.heap.size := by omega
        obtain ⟨hn32, -, hkd⟩ := chk_name32 HCK.out hlt
        have hkf := kind_flags hkd
        have HTX := Lib.hid (encTo_succ hlt)
        clear hkd
        generalize l[k] = f at *
        obtain ⟨nm, kd, fa, fb, fc⟩ := f
        simp only [] at c0 c1 c2 c3 c4 hn32 hkf
        go_wp2_with fail
        refine (wtext_any nm g (encTo l k) _ (HR.out.belowW ((Below.refl _ _).alloc (Nat.le_refl _) _)) (by omega) (by omega)).mono ?_
        rintro e w4 ⟨rfl, hw4, hb4, hk4⟩
        have hfb : Blk w4 wr.heap.size 34 #[.string nm, .int .i64 kd, .bool fa, .bool fb, .bool fc] := hk4 wr.heap.size 34 _ (by omega) (by decide) (Blk.new wr _ _)
        have d1 := hfb.cell 1
        have d2 := hfb.cell 2
        have d3 := hfb.cell 3
        have d4 := hfb.cell 4
        simp only [List.getElem?_toArray, List.getElem?_cons_zero, List.getElem?_cons_succ] at d1 d2 d3 d4
        have HB4 := Lib.hid ((HB.out.alloc hszr _).trans (hb4.mono (by omega)))
        have HW4 := Lib.hid hw4
        have htl : (encTo l k ++ txL nm).length ≤ 2000 := by
          have h3 := uvL_len64 (n := nm.size) (by omega)
          unfold txL
          simp only [List.length_append, ← ba_size]
          omega
        clear hb4 hw4 hk4 hfb c0 c1 c2 c3 c4
        have o1 := or_1_4; have o2 := or_1_8; have o3 := or_5_8; have o4 := or_1_16; have o5 := or_5_16; have o6 := or_9_16; have o7 := or_13_16
        have fin : ∀ (x : UInt8) (w5 : World), x = UInt8.ofNat (kindN ⟨nm, kd, fa, fb, fc⟩) → WrAt w5 g (encTo l k ++ txL nm ++ [x]) → Below g w4 w5 → EnRel l g w (.int .i64 ((k : Int) + 1)) w5 := fun x w5 hx h1 h2 => by
          refine ⟨k + 1, by omega, by go_num, ?_, HB4.out.trans (h2.mono (by omega))⟩
          rw [HTX.out, fieldB, ← List.append_assoc]
          rw [hx] at h1; exact h1
        have FIN := Lib.hid fin
        clear fin
        rcases hkf with rfl | ⟨rfl, rfl, rfl, rfl⟩ | ⟨rfl, rfl, rfl, rfl⟩
        · cases fa <;> cases fb <;> cases fc
          · go_wp2_with fail
            refine (wbyte_any 1 g _ _ HW4.out (by omega)).mono ?_
            rintro e w5 ⟨rfl, hw5, hb5, hk5⟩
            have H5 := Lib.hid hw5
            have HB5 := Lib.hid hb5
            clear hw5 hb5 hk5
            go_wp2
            go_roundw
            case rel => exact FIN.out _ _ (by rfl) H5.out HB5.out
            case measure => simp [intOf]; omega
          · go_wp2_with fail
            refine (wbyte_any 17 g _ _ HW4.out (by omega)).mono ?_
            rintro e w5 ⟨rfl, hw5, hb5, hk5⟩
            have H5 := Lib.hid hw5
            have HB5 := Lib.hid hb5
            clear hw5 hb5 hk5
            go_wp2
            go_roundw
            case rel => exact FIN.out _ _ (by rfl) H5.out HB5.out
            case measure => simp [intOf]; omega
          · go_wp2_with fail
            refine (wbyte_any 9 g _ _ HW4.out (by omega)).mono ?_
            rintro e w5 ⟨rfl, hw5, hb5, hk5⟩
            have H5 := Lib.hid hw5
            have HB5 := Lib.hid hb5
            clear hw5 hb5 hk5
            go_wp2
            go_roundw
            case rel => exact FIN.out _ _ (by rfl) H5.out HB5.out
            case measure => simp [intOf]; omega
          · go_wp2_with fail
            refine (wbyte_any 25 g _ _ HW4.out (by omega)).mono ?_
            rintro e w5 ⟨rfl, hw5, hb5, hk5⟩
            have H5 := Lib.hid hw5
            have HB5 := Lib.hid hb5
            clear hw5 hb5 hk5
            go_wp2
            go_roundw
            case rel => exact FIN.out _ _ (by rfl) H5.out HB5.out
            case measure => simp [intOf]; omega
          · go_wp2_with fail
            refine (wbyte_any 5 g _ _ HW4.out (by omega)).mono ?_
            rintro e w5 ⟨rfl, hw5, hb5, hk5⟩
            have H5 := Lib.hid hw5
            have HB5 := Lib.hid hb5
            clear hw5 hb5 hk5
            go_wp2
            go_roundw
            case rel => exact FIN.out _ _ (by rfl) H5.out HB5.out
            case measure => simp [intOf]; omega
          · go_wp2_with fail
            refine (wbyte_any 21 g _ _ HW4.out (by omega)).mono ?_
            rintro e w5 ⟨rfl, hw5, hb5, hk5⟩
            have H5 := Lib.hid hw5
            have HB5 := Lib.hid hb5
            clear hw5 hb5 hk5
            go_wp2
            go_roundw
            case rel => exact FIN.out _ _ (by rfl) H5.out HB5.out
            case measure => simp [intOf]; omega
          · go_wp2_with fail
            refine (wbyte_any 13 g _ _ HW4.out (by omega)).mono ?_
            rintro e w5 ⟨rfl, hw5, hb5, hk5⟩
            have H5 := Lib.hid hw5
            have HB5 := Lib.hid hb5
            clear hw5 hb5 hk5
            go_wp2
            go_roundw
            case rel => exact FIN.out _ _ (by rfl) H5.out HB5.out
            case measure => simp [intOf]; omega
          · go_wp2_with fail
            refine (wbyte_any 29 g _ _ HW4.out (by omega)).mono ?_
            rintro e w5 ⟨rfl, hw5, hb5, hk5⟩
            have H5 := Lib.hid hw5
            have HB5 := Lib.hid hb5
            clear hw5 hb5 hk5
            go_wp2
            go_roundw
            case rel => exact FIN.out _ _ (by rfl) H5.out HB5.out
            case measure => simp [intOf]; omega
        · go_wp2_with fail
          refine (wbyte_any 2 g _ _ HW4.out (by omega)).mono ?_
          rintro e w5 ⟨rfl, hw5, hb5, hk5⟩
          have H5 := Lib.hid hw5
          have HB5 := Lib.hid hb5
          clear hw5 hb5 hk5
          go_wp2
          go_roundw
          case rel => exact FIN.out _ _ (by rfl) H5.out HB5.out
          case measure => simp [intOf]; omega
        · go_wp2_with fail
          refine (wbyte_any 3 g _ _ HW4.out (by omega)).mono ?_
          rintro e w5 ⟨rfl, hw5, hb5, hk5⟩
          have H5 := Lib.hid hw5
          have HB5 := Lib.hid hb5
          clear hw5 hb5 hk5
          go_wp2
          go_roundw
          case rel => exact FIN.out _ _ (by rfl) H5.out HB5.out
          case measure => simp [intOf]; omega
      · have HEQ := Lib.hid (show encTo l k = encL l from by unfold encL; congr 1; omega)
        go_wp2_with fail
        refine (wbytes_any g (encTo l k) _ HR.out (by omega)).mono ?_
        rintro e w5 ⟨v, rfl, ho, hb5⟩
        have HO := Lib.hid ho
        have HB5 := Lib.hid hb5
        clear ho hb5
        go_wp2
        go_ret2
        exact encRet_ok HCK.out HEQ.out (ownB_iff.2 ((ownB_iff.1 HO.out).more hszr)) (HB.out.trans (HB5.out.mono hszr))
end Go.Proofs.YtdkalcecmdadeaaDoor
