/- Layer 20: Args and Encode. -/
import Derived.Test.YtmdpfikalekmlaaGreatDoorIp
import Derived.Test.YtmdpfikalekmlaaGreatDoorRd
import Derived.Test.YtmdpfikalekmlaaGreatDoorWr
import Derived.Test.YtmdpfikalekmlaaGreatDoorRu
namespace Go.Proofs.YtmdpfikalekmlaaGreatDoor
open Go.RowKit
set_option maxRecDepth 100000
set_option maxHeartbeats 4000000
set_option linter.unusedSimpArgs false
set_option linter.unusedVariables false

def insS : Shape Ins := { tS := 38, tE := 43, size := 3, bytes := 24, enc := fun x => [.int .i64 x.op, .int .u64 (x.a : Int), .int .u64 (x.b : Int)], zero := .agg #[.int .i64 0, .int .u64 0, .int .u64 0] }
theorem insSOk : insS.Ok where
  under := Tryz.underlying38
  info := by kernel_rfl
  zs := rfl
  pos := by decide
  len := fun _ => rfl
  one := fun x u hu => by
    simp only [insS, List.mem_cons, List.not_mem_nil, or_false] at hu
    rcases hu with rfl | rfl | rfl <;> rfl
  small := by decide
theorem at_ins {w : World} {B : Nat} {A : Option Addr} {n cap : Nat} {l : List Ins} (h : RdL insS w B (.slice A n cap) l) {k : Nat} (hk : k < l.length) :
    ∃ a, A = some a ∧ (a.add (k * 3)).block < B ∧ w.cell? (a.add (k * 3)) = some (.int .i64 l[k].op) ∧ w.cell? ⟨(a.add (k * 3)).block, (a.add (k * 3)).off + 1, none⟩ = some (.int .u64 (l[k].a : Int)) ∧ w.cell? ⟨(a.add (k * 3)).block, (a.add (k * 3)).off + 2, none⟩ = some (.int .u64 (l[k].b : Int)) := by
  obtain ⟨a, rfl, hb, h0, h⟩ := h.at2 insSOk hk
  exact ⟨a, rfl, hb, h0 _ rfl, h 0 _ (by decide) rfl, h 1 _ (by decide) rfl⟩
theorem args_any (op : Int) (w : World) (hT : TabEnv w) :
    Calls Tryz.prog 26 #[.int .i64 op] w fun e w' => w = w' ∧ e = .returned (match argsN op with | none => .tuple #[.int .i64 0, .bool false] | some n => .tuple #[.int .i64 (n : Int), .bool true]) := by
  cases h : argsN op with
  | none =>
    have h2 := argsN_none h
    clear h
    by_cases hn : op < 0
    · go_enter Tryz.func26, Tryz.ntmps26
      go_wp2
      go_ret2
      exact ⟨rfl, rfl⟩
    · have h17 : 17 ≤ op := by omega
      go_enter Tryz.func26, Tryz.ntmps26
      go_wp2
      go_ret2
      exact ⟨rfl, rfl⟩
  | some n =>
    obtain ⟨h0, h1, h2, h3⟩ := argsN_some h
    obtain ⟨o, rfl⟩ : ∃ o : Nat, op = (o : Int) := ⟨op.toNat, by omega⟩
    have c0 := hT.args o (by omega)
    rw [show opArgs o = (n : Int) from by rw [← h2]; rfl] at c0
    have c1 : w.cell? ⟨17, o * 2 + 1, none⟩ = some (.int .i64 (n : Int)) := by rw [Nat.mul_comm]; exact c0
    have hlt := hT.lt
    clear h h2 hT
    go_enter Tryz.func26, Tryz.ntmps26
    go_wp2
    go_ret2
    exact ⟨rfl, rfl⟩
end Go.Proofs.YtmdpfikalekmlaaGreatDoor
/- Layer 20: Encode. -/
namespace Go.Proofs.YtmdpfikalekmlaaGreatDoor
open Go.RowKit
set_option maxRecDepth 100000
set_option maxHeartbeats 4000000
set_option linter.unusedSimpArgs false
set_option linter.unusedVariables false

/-- What Encode answers. -/
def EiRet (l : List Ins) (bad ok : Value) (w : World) (e : Ending) (w' : World) : Prop :=
  ∃ v, e = .returned (.tuple #[v, if l.all insOk then ok else bad]) ∧ OwnB w' w.heap.size v (if l.all insOk then encI l else []) ∧ Below w.heap.size w w'
theorem eiRet_bad {l : List Ins} {bad ok v : Value} {w w' : World} (h : l.all insOk = false) (ho : OwnB w' w.heap.size v []) (hb : Below w.heap.size w w') : EiRet l bad ok w (.returned (.tuple #[v, bad])) w' := by
  refine ⟨v, ?_, ?_, hb⟩
  · rw [h]; rfl
  · rw [h]; exact ho
theorem eiRet_ok {l : List Ins} {bad ok v : Value} {w w' : World} {m : List UInt8} (h : l.all insOk = true) (hm : m = encI l) (ho : OwnB w' w.heap.size v m) (hb : Below w.heap.size w w') : EiRet l bad ok w (.returned (.tuple #[v, ok])) w' := by
  subst hm
  refine ⟨v, ?_, ?_, hb⟩
  · rw [h]; rfl
  · rw [h]; exact ho
def EiRel (l : List Ins) (w : World) (iv : Value) (wr : World) : Prop :=
  ∃ k : Nat, k ≤ l.length ∧ iv = .int .i64 (k : Int) ∧ WrAt wr w.heap.size (encI (l.take k)) ∧ (l.take k).all insOk = true ∧ Below w.heap.size w wr
theorem insOk_none {x : Ins} (h : argsN x.op = none) : insOk x = false := by unfold insOk; rw [h]
theorem insOk_some {x : Ins} {n : Nat} (h : argsN x.op = some n) : insOk x = ((decide (1 ≤ n) || decide (x.a = 0)) && (decide (2 ≤ n) || decide (x.b = 0))) := by unfold insOk; rw [h]
theorem insB_some {x : Ins} {n : Nat} (h : argsN x.op = some n) : insB x = UInt8.ofNat x.op.toNat :: ((if 1 ≤ n then uvL x.a else []) ++ (if 2 ≤ n then uvL x.b else [])) := by unfold insB; rw [h]
theorem iencode_any (lv : Value) (l : List Ins) (ea : List Addr) (w : World) (B : Nat) (hB : B ≤ w.heap.size) (h : RdL insS w B lv l) (hl : l.length ≤ 20000000) (hs : SmallIns l) (hE : ErrFew w ea) (hT : TabEnv w) :
    Calls Tryz.prog 11 #[lv] w (EiRet l (errI ea 20) .nilIface w) := by
  obtain ⟨A, cap, rfl, hc, hc2⟩ := h.open_
  unfold maxLen at hc2
  have H := Lib.hid h; have HE := Lib.hid hE; have HT := Lib.hid hT; have HSM := Lib.hid hs
  clear h hE hT hs
  go_enter Tryz.func11, Tryz.ntmps11
  go_wp2_with fail
  refine (newWriter_any w).mono ?_
  rintro e w2 ⟨rfl, hw2, hb2⟩
  have HW2 := Lib.hid hb2
  have HWA := Lib.hid hw2
  clear hb2 hw2
  go_wp2
  go_loopw [12] (fun iv wr => EiRel l w iv wr) (fun iv _ => l.length - (intOf iv).toNat)
  case atStart => exact ⟨0, Nat.zero_le _, rfl, HWA.out, rfl, HW2.out⟩
  case round =>
    obtain ⟨k, hk, rfl, hwr, hal, hbl⟩ := hrel
    have hel := encI_len HSM.out k
    have HB := Lib.hid hbl
    have HF := Lib.hid (H.out.belowW hB hbl)
    have HR := Lib.hid hwr
    have HAL := Lib.hid hal
    have hszr : w.heap.size ≤ wr.heap.size := hbl.size
    have hgl : w.heap.size < wr.heap.size := hwr.lt
    have HEr := Lib.hid (HE.out.below hbl)
    have HTr := Lib.hid (HT.out.below hbl)
    clear hbl hwr hal
    by_cases hlt : k < l.length
    · obtain ⟨a0, rfl, hab, c0, c1, c2⟩ := at_ins HF.out hlt
      have hza : (a0.add (k * 3)).block < wr.heap.size := by omega
      have HTK := Lib.hid (all_take hlt)
      have HBAD := Lib.hid (fun h => all_bad hlt h)
      have HEN : Hid (encI (l.take (k + 1)) = encI (l.take k) ++ insB l[k]) := Lib.hid (by rw [List.take_succ_eq_append_getElem hlt, encI_snoc])
      obtain ⟨hsa, hsb⟩ := HSM.out l[k] (List.getElem_mem hlt)
      obtain ⟨L, hL⟩ : ∃ L, L = encI (l.take k) := ⟨_, rfl⟩
      rw [← hL] at hel HR HEN
      clear hL
      generalize l[k] = x at *
      obtain ⟨op, xa, xb⟩ := x
      simp only [] at c0 c1 c2 hsa hsb
      have hb3 : Below wr.heap.size wr (wr.alloc (.cells #[.int .i64 op, .int .u64 (xa : Int), .int .u64 (xb : Int)] 43)) := (Below.refl _ _).alloc (Nat.le_refl _) _
      have HTa := Lib.hid (HTr.out.below hb3)
      have HEa := Lib.hid (HEr.out.below hb3)
      have cE : wr.cell? ⟨16, 0, none⟩ = some (errI ea 20) := HEr.out.cell 20 (by decide)
      have cEz : 16 < wr.heap.size := World.block_lt_of_cell? wr ⟨16, 0, none⟩ cE
      clear hb3
      go_wp2_with fail
      refine (args_any op _ HTa.out).mono ?_
      rintro e w3 ⟨rfl, he⟩
      cases ha : argsN op with
      | none =>
        rw [ha] at he
        subst he
        have HBD := Lib.hid (HBAD.out (insOk_none ha))
        clear ha
        go_wp2
        go_region
        go_wp2
        go_ret2
        exact eiRet_bad HBD.out (OwnB.nil _ _) (HB.out.alloc hszr _).drew
      | some n =>
        rw [ha] at he
        subst he
        obtain ⟨h0, h17, -, hn2⟩ := argsN_some ha
        have HOK := Lib.hid (insOk_some (x := ⟨op, xa, xb⟩) ha)
        have HIB := Lib.hid (insB_some (x := ⟨op, xa, xb⟩) ha)
        clear ha
        obtain ⟨c, hc⟩ : ∃ c : UInt8, op = (c.toNat : Int) := ⟨UInt8.ofNat op.toNat, by rw [UInt8.toNat_ofNat']; omega⟩
        subst hc
        have HCC : Hid (UInt8.ofNat (c.toNat : Int).toNat = c) := Lib.hid (by simp)
        have HW3 := Lib.hid (HR.out.belowW ((Below.refl wr.heap.size wr).alloc (Nat.le_refl _) (.cells #[.int .i64 (c.toNat : Int), .int .u64 (xa : Int), .int .u64 (xb : Int)] 43)))
        have HBW := Lib.hid (HB.out.alloc hszr (.cells #[.int .i64 (c.toNat : Int), .int .u64 (xa : Int), .int .u64 (xb : Int)] 43))
        have HFB := Lib.hid (Blk.new wr 43 #[.int .i64 (c.toNat : Int), .int .u64 (xa : Int), .int .u64 (xb : Int)])
        have hbad : ∀ (w5 : World), insOk ⟨(c.toNat : Int), xa, xb⟩ = false → True := fun _ _ => trivial
        clear hbad
        by_cases hn0 : n = 0
        · subst hn0
          by_cases hxa : xa = 0
          · by_cases hxb : xb = 0
            · subst hxa; subst hxb
              go_wp2_with fail
              refine (wbyte_any c w.heap.size L _ HW3.out (by omega)).mono ?_
              rintro e w4 ⟨rfl, hw4, hb4, hk4⟩
              have hfb := hk4 wr.heap.size 43 _ (by omega) (by decide) HFB.out
              have d1 := hfb.cell 1
              have d2 := hfb.cell 2
              simp only [List.getElem?_toArray, List.getElem?_cons_zero, List.getElem?_cons_succ] at d1 d2
              have HB4 := Lib.hid (HBW.out.trans hb4)
              have HW4 := Lib.hid hw4
              clear hb4 hw4 hk4 hfb
              go_wp2
              go_roundw
              case rel => exact ⟨k + 1, by omega, by go_num, by rw [HEN.out, HIB.out, HCC.out]; exact HW4.out, by rw [HTK.out, HAL.out, HOK.out]; rfl, HB4.out⟩
              case measure => simp [intOf]; omega
            · have hxb' : (((xb : Nat) : Int) == 0) = false := by rw [beq_eq_false_iff_ne]; omega
              have HBD := Lib.hid (HBAD.out (HOK.out.trans (by simp [hxb])))
              subst hxa
              clear hxb
              go_wp2
              go_region
              go_wp2
              go_ret2
              exact eiRet_bad HBD.out (OwnB.nil _ _) HBW.out.drew
          · have hxa' : (((xa : Nat) : Int) == 0) = false := by rw [beq_eq_false_iff_ne]; omega
            have HBD := Lib.hid (HBAD.out (HOK.out.trans (by simp [hxa])))
            clear hxa
            go_wp2
            go_region
            go_wp2
            go_ret2
            exact eiRet_bad HBD.out (OwnB.nil _ _) (HB.out.alloc hszr _).drew
        · by_cases hn1 : n = 1
          · subst hn1
            by_cases hxb : xb = 0
            · subst hxb
              go_wp2_with fail
              refine (wbyte_any c w.heap.size L _ HW3.out (by omega)).mono ?_
              rintro e w4 ⟨rfl, hw4, hb4, hk4⟩
              have hfb := hk4 wr.heap.size 43 _ (by omega) (by decide) HFB.out
              have d1 := hfb.cell 1
              have d2 := hfb.cell 2
              simp only [List.getElem?_toArray, List.getElem?_cons_zero, List.getElem?_cons_succ] at d1 d2
              have HB4 := Lib.hid (HBW.out.trans hb4)
              have HW4 := Lib.hid hw4
              clear hb4 hw4 hk4 hfb
              go_wp2_with fail
              refine (wuvarint_any xa w.heap.size _ _ HW4.out hsa (by simp; omega)).mono ?_
              rintro e w5 ⟨rfl, hw5, hb5, hk5⟩
              have HB5 := Lib.hid (HB4.out.trans hb5)
              have HW5 := Lib.hid hw5
              clear hb5 hw5 hk5
              go_wp2
              go_roundw
              case rel => exact ⟨k + 1, by omega, by go_num, by rw [HEN.out, HIB.out, HCC.out]; have h := HW5.out; rw [List.append_assoc] at h; simpa using h, by rw [HTK.out, HAL.out, HOK.out]; rfl, HB5.out⟩
              case measure => simp [intOf]; omega
            · have hxb' : (((xb : Nat) : Int) == 0) = false := by rw [beq_eq_false_iff_ne]; omega
              have HBD := Lib.hid (HBAD.out (HOK.out.trans (by simp [hxb])))
              clear hxb
              go_wp2
              go_region
              go_wp2
              go_ret2
              exact eiRet_bad HBD.out (OwnB.nil _ _) (HB.out.alloc hszr _).drew
          · obtain rfl : n = 2 := by omega
            clear hn0 hn1
            go_wp2_with fail
            refine (wbyte_any c w.heap.size L _ HW3.out (by omega)).mono ?_
            rintro e w4 ⟨rfl, hw4, hb4, hk4⟩
            have hfb := hk4 wr.heap.size 43 _ (by omega) (by decide) HFB.out
            have HFB4 := Lib.hid hfb
            have d1 := hfb.cell 1
            simp only [List.getElem?_toArray, List.getElem?_cons_zero, List.getElem?_cons_succ] at d1
            have HB4 := Lib.hid (HBW.out.trans hb4)
            have HW4 := Lib.hid hw4
            clear hb4 hw4 hk4 hfb
            go_wp2_with fail
            refine (wuvarint_any xa w.heap.size _ _ HW4.out hsa (by simp; omega)).mono ?_
            rintro e w5 ⟨rfl, hw5, hb5, hk5⟩
            have hfb := hk5 wr.heap.size 43 _ (by omega) (by decide) HFB4.out
            have d2 := hfb.cell 2
            simp only [List.getElem?_toArray, List.getElem?_cons_zero, List.getElem?_cons_succ] at d2
            have HB5 := Lib.hid (HB4.out.trans hb5)
            have HW5 := Lib.hid hw5
            have hul := uvL_len64 hsa
            clear hb5 hw5 hk5 hfb d1
            go_wp2_with fail
            refine (wuvarint_any xb w.heap.size _ _ HW5.out hsb (by simp; omega)).mono ?_
            rintro e w6 ⟨rfl, hw6, hb6, hk6⟩
            have HB6 := Lib.hid (HB5.out.trans hb6)
            have HW6 := Lib.hid hw6
            clear hb6 hw6 hk6 hul
            go_wp2
            go_roundw
            case rel => exact ⟨k + 1, by omega, by go_num, by rw [HEN.out, HIB.out, HCC.out]; have h := HW6.out; rw [List.append_assoc, List.append_assoc] at h; simpa using h, by rw [HTK.out, HAL.out, HOK.out]; rfl, HB6.out⟩
            case measure => simp [intOf]; omega
    · have HTL : Hid (l.take k = l) := Lib.hid (List.take_of_length_le (by omega))
      go_wp2_with fail
      refine (wbytes_any w.heap.size (encI (l.take k)) _ HR.out (by omega)).mono ?_
      rintro e w5 ⟨v, rfl, ho, hb5⟩
      have HO := Lib.hid ho
      have HB5 := Lib.hid hb5
      clear ho hb5
      go_wp2
      go_ret2
      exact eiRet_ok (by rw [← HTL.out]; exact HAL.out) (by rw [HTL.out]) (ownB_iff.2 ((ownB_iff.1 HO.out).more hszr)) (HB.out.trans (HB5.out.mono hszr))
end Go.Proofs.YtmdpfikalekmlaaGreatDoor
