/- Layer 20, the reference: Encode. -/
import Derived.Test.YtmdpfikalekmlaaDoorIr
namespace Go.Proofs.YtmdpfikalekmlaaDoor
open Go.RowKit
set_option maxRecDepth 100000
set_option maxHeartbeats 4000000
set_option linter.unusedSimpArgs false
set_option linter.unusedVariables false

def partB (x : Ins) (j : Nat) : List UInt8 := (if 1 ≤ j then uvL x.a else []) ++ (if 2 ≤ j then uvL x.b else [])
def ReRel (l : List Ins) (w : World) (ov iv : Value) (wr : World) : Prop :=
  ∃ k : Nat, k ≤ l.length ∧ iv = .int .i64 (k : Int) ∧ OwnB wr w.heap.size ov (encI (l.take k)) ∧ (l.take k).all insOk = true ∧ Below w.heap.size w wr
def RjRel (pre : List UInt8) (x : Ins) (n g : Nat) (w : World) (ov jv : Value) (wx : World) : Prop :=
  ∃ j : Nat, j ≤ n ∧ jv = .int .i64 (j : Int) ∧ OwnB wx w.heap.size ov (pre ++ partB x j) ∧ Blk wx g 62 #[.int .u64 (x.a : Int), .int .u64 (x.b : Int)] ∧ Below w.heap.size w wx ∧ (∀ z, ov.ownBlock = some z → z ≠ g)
theorem own_ne {w : World} {B g : Nat} {v : Value} {l : List UInt8} {t : TypeId} {cs : Array Value} (ho : OwnB w B v l) (hB : Blk w g t cs) (ht : t ≠ 5) : ∀ z, v.ownBlock = some z → z ≠ g := by
  intro z hz e
  subst e
  obtain ⟨cur, hcur⟩ := own_block ho hz
  unfold Blk at hB
  rw [hB] at hcur
  injection hcur with hcur
  injection hcur with _ hcur
  exact ht hcur
theorem partB_0 (x : Ins) : partB x 0 = [] := by unfold partB; simp
theorem partB_1 (x : Ins) : partB x 1 = uvL x.a := by unfold partB; simp
theorem partB_2 (x : Ins) : partB x 2 = uvL x.a ++ uvL x.b := by unfold partB; simp
theorem riencode_any (lv : Value) (l : List Ins) (w : World) (B : Nat) (hB : B ≤ w.heap.size) (h : RdL insS w B lv l) (hl : l.length ≤ 2000000) (hs : SmallIns l) :
    Calls Tryd.prog 13 #[lv] w (EiRet l (.int .i64 21) (.int .i64 0) w) := by
  obtain ⟨A, cap, rfl, hc, hc2⟩ := h.open_
  unfold maxLen at hc2
  have H := Lib.hid h; have HSM := Lib.hid hs
  clear h hs
  go_enter Tryd.func13, Tryd.ntmps13
  go_wp2
  go_loopw [4, 14] (fun ov iv wr => ReRel l w ov iv wr) (fun _ iv _ => l.length - (intOf iv).toNat)
  case atStart => exact ⟨0, Nat.zero_le _, rfl, OwnB.lit0 _ (Nat.le_refl _), rfl, (Below.refl _ _).alloc (Nat.le_refl _) _⟩
  case round =>
    obtain ⟨k, hk, rfl, ho, hal, hbl⟩ := hrel
    have hel := encI_len HSM.out k
    have HB := Lib.hid hbl
    have HF := Lib.hid (H.out.belowW hB hbl)
    have HO := Lib.hid ho
    have HAL := Lib.hid hal
    have hszr : w.heap.size ≤ wr.heap.size := hbl.size
    clear hbl ho hal
    by_cases hlt : k < l.length
    · obtain ⟨a0, rfl, hab, c0, c1, c2⟩ := at_ins HF.out hlt
      have hza : (a0.add (k * 3)).block < wr.heap.size := by omega
      have HTK := Lib.hid (all_take hlt)
      have HBAD := Lib.hid (fun h => all_bad hlt h)
      have HEN : Hid (encI (l.take (k + 1)) = encI (l.take k) ++ insB l[k]) := Lib.hid (by rw [List.take_succ_eq_append_getElem hlt, encI_snoc])
      obtain ⟨hsa, hsb⟩ := HSM.out l[k] (List.getElem_mem hlt)
      obtain ⟨L, hL⟩ : ∃ L, L = encI (l.take k) := ⟨_, rfl⟩
      rw [← hL] at hel HO HEN
      clear hL
      generalize l[k] = x at *
      have hb3 : Below wr.heap.size wr (wr.alloc (.cells #[.int .i64 x.op, .int .u64 (x.a : Int), .int .u64 (x.b : Int)] 64)) := (Below.refl _ _).alloc (Nat.le_refl _) _
      have HB3 := Lib.hid (HB.out.trans (hb3.mono hszr))
      have HO3 := Lib.hid (HO.out.below hb3)
      clear hb3
      go_wp2_with fail
      refine (operands_any x _).mono ?_
      rintro e w4 ⟨hb4, ⟨hok, rfl⟩ | ⟨hok, n, g, ha, rfl, hg, hgb⟩⟩
      · have HBD := Lib.hid (HBAD.out hok)
        have HB4 := Lib.hid (HB3.out.trans (hb4.mono HB3.out.size))
        clear hok hb4
        go_wp2
        go_ret2
        exact eiRet_bad HBD.out (OwnB.nil _ _) HB4.out
      · obtain ⟨h0, h17, -, hn2⟩ := argsN_some ha
        have HOK := Lib.hid hok
        have HIB := Lib.hid (insB_some (x := x) ha)
        have HB4 := Lib.hid (HB3.out.trans (hb4.mono HB3.out.size))
        have HO4 := Lib.hid (HO3.out.below hb4)
        have hfb := (Blk.new wr 64 #[.int .i64 x.op, .int .u64 (x.a : Int), .int .u64 (x.b : Int)]).belowW hb4
        have d0 := hfb.cell 0
        simp only [List.getElem?_toArray, List.getElem?_cons_zero, List.getElem?_cons_succ] at d0
        have HGB := Lib.hid hgb
        have hs4 : w.heap.size ≤ w4.heap.size := HB4.out.size
        have HNE : Hid (∀ (v : Value) (m : List UInt8), OwnB (wr.alloc (.cells #[.int .i64 x.op, .int .u64 (x.a : Int), .int .u64 (x.b : Int)] 64)) w.heap.size v m → v.ownBlock ≠ some g) := Lib.hid (fun v m hv => hv.ne_new hg)
        have HNG := Lib.hid (HNE.out _ _ HO3.out)
        have hlt0 := x.op
        clear ha hok hb4 hfb hgb hlt0
        obtain ⟨c, hc⟩ : ∃ c : UInt8, x.op = (c.toNat : Int) := ⟨UInt8.ofNat x.op.toNat, by rw [UInt8.toNat_ofNat']; omega⟩
        have HCC : Hid (UInt8.ofNat x.op.toNat = c) := Lib.hid (by rw [hc]; simp)
        rw [hc] at d0
        clear hc h0 h17
        have hcl := c.toNat_lt
        go_wp2_with (at_builtin; refine OwnB.appendAt HO4.out (c.toNat : Int) w4.heap.size rfl _ _ rfl rfl rfl rfl (by omega) (by omega) hs4 (by omega) ?_)
        intro v5 w5 ho5 hb5 hk5
        have hgl := HGB.out.lt
        have HGB5 := Lib.hid ((hk5 g hgl HNG.out).trans HGB.out)
        have HB5 := Lib.hid (HB4.out.trans hb5)
        have HO5 := Lib.hid ho5
        have hne5 := own_ne HO5.out HGB5.out (by decide)
        have HN5 := Lib.hid hne5
        clear hb5 ho5 hk5 hne5
        go_wp2
        go_loopw [4, 33] (fun ov jv wx => RjRel (L ++ [c]) x n g w ov jv wx) (fun _ jv _ => n - (intOf jv).toNat)
        case atStart => exact ⟨0, Nat.zero_le _, rfl, by have h := HO5.out; simpa [partB] using h, HGB5.out, HB5.out, HN5.out⟩
        case round =>
          obtain ⟨j, hj, rfl, hox, hgx, hbx, hnx⟩ := hrel
          have HOx := Lib.hid hox
          have HGx := Lib.hid hgx
          have HBx := Lib.hid hbx
          have HNx := Lib.hid hnx
          have hszx : w.heap.size ≤ wr.heap.size := hbx.size
          have p0 := hgx.cell 0
          have p1 := hgx.cell 1
          simp only [List.getElem?_toArray, List.getElem?_cons_zero, List.getElem?_cons_succ] at p0 p1
          clear hox hgx hbx hnx
          by_cases hjn : j < n
          · have hj01 : (j = 0) ∨ (j = 1 ∧ n = 2) := by omega
            rcases hj01 with hj0 | ⟨hj1, hnn⟩
            · subst hj0
              go_wp2_with fail
              refine (rfuvarint_any x.a wr hsa).mono ?_
              rintro e w6 ⟨v6, rfl, ho6, hb6⟩
              have HO6 := Lib.hid ho6
              have HOy := Lib.hid (HOx.out.below hb6)
              have HGy := Lib.hid (HGx.out.belowW hb6)
              have HBy := Lib.hid (HBx.out.trans (hb6.mono hszx))
              have hsy : w.heap.size ≤ w6.heap.size := HBy.out.size
              have hu1 := uvL_len64 hsa
              have hu2 := uvL_len64 hsb
              have hpl : (L ++ [c] ++ partB x 0).length ≤ 100000000 := by rw [partB_0]; simp only [List.length_append, List.length_singleton, List.length_nil]; omega
              have hgl := HGy.out.lt
              clear ho6 hb6
              go_wp2_with (at_builtin; refine OwnB.appendAllK HOy.out HO6.out rfl _ _ rfl rfl rfl hsy (by omega) ?_)
              intro v7 w7 ho7 hb7 hk7
              have HG7 := Lib.hid ((hk7 g hgl (fun e => HNx.out g e rfl)).trans HGy.out)
              have HO7 := Lib.hid ho7
              have HB7 := Lib.hid (HBy.out.trans hb7)
              have HN7 := Lib.hid (own_ne ho7 HG7.out (by decide))
              clear ho7 hb7 hk7
              go_wp2
              go_roundw
              case rel => exact ⟨1, by omega, by go_num, by have h := HO7.out; rw [partB_0] at h; rw [partB_1]; simpa [List.append_assoc] using h, HG7.out, HB7.out, HN7.out⟩
              case measure => simp [intOf]; omega
            · subst hj1
              clear hnn
              go_wp2_with fail
              refine (rfuvarint_any x.b wr hsb).mono ?_
              rintro e w6 ⟨v6, rfl, ho6, hb6⟩
              have HO6 := Lib.hid ho6
              have HOy := Lib.hid (HOx.out.below hb6)
              have HGy := Lib.hid (HGx.out.belowW hb6)
              have HBy := Lib.hid (HBx.out.trans (hb6.mono hszx))
              have hsy : w.heap.size ≤ w6.heap.size := HBy.out.size
              have hu1 := uvL_len64 hsa
              have hu2 := uvL_len64 hsb
              have hpl : (L ++ [c] ++ partB x 1).length ≤ 100000000 := by rw [partB_1]; simp only [List.length_append, List.length_singleton, List.length_nil]; omega
              have hgl := HGy.out.lt
              clear ho6 hb6
              go_wp2_with (at_builtin; refine OwnB.appendAllK HOy.out HO6.out rfl _ _ rfl rfl rfl hsy (by omega) ?_)
              intro v7 w7 ho7 hb7 hk7
              have HG7 := Lib.hid ((hk7 g hgl (fun e => HNx.out g e rfl)).trans HGy.out)
              have HO7 := Lib.hid ho7
              have HB7 := Lib.hid (HBy.out.trans hb7)
              have HN7 := Lib.hid (own_ne ho7 HG7.out (by decide))
              clear ho7 hb7 hk7
              go_wp2
              go_roundw
              case rel => exact ⟨2, by omega, by go_num, by have h := HO7.out; rw [partB_1] at h; rw [partB_2]; simpa [List.append_assoc] using h, HG7.out, HB7.out, HN7.out⟩
              case measure => simp [intOf]; omega
          · have HEQ : Hid (encI (l.take (k + 1)) = L ++ [c] ++ partB x j) := Lib.hid (by
              have : j = n := by omega
              subst this
              rw [HEN.out, HIB.out, HCC.out, List.append_assoc]; rfl)
            go_wp2
            go_roundw
            case rel => exact ⟨k + 1, by omega, by go_num, by rw [HEQ.out]; exact HOx.out, by rw [HTK.out, HAL.out, HOK.out]; rfl, HBx.out⟩
            case measure => simp [intOf]; omega
    · have HTL : Hid (l.take k = l) := Lib.hid (List.take_of_length_le (by omega))
      go_wp2
      go_ret2
      exact eiRet_ok (by rw [← HTL.out]; exact HAL.out) (by rw [HTL.out]) HO.out HB.out
end Go.Proofs.YtmdpfikalekmlaaDoor
