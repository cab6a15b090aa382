/- Merged for a claim: Is It Nq Dn Dl -/
import Derived.Test.YtmdpfikalekmlaaGreatDoorKy2
import Derived.Test.YtmdpfikalekmlaaGreatDoorIg
import Derived.Test.YtmdpfikalekmlaaGreatDoorKy1
section
/- Layer 20, the reference: Encode. -/
namespace Go.Proofs.YtmdpfikalekmlaaGreatDoor
open Go.RowKit
set_option maxRecDepth 100000
set_option maxHeartbeats 4000000
set_option linter.unusedSimpArgs false
set_option linter.unusedVariables false

def partB (x : Ins) (j : Nat) : List UInt8 := (if 1 ≤ j then uvL x.a else []) ++ (if 2 ≤ j then uvL x.b else [])
def ReRel (l : List Ins) (w : World) (ov iv : Value) (wr : World) : Prop :=
  ∃ k : Nat, k ≤ l.length ∧ iv = .int .i64 (k : Int) ∧ OwnB wr w.heap.size ov (encI (l.take k)) ∧ (l.take k).all insOk = true ∧ Below w.heap.size w wr
def RjRel (pre : List UInt8) (x : Ins) (n g : Nat) (w : World) (ov jv : Value) (wx : World) : Prop :=
  ∃ j : Nat, j ≤ n ∧ jv = .int .i64 (j : Int) ∧ OwnB wx w.heap.size ov (pre ++ partB x j) ∧ Blk wx g 41 #[.int .u64 (x.a : Int), .int .u64 (x.b : Int)] ∧ Below w.heap.size w wx ∧ (∀ z, ov.ownBlock = some z → z ≠ g)
theorem own_ne {w : World} {B g : Nat} {v : Value} {l : List UInt8} {t : TypeId} {cs : Array Value} (ho : OwnB w B v l) (hB : Blk w g t cs) (ht : t ≠ 5) : ∀ z, v.ownBlock = some z → z ≠ g := by
  intro z hz e
  subst e
  obtain ⟨cur, hcur⟩ := own_block ho hz
  unfold Blk at hB
  rw [hB] at hcur
  injection hcur with hcur
  injection hcur with _ hcur
  exact ht hcur
theorem partB_0 (x : Ins) : partB x 0 = [] := by unfold partB; simp
theorem partB_1 (x : Ins) : partB x 1 = uvL x.a := by unfold partB; simp
theorem partB_2 (x : Ins) : partB x 2 = uvL x.a ++ uvL x.b := by unfold partB; simp
theorem riencode_any (lv : Value) (l : List Ins) (w : World) (B : Nat) (hB : B ≤ w.heap.size) (h : RdL insS w B lv l) (hl : l.length ≤ 2000000) (hs : SmallIns l) :
    Calls Tryz.prog 10 #[lv] w (EiRet l (.int .i64 21) (.int .i64 0) w) := by
  obtain ⟨A, cap, rfl, hc, hc2⟩ := h.open_
  unfold maxLen at hc2
  have H := Lib.hid h; have HSM := Lib.hid hs
  clear h hs
  go_enter Tryz.func10, Tryz.ntmps10
  go_wp2
  go_loopw [4, 14] (fun ov iv wr => ReRel l w ov iv wr) (fun _ iv _ => l.length - (intOf iv).toNat)
  case atStart => exact ⟨0, Nat.zero_le _, rfl, OwnB.lit0 _ (Nat.le_refl _), rfl, (Below.refl _ _).alloc (Nat.le_refl _) _⟩
  case round =>
    obtain ⟨k, hk, rfl, ho, hal, hbl⟩ := hrel
    have hel := encI_len HSM.out k
    have HB := Lib.hid hbl
    have HF := Lib.hid (H.out.belowW hB hbl)
    have HO := Lib.hid ho
    have HAL := Lib.hid hal
    have hszr : w.heap.size ≤ wr.heap.size := hbl.size
    clear hbl ho hal
    by_cases hlt : k < l.length
    · obtain ⟨a0, rfl, hab, c0, c1, c2⟩ := at_ins HF.out hlt
      have hza : (a0.add (k * 3)).block < wr.heap.size := by omega
      have HTK := Lib.hid (all_take hlt)
      have HBAD := Lib.hid (fun h => all_bad hlt h)
      have HEN : Hid (encI (l.take (k + 1)) = encI (l.take k) ++ insB l[k]) := Lib.hid (by rw [List.take_succ_eq_append_getElem hlt, encI_snoc])
      obtain ⟨hsa, hsb⟩ := HSM.out l[k] (List.getElem_mem hlt)
      obtain ⟨L, hL⟩ : ∃ L, L = encI (l.take k) := ⟨_, rfl⟩
      rw [← hL] at hel HO HEN
      clear hL
      generalize l[k] = x at *
      have hb3 : Below wr.heap.size wr (wr.alloc (.cells #[.int .i64 x.op, .int .u64 (x.a : Int), .int .u64 (x.b : Int)] 43)) := (Below.refl _ _).alloc (Nat.le_refl _) _
      have HB3 := Lib.hid (HB.out.trans (hb3.mono hszr))
      have HO3 := Lib.hid (HO.out.below hb3)
      clear hb3
      go_wp2_with fail
      refine (operands_any x _).mono ?_
      rintro e w4 ⟨hb4, ⟨hok, rfl⟩ | ⟨hok, n, g, ha, rfl, hg, hgb⟩⟩
      · have HBD := Lib.hid (HBAD.out hok)
        have HB4 := Lib.hid (HB3.out.trans (hb4.mono HB3.out.size))
        clear hok hb4
        go_wp2
        go_ret2
        exact eiRet_bad HBD.out (OwnB.nil _ _) HB4.out
      · obtain ⟨h0, h17, -, hn2⟩ := argsN_some ha
        have HOK := Lib.hid hok
        have HIB := Lib.hid (insB_some (x := x) ha)
        have HB4 := Lib.hid (HB3.out.trans (hb4.mono HB3.out.size))
        have HO4 := Lib.hid (HO3.out.below hb4)
        have hfb := (Blk.new wr 43 #[.int .i64 x.op, .int .u64 (x.a : Int), .int .u64 (x.b : Int)]).belowW hb4
        have d0 := hfb.cell 0
        simp only [List.getElem?_toArray, List.getElem?_cons_zero, List.getElem?_cons_succ] at d0
        have HGB := Lib.hid hgb
        have hs4 : w.heap.size ≤ w4.heap.size := HB4.out.size
        have HNE : Hid (∀ (v : Value) (m : List UInt8), OwnB (wr.alloc (.cells #[.int .i64 x.op, .int .u64 (x.a : Int), .int .u64 (x.b : Int)] 43)) w.heap.size v m → v.ownBlock ≠ some g) := Lib.hid (fun v m hv => hv.ne_new hg)
        have HNG := Lib.hid (HNE.out _ _ HO3.out)
        have hlt0 := x.op
        clear ha hok hb4 hfb hgb hlt0
        obtain ⟨c, hc⟩ : ∃ c : UInt8, x.op = (c.toNat : Int) := ⟨UInt8.ofNat x.op.toNat, by rw [UInt8.toNat_ofNat']; omega⟩
        have HCC : Hid (UInt8.ofNat x.op.toNat = c) := Lib.hid (by rw [hc]; simp)
        rw [hc] at d0
        clear hc h0 h17
        have hcl := c.toNat_lt
        go_wp2_with (at_builtin; refine OwnB.appendAt HO4.out (c.toNat : Int) w4.heap.size rfl _ _ rfl rfl rfl rfl (by omega) (by omega) hs4 (by omega) ?_)
        intro v5 w5 ho5 hb5 hk5
        have hgl := HGB.out.lt
        have HGB5 := Lib.hid ((hk5 g hgl HNG.out).trans HGB.out)
        have HB5 := Lib.hid (HB4.out.trans hb5)
        have HO5 := Lib.hid ho5
        have hne5 := own_ne HO5.out HGB5.out (by decide)
        have HN5 := Lib.hid hne5
        clear hb5 ho5 hk5 hne5
        go_wp2
        go_loopw [4, 33] (fun ov jv wx => RjRel (L ++ [c]) x n g w ov jv wx) (fun _ jv _ => n - (intOf jv).toNat)
        case atStart => exact ⟨0, Nat.zero_le _, rfl, by have h := HO5.out; simpa [partB] using h, HGB5.out, HB5.out, HN5.out⟩
        case round =>
          obtain ⟨j, hj, rfl, hox, hgx, hbx, hnx⟩ := hrel
          have HOx := Lib.hid hox
          have HGx := Lib.hid hgx
          have HBx := Lib.hid hbx
          have HNx := Lib.hid hnx
          have hszx : w.heap.size ≤ wr.heap.size := hbx.size
          have p0 := hgx.cell 0
          have p1 := hgx.cell 1
          simp only [List.getElem?_toArray, List.getElem?_cons_zero, List.getElem?_cons_succ] at p0 p1
          clear hox hgx hbx hnx
          by_cases hjn : j < n
          · have hj01 : (j = 0) ∨ (j = 1 ∧ n = 2) := by omega
            rcases hj01 with hj0 | ⟨hj1, hnn⟩
            · subst hj0
              go_wp2_with fail
              refine (rfuvarint_any x.a wr hsa).mono ?_
              rintro e w6 ⟨v6, rfl, ho6, hb6⟩
              have HO6 := Lib.hid ho6
              have HOy := Lib.hid (HOx.out.below hb6)
              have HGy := Lib.hid (HGx.out.belowW hb6)
              have HBy := Lib.hid (HBx.out.trans (hb6.mono hszx))
              have hsy : w.heap.size ≤ w6.heap.size := HBy.out.size
              have hu1 := uvL_len64 hsa
              have hu2 := uvL_len64 hsb
              have hpl : (L ++ [c] ++ partB x 0).length ≤ 100000000 := by rw [partB_0]; simp only [List.length_append, List.length_singleton, List.length_nil]; omega
              have hgl := HGy.out.lt
              clear ho6 hb6
              go_wp2_with (at_builtin; refine OwnB.appendAllK HOy.out HO6.out rfl _ _ rfl rfl rfl hsy (by omega) ?_)
              intro v7 w7 ho7 hb7 hk7
              have HG7 := Lib.hid ((hk7 g hgl (fun e => HNx.out g e rfl)).trans HGy.out)
              have HO7 := Lib.hid ho7
              have HB7 := Lib.hid (HBy.out.trans hb7)
              have HN7 := Lib.hid (own_ne ho7 HG7.out (by decide))
              clear ho7 hb7 hk7
              go_wp2
              go_roundw
              case rel => exact ⟨1, by omega, by go_num, by have h := HO7.out; rw [partB_0] at h; rw [partB_1]; simpa [List.append_assoc] using h, HG7.out, HB7.out, HN7.out⟩
              case measure => simp [intOf]; omega
            · subst hj1
              clear hnn
              go_wp2_with fail
              refine (rfuvarint_any x.b wr hsb).mono ?_
              rintro e w6 ⟨v6, rfl, ho6, hb6⟩
              have HO6 := Lib.hid ho6
              have HOy := Lib.hid (HOx.out.below hb6)
              have HGy := Lib.hid (HGx.out.belowW hb6)
              have HBy := Lib.hid (HBx.out.trans (hb6.mono hszx))
              have hsy : w.heap.size ≤ w6.heap.size := HBy.out.size
              have hu1 := uvL_len64 hsa
              have hu2 := uvL_len64 hsb
              have hpl : (L ++ [c] ++ partB x 1).length ≤ 100000000 := by rw [partB_1]; simp only [List.length_append, List.length_singleton, List.length_nil]; omega
              have hgl := HGy.out.lt
              clear ho6 hb6
              go_wp2_with (at_builtin; refine OwnB.appendAllK HOy.out HO6.out rfl _ _ rfl rfl rfl hsy (by omega) ?_)
              intro v7 w7 ho7 hb7 hk7
              have HG7 := Lib.hid ((hk7 g hgl (fun e => HNx.out g e rfl)).trans HGy.out)
              have HO7 := Lib.hid ho7
              have HB7 := Lib.hid (HBy.out.trans hb7)
              have HN7 := Lib.hid (own_ne ho7 HG7.out (by decide))
              clear ho7 hb7 hk7
              go_wp2
              go_roundw
              case rel => exact ⟨2, by omega, by go_num, by have h := HO7.out; rw [partB_1] at h; rw [partB_2]; simpa [List.append_assoc] using h, HG7.out, HB7.out, HN7.out⟩
              case measure => simp [intOf]; omega
          · have HEQ : Hid (encI (l.take (k + 1)) = L ++ [c] ++ partB x j) := Lib.hid (by
              have : j = n := by omega
              subst this
              rw [HEN.out, HIB.out, HCC.out, List.append_assoc]; rfl)
            go_wp2
            go_roundw
            case rel => exact ⟨k + 1, by omega, by go_num, by rw [HEQ.out]; exact HOx.out, by rw [HTK.out, HAL.out, HOK.out]; rfl, HBx.out⟩
            case measure => simp [intOf]; omega
    · have HTL : Hid (l.take k = l) := Lib.hid (List.take_of_length_le (by omega))
      go_wp2
      go_ret2
      exact eiRet_ok (by rw [← HTL.out]; exact HAL.out) (by rw [HTL.out]) HO.out HB.out
end Go.Proofs.YtmdpfikalekmlaaGreatDoor
end
section
/- Layer 20, the reference: Decode. -/
namespace Go.Proofs.YtmdpfikalekmlaaGreatDoor
open Go.RowKit
set_option maxRecDepth 100000
set_option maxHeartbeats 4000000
set_option linter.unusedSimpArgs false
set_option linter.unusedVariables false

def RdiRel (m : List UInt8) (w : World) (gh : Nat) (ov av : Value) (wr : World) : Prop :=
  ∃ (k f : Nat) (acc : List Ins) (A : Option Addr) (cap : Nat), m.length - k ≤ gh ∧ k ≤ m.length ∧ ov = .slice A acc.length cap ∧ av = .int .i64 (k : Int) ∧ acc.length ≤ k ∧ m.length - k < f ∧ decI m = decIF m f k acc ∧ OwnL insS wr w.heap.size (.slice A acc.length cap) acc ∧ Below w.heap.size w wr
def RdjRel (m : List UInt8) (k n : Nat) (x : UInt8) (bx : Nat) (w : World) (ov : Value) (acc : List Ins) (av iv : Value) (wx : World) : Prop :=
  ∃ i a b j : Nat, i ≤ n ∧ i ≤ 2 ∧ iv = .int .i64 (i : Int) ∧ av = .int .i64 (j : Int) ∧ OpSt m k n i a b j ∧ a < 18446744073709551616 ∧ b < 18446744073709551616 ∧
    Blk wx bx 43 #[.int .i64 (x.toNat : Int), .int .u64 (a : Int), .int .u64 (b : Int)] ∧ OwnL insS wx w.heap.size ov acc ∧ Below w.heap.size w wx
theorem ridecode_any (x : Value) (m : List UInt8) (w : World) (hx : RdL byteS w w.heap.size x m) (hm : m.length ≤ 100000000) :
    Calls Tryz.prog 62 #[x] w (DiRet (.int .i64 21) (.int .i64 0) m w) := by
  obtain ⟨A0, cap0, rfl, h1, h2⟩ := hx.open_
  have HX := Lib.hid hx
  clear hx
  go_enter Tryz.func62, Tryz.ntmps62
  go_wp2
  go_loopg [4, 5] (m.length) (fun gh ov av wr => RdiRel m w gh ov av wr)
  case atStart => exact ⟨0, m.length + 1, [], some ⟨w.heap.size, 0, none⟩, 0, by omega, Nat.zero_le _, rfl, rfl, Nat.le_refl _, by omega, rfl, OwnL.lit0 _ _ (Nat.le_refl _), (Below.refl _ _).alloc (Nat.le_refl _) _⟩
  case round =>
    obtain ⟨k, f, acc, A, cap, hgh, hkm, rfl, rfl, hak, hf, hdi, ho, hbl⟩ := hrel
    have HDI := Lib.hid hdi
    have HO := Lib.hid ho
    have HB := Lib.hid hbl
    have HXr := Lib.hid (HX.out.below hbl)
    have HGH := Lib.hid hgh
    have hsz : w.heap.size ≤ wr.heap.size := hbl.size
    clear hdi ho hbl hgh
    obtain ⟨wo, rfl⟩ : ∃ wo : World, wo = wr := ⟨_, rfl⟩
    by_cases hlt : k < m.length
    · obtain ⟨f', rfl⟩ : ∃ f', f = f' + 1 := ⟨f - 1, by omega⟩
      obtain ⟨pa, x, rfl, hpb, hx, hpc⟩ := at_byteG HXr.out hlt
      have HXK := Lib.hid hx
      have hxl := x.toNat_lt
      have hwop : (pa.add k).block < wo.heap.size := by omega
      clear hx
      have hb4 : Below wo.heap.size wo (wo.alloc (.cells #[.int .i64 (x.toNat : Int), .int .u64 0, .int .u64 0] 43)) := (Below.refl _ _).alloc (Nat.le_refl _) _
      have HB4 := Lib.hid (HB.out.trans (hb4.mono hsz))
      have HO4 := Lib.hid (HO.out.below hb4)
      clear hb4
      cases ha : argsN (x.toNat : Int) with
      | none =>
        have HBD := Lib.hid (HDI.out.trans (decIF_bad hlt (insR_op HXK.out ha)))
        go_wp2_with fail
        refine (rargs_any (x.toNat : Int) _).mono ?_
        rintro e w4 ⟨hb5, he⟩
        rw [ha] at he
        subst he
        have HB5 := Lib.hid (HB4.out.trans (hb5.mono HB4.out.size))
        clear ha hb5
        go_wp2
        go_ret2
        exact diRet_no HBD.out HB5.out
      | some n =>
        obtain ⟨h0, h17, -, hn2⟩ := argsN_some ha
        go_wp2_with fail
        refine (rargs_any (x.toNat : Int) _).mono ?_
        rintro e w4 ⟨hb5, he⟩
        rw [ha] at he
        subst he
        have HB5 := Lib.hid (HB4.out.trans (hb5.mono HB4.out.size))
        have HBX := Lib.hid ((Blk.new wo 43 #[.int .i64 (x.toNat : Int), .int .u64 0, .int .u64 0]).belowW hb5)
        have HO5 := Lib.hid (HO4.out.below hb5)
        have HNE := Lib.hid (HO.out.ne_new (Nat.le_refl wo.heap.size))
        have HA := Lib.hid ha
        clear ha hb5
        go_wp2
        go_loopw [5, 9] (fun av iv wx => RdjRel m k n x wo.heap.size w (.slice A acc.length cap) acc av iv wx) (fun _ iv _ => 2 - (intOf iv).toNat)
        case atStart => exact ⟨0, 0, 0, k + 1, by omega, by omega, rfl, by go_num, .inl ⟨rfl, rfl, rfl, rfl⟩, by omega, by omega, HBX.out, HO5.out, HB5.out⟩
        case round =>
          obtain ⟨i, a, b, j, hin, hi2, rfl, rfl, hop, ha64, hb64, hbx, ho, hbl⟩ := hrel
          have HBX := Lib.hid hbx
          have HOx := Lib.hid ho
          have HBL := Lib.hid hbl
          have HXx := Lib.hid (HX.out.below hbl)
          have hszx : w.heap.size ≤ wr.heap.size := hbl.size
          have c0 := hbx.cell 0
          have c1 := hbx.cell 1
          have c2 := hbx.cell 2
          have z1 := hbx.frozen 1
          have z2 := hbx.frozen 2
          simp only [List.getElem?_toArray, List.getElem?_cons_zero, List.getElem?_cons_succ] at c0 c1 c2
          clear hbx ho hbl
          have HOP := Lib.hid hop
          obtain ⟨hkj, hjm⟩ := HOP.out.le hlt
          by_cases hi : i < n
          · go_wp2_with fail
            refine (guvarint_any (.slice (some pa) m.length cap0) m j _ w.heap.size HXx.out hjm (by omega)).mono ?_
            rintro e w6 ⟨rfl, hm6⟩
            cases hu : uvR m j with
            | no z =>
              rw [hu] at hm6
              have hm7 : e = .returned (.tuple #[.int .u64 0, .int .i64 (j : Int), .int .i64 ((z : Int) + 1)]) := hm6
              subst hm7
              have HBD := Lib.hid (HDI.out.trans (decIF_bad hlt (HOP.out.bad HXK.out HA.out hn2 hi hu)))
              have hz24 := uvR_no hu
              have hzb : ((z : Int) + 1 == 0) = false := by rw [beq_eq_false_iff_ne]; omega
              clear hm6 hu
              go_wp2
              go_ret2
              exact diRet_no HBD.out HBL.out
            | ok v j2 =>
              rw [hu] at hm6
              have hm7 : e = .returned (.tuple #[.int .u64 (v : Int), .int .i64 (j2 : Int), .int .i64 0]) := hm6
              subst hm7
              obtain ⟨hj2, hj3, hv⟩ := uvR_le hjm hu
              have HU := Lib.hid hu
              clear hm6 hu
              rcases hop with ⟨hi0, rfl, rfl, hj⟩ | ⟨hi1, hn1, rfl, hu1⟩ | ⟨rfl, rfl, j1, hu1, hu2⟩
              · subst hi0
                have HJ := Lib.hid hj
                clear hj
                go_wp2
                go_roundw
                case measure => simp [intOf]
                case rel =>
                  refine ⟨1, v, 0, j2, by omega, by omega, by go_num, rfl, .inr (.inl ⟨rfl, by omega, rfl, by rw [← HJ.out]; exact HU.out⟩), by omega, by omega, by simpa using HBX.out.set_ 1 (.int .u64 (v : Int)), HOx.out.farNe (fun z hz e => HNE.out (by rw [hz, e])) _, HBL.out.setCell (by show w.heap.size ≤ wo.heap.size; omega) _⟩
              · subst hi1
                have HU1 := Lib.hid hu1
                clear hu1
                go_wp2
                go_roundw
                case measure => simp [intOf]
                case rel =>
                  refine ⟨2, a, v, j2, by omega, by omega, by go_num, rfl, .inr (.inr ⟨rfl, by omega, j, HU1.out, HU.out⟩), by omega, by omega, by simpa using HBX.out.set_ 2 (.int .u64 (v : Int)), HOx.out.farNe (fun z hz e => HNE.out (by rw [hz, e])) _, HBL.out.setCell (by show w.heap.size ≤ wo.heap.size; omega) _⟩
              · omega
          · have HINS := Lib.hid (HOP.out.done HXK.out HA.out hn2 (.inr (by omega)) hin)
            have HNX := Lib.hid (HDI.out.trans (decIF_next hlt HINS.out))
            have hal1 : acc.length + 1 ≤ 970000000000 := by omega
            clear hop
            go_wp2_with (at_builtin; refine OwnL.append insSOk HOx.out ⟨(x.toNat : Int), a, b⟩ rfl _ _ rfl rfl rfl _ rfl hszx hal1 ?_; intro v5 w5 ho5 hb5; obtain ⟨A5, cap5, rfl, hq5, hq6, -⟩ := ho5.open_; have HO5 := Lib.hid ho5; have HB5 := Lib.hid hb5; clear ho5 hb5)
            go_roundg (m.length - j)
            case measure => have := HGH.out; omega
            case rel =>
              have hll : (acc ++ [(⟨(x.toNat : Int), a, b⟩ : Ins)]).length = acc.length + 1 := by simp
              exact ⟨j, f', acc ++ [⟨(x.toNat : Int), a, b⟩], A5, cap5, Nat.le_refl _, hjm, by rw [hll], rfl, by rw [hll]; omega, by omega, HNX.out, HO5.out, HBL.out.trans HB5.out⟩
    · have HEND : Hid (decI m = some acc) := Lib.hid (by
        obtain ⟨f', rfl⟩ : ∃ f', f = f' + 1 := ⟨f - 1, by omega⟩
        rw [HDI.out, decIF_end (by omega)])
      go_wp2
      go_ret2
      exact diRet_ok HEND.out HB.out HO.out
end Go.Proofs.YtmdpfikalekmlaaGreatDoor
end
section
/- Layer 20: the document's Name. -/
namespace Go.Proofs.YtmdpfikalekmlaaGreatDoor
open Go.RowKit
set_option maxRecDepth 100000
set_option maxHeartbeats 1000000
set_option linter.unusedSimpArgs false
set_option linter.unusedVariables false

theorem rname_any (op : Int) (w : World) :
    Calls Tryz.prog 85 #[.int .i64 op] w fun e w' => Below w.heap.size w w' ∧ e = .returned (match argsN op with | none => .tuple #[.string ⟨#[]⟩, .bool false] | some n => .tuple #[.string (str (opName op.toNat)), .bool true]) := by
  have hb : Below w.heap.size w (w.alloc (.cells refCells 150)) := (Below.refl _ _).alloc (Nat.le_refl _) _
  have HB := Lib.hid hb
  clear hb
  cases h : argsN op with
  | none =>
    have h2 := argsN_none h
    clear h
    by_cases hn : op < 0
    · go_enter Tryz.func85, Tryz.ntmps85
      go_wp2_with fail
      refine (rtable_any w).mono ?_
      rintro e w1 ⟨rfl, hw1⟩
      have HB1 : Hid (Below w.heap.size w w1) := Lib.hid (by rw [hw1]; exact HB.out)
      clear hw1
      go_wp2
      go_ret2
      exact ⟨HB1.out, rfl⟩
    · have h17 : 17 ≤ op := by omega
      go_enter Tryz.func85, Tryz.ntmps85
      go_wp2_with fail
      refine (rtable_any w).mono ?_
      rintro e w1 ⟨rfl, hw1⟩
      have HB1 : Hid (Below w.heap.size w w1) := Lib.hid (by rw [hw1]; exact HB.out)
      clear hw1
      go_wp2
      go_ret2
      exact ⟨HB1.out, rfl⟩
  | some n =>
    obtain ⟨h0, h1, h2, h3⟩ := argsN_some h
    obtain ⟨o, rfl⟩ : ∃ o : Nat, op = (o : Int) := ⟨op.toNat, by omega⟩
    have HN := Lib.hid (show refCells[o * 2]? = some (.string (str (opName o))) from (refCells_get o (by omega)).1)
    rw [show ((o : Int)).toNat = o from rfl]
    generalize str (opName o) = sn at *
    clear h h2
    go_enter Tryz.func85, Tryz.ntmps85
    go_wp2_with fail
    refine (rtable_any w).mono ?_
    rintro e w1 ⟨rfl, hw1⟩
    have HB1 : Hid (Below w.heap.size w w1) := Lib.hid (by rw [hw1]; exact HB.out)
    have c1 : w1.cell? ⟨w.heap.size, o * 2, none⟩ = some (.string sn) := by rw [hw1, World.cell?_alloc_new]; exact HN.out
    clear hw1
    go_wp2
    go_ret2
    exact ⟨HB1.out, rfl⟩
theorem str_ne_beq {a b : ByteArray} (h : a ≠ b) : (a.toList == b.toList) = false := by
  rw [beq_eq_false_iff_ne]
  intro e
  rw [ByteArray.toList_eq, ByteArray.toList_eq] at e
  apply h
  obtain ⟨⟨a⟩⟩ := a
  obtain ⟨⟨b⟩⟩ := b
  simpa using e
end Go.Proofs.YtmdpfikalekmlaaGreatDoor
end
section
/- Layer 20, the document: nearLine, codeLine. -/
namespace Go.Proofs.YtmdpfikalekmlaaGreatDoor
open Go.RowKit
set_option maxRecDepth 100000
set_option maxHeartbeats 2000000
set_option linter.unusedSimpArgs false
set_option linter.unusedVariables false

def nearTo (n : Nr) (m : Nat) : List UInt8 := lineL [110, 101, 97, 114] [n.slop] ++ ((n.cur.zip n.off).take m).flatMap pairL
theorem nearTo_all {n : Nr} {m : Nat} (h : n.cur.length ≤ m) : nearTo n m = nearL n := by
  unfold nearTo
  rw [List.take_of_length_le (by rw [List.length_zip]; omega)]; rfl
theorem nearTo_succ {n : Nr} {m : Nat} (h1 : m < n.cur.length) (h2 : m < n.off.length) : nearTo n (m + 1) = nearTo n m ++ [32] ++ numC n.cur[m] ++ [43] ++ numC n.off[m] := by
  unfold nearTo
  rw [zip_snoc h1 h2, List.flatMap_append]
  simp [pairL]
theorem nearTo_len {n : Nr} (m : Nat) (hs : n.slop ≤ 9223372036854775807) (h1 : ∀ x ∈ n.cur, x ≤ 9223372036854775807) (h2 : ∀ x ∈ n.off, x ≤ 9223372036854775807) : (nearTo n m).length ≤ 25 + 42 * m := by
  unfold nearTo
  have g1 := line1_len [110, 101, 97, 114] hs
  have g2 := pairs_len (n.cur.zip n.off) m (fun q hq => by
    have := List.of_mem_zip hq
    exact ⟨h1 _ this.1, h2 _ this.2⟩)
  rw [List.length_append]
  simp only [List.length_cons, List.length_nil] at g1
  omega
def NlRel (n : Nr) (w0 : World) (ov iv : Value) (wr : World) : Prop := ∃ m : Nat, m ≤ n.cur.length ∧ iv = .int .i64 (m : Int) ∧ OwnX wr w0.heap.size ov (nearTo n m) ∧ Below w0.heap.size w0 wr
theorem nearLine_any (x : NrV) (w : World) (B : Nat) (hB : B ≤ w.heap.size) (h1 : RdL intS w B (.slice x.ca x.n.cur.length x.cc) x.n.cur) (h2 : RdL intS w B (.slice x.oa x.n.off.length x.oc) x.n.off) (hk : okN x.n = true)
    (hs : -9223372036854775808 ≤ x.n.slop ∧ x.n.slop ≤ 9223372036854775807) (hs1 : SmallInts x.n.cur) (hs2 : SmallInts x.n.off) (hl : x.n.cur.length ≤ 2000000) :
    Calls Tryz.prog 66 #[.agg #[.slice x.ca x.n.cur.length x.cc, .slice x.oa x.n.off.length x.oc, .int .i64 x.n.slop]] w fun e w' => e = .returned (.string (str (nearL x.n))) ∧ Below w.heap.size w w' := by
  obtain ⟨ca, cc, oa, oc, n⟩ := x
  simp only [] at h1 h2 hk hs hs1 hs2 hl ⊢
  have hok := okN_parts hk
  have H1 := Lib.hid h1; have H2 := Lib.hid h2; have HS1 := Lib.hid hs1; have HS2 := Lib.hid hs2; have HN := Lib.hid hok
  have HLEN := Lib.hid hok.2.2.2
  have HSL := Lib.hid hs
  obtain ⟨sl, hsl⟩ : ∃ k : Nat, n.slop = (k : Int) := ⟨n.slop.toNat, by have := hok.1; omega⟩
  have hsl2 : sl < 9223372036854775808 := by omega
  have HL0 := Lib.hid (show (⟨#[110, 101, 97, 114, 32]⟩ ++ str (dgt sl) : ByteArray).data.toList = nearTo n 0 from by
    rw [show (⟨#[110, 101, 97, 114, 32]⟩ : ByteArray) = str [110, 101, 97, 114, 32] from rfl, str_cat2, str_data]
    unfold nearTo lineL numC
    rw [hsl]
    simp)
  have hdl := dgt_len sl (by omega)
  have HNLEN := Lib.hid (fun m => nearTo_len (n := n) m hs.2 (fun x hx => (hs1 x hx).2) (fun x hx => (hs2 x hx).2))
  rw [hsl]
  have HSL2 := Lib.hid hsl
  clear h1 h2 hk hs hs1 hs2 hok hsl
  have hb0 : Below w.heap.size w (w.alloc (.cells #[.slice ca n.cur.length cc, .slice oa n.off.length oc, .int .i64 (sl : Int)] 68)) := (Below.refl _ _).alloc (Nat.le_refl _) _
  have HB0 := Lib.hid hb0
  clear hb0
  go_enter Tryz.func66, Tryz.ntmps66
  go_wp2_with fail
  have k0 : (w.alloc (.cells #[.slice ca n.cur.length cc, .slice oa n.off.length oc, .int .i64 (sl : Int)] 68)).cell? ⟨w.heap.size, 0, none⟩ = some (.slice ca n.cur.length cc) := by rw [World.cell?_alloc_new]; rfl
  have k1 : (w.alloc (.cells #[.slice ca n.cur.length cc, .slice oa n.off.length oc, .int .i64 (sl : Int)] 68)).cell? ⟨w.heap.size, 1, none⟩ = some (.slice oa n.off.length oc) := by rw [World.cell?_alloc_new]; rfl
  have kz : w.heap.size < (w.alloc (.cells #[.slice ca n.cur.length cc, .slice oa n.off.length oc, .int .i64 (sl : Int)] 68)).heap.size := by rw [World.size_alloc]; omega
  generalize w.alloc (.cells #[.slice ca n.cur.length cc, .slice oa n.off.length oc, .int .i64 (sl : Int)] 68) = w0 at *
  refine (decimal_any sl (by omega) w0).mono ?_
  rintro e w1 ⟨rfl, hb1⟩
  have HB1 := Lib.hid hb1
  have q1 := fun W => str_add (P := Tryz.prog) ⟨#[110, 101, 97, 114, 32]⟩ (str (dgt sl)) (by rw [str_size, show (⟨#[110, 101, 97, 114, 32]⟩ : ByteArray).size = 5 from rfl]; omega) W
  have hsw : (⟨#[110, 101, 97, 114, 32]⟩ ++ str (dgt sl) : ByteArray).size ≤ maxLen := by rw [ba_append_size, str_size, show (⟨#[110, 101, 97, 114, 32]⟩ : ByteArray).size = 5 from rfl]; unfold maxLen; omega
  generalize (⟨#[110, 101, 97, 114, 32]⟩ ++ str (dgt sl) : ByteArray) = sw at *
  have cb := fun W => bytes_conv sw W
  have HO2 := Lib.hid (bytes_own sw w1 hsw)
  have HB2 := Lib.hid (hb1.trans ((bytes_below sw w1).mono hb1.size))
  have m0 := ((HB2.out).cell (p := ⟨w.heap.size, 0, none⟩) kz).trans k0
  have hsz1 := hb1.size
  clear hb1
  go_wp2
  go_loopw [3, 14] (fun ov iv wr => NlRel n w0 ov iv wr) (fun _ iv _ => n.cur.length - (intOf iv).toNat)
  case atStart => exact ⟨0, Nat.zero_le _, rfl, by rw [← HL0.out]; exact HO2.out.more hsz1, HB2.out⟩
  case round =>
    clear q1 m0
    obtain ⟨m, hm, rfl, ho, hb⟩ := hrel
    have HO := Lib.hid ho; have HB := Lib.hid hb
    have hsz := hb.size
    have hnl := HNLEN.out m
    clear ho hb
    by_cases hlt : m < n.cur.length
    · have hlt2 : m < n.off.length := by have := HLEN.out; omega
      obtain ⟨a, rfl, hab, c0⟩ := at_int (H1.out.below ((HB0.out.trans (HB.out.mono HB0.out.size)).mono hB)) hlt
      obtain ⟨b, rfl, hbb, c1⟩ := at_int (H2.out.below ((HB0.out.trans (HB.out.mono HB0.out.size)).mono hB)) hlt2
      have hx1 := neg_false HN.out.2.1 _ (List.getElem_mem hlt)
      have hx2 := neg_false HN.out.2.2.1 _ (List.getElem_mem hlt2)
      have hx3 := HS1.out _ (List.getElem_mem hlt)
      have hx4 := HS2.out _ (List.getElem_mem hlt2)
      have HNX := Lib.hid (nearTo_succ hlt hlt2)
      generalize n.cur[m] = xc at *
      generalize n.off[m] = xo at *
      obtain ⟨xn, rfl⟩ : ∃ k : Nat, xc = (k : Int) := ⟨xc.toNat, by omega⟩
      obtain ⟨yn, rfl⟩ : ∃ k : Nat, xo = (k : Int) := ⟨xo.toNat, by omega⟩
      have hd1 := dgt_len xn (by omega)
      have hd2 := dgt_len yn (by omega)
      have hxn : xn < 9223372036854775808 := by omega
      have hyn : yn < 9223372036854775808 := by omega
      have p0 := (HB.out.cell (p := ⟨w.heap.size, 0, none⟩) kz).trans k0
      have p1 := (HB.out.cell (p := ⟨w.heap.size, 1, none⟩) kz).trans k1
      have hpl : (nearTo n m).length ≤ 100000000 := by omega
      generalize hpre : nearTo n m = pre at *
      have HPRE := Lib.hid hpre
      have al1 : pre.length + 1 ≤ 140737488355328 := by omega
      have hBz : B ≤ w0.heap.size := Nat.le_trans hB HB0.out.size
      have habz : (a.add m).block < w0.heap.size := by omega
      have hbbz : (b.add m).block < w0.heap.size := by omega
      clear hpre hnl hx1 hx2 hx3 hx4
      go_wp2_with (at_builtin; refine OwnX.appendI HO.out 32 (by decide) (by decide) rfl _ _ rfl rfl rfl hsz al1 ?_; intro v3 w3 ho3 hb3; have HO3 := Lib.hid ho3; have HB3 := Lib.hid (HB.out.trans hb3); have hsz3 := (HB.out.trans hb3).size; have r0 := (hb3.cell (p := ⟨w.heap.size, 0, none⟩) kz).trans p0; have r1 := (hb3.cell (p := ⟨w.heap.size, 1, none⟩) kz).trans p1; have rc := (hb3.cell (p := a.add m) habz).trans c0; have rd := (hb3.cell (p := b.add m) hbbz).trans c1; clear ho3 hb3)
      refine (decimal_any xn (by omega) w3).mono ?_
      rintro e w4 ⟨rfl, hb4⟩
      have HO4 := Lib.hid (HO3.out.below hb4)
      have HB4 := Lib.hid (HB3.out.trans (hb4.mono hsz3))
      have hsz4 := HB4.out.size
      have al4 : (pre ++ [UInt8.ofNat (32 : Int).toNat]).length + (str (dgt xn)).size ≤ 140737488355328 := by rw [str_size, List.length_append]; simp; omega
      have al5 : (pre ++ [UInt8.ofNat (32 : Int).toNat] ++ (str (dgt xn)).data.toList).length + 1 ≤ 140737488355328 := by rw [str_data, List.length_append, List.length_append]; simp; omega
      have s1 := (HB4.out.cell (p := ⟨w.heap.size, 1, none⟩) kz).trans k1
      have sd := (hb4.cell (p := b.add m) (by omega)).trans rd
      clear hb4
      go_wp2_with (at_builtin; first
        | (refine OwnX.appendI HO5.out 43 (by decide) (by decide) rfl _ _ rfl rfl rfl hsz5 al5 ?_; intro v6 w6 ho6 hb6; have HO6 := Lib.hid ho6; have HB6 := Lib.hid (HB5.out.trans hb6); have hsz6 := (HB5.out.trans hb6).size; have u1 := (hb6.cell (p := ⟨w.heap.size, 1, none⟩) kz).trans t1; have ud := (hb6.cell (p := b.add m) hbbz).trans td; clear ho6 hb6)
        | (refine OwnX.appendStr HO4.out (str (dgt xn)) rfl _ _ rfl rfl rfl hsz4 al4 ?_; intro v5 w5 ho5 hb5; have HO5 := Lib.hid ho5; have HB5 := Lib.hid (HB4.out.trans hb5); have hsz5 := (HB4.out.trans hb5).size; have t1 := (hb5.cell (p := ⟨w.heap.size, 1, none⟩) kz).trans s1; have td := (hb5.cell (p := b.add m) hbbz).trans sd; clear ho5 hb5))
      refine (decimal_any yn (by omega) w6).mono ?_
      rintro e w7 ⟨rfl, hb7⟩
      have HO7 := Lib.hid (HO6.out.below hb7)
      have HB7 := Lib.hid (HB6.out.trans (hb7.mono hsz6))
      have hsz7 := HB7.out.size
      have al7 : (pre ++ [UInt8.ofNat (32 : Int).toNat] ++ (str (dgt xn)).data.toList ++ [UInt8.ofNat (43 : Int).toNat]).length + (str (dgt yn)).size ≤ 140737488355328 := by rw [str_size, str_data, List.length_append, List.length_append, List.length_append]; simp; omega
      clear hb7
      go_wp2_with (at_builtin; refine OwnX.appendStr HO7.out (str (dgt yn)) rfl _ _ rfl rfl rfl hsz7 al7 ?_; intro v8 w8 ho8 hb8; have HO8 := Lib.hid ho8; have HB8 := Lib.hid (HB7.out.trans hb8); clear ho8 hb8)
      go_roundw
      case rel =>
        refine ⟨m + 1, by omega, by go_num, ?_, HB8.out⟩
        rw [HNX.out]
        exact HO8.out
      case measure => simp [intOf]; omega
    · have cv := HO.out.conv
      rw [nearTo_all (by omega)] at cv
      clear hnl
      go_wp2
      go_ret
      exact ⟨rfl, HB0.out.trans (HB.out.mono HB0.out.size)⟩
def insTo (x : Ins) (k : Nat) : List UInt8 := opName x.op.toNat ++ (if 1 ≤ k then 32 :: dgt x.a else []) ++ (if 2 ≤ k then 32 :: dgt x.b else [])
theorem insTo_all {x : Ins} {n : Nat} (h : argsN x.op = some n) : insTo x n = insL x := by
  have h2 := (argsN_some h).2.2.1
  unfold insTo insL
  rw [h2]
  have e1 : ((0 : Int) < (n : Int)) ↔ 1 ≤ n := by omega
  have e2 : ((1 : Int) < (n : Int)) ↔ 2 ≤ n := by omega
  simp only [e1, e2]
def CtRel (x : Ins) (n : Nat) (w0 : World) (sv iv : Value) (wr : World) : Prop := ∃ k : Nat, k ≤ n ∧ iv = .int .i64 (k : Int) ∧ sv = .string (str (insTo x k)) ∧ Below w0.heap.size w0 wr
theorem codeLine_any (x : Ins) (w : World) (hx : insOk x = true) (ha : x.a < 18446744073709551616) (hb : x.b < 18446744073709551616) :
    Calls Tryz.prog 67 #[.agg #[.int .i64 x.op, .int .u64 (x.a : Int), .int .u64 (x.b : Int)]] w fun e w' => e = .returned (.string (str (insL x))) ∧ Below w.heap.size w w' := by
  have HX := Lib.hid hx
  have hb0 : Below w.heap.size w (w.alloc (.cells #[.int .i64 x.op, .int .u64 (x.a : Int), .int .u64 (x.b : Int)] 43)) := (Below.refl _ _).alloc (Nat.le_refl _) _
  have HB0 := Lib.hid hb0
  have k0 : (w.alloc (.cells #[.int .i64 x.op, .int .u64 (x.a : Int), .int .u64 (x.b : Int)] 43)).cell? ⟨w.heap.size, 0, none⟩ = some (.int .i64 x.op) := by rw [World.cell?_alloc_new]; rfl
  have kz : w.heap.size < (w.alloc (.cells #[.int .i64 x.op, .int .u64 (x.a : Int), .int .u64 (x.b : Int)] 43)).heap.size := by rw [World.size_alloc]; omega
  clear hx hb0
  go_enter Tryz.func67, Tryz.ntmps67
  go_wp2_with fail
  generalize w.alloc (.cells #[.int .i64 x.op, .int .u64 (x.a : Int), .int .u64 (x.b : Int)] 43) = w0 at *
  refine (operands_any x w0).mono ?_
  rintro e w1 ⟨hb1, ⟨hok, rfl⟩ | ⟨hok, n, g, hn, rfl, hg, hgb⟩⟩
  · exact absurd (hok.symm.trans HX.out) (by decide)
  · have hn2 := (argsN_some hn).2.2.2
    have HN := Lib.hid hn
    have HB1 := Lib.hid hb1
    have d0 := (hb1.cell (p := ⟨w.heap.size, 0, none⟩) kz).trans k0
    have a0 := hgb.cell 0
    have a1 := hgb.cell 1
    have gz := hgb.lt
    have HGB := Lib.hid hgb
    clear hok hn hb1 hgb k0
    go_wp2_with fail
    refine (rname_any x.op w1).mono ?_
    rintro e w2 ⟨hb2, hx2⟩
    rw [HN.out] at hx2
    subst hx2
    have HB2 := Lib.hid (HB1.out.trans (hb2.mono HB1.out.size))
    have HG2 := Lib.hid (HGB.out.belowW hb2)
    clear hb2 a0 a1 d0
    go_wp2
    go_loopw [5, 22] (fun sv iv wr => CtRel x n w2 sv iv wr) (fun _ iv _ => n - (intOf iv).toNat)
    case atStart => exact ⟨0, Nat.zero_le _, rfl, by simp [insTo], Below.refl _ _⟩
    case round =>
      obtain ⟨k, hk, rfl, rfl, hb⟩ := hrel
      have HB := Lib.hid hb
      clear hb
      have hin : (insTo x k).length ≤ 50 := by
        have g1 := opName_len x.op.toNat
        have g2 := dgt_len x.a ha
        have g3 := dgt_len x.b hb
        unfold insTo
        rw [List.length_append, List.length_append]
        split <;> split <;> simp only [List.length_cons, List.length_nil] <;> omega
      by_cases hlt : k < n
      · have hG := HG2.out.belowW HB.out
        have a0 := hG.cell 0
        have a1 := hG.cell 1
        obtain ⟨y, hy, HC, HNX⟩ : ∃ y : Nat, y < 18446744073709551616 ∧ Hid (wr.cell? ⟨g, k, none⟩ = some (.int .u64 (y : Int))) ∧ Hid (insTo x (k + 1) = insTo x k ++ ([32] ++ dgt y)) := by
          rcases (by omega : k = 0 ∨ k = 1) with rfl | rfl
          · exact ⟨x.a, ha, Lib.hid a0, Lib.hid (by simp [insTo])⟩
          · exact ⟨x.b, hb, Lib.hid a1, Lib.hid (by simp [insTo])⟩
        clear hG a0 a1
        have c0 := HC.out
        have hyl := dgt_len y hy
        have q1 := fun W => str_add (P := Tryz.prog) ⟨#[32]⟩ (str (dgt y)) (by rw [str_size, show (⟨#[32]⟩ : ByteArray).size = 1 from rfl]; omega) W
        have q2 := fun W => str_add (P := Tryz.prog) (str (insTo x k)) (⟨#[32]⟩ ++ str (dgt y)) (by rw [ba_append_size, str_size, str_size, show (⟨#[32]⟩ : ByteArray).size = 1 from rfl]; omega) W
        have HEQ := Lib.hid (show str (insTo x k) ++ (⟨#[32]⟩ ++ str (dgt y)) = str (insTo x (k + 1)) from by
          rw [HNX.out, show (⟨#[32]⟩ : ByteArray) = str [32] from rfl, str_cat2, str_cat2])
        generalize str (insTo x k) = si at *
        go_wp2_with fail
        refine (decimal_any y hy wr).mono ?_
        rintro e w4 ⟨rfl, hb4⟩
        have HB4 := Lib.hid (HB.out.trans (hb4.mono HB.out.size))
        clear hb4
        go_wp2
        go_roundw
        case rel => exact ⟨k + 1, by omega, by go_num, by rw [HEQ.out], HB4.out⟩
        case measure => simp [intOf]; omega
      · have HEQ := Lib.hid (show str (insTo x k) = str (insL x) from by rw [show k = n by omega, insTo_all HN.out])
        clear hin
        generalize str (insTo x k) = si at *
        go_wp2
        go_ret
        exact ⟨by rw [HEQ.out]; rfl, HB0.out.trans ((HB2.out.trans (HB.out.mono HB2.out.size)).mono HB0.out.size)⟩
end Go.Proofs.YtmdpfikalekmlaaGreatDoor
end
section
/- Layer 20, the document: listed. -/
namespace Go.Proofs.YtmdpfikalekmlaaGreatDoor
open Go.RowKit
set_option maxRecDepth 100000
set_option maxHeartbeats 4000000
set_option linter.unusedSimpArgs false
set_option linter.unusedVariables false

theorem rbelow_any (v : Value) (l : List Int) (w : World) (B : Nat) (h : RdL intS w B v l) :
    Calls Tryz.prog 84 #[v] w fun e w' => e = .returned (.bool (neg l)) ∧ w = w' := by
  obtain ⟨A, cap, rfl, hc, hm⟩ := h.open_
  unfold maxLen at hm
  have H := Lib.hid h
  clear h
  go_enter Tryz.func84, Tryz.ntmps84
  go_wp2
  go_loop [7] (fun iv => BlRel l iv) (fun iv => l.length - (intOf iv).toNat)
  case atStart => exact ⟨0, Nat.zero_le _, rfl, rfl⟩
  case round =>
    obtain ⟨k, hk, hn, rfl⟩ := hrel
    have HN := Lib.hid hn
    clear hn
    by_cases hlt : k < l.length
    · obtain ⟨a, rfl, hb, c0⟩ := at_int H.out hlt
      by_cases hx : l[k] < 0
      · have HQ := Lib.hid (show neg l = true from by
          unfold neg
          rw [List.any_eq_true]
          exact ⟨l[k], List.getElem_mem hlt, decide_eq_true hx⟩)
        generalize l[k] = x at *
        go_wp2
        go_ret
        exact ⟨congrArg (fun b => Ending.returned (.bool b)) HQ.out.symm, rfl⟩
      · have HQ := Lib.hid (show neg (l.take (k + 1)) = false from by rw [neg_take hlt, HN.out]; simp [hx])
        generalize l[k] = x at *
        go_wp2
        go_round
        case rel => exact ⟨k + 1, by omega, HQ.out, by go_num⟩
        case measure => simp [intOf]; omega
    · have HQ := Lib.hid (show neg l = false from by have h := HN.out; rwa [List.take_of_length_le (by omega)] at h)
      go_wp2
      go_ret
      exact ⟨congrArg (fun b => Ending.returned (.bool b)) HQ.out.symm, rfl⟩

theorem rlisted_any (x : PgV) (p : Pg) (w : World) (h : PgR w w.heap.size x p) (hs : SmallPg p) :
    Calls Tryz.prog 63 #[x.val p] w fun e w' => e = .returned (.bool (okP p)) ∧ Below w.heap.size w w' := by
  obtain ⟨av, cv, nv, dv, kv, nl⟩ := x
  obtain ⟨aA, acap, rfl, -, -⟩ := h.avgs.open_
  obtain ⟨cA, ccap, rfl, -, -⟩ := h.curs.open_
  have hno : RdL nrS w w.heap.size nv nl := h.nears
  obtain ⟨nA, ncap, hnv, -, -⟩ := hno.open_
  subst hnv
  clear hno
  obtain ⟨dA, dcap, rfl, -, -⟩ := h.drive.open_
  obtain ⟨kA, kcap, rfl, -, -⟩ := h.code.open_
  have H := Lib.hid h; have HS := Lib.hid hs
  have HNM := Lib.hid h.nmap
  have hl1 := hs.curs.2
  have hl2 : nl.length ≤ 2000000 := by have e := hs.nears.2; rw [← h.nmap, List.length_map] at e; exact Nat.le_trans e (by decide)
  have hb0 : Below w.heap.size w (w.alloc (.cells #[.slice aA p.avgs.length acap, .slice cA p.curs.length ccap, .slice nA nl.length ncap, .bool p.all, .slice dA p.drive.length dcap, .slice kA p.code.length kcap] 28)) := (Below.refl _ _).alloc (Nat.le_refl _) _
  have k0 : (w.alloc (.cells #[.slice aA p.avgs.length acap, .slice cA p.curs.length ccap, .slice nA nl.length ncap, .bool p.all, .slice dA p.drive.length dcap, .slice kA p.code.length kcap] 28)).cell? ⟨w.heap.size, 0, none⟩ = some (.slice aA p.avgs.length acap) := by rw [World.cell?_alloc_new]; rfl
  have k1 : (w.alloc (.cells #[.slice aA p.avgs.length acap, .slice cA p.curs.length ccap, .slice nA nl.length ncap, .bool p.all, .slice dA p.drive.length dcap, .slice kA p.code.length kcap] 28)).cell? ⟨w.heap.size, 1, none⟩ = some (.slice cA p.curs.length ccap) := by rw [World.cell?_alloc_new]; rfl
  have k2 : (w.alloc (.cells #[.slice aA p.avgs.length acap, .slice cA p.curs.length ccap, .slice nA nl.length ncap, .bool p.all, .slice dA p.drive.length dcap, .slice kA p.code.length kcap] 28)).cell? ⟨w.heap.size, 2, none⟩ = some (.slice nA nl.length ncap) := by rw [World.cell?_alloc_new]; rfl
  have k4 : (w.alloc (.cells #[.slice aA p.avgs.length acap, .slice cA p.curs.length ccap, .slice nA nl.length ncap, .bool p.all, .slice dA p.drive.length dcap, .slice kA p.code.length kcap] 28)).cell? ⟨w.heap.size, 4, none⟩ = some (.slice dA p.drive.length dcap) := by rw [World.cell?_alloc_new]; rfl
  have kz : w.heap.size < (w.alloc (.cells #[.slice aA p.avgs.length acap, .slice cA p.curs.length ccap, .slice nA nl.length ncap, .bool p.all, .slice dA p.drive.length dcap, .slice kA p.code.length kcap] 28)).heap.size := by rw [World.size_alloc]; omega
  have HB1 := Lib.hid hb0
  clear h hs hb0
  simp only [PgV.val]
  go_enter Tryz.func63, Tryz.ntmps63
  go_wp2_with fail
  generalize w.alloc (.cells #[.slice aA p.avgs.length acap, .slice cA p.curs.length ccap, .slice nA nl.length ncap, .bool p.all, .slice dA p.drive.length dcap, .slice kA p.code.length kcap] 28) = w1 at *
  have H1 := Lib.hid (H.out.below HB1.out)
  refine (rbelow_any _ p.avgs _ w.heap.size H1.out.avgs).mono ?_
  rintro e wq ⟨rfl, rfl⟩
  cases hna : neg p.avgs with
  | true =>
    have HQ := Lib.hid (show okP p = false from okP_not (.inl hna))
    clear hna
    go_wp2
    go_ret
    exact ⟨congrArg (fun b => Ending.returned (.bool b)) HQ.out.symm, HB1.out⟩
  | false =>
    have HNA := Lib.hid hna
    clear hna
    go_wp2_with fail
    refine (rbelow_any _ p.drive _ w.heap.size H1.out.drive).mono ?_
    rintro e wq ⟨rfl, rfl⟩
    cases hnd : neg p.drive with
    | true =>
      have HQ := Lib.hid (show okP p = false from okP_not (.inr (.inl hnd)))
      clear hnd
      go_wp2
      go_ret
      exact ⟨congrArg (fun b => Ending.returned (.bool b)) HQ.out.symm, HB1.out⟩
    | false =>
      have HND := Lib.hid hnd
      clear hnd
      go_wp2
      go_loopw [18] (fun iv wr => LcRel p w1 iv wr) (fun iv _ => p.curs.length - (intOf iv).toNat)
      case atStart => exact ⟨0, Nat.zero_le _, fun j c _ hj => by omega, rfl, Below.refl _ _⟩
      case round =>
        obtain ⟨k, hk, hall, rfl, hb⟩ := hrel
        have HB := Lib.hid hb; have HA := Lib.hid hall
        have hbz := hb.size
        have m2 := (hb.cell (p := ⟨w.heap.size, 2, none⟩) kz).trans k2
        have HBW := Lib.hid (HB1.out.trans (hb.mono HB1.out.size))
        have Hr := Lib.hid (H.out.below HBW.out)
        clear hb hall
        by_cases hlt : k < p.curs.length
        · obtain ⟨a, rfl, hab, c0, c1⟩ := at_lf Hr.out.curs hlt
          by_cases hf : p.curs[k].field < 0
          · have HQ := Lib.hid (show okP p = false from okP_not (.inr (.inr (.inl ⟨_, List.getElem_mem hlt, hf⟩))))
            generalize p.curs[k] = c at *
            go_wp2
            go_ret
            exact ⟨congrArg (fun b => Ending.returned (.bool b)) HQ.out.symm, HBW.out.alloc (Nat.le_trans HB1.out.size hbz) _⟩
          · have HQ := Lib.hid (show ∀ j c, p.curs[j]? = some c → j < k + 1 → 0 ≤ c.field from fun j c hj hjk => by
              rcases Nat.lt_or_ge j k with h | h
              · exact HA.out j c hj h
              · obtain rfl : j = k := by omega
                rw [List.getElem?_eq_getElem hlt] at hj
                cases hj; omega)
            generalize p.curs[k] = c at *
            go_wp2
            go_roundw
            case rel => exact ⟨k + 1, by omega, HQ.out, by go_num, HB.out.alloc hbz _⟩
            case measure => simp [intOf]; omega
        · have HCU := Lib.hid (show ∀ c ∈ p.curs, 0 ≤ c.field from fun c hc => by
            obtain ⟨j, hj, rfl⟩ := List.getElem_of_mem hc
            exact HA.out j _ (List.getElem?_eq_getElem hj) (by omega))
          go_wp2
          obtain ⟨w2, rfl⟩ : ∃ w2, w2 = wr := ⟨_, rfl⟩
          go_loopw [29] (fun iv wr => LnRel2 ⟨.slice aA p.avgs.length acap, .slice cA p.curs.length ccap, .slice nA nl.length ncap, .slice dA p.drive.length dcap, .slice kA p.code.length kcap, nl⟩ w2 iv wr) (fun iv _ => nl.length - (intOf iv).toNat)
          case atStart => exact ⟨0, Nat.zero_le _, fun j c _ hj => by omega, rfl, Below.refl _ _⟩
          case round =>
            obtain ⟨k, hk, hall, rfl, hb⟩ := hrel
            simp only [] at hk hall
            have HB3 := Lib.hid hb; have HA := Lib.hid hall
            have hbz3 := hb.size
            have HBW3 := Lib.hid (HBW.out.trans (hb.mono HBW.out.size))
            have Hr3 := Lib.hid (H.out.below HBW3.out)
            clear hb hall
            by_cases hlt : k < nl.length
            · obtain ⟨a, rfl, hab, c0, c1, c2⟩ := at_nr Hr3.out.nears hlt
              have HI := Lib.hid (Hr3.out.inner _ (List.getElem_mem hlt))
              have HMM := Lib.hid (show nl[k].n ∈ p.nears from mem_near (x := ⟨.slice none 0 0, .slice none 0 0, .slice none 0 0, .slice none 0 0, .slice none 0 0, nl⟩) HNM.out hlt)
              have HNX := Lib.hid (show okN nl[k].n = true → ∀ j y, nl[j]? = some y → j < k + 1 → okN y.n = true from fun hok j y hj hjk => by
                rcases Nat.lt_or_ge j k with h | h
                · exact HA.out j y hj h
                · obtain rfl : j = k := by omega
                  rw [List.getElem?_eq_getElem hlt] at hj
                  cases hj; exact hok)
              generalize nl[k] = y at *
              have HBA := Lib.hid (HBW3.out.alloc (Nat.le_trans HBW.out.size hbz3) (.cells #[.slice y.ca y.n.cur.length y.cc, .slice y.oa y.n.off.length y.oc, .int .i64 y.n.slop] 68))
              have HRA := Lib.hid ((HI.out.1.belowW (Nat.le_trans HBW.out.size hbz3) ((Below.refl _ _).alloc (Nat.le_refl _) (.cells #[.slice y.ca y.n.cur.length y.cc, .slice y.oa y.n.off.length y.oc, .int .i64 y.n.slop] 68))))
              have HRB := Lib.hid ((HI.out.2.belowW (Nat.le_trans HBW.out.size hbz3) ((Below.refl _ _).alloc (Nat.le_refl _) (.cells #[.slice y.ca y.n.cur.length y.cc, .slice y.oa y.n.off.length y.oc, .int .i64 y.n.slop] 68))))
              have HBB := Lib.hid (HB3.out.alloc hbz3 (.cells #[.slice y.ca y.n.cur.length y.cc, .slice y.oa y.n.off.length y.oc, .int .i64 y.n.slop] 68))
              by_cases hsl : y.n.slop < 0
              · have HQ := Lib.hid (show okP p = false from okP_not (.inr (.inr (.inr ⟨_, HMM.out, by unfold okN; rw [decide_eq_false (by omega)]; rfl⟩))))
                go_wp2
                go_ret
                exact ⟨congrArg (fun b => Ending.returned (.bool b)) HQ.out.symm, HBA.out⟩
              · by_cases hln : y.n.cur.length = y.n.off.length
                · have hnb : ((y.n.cur.length : Int) != (y.n.off.length : Int)) = false := by rw [hln]; simp
                  have HLN := Lib.hid hln
                  clear hln
                  go_wp2_with fail
                  refine (rbelow_any _ y.n.cur _ w.heap.size HRA.out).mono ?_
                  rintro e wq ⟨rfl, rfl⟩
                  cases hn1 : neg y.n.cur with
                  | true =>
                    have HQ := Lib.hid (show okP p = false from okP_not (.inr (.inr (.inr ⟨_, HMM.out, by unfold okN; rw [hn1]; simp⟩))))
                    clear hn1
                    go_wp2
                    go_ret
                    exact ⟨congrArg (fun b => Ending.returned (.bool b)) HQ.out.symm, HBA.out⟩
                  | false =>
                    have HN1 := Lib.hid hn1
                    clear hn1
                    go_wp2_with fail
                    refine (rbelow_any _ y.n.off _ w.heap.size HRB.out).mono ?_
                    rintro e wq ⟨rfl, rfl⟩
                    cases hn2 : neg y.n.off with
                    | true =>
                      have HQ := Lib.hid (show okP p = false from okP_not (.inr (.inr (.inr ⟨_, HMM.out, by unfold okN; rw [hn2]; simp⟩))))
                      clear hn2
                      go_wp2
                      go_ret
                      exact ⟨congrArg (fun b => Ending.returned (.bool b)) HQ.out.symm, HBA.out⟩
                    | false =>
                      have HQ := Lib.hid (show okN y.n = true from by unfold okN; rw [HN1.out, hn2, decide_eq_true (by omega : 0 ≤ y.n.slop), decide_eq_true HLN.out]; rfl)
                      clear hn2
                      go_wp2
                      go_roundw
                      case rel => exact ⟨k + 1, by show k + 1 ≤ nl.length; omega, HNX.out HQ.out, by go_num, HBB.out⟩
                      case measure => simp [intOf]; omega
                · have HQ := Lib.hid (show okP p = false from okP_not (.inr (.inr (.inr ⟨_, HMM.out, by unfold okN; rw [decide_eq_false hln]; simp⟩))))
                  have hnb : ((y.n.cur.length : Int) != (y.n.off.length : Int)) = true := by simp; omega
                  clear hln
                  go_wp2
                  go_ret
                  exact ⟨congrArg (fun b => Ending.returned (.bool b)) HQ.out.symm, HBA.out⟩
            · have HQ := Lib.hid (show okP p = true from okP_yes HNA.out HND.out HCU.out (fun n hn => by
                rw [← HNM.out] at hn
                obtain ⟨y, hy, rfl⟩ := List.mem_map.1 hn
                obtain ⟨j, hj, rfl⟩ := List.getElem_of_mem hy
                exact HA.out j _ (List.getElem?_eq_getElem hj) (by omega)))
              go_wp2
              go_ret
              exact ⟨congrArg (fun b => Ending.returned (.bool b)) HQ.out.symm, HBW3.out⟩
end Go.Proofs.YtmdpfikalekmlaaGreatDoor
end
