/- Layer 20, the reference: Decode. -/
import Derived.Test.YtmdpfikalekmlaaDoorIs
import Derived.Test.YtmdpfikalekmlaaDoorIg
import Derived.Test.YtmdpfikalekmlaaDoorRg
namespace Go.Proofs.YtmdpfikalekmlaaDoor
open Go.RowKit
set_option maxRecDepth 100000
set_option maxHeartbeats 4000000
set_option linter.unusedSimpArgs false
set_option linter.unusedVariables false

def RdiRel (m : List UInt8) (w : World) (gh : Nat) (ov av : Value) (wr : World) : Prop :=
  ∃ (k f : Nat) (acc : List Ins) (A : Option Addr) (cap : Nat), m.length - k ≤ gh ∧ k ≤ m.length ∧ ov = .slice A acc.length cap ∧ av = .int .i64 (k : Int) ∧ acc.length ≤ k ∧ m.length - k < f ∧ decI m = decIF m f k acc ∧ OwnL insS wr w.heap.size (.slice A acc.length cap) acc ∧ Below w.heap.size w wr
def RdjRel (m : List UInt8) (k n : Nat) (x : UInt8) (bx : Nat) (w : World) (ov : Value) (acc : List Ins) (av iv : Value) (wx : World) : Prop :=
  ∃ i a b j : Nat, i ≤ n ∧ i ≤ 2 ∧ iv = .int .i64 (i : Int) ∧ av = .int .i64 (j : Int) ∧ OpSt m k n i a b j ∧ a < 18446744073709551616 ∧ b < 18446744073709551616 ∧
    Blk wx bx 64 #[.int .i64 (x.toNat : Int), .int .u64 (a : Int), .int .u64 (b : Int)] ∧ OwnL insS wx w.heap.size ov acc ∧ Below w.heap.size w wx
theorem ridecode_any (x : Value) (m : List UInt8) (w : World) (hx : RdL byteS w w.heap.size x m) (hm : m.length ≤ 100000000) :
    Calls Tryd.prog 16 #[x] w (DiRet (.int .i64 21) (.int .i64 0) m w) := by
  obtain ⟨A0, cap0, rfl, h1, h2⟩ := hx.open_
  have HX := Lib.hid hx
  clear hx
  go_enter Tryd.func16, Tryd.ntmps16
  go_wp2
  go_loopg [4, 5] (m.length) (fun gh ov av wr => RdiRel m w gh ov av wr)
  case atStart => exact ⟨0, m.length + 1, [], some ⟨w.heap.size, 0, none⟩, 0, by omega, Nat.zero_le _, rfl, rfl, Nat.le_refl _, by omega, rfl, OwnL.lit0 _ _ (Nat.le_refl _), (Below.refl _ _).alloc (Nat.le_refl _) _⟩
  case round =>
    obtain ⟨k, f, acc, A, cap, hgh, hkm, rfl, rfl, hak, hf, hdi, ho, hbl⟩ := hrel
    have HDI := Lib.hid hdi
    have HO := Lib.hid ho
    have HB := Lib.hid hbl
    have HXr := Lib.hid (HX.out.below hbl)
    have HGH := Lib.hid hgh
    have hsz : w.heap.size ≤ wr.heap.size := hbl.size
    clear hdi ho hbl hgh
    obtain ⟨wo, rfl⟩ : ∃ wo : World, wo = wr := ⟨_, rfl⟩
    by_cases hlt : k < m.length
    · obtain ⟨f', rfl⟩ : ∃ f', f = f' + 1 := ⟨f - 1, by omega⟩
      obtain ⟨pa, x, rfl, hpb, hx, hpc⟩ := at_byteG HXr.out hlt
      have HXK := Lib.hid hx
      have hxl := x.toNat_lt
      have hwop : (pa.add k).block < wo.heap.size := by omega
      clear hx
      have hb4 : Below wo.heap.size wo (wo.alloc (.cells #[.int .i64 (x.toNat : Int), .int .u64 0, .int .u64 0] 64)) := (Below.refl _ _).alloc (Nat.le_refl _) _
      have HB4 := Lib.hid (HB.out.trans (hb4.mono hsz))
      have HO4 := Lib.hid (HO.out.below hb4)
      clear hb4
      cases ha : argsN (x.toNat : Int) with
      | none =>
        have HBD := Lib.hid (HDI.out.trans (decIF_bad hlt (insR_op HXK.out ha)))
        go_wp2_with fail
        refine (rargs_any (x.toNat : Int) _).mono ?_
        rintro e w4 ⟨hb5, he⟩
        rw [ha] at he
        subst he
        have HB5 := Lib.hid (HB4.out.trans (hb5.mono HB4.out.size))
        clear ha hb5
        go_wp2
        go_ret2
        exact diRet_no HBD.out HB5.out
      | some n =>
        obtain ⟨h0, h17, -, hn2⟩ := argsN_some ha
        go_wp2_with fail
        refine (rargs_any (x.toNat : Int) _).mono ?_
        rintro e w4 ⟨hb5, he⟩
        rw [ha] at he
        subst he
        have HB5 := Lib.hid (HB4.out.trans (hb5.mono HB4.out.size))
        have HBX := Lib.hid ((Blk.new wo 64 #[.int .i64 (x.toNat : Int), .int .u64 0, .int .u64 0]).belowW hb5)
        have HO5 := Lib.hid (HO4.out.below hb5)
        have HNE := Lib.hid (HO.out.ne_new (Nat.le_refl wo.heap.size))
        have HA := Lib.hid ha
        clear ha hb5
        go_wp2
        go_loopw [5, 9] (fun av iv wx => RdjRel m k n x wo.heap.size w (.slice A acc.length cap) acc av iv wx) (fun _ iv _ => 2 - (intOf iv).toNat)
        case atStart => exact ⟨0, 0, 0, k + 1, by omega, by omega, rfl, by go_num, .inl ⟨rfl, rfl, rfl, rfl⟩, by omega, by omega, HBX.out, HO5.out, HB5.out⟩
        case round =>
          obtain ⟨i, a, b, j, hin, hi2, rfl, rfl, hop, ha64, hb64, hbx, ho, hbl⟩ := hrel
          have HBX := Lib.hid hbx
          have HOx := Lib.hid ho
          have HBL := Lib.hid hbl
          have HXx := Lib.hid (HX.out.below hbl)
          have hszx : w.heap.size ≤ wr.heap.size := hbl.size
          have c0 := hbx.cell 0
          have c1 := hbx.cell 1
          have c2 := hbx.cell 2
          have z1 := hbx.frozen 1
          have z2 := hbx.frozen 2
          simp only [List.getElem?_toArray, List.getElem?_cons_zero, List.getElem?_cons_succ] at c0 c1 c2
          clear hbx ho hbl
          have HOP := Lib.hid hop
          obtain ⟨hkj, hjm⟩ := HOP.out.le hlt
          by_cases hi : i < n
          · go_wp2_with fail
            refine (guvarint_any (.slice (some pa) m.length cap0) m j _ w.heap.size HXx.out hjm (by omega)).mono ?_
            rintro e w6 ⟨rfl, hm6⟩
            cases hu : uvR m j with
            | no z =>
              rw [hu] at hm6
              have hm7 : e = .returned (.tuple #[.int .u64 0, .int .i64 (j : Int), .int .i64 ((z : Int) + 1)]) := hm6
              subst hm7
              have HBD := Lib.hid (HDI.out.trans (decIF_bad hlt (HOP.out.bad HXK.out HA.out hn2 hi hu)))
              have hz24 := uvR_no hu
              have hzb : ((z : Int) + 1 == 0) = false := by rw [beq_eq_false_iff_ne]; omega
              clear hm6 hu
              go_wp2
              go_ret2
              exact diRet_no HBD.out HBL.out
            | ok v j2 =>
              rw [hu] at hm6
              have hm7 : e = .returned (.tuple #[.int .u64 (v : Int), .int .i64 (j2 : Int), .int .i64 0]) := hm6
              subst hm7
              obtain ⟨hj2, hj3, hv⟩ := uvR_le hjm hu
              have HU := Lib.hid hu
              clear hm6 hu
              rcases hop with ⟨hi0, rfl, rfl, hj⟩ | ⟨hi1, hn1, rfl, hu1⟩ | ⟨rfl, rfl, j1, hu1, hu2⟩
              · subst hi0
                have HJ := Lib.hid hj
                clear hj
                go_wp2
                go_roundw
                case measure => simp [intOf]
                case rel =>
                  refine ⟨1, v, 0, j2, by omega, by omega, by go_num, rfl, .inr (.inl ⟨rfl, by omega, rfl, by rw [← HJ.out]; exact HU.out⟩), by omega, by omega, by simpa using HBX.out.set_ 1 (.int .u64 (v : Int)), HOx.out.farNe (fun z hz e => HNE.out (by rw [hz, e])) _, HBL.out.setCell (by show w.heap.size ≤ wo.heap.size; omega) _⟩
              · subst hi1
                have HU1 := Lib.hid hu1
                clear hu1
                go_wp2
                go_roundw
                case measure => simp [intOf]
                case rel =>
                  refine ⟨2, a, v, j2, by omega, by omega, by go_num, rfl, .inr (.inr ⟨rfl, by omega, j, HU1.out, HU.out⟩), by omega, by omega, by simpa using HBX.out.set_ 2 (.int .u64 (v : Int)), HOx.out.farNe (fun z hz e => HNE.out (by rw [hz, e])) _, HBL.out.setCell (by show w.heap.size ≤ wo.heap.size; omega) _⟩
              · omega
          · have HINS := Lib.hid (HOP.out.done HXK.out HA.out hn2 (.inr (by omega)) hin)
            have HNX := Lib.hid (HDI.out.trans (decIF_next hlt HINS.out))
            have hal1 : acc.length + 1 ≤ 100000000000 := by omega
            clear hop
            go_wp2_with (at_builtin; refine OwnL.append insSOk HOx.out ⟨(x.toNat : Int), a, b⟩ rfl _ _ rfl rfl rfl _ rfl hszx hal1 ?_; intro v5 w5 ho5 hb5; obtain ⟨A5, cap5, rfl, hq5, hq6, -⟩ := ho5.open_; have HO5 := Lib.hid ho5; have HB5 := Lib.hid hb5; clear ho5 hb5)
            go_roundg (m.length - j)
            case measure => have := HGH.out; omega
            case rel =>
              have hll : (acc ++ [(⟨(x.toNat : Int), a, b⟩ : Ins)]).length = acc.length + 1 := by simp
              exact ⟨j, f', acc ++ [⟨(x.toNat : Int), a, b⟩], A5, cap5, Nat.le_refl _, hjm, by rw [hll], rfl, by rw [hll]; omega, by omega, HNX.out, HO5.out, HBL.out.trans HB5.out⟩
    · have HEND : Hid (decI m = some acc) := Lib.hid (by
        obtain ⟨f', rfl⟩ : ∃ f', f = f' + 1 := ⟨f - 1, by omega⟩
        rw [HDI.out, decIF_end (by omega)])
      go_wp2
      go_ret2
      exact diRet_ok HEND.out HB.out HO.out
end Go.Proofs.YtmdpfikalekmlaaDoor
