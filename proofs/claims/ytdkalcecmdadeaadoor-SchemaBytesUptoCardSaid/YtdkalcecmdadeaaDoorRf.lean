/- Layer 4, the reference: Decode. -/
import Derived.Test.YtdkalcecmdadeaaDoorRh
import Derived.Test.YtdkalcecmdadeaaDoorDf
import Derived.Test.YtdkalcecmdadeaaDoorRck
namespace Go.Proofs.YtdkalcecmdadeaaDoor
open Go.RowKit
set_option maxRecDepth 100000
set_option maxHeartbeats 4000000
set_option linter.unusedSimpArgs false
set_option linter.unusedVariables false

theorem rem_4 (x : UInt8) : (x.toNat : Int) % 4 = ((x.toNat % 4 : Nat) : Int) := by omega
structure RfSt (w : World) (v : Value) (acc : List Fd) (wx : World) : Prop where
  b0 : Blk wx w.heap.size 24 #[.slice none 0 0]
  b1 : Blk wx (w.heap.size + 1) 24 #[v]
  own : OwnL fdS wx (w.heap.size + 2) v acc
  bel : Below w.heap.size w wx
  sz : w.heap.size + 2 ≤ wx.heap.size
theorem RfSt.facts {w : World} {v : Value} {acc : List Fd} {wx : World} (h : RfSt w v acc wx) :
    wx.cell? ⟨w.heap.size + 1, 0, none⟩ = some v ∧ wx.cell? ⟨w.heap.size, 0, none⟩ = some (.slice none 0 0) ∧ wx.frozen? ⟨w.heap.size + 1, 0, none⟩ = false ∧ wx.frozen? ⟨w.heap.size, 0, none⟩ = false ∧ w.heap.size + 1 < wx.heap.size :=
  ⟨h.b1.cell 0, h.b0.cell 0, h.b1.frozen 0, h.b0.frozen 0, by have := h.sz; omega⟩
theorem RfSt.belowW {w : World} {v : Value} {acc : List Fd} {wx wy : World} (h : RfSt w v acc wx) (hb : Below wx.heap.size wx wy) : RfSt w v acc wy :=
  ⟨h.b0.belowW hb, h.b1.belowW hb, h.own.below hb, h.bel.trans (hb.mono (by have := h.sz; omega)), by have := h.sz; have := hb.size; omega⟩
def badN (i : Nat) : Value := .int .i64 ((i : Int) + 1)
def RfRel (m : List UInt8) (n : Nat) (w : World) (av bv iv : Value) (wr : World) : Prop :=
  ∃ (i k : Nat) (acc : List Fd) (odd : Bool) (A : Option Addr) (cap : Nat), i ≤ n ∧ iv = .int .i64 (i : Int) ∧ av = .int .i64 (k : Int) ∧ bv = .bool odd ∧ RfSt w (.slice A acc.length cap) acc wr ∧ decL m = decGo m (n - i) k acc odd ∧ SmallNames acc ∧ acc.length = i ∧ k ≤ m.length
theorem rdecode_any (x : Value) (m : List UInt8) (w : World) (hx : RdL byteS w w.heap.size x m) (hm : m.length ≤ 10000000000) :
    Calls Tryd.prog 25 #[x] w (DecRet badN (.int .i64 0) m w) := by
  obtain ⟨A0, cap0, rfl, h1, h2⟩ := hx.open_
  have HX := Lib.hid hx
  clear hx
  go_enter Tryd.func25, Tryd.ntmps25
  go_wp2_with fail
  have hb0 : Below w.heap.size w (w.alloc (.cells #[.slice none 0 0] 24)) := (Below.refl _ _).alloc (Nat.le_refl _) _
  refine (gupto_any 16 (by omega) (.slice A0 m.length cap0) m 0 _ w.heap.size (HX.out.below hb0) (Nat.zero_le _) hm).mono ?_
  rintro e w1 ⟨rfl, hr⟩
  cases hu : uptoR 16 m 0 with
  | no i =>
    rw [hu] at hr
    have hr2 : e = .returned (.tuple #[.int .i64 0, .int .i64 ((0 : Nat) : Int), .int .i64 ((i : Int) + 1)]) := hr
    subst hr2
    have HU := Lib.hid (decS_no (decD_no (decL_no hu)))
    have hi := uptoR_no hu
    have hib : ((i : Int) + 1 == 0) = false := by rw [beq_eq_false_iff_ne]; omega
    have HB0 := Lib.hid hb0
    clear hr hu
    go_wp2
    refine (bodyPost_ret (v := .tuple #[.agg #[.slice none 0 0], badN i]) ?_ rfl ?_)
    · simp [results, Tryd.results25, go_sem, badN]
    · refine decRet_no HU.out (by omega) ?_
      first | exact HB0.out.setCell (Nat.le_refl _) _ | exact HB0.out
  | ok n j =>
    rw [hu] at hr
    have hr2 : e = .returned (.tuple #[.int .i64 (n : Int), .int .i64 (j : Int), .int .i64 0]) := hr
    subst hr2
    obtain ⟨hj1, hj2, hn16⟩ := uptoR_le (Nat.zero_le _) hu
    have HU := Lib.hid (decL_ok hu)
    have HS1 : Hid (RfSt w (.slice none 0 0) [] ((w.alloc (.cells #[.slice none 0 0] 24)).alloc (.cells #[.slice none 0 0] 24))) :=
      Lib.hid ⟨(Blk.new w _ _).alloc _, by have h := Blk.new (w.alloc (.cells #[.slice none 0 0] 24)) 24 #[.slice none 0 0]; rw [World.size_alloc] at h; exact h, OwnL.nil _ _ _,
        hb0.alloc (by rw [World.size_alloc]; omega) _, by rw [World.size_alloc, World.size_alloc]; omega⟩
    clear hr hu
    go_wp2
    go_loopw [5, 8, 9] (fun av bv iv wr => RfRel m n w av bv iv wr) (fun _ _ iv _ => n - (intOf iv).toNat)
    case atStart => exact ⟨0, j, [], false, none, 0, by omega, rfl, rfl, rfl, HS1.out, HU.out, fun _ h => (by cases h), rfl, hj2⟩
    case round =>
      obtain ⟨i, k, acc, odd, A, cap, hi, rfl, rfl, rfl, hst, hdl, hsm, hal, hkm⟩ := hrel
      have HS := Lib.hid hst
      have HD := Lib.hid hdl
      have HM := Lib.hid hsm
      have HAL := Lib.hid hal
      have hlen : acc.length + 1 ≤ 100000000000 := by omega
      have HXr := Lib.hid (HX.out.below hst.bel)
      obtain ⟨c1, c0, z1, z0, hsz⟩ := hst.facts
      clear hst hdl hsm hal
      by_cases hlt : i < n
      · have hni : n - i = (n - (i + 1)) + 1 := by omega
        go_wp2_with fail
        refine (gtext_any 32 (by omega) (.slice A0 m.length cap0) m k _ w.heap.size HXr.out hkm hm).mono ?_
        rintro e w2 ⟨rfl, hr⟩
        cases ht : textR 32 m k with
        | no z =>
          rw [ht] at hr
          have hr2 : e = .returned (.tuple #[.string ⟨#[]⟩, .int .i64 (k : Int), .int .i64 ((z : Int) + 1)]) := hr
          subst hr2
          have HDD := Lib.hid (decS_no (decD_no (HD.out.trans (by rw [hni, decGo_stop ht]))))
          have hz24 := textR_no ht
          have hzb : ((z : Int) + 1 == 0) = false := by rw [beq_eq_false_iff_ne]; omega
          clear hr ht
          go_wp2
          refine (bodyPost_ret (v := .tuple #[.agg #[.slice none 0 0], badN z]) ?_ rfl ?_)
          · simp [results, Tryd.results25, go_sem, c0, z0, badN]
          · exact decRet_no HDD.out (by omega) (HS.out.bel.setCell (Nat.le_refl _) _)
        | ok nm j2 =>
          rw [ht] at hr
          have hr2 : e = .returned (.tuple #[.string (str nm), .int .i64 (j2 : Int), .int .i64 0]) := hr
          subst hr2
          obtain ⟨ht1, ht2, ht3⟩ := textR_le hkm ht
          have HT := Lib.hid ht
          clear hr ht
          go_wp2_with fail
          refine (gbyte_any (.slice A0 m.length cap0) m j2 _ w.heap.size HXr.out ht2 hm).mono ?_
          rintro e w3 ⟨rfl, ⟨x, hx, rfl⟩ | ⟨hx, rfl⟩⟩
          · have HDD := Lib.hid (HD.out.trans (by rw [hni, decGo_next HT.out hx]))
            have hj3 : j2 < m.length := (List.getElem?_eq_some_iff.1 hx).1
            have hx256 := x.toNat_lt
            have HF : Hid (fdOf nm x = ⟨str nm, ((x.toNat % 4 : Nat) : Int), decide (x.toNat / 4 % 2 = 1), decide (x.toNat / 8 % 2 = 1), decide (x.toNat / 16 % 2 = 1)⟩) := Lib.hid rfl
            have a3 := rem_4 x
            have a4 : ((x.toNat : Int) / 4 % 2 == 1) = decide (x.toNat / 4 % 2 = 1) := by rw [Bool.eq_iff_iff]; simp; omega
            have a8 : ((x.toNat : Int) / 8 % 2 == 1) = decide (x.toNat / 8 % 2 = 1) := by rw [Bool.eq_iff_iff]; simp; omega
            have a16 : ((x.toNat : Int) / 16 % 2 == 1) = decide (x.toNat / 16 % 2 = 1) := by rw [Bool.eq_iff_iff]; simp; omega
            obtain ⟨q, hq, hq4⟩ : ∃ q : Nat, x.toNat % 4 = q ∧ q < 4 := ⟨_, rfl, by omega⟩
            rw [hq] at a3 HF
            generalize decide (x.toNat / 4 % 2 = 1) = f4 at *
            generalize decide (x.toNat / 8 % 2 = 1) = f8 at *
            generalize decide (x.toNat / 16 % 2 = 1) = f16 at *
            have hsz2 : w.heap.size + 2 ≤ wr.heap.size := HS.out.sz
            obtain ⟨od, hod⟩ : ∃ od, (odd || decide (31 < x.toNat)) = od := ⟨_, rfl⟩
            rw [hod] at HDD
            clear hx hq
            have hodd : (odd = true ∧ od = true) ∨ (odd = false ∧ 31 < (x.toNat : Int) ∧ od = true) ∨ (odd = false ∧ ((x.toNat : Int) ≤ 31 ∧ decide (31 < (x.toNat : Int)) = false) ∧ od = false) := by
              cases odd
              · by_cases hx31 : 31 < x.toNat
                · exact .inr (.inl ⟨rfl, by omega, by rw [← hod]; simp [hx31]⟩)
                · exact .inr (.inr ⟨rfl, ⟨by omega, decide_eq_false (by omega)⟩, by rw [← hod]; simp [hx31]⟩)
              · exact .inl ⟨rfl, by rw [← hod]; rfl⟩
            clear hod
            rcases hodd with ⟨rfl, rfl⟩ | ⟨rfl, hx31, rfl⟩ | ⟨rfl, ⟨hx31, hxd⟩, rfl⟩
            all_goals
              go_wp2_with (at_builtin; refine OwnL.append fdOk HS.out.own ⟨str nm, (q : Int), f4, f8, f16⟩ rfl _ _ rfl rfl rfl _ rfl hsz2 hlen ?_; intro v5 w5 ho5 hb5; obtain ⟨A5, cap5, rfl, hq5, hq6, -⟩ := ho5.open_; have HO5 := Lib.hid ho5; have HB5 := Lib.hid hb5; have z5 := (HS.out.b1.below hb5 (Nat.lt_succ_self _)).frozen 0; have c5 := (HS.out.b1.below hb5 (Nat.lt_succ_self _)).cell 0; clear ho5 hb5)
              go_roundw
              case measure => simp [intOf]; omega
              case rel =>
                have hb0 := HS.out.b0.below HB5.out (show w.heap.size < w.heap.size + 2 by omega)
                have hb1 := HS.out.b1.below HB5.out (show w.heap.size + 1 < w.heap.size + 2 by omega)
                have hbel : Below w.heap.size w (w5.setCell ⟨w.heap.size + 1, 0, none⟩ (.slice A5 (acc.length + 1) cap5)) := (HS.out.bel.trans (HB5.out.mono (by omega))).setCell (p := ⟨w.heap.size + 1, 0, none⟩) (show w.heap.size ≤ w.heap.size + 1 by omega) (.slice A5 (acc.length + 1) cap5)
                have hll : (acc ++ [(⟨str nm, (q : Int), f4, f8, f16⟩ : Fd)]).length = acc.length + 1 := by simp
                refine ⟨i + 1, j2 + 1, acc ++ [⟨str nm, (q : Int), f4, f8, f16⟩], _, A5, cap5, by omega, by go_num, by go_num, rfl, ⟨?_, ?_, ?_, hbel, ?_⟩, ?_, ?_, by rw [hll, HAL.out], by omega⟩
                · exact hb0.far (by show w.heap.size ≠ w.heap.size + 1; omega) _
                · rw [hll]; exact hb1.set_ 0 _
                · have h := HO5.out.far (p := ⟨w.heap.size + 1, 0, none⟩) (by show w.heap.size + 1 < w.heap.size + 2; omega) (.slice A5 (acc.length + 1) cap5)
                  rw [hll] at h ⊢; exact h
                · have := HB5.out.size
                  simp only [World.setCell, World.size_alloc] at *
                  simp; omega
                · rw [HF.out] at HDD; exact HDD.out
                · exact small_snoc HM.out (by show nm.length ≤ 32; exact ht3)
          · have HDD := Lib.hid (decS_no (decD_no (HD.out.trans (by rw [hni, decGo_short HT.out hx]))))
            clear hx
            go_wp2
            refine (bodyPost_ret (v := .tuple #[.agg #[.slice none 0 0], badN 0]) ?_ rfl ?_)
            · simp [results, Tryd.results25, go_sem, c0, z0, badN]
            · exact decRet_no HDD.out (by omega) (HS.out.bel.setCell (Nat.le_refl _) _)
      · have HDD := Lib.hid (decD_ok (HD.out.trans (by rw [show n - i = 0 from by omega]; rfl)))
        by_cases hke : k < m.length
        · rw [if_pos hke] at HDD
          have HD2 := Lib.hid (decS_no HDD.out)
          go_wp2
          refine (bodyPost_ret (v := .tuple #[.agg #[.slice none 0 0], badN 4]) ?_ rfl ?_)
          · simp [results, Tryd.results25, go_sem, c0, z0, badN]
          · exact decRet_no HD2.out (by omega) (HS.out.bel.setCell (Nat.le_refl _) _)
        · rw [if_neg hke] at HDD
          cases odd
          · have HD2 := Lib.hid (decS_ok HDD.out)
            go_wp2_with fail
            refine (rcheck_any (.slice A acc.length cap) acc _ _ (Nat.le_refl _) (RdL.of_own HS.out.own)).mono ?_
            rintro e w4 ⟨he, hb4⟩
            have HS4 := Lib.hid (HS.out.belowW hb4)
            clear hb4 c0 c1 z0 z1 hsz
            obtain ⟨c1, c0, z1, z0, hsz⟩ := HS4.out.facts
            cases hck : chkL acc with
            | true =>
              rw [hck] at he HD2
              simp only [if_true] at he
              subst he
              have HD3 := Lib.hid (HD2.out.trans (if_pos rfl))
              clear hck
              go_wp2
              refine (bodyPost_ret (v := .tuple #[.agg #[.slice A acc.length cap], .int .i64 0]) ?_ rfl ?_)
              · simp [results, Tryd.results25, go_sem, c0, c1, z0]
              · exact decRet_ok HD3.out (HS4.out.bel.setCell (Nat.le_refl _) _) ((HS4.out.own.far (p := ⟨w.heap.size, 0, none⟩) (by show w.heap.size < w.heap.size + 2; omega) _).more (by omega))
            | false =>
              rw [hck] at he HD2
              simp only [Bool.false_eq_true, if_false] at he
              subst he
              have HD3 := Lib.hid (HD2.out.trans (if_neg (by decide)))
              clear hck
              go_wp2
              refine (bodyPost_ret (v := .tuple #[.agg #[.slice none 0 0], badN 10]) ?_ rfl ?_)
              · simp [results, Tryd.results25, go_sem, c0, z0, badN]
              · exact decRet_no HD3.out (by omega) (HS4.out.bel.setCell (Nat.le_refl _) _)
          · have HD2 := Lib.hid (decS_no HDD.out)
            go_wp2
            refine (bodyPost_ret (v := .tuple #[.agg #[.slice none 0 0], badN 10]) ?_ rfl ?_)
            · simp [results, Tryd.results25, go_sem, c0, z0, badN]
            · exact decRet_no HD2.out (by omega) (HS.out.bel.setCell (Nat.le_refl _) _)
end Go.Proofs.YtdkalcecmdadeaaDoor
