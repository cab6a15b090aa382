/- Layer 4: decode and Decode. -/
import Derived.Test.YtdkalcecmdadeaaDoorRt
import Derived.Test.YtdkalcecmdadeaaDoorRo
import Derived.Test.YtdkalcecmdadeaaDoorBd
import Derived.Test.YtdkalcecmdadeaaDoorChk
namespace Go.Proofs.YtdkalcecmdadeaaDoor
open Go.RowKit
set_option maxRecDepth 100000
set_option maxHeartbeats 4000000
set_option linter.unusedSimpArgs false
set_option linter.unusedVariables false

/-- Where decode stands. -/
structure DeSt (w : World) (g : Nat) (m : List UInt8) (v : Value) (acc : List Fd) (k : Nat) (wx : World) : Prop where
  b0 : Blk wx w.heap.size 24 #[.slice none 0 0]
  b1 : Blk wx (w.heap.size + 1) 24 #[v]
  own : OwnL fdS wx (w.heap.size + 2) v acc
  rd : RdAt wx g m k
  bel : Below g w wx
  sz : w.heap.size + 2 ≤ wx.heap.size
theorem DeSt.frm {w : World} {g : Nat} {m : List UInt8} {v : Value} {acc : List Fd} {k j : Nat} {wx wy : World} (h : DeSt w g m v acc k wx) (hg : g < w.heap.size) (hf : Frm g wx wy) (hr : RdAt wy g m j) : DeSt w g m v acc j wy :=
  ⟨hf.blk h.b0 (by omega), hf.blk h.b1 (by omega), hf.own h.own (by omega), hr, h.bel.trans hf.below, by rw [hf.size]; exact h.sz⟩
theorem DeSt.facts {w : World} {g : Nat} {m : List UInt8} {v : Value} {acc : List Fd} {k : Nat} {wx : World} (h : DeSt w g m v acc k wx) :
    wx.cell? ⟨w.heap.size + 1, 0, none⟩ = some v ∧ wx.cell? ⟨w.heap.size, 0, none⟩ = some (.slice none 0 0) ∧ wx.frozen? ⟨w.heap.size + 1, 0, none⟩ = false ∧ wx.frozen? ⟨w.heap.size, 0, none⟩ = false ∧ w.heap.size + 1 < wx.heap.size :=
  ⟨h.b1.cell 0, h.b0.cell 0, h.b1.frozen 0, h.b0.frozen 0, by have := h.sz; omega⟩
/-- What decode answers. -/
def DecdRet (ea : List Addr) (g : Nat) (m : List UInt8) (w : World) (e : Ending) (w' : World) : Prop :=
  ∃ v l ev, e = .returned (.tuple #[.agg #[v], ev]) ∧ OwnL fdS w' w.heap.size v l ∧ SmallNames l ∧ Below g w w' ∧ ((decD m = .ok l ∧ ev = .nilIface) ∨ ∃ i, decD m = .error i ∧ ev = errI ea i ∧ i < 24)
theorem DeSt.done {w : World} {g : Nat} {m : List UInt8} {v : Value} {acc : List Fd} {k : Nat} {wx : World} (h : DeSt w g m v acc k wx) (hg : g < w.heap.size) (hs : SmallNames acc) {ea : List Addr} {ev : Value}
    (he : (decD m = .ok acc ∧ ev = .nilIface) ∨ ∃ i, decD m = .error i ∧ ev = errI ea i ∧ i < 24) : DecdRet ea g m w (.returned (.tuple #[.agg #[v], ev])) (wx.setCell ⟨w.heap.size, 0, none⟩ v) :=
  ⟨v, acc, ev, rfl, (h.own.far (p := ⟨w.heap.size, 0, none⟩) (by show w.heap.size < w.heap.size + 2; omega) _).more (by omega), hs, h.bel.setCell (by show g ≤ w.heap.size; omega) _, he⟩
theorem DecdRet.drewI {w : World} {g : Nat} {m : List UInt8} {ea : List Addr} {e : Ending} {wx : World} (h : DecdRet ea g m w e wx) : DecdRet ea g m w e wx.drew := by
  obtain ⟨v, l, ev, h1, h2, h3, h4, h5⟩ := h
  exact ⟨v, l, ev, h1, h2.drew, h3, h4.drew, h5⟩
def DeRel (w : World) (g : Nat) (m : List UInt8) (n : Nat) (ov iv : Value) (wr : World) : Prop :=
  ∃ (i k : Nat) (acc : List Fd) (odd : Bool) (A : Option Addr) (cap : Nat), i ≤ n ∧ iv = .int .i64 (i : Int) ∧ ov = .bool odd ∧ DeSt w g m (.slice A acc.length cap) acc k wr ∧ decL m = decGo m (n - i) k acc odd ∧ SmallNames acc ∧ acc.length = i ∧ k ≤ m.length
theorem small_snoc {acc : List Fd} {f : Fd} (h : SmallNames acc) (hf : f.name.size ≤ 32) : SmallNames (acc ++ [f]) := fun x hx => by
  rw [List.mem_append, List.mem_singleton] at hx
  rcases hx with hx | rfl
  · exact h x hx
  · unfold maxLen; omega
theorem decode_any (g : Nat) (m : List UInt8) (w : World) (ea : List Addr) (h : RdAt w g m 0) (hE : ErrLow w g ea) :
    Calls Tryd.prog 42 #[.pointer (some ⟨g, 0, none⟩)] w (DecdRet ea g m w) := by
  have hml : m.length ≤ 10000000000 := by obtain ⟨A, cap, _, _, h3, h4⟩ := h; exact h4
  have hg := h.lt
  have HE := Lib.hid hE
  have hst0 : DeSt w g m (.slice none 0 0) [] 0 ((w.alloc (.cells #[.slice none 0 0] 24)).alloc (.cells #[.slice none 0 0] 24)) :=
    ⟨(Blk.new w _ _).alloc _, by have h := Blk.new (w.alloc (.cells #[.slice none 0 0] 24)) 24 #[.slice none 0 0]; rw [World.size_alloc] at h; exact h, OwnL.nil _ _ _,
      h.below (((Below.refl _ _).alloc (by omega) _).alloc (by rw [World.size_alloc]; omega) _), ((Below.refl _ _).alloc (by omega) _).alloc (by rw [World.size_alloc]; omega) _, by rw [World.size_alloc, World.size_alloc]; omega⟩
  have HS0 := Lib.hid hst0
  clear hst0 h hE
  go_enter Tryd.func42, Tryd.ntmps42
  go_wp2_with fail
  refine (upto_any 16 (by omega) g m 0 _ ea HS0.out.rd (HE.out.below HS0.out.bel)).mono ?_
  rintro e w1 ⟨hf1, hm⟩
  cases hu : uptoR 16 m 0 with
  | no i =>
    rw [hu] at hm
    obtain ⟨rfl, hr⟩ := hm
    have HS1 := Lib.hid (HS0.out.frm hg hf1 hr)
    obtain ⟨c1, c0, z1, z0, hsz⟩ := HS1.out.facts
    have HU := Lib.hid (decD_no (decL_no hu))
    have hi24 := uptoR_no hu
    have k1 := fun W => errI_nnil ea i W
    have k2 := fun op x y W => errI_guard0 ea i op x y W
    clear hf1 hr hu
    go_wp2
    refine (bodyPost_ret (v := .tuple #[.agg #[.slice none 0 0], errI ea i]) ?_ rfl ?_)
    · simp [results, Tryd.results42, go_sem, c0, z0]
    · exact HS1.out.done hg (fun _ h => by cases h) (.inr ⟨i, HU.out, rfl, by omega⟩)
  | ok n j =>
    rw [hu] at hm
    obtain ⟨rfl, hr⟩ := hm
    have HS1 := Lib.hid (HS0.out.frm hg hf1 hr)
    obtain ⟨hj1, hj2, hn16⟩ := uptoR_le (Nat.zero_le _) hu
    have HU := Lib.hid (decL_ok hu)
    clear hf1 hr hu
    go_wp2
    go_loopw [7, 22] (fun ov iv wr => DeRel w g m n ov iv wr) (fun _ iv _ => n - (intOf iv).toNat)
    case atStart => exact ⟨0, j, [], false, none, 0, by omega, rfl, rfl, HS1.out, HU.out, fun _ h => (by cases h), rfl, hj2⟩
    case round =>
      obtain ⟨i, k, acc, odd, A, cap, hi, rfl, rfl, hst, hdl, hsm, hal, hkm⟩ := hrel
      have HS := Lib.hid hst
      have HD := Lib.hid hdl
      have HM := Lib.hid hsm
      have hlen : acc.length + 1 ≤ 100000000000 := by omega
      have HAL := Lib.hid hal
      clear hst hdl hsm hal
      by_cases hlt : i < n
      · go_wp2_with fail
        refine (rtextR_any 32 (by omega) g m k _ ea HS.out.rd (HE.out.below HS.out.bel)).mono ?_
        rintro e w2 ⟨hf2, hm2⟩
        have hni : n - i = (n - (i + 1)) + 1 := by omega
        cases ht : textR 32 m k with
        | no z =>
          rw [ht] at hm2
          obtain ⟨rfl, hr2⟩ := hm2
          have HS2 := Lib.hid (HS.out.frm hg hf2 hr2)
          obtain ⟨c1, c0, z1, z0, hsz⟩ := HS2.out.facts
          have HDD := Lib.hid (decD_no (HD.out.trans (by rw [hni, decGo_stop ht])))
          have hz24 := textR_no ht
          have k1 := fun W => errI_nnil ea z W
          have k2 := fun op x y W => errI_guard0 ea z op x y W
          clear hf2 hr2 ht
          go_wp2
          refine (bodyPost_ret (v := .tuple #[.agg #[.slice A acc.length cap], errI ea z]) ?_ rfl ?_)
          · simp [results, Tryd.results42, go_sem, c0, c1, z0]
          · exact HS2.out.done hg HM.out (.inr ⟨z, HDD.out, rfl, by omega⟩)
        | ok nm j2 =>
          rw [ht] at hm2
          obtain ⟨rfl, hr2⟩ := hm2
          have HS2 := Lib.hid (HS.out.frm hg hf2 hr2)
          obtain ⟨ht1, ht2, ht3⟩ := textR_le hkm ht
          have HT := Lib.hid ht
          clear hf2 hr2 ht
          go_wp2_with fail
          refine (rbyte_any g m j2 _ ea HS2.out.rd (HE.out.below HS2.out.bel)).mono ?_
          rintro e w3 ⟨hf3, ⟨x, hx, rfl, hr3⟩ | ⟨hx, rfl, hr3⟩⟩
          · have HS3 := Lib.hid (HS2.out.frm hg hf3 hr3)
            obtain ⟨c1, c0, z1, z0, hsz⟩ := HS3.out.facts
            have HDD := Lib.hid (HD.out.trans (by rw [hni, decGo_next HT.out hx]))
            have hj3 : j2 < m.length := (List.getElem?_eq_some_iff.1 hx).1
            have hx256 := x.toNat_lt
            have a3 := and_3 x
            have a4 := and_4 x
            have a8 := and_8 x
            have a16 := and_16 x
            have HF : Hid (fdOf nm x = ⟨str nm, ((x.toNat % 4 : Nat) : Int), decide (x.toNat / 4 % 2 = 1), decide (x.toNat / 8 % 2 = 1), decide (x.toNat / 16 % 2 = 1)⟩) := Lib.hid rfl
            obtain ⟨q, hq, hq4⟩ : ∃ q : Nat, x.toNat % 4 = q ∧ q < 4 := ⟨_, rfl, by omega⟩
            rw [hq] at a3 HF
            generalize decide (x.toNat / 4 % 2 = 1) = f4 at *
            generalize decide (x.toNat / 8 % 2 = 1) = f8 at *
            generalize decide (x.toNat / 16 % 2 = 1) = f16 at *
            have hsz2 : w.heap.size + 2 ≤ w3.heap.size := HS3.out.sz
            obtain ⟨od, hod⟩ : ∃ od, (odd || decide (31 < x.toNat)) = od := ⟨_, rfl⟩
            rw [hod] at HDD
            clear hf3 hr3 hx hq
            have hodd : (odd = true ∧ od = true) ∨ (odd = false ∧ 31 < (x.toNat : Int) ∧ od = true) ∨ (odd = false ∧ ((x.toNat : Int) ≤ 31 ∧ decide (31 < (x.toNat : Int)) = false) ∧ od = false) := by
              cases odd
              · by_cases hx31 : 31 < x.toNat
                · exact .inr (.inl ⟨rfl, by omega, by rw [← hod]; simp [hx31]⟩)
                · exact .inr (.inr ⟨rfl, ⟨by omega, decide_eq_false (by omega)⟩, by rw [← hod]; simp [hx31]⟩)
              · exact .inl ⟨rfl, by rw [← hod]; rfl⟩
            clear hod
            rcases hodd with ⟨rfl, rfl⟩ | ⟨rfl, hx31, rfl⟩ | ⟨rfl, ⟨hx31, hxd⟩, rfl⟩
            all_goals
              go_wp2_with (at_builtin; refine OwnL.append fdOk HS3.out.own ⟨str nm, (q : Int), f4, f8, f16⟩ rfl _ _ rfl rfl rfl _ rfl hsz2 hlen ?_; intro v5 w5 ho5 hb5; obtain ⟨A5, cap5, rfl, hq5, hq6, -⟩ := ho5.open_; have HO5 := Lib.hid ho5; have HB5 := Lib.hid hb5; have z5 := (HS3.out.b1.below hb5 (Nat.lt_succ_self _)).frozen 0; have c5 := (HS3.out.b1.below hb5 (Nat.lt_succ_self _)).cell 0; clear ho5 hb5)
              go_roundw
              case measure => simp [intOf]; omega
              case rel =>
                have hb0 := HS3.out.b0.below HB5.out (show w.heap.size < w.heap.size + 2 by omega)
                have hb1 := HS3.out.b1.below HB5.out (show w.heap.size + 1 < w.heap.size + 2 by omega)
                have hbel : Below g w (w5.setCell ⟨w.heap.size + 1, 0, none⟩ (.slice A5 (acc.length + 1) cap5)) := (HS3.out.bel.trans (HB5.out.mono (by omega))).setCell (p := ⟨w.heap.size + 1, 0, none⟩) (show g ≤ w.heap.size + 1 by omega) (.slice A5 (acc.length + 1) cap5)
                have hll : (acc ++ [(⟨str nm, (q : Int), f4, f8, f16⟩ : Fd)]).length = acc.length + 1 := by simp
                have hbs : Below (w.heap.size + 1) w3 (w5.setCell ⟨w.heap.size + 1, 0, none⟩ (.slice A5 (acc.length + 1) cap5)) := (HB5.out.mono (show w.heap.size + 1 ≤ w.heap.size + 2 by omega)).setCell (p := ⟨w.heap.size + 1, 0, none⟩) (Nat.le_refl _) _
                refine ⟨i + 1, j2 + 1, acc ++ [⟨str nm, (q : Int), f4, f8, f16⟩], _, A5, cap5, by omega, by go_num, rfl, ⟨?_, ?_, ?_, ?_, hbel, ?_⟩, ?_, ?_, by rw [hll, HAL.out], by omega⟩
                · exact hb0.far (by show w.heap.size ≠ w.heap.size + 1; omega) _
                · rw [hll]; exact hb1.set_ 0 _
                · have h := HO5.out.far (p := ⟨w.heap.size + 1, 0, none⟩) (by show w.heap.size + 1 < w.heap.size + 2; omega) (.slice A5 (acc.length + 1) cap5)
                  rw [hll] at h ⊢; exact h
                · exact HS3.out.rd.below (hbs.mono (by omega))
                · have := HB5.out.size
                  simp only [World.setCell, World.size_alloc] at *
                  simp; omega
                · rw [HF.out] at HDD; exact HDD.out
                · exact small_snoc HM.out (by show nm.length ≤ 32; exact ht3)
          · have HS3 := Lib.hid (HS2.out.frm hg hf3 hr3)
            obtain ⟨c1, c0, z1, z0, hsz⟩ := HS3.out.facts
            have HDD := Lib.hid (decD_no (HD.out.trans (by rw [hni, decGo_short HT.out hx])))
            have k1 := fun W => errI_nnil ea 0 W
            have k2 := fun op x y W => errI_guard0 ea 0 op x y W
            clear hf3 hr3 hx
            go_wp2
            refine (bodyPost_ret (v := .tuple #[.agg #[.slice A acc.length cap], errI ea 0]) ?_ rfl ?_)
            · simp [results, Tryd.results42, go_sem, c0, c1, z0]
            · exact HS3.out.done hg HM.out (.inr ⟨0, HDD.out, rfl, by omega⟩)
      · have HDD := Lib.hid (decD_ok (HD.out.trans (by rw [show n - i = 0 from by omega]; rfl)))
        go_wp2_with fail
        refine (done_any g m k _ ea HS.out.rd (HE.out.below HS.out.bel)).mono ?_
        rintro e w2 ⟨rfl, hf2, hr2⟩
        have HS2 := Lib.hid (HS.out.frm hg hf2 hr2)
        obtain ⟨c1, c0, z1, z0, hsz⟩ := HS2.out.facts
        have cE : w2.cell? ⟨0, 0, none⟩ = some (errI ea 10) := (HE.out.below HS2.out.bel).cell 10 (by decide)
        clear hf2 hr2
        by_cases hke : k < m.length
        · rw [if_pos hke] at HDD ⊢
          have k1 := fun W => errI_nnil ea 4 W
          have k2 := fun op x y W => errI_guard0 ea 4 op x y W
          go_wp2
          refine (bodyPost_ret (v := .tuple #[.agg #[.slice A acc.length cap], errI ea 4]) ?_ rfl ?_)
          · simp [results, Tryd.results42, go_sem, c0, c1, z0]
          · exact HS2.out.done hg HM.out (.inr ⟨4, HDD.out, rfl, by omega⟩)
        · rw [if_neg hke] at HDD ⊢
          cases odd
          · go_wp2
            refine (bodyPost_ret (v := .tuple #[.agg #[.slice A acc.length cap], .nilIface]) ?_ rfl ?_)
            · simp [results, Tryd.results42, go_sem, c0, c1, z0]
            · exact HS2.out.done hg HM.out (.inl ⟨HDD.out, rfl⟩)
          · go_wp2
            go_region
            go_wp2
            refine (bodyPost_ret (v := .tuple #[.agg #[.slice A acc.length cap], errI ea 10]) ?_ rfl ?_)
            · simp [results, Tryd.results42, go_sem, c0, c1, z0]
            · exact (HS2.out.done hg HM.out (.inr ⟨10, HDD.out, rfl, by omega⟩)).drewI
end Go.Proofs.YtdkalcecmdadeaaDoor
