/- Layer 20: Decode. -/
import Derived.Test.YtmdpfikalekmlaaGreatDoorIf
import Derived.Test.YtmdpfikalekmlaaGreatDoorRu
import Derived.Test.YtmdpfikalekmlaaGreatDoorOwnL
namespace Go.Proofs.YtmdpfikalekmlaaGreatDoor
open Go.RowKit
set_option maxRecDepth 100000
set_option maxHeartbeats 4000000
set_option linter.unusedSimpArgs false
set_option linter.unusedVariables false

def DiRet (bad ok : Value) (m : List UInt8) (w : World) (e : Ending) (w' : World) : Prop :=
  Below w.heap.size w w' ∧ match decI m with
    | some l => ∃ v, e = .returned (.tuple #[v, ok]) ∧ OwnL insS w' w.heap.size v l
    | none => e = .returned (.tuple #[.slice none 0 0, bad])
theorem diRet_ok {bad ok v : Value} {m : List UInt8} {w w' : World} {l : List Ins} (h : decI m = some l) (hb : Below w.heap.size w w') (ho : OwnL insS w' w.heap.size v l) : DiRet bad ok m w (.returned (.tuple #[v, ok])) w' := by
  refine ⟨hb, ?_⟩
  rw [h]; exact ⟨v, rfl, ho⟩
theorem diRet_no {bad ok : Value} {m : List UInt8} {w w' : World} (h : decI m = none) (hb : Below w.heap.size w w') : DiRet bad ok m w (.returned (.tuple #[.slice none 0 0, bad])) w' := by
  refine ⟨hb, ?_⟩
  rw [h]
def DiRel (m : List UInt8) (g C : Nat) (w : World) (gh : Nat) (ov : Value) (wr : World) : Prop :=
  ∃ (k f : Nat) (acc : List Ins) (A : Option Addr) (cap : Nat), m.length - k ≤ gh ∧ k ≤ m.length ∧ ov = .slice A acc.length cap ∧ acc.length ≤ k ∧ m.length - k < f ∧ decI m = decIF m f k acc ∧ OwnL insS wr C (.slice A acc.length cap) acc ∧ RdAt wr g m k ∧ Below w.heap.size w wr ∧ C ≤ wr.heap.size
/-- Which operands have been read. -/
def OpSt (m : List UInt8) (k n i a b j : Nat) : Prop :=
  (i = 0 ∧ a = 0 ∧ b = 0 ∧ j = k + 1) ∨ (i = 1 ∧ 1 ≤ n ∧ b = 0 ∧ uvR m (k + 1) = .ok a j) ∨ (i = 2 ∧ n = 2 ∧ ∃ j1, uvR m (k + 1) = .ok a j1 ∧ uvR m j1 = .ok b j)
theorem OpSt.le {m : List UInt8} {k n i a b j : Nat} (h : OpSt m k n i a b j) (hk : k < m.length) : k < j ∧ j ≤ m.length := by
  rcases h with ⟨_, _, _, rfl⟩ | ⟨_, _, _, h⟩ | ⟨_, _, j1, h1, h2⟩
  · exact ⟨by omega, by omega⟩
  · have := uvR_le (by omega) h; omega
  · have h3 := uvR_le (by omega) h1
    have h4 := uvR_le (by omega) h2
    omega
theorem OpSt.done {m : List UInt8} {k n i a b j : Nat} {x : UInt8} (h : OpSt m k n i a b j) (hx : m[k]? = some x) (ha : argsN (x.toNat : Int) = some n) (hn : n ≤ 2) (hi : i = 2 ∨ n ≤ i) (hin : i ≤ n) : insR m k = some (⟨x.toNat, a, b⟩, j) := by
  rcases h with ⟨rfl, rfl, rfl, rfl⟩ | ⟨rfl, _, rfl, h⟩ | ⟨rfl, rfl, j1, h1, h2⟩
  · obtain rfl : n = 0 := by omega
    exact insR_0 hx ha
  · obtain rfl : n = 1 := by omega
    exact insR_1 hx ha h
  · exact insR_2 hx ha h1 h2
theorem OpSt.bad {m : List UInt8} {k n i a b j z : Nat} {x : UInt8} (h : OpSt m k n i a b j) (hx : m[k]? = some x) (ha : argsN (x.toNat : Int) = some n) (hn : n ≤ 2) (hi : i < n) (hu : uvR m j = .no z) : insR m k = none := by
  rcases h with ⟨rfl, rfl, rfl, rfl⟩ | ⟨rfl, _, rfl, h⟩ | ⟨rfl, rfl, j1, h1, h2⟩
  · obtain ⟨n', rfl⟩ : ∃ n', n = n' + 1 := ⟨n - 1, by omega⟩
    exact insR_no hx ha hu
  · obtain rfl : n = 2 := by omega
    exact insR_no2 hx ha h hu
  · omega
def DjRel (m : List UInt8) (g C k n : Nat) (x : UInt8) (bx : Nat) (w : World) (ov : Value) (acc : List Ins) (iv : Value) (wx : World) : Prop :=
  ∃ i a b j : Nat, i ≤ n ∧ i ≤ 2 ∧ iv = .int .i64 (i : Int) ∧ OpSt m k n i a b j ∧ a < 18446744073709551616 ∧ b < 18446744073709551616 ∧
    Blk wx bx 43 #[.int .i64 (x.toNat : Int), .int .u64 (a : Int), .int .u64 (b : Int)] ∧ Blk wx (bx + 1) 121 #[.pointer (some ⟨bx, 1, none⟩), .pointer (some ⟨bx, 2, none⟩)] ∧
    OwnL insS wx C ov acc ∧ RdAt wx g m j ∧ Below w.heap.size w wx ∧ C ≤ bx
theorem idecode_any (x : Value) (m : List UInt8) (w : World) (ea : List Addr) (hx : RdL byteS w w.heap.size x m) (hm : m.length ≤ 100000000) (hE : ErrFew w ea) (hT : TabEnv w) :
    Calls Tryz.prog 32 #[x] w (DiRet (errI ea 20) .nilIface m w) := by
  obtain ⟨A0, cap0, rfl, h1, h2⟩ := hx.open_
  have HX := Lib.hid hx
  have HE := Lib.hid hE
  have HT := Lib.hid hT
  clear hx hE hT
  go_enter Tryz.func32, Tryz.ntmps32
  go_wp2_with fail
  refine (newReader_any _ m w HX.out (by omega)).mono ?_
  rintro e w1 ⟨g, rfl, hg, hr, hb1⟩
  have HW1 := Lib.hid hb1
  have HR1 := Lib.hid hr
  have hg1 := hr.lt
  obtain ⟨C, hC⟩ : ∃ C, C = w1.heap.size := ⟨_, rfl⟩
  have hgC : g < C := by omega
  have hwC : w.heap.size ≤ C := by omega
  clear hb1 hr
  go_wp2
  go_loopg [4] (m.length) (fun gh ov wr => DiRel m g C w gh ov wr)
  case atStart => exact ⟨0, m.length + 1, [], none, 0, by omega, Nat.zero_le _, rfl, Nat.le_refl _, by omega, rfl, OwnL.nil _ _ _, HR1.out, HW1.out, by omega⟩
  case round =>
    obtain ⟨k, f, acc, A, cap, hgh, hkm, rfl, hak, hf, hdi, ho, hr, hbl, hCs⟩ := hrel
    obtain ⟨wo, rfl⟩ : ∃ wo : World, wo = wr := ⟨_, rfl⟩
    have HDI := Lib.hid hdi
    have HO := Lib.hid ho
    have HR := Lib.hid hr
    have HB := Lib.hid hbl
    have HEr := Lib.hid (HE.out.below hbl)
    have HGH := Lib.hid hgh
    clear hdi ho hr hbl hgh
    go_wp2_with fail
    refine (left_any g m k _ HR.out).mono ?_
    rintro e w2 ⟨rfl, hf2, hr2⟩
    have HR2 := Lib.hid hr2
    have HB2 := Lib.hid (HB.out.trans (hf2.below.mono hg))
    have HO2 := Lib.hid (hf2.own HO.out hgC)
    have hz2 : C ≤ w2.heap.size := by rw [hf2.size]; exact hCs
    clear hf2 hr2
    obtain ⟨d, hd⟩ : ∃ d, d = m.length - k := ⟨_, rfl⟩
    rw [← hd]
    by_cases hlt : k < m.length
    · obtain ⟨f', rfl⟩ : ∃ f', f = f' + 1 := ⟨f - 1, by omega⟩
      have hd0 : 0 < d := by omega
      have HDD := Lib.hid hd
      clear hd
      go_wp2_with fail
      refine (rbyte_any g m k _ ea HR2.out ⟨w, HE.out, hg, HB2.out⟩).mono ?_
      rintro e w3 ⟨hf3, ⟨x, hx, rfl, hr3⟩ | ⟨hx, rfl, hr3⟩⟩
      · have HR3 := Lib.hid hr3
        have HXK := Lib.hid hx
        have HB3 := Lib.hid (HB2.out.trans (hf3.below.mono hg))
        have HO3 := Lib.hid (hf3.own HO2.out hgC)
        have hz3 : C ≤ w3.heap.size := by rw [hf3.size]; exact hz2
        have hxl := x.toNat_lt
        clear hf3 hr3 hx
        have hb4 : Below w3.heap.size w3 (w3.alloc (.cells #[.int .i64 (x.toNat : Int), .int .u64 0, .int .u64 0] 43)) := (Below.refl _ _).alloc (Nat.le_refl _) _
        have HT4 := Lib.hid (HT.out.below (HB3.out.trans (hb4.mono HB3.out.size)))
        have HE4 := Lib.hid (HE.out.below (HB3.out.trans (hb4.mono HB3.out.size)))
        have HE3 := Lib.hid (HE.out.below HB3.out)
        have cE : w3.cell? ⟨16, 0, none⟩ = some (errI ea 20) := HE3.out.cell 20 (by decide)
        have cEz : 16 < w3.heap.size := World.block_lt_of_cell? w3 ⟨16, 0, none⟩ cE
        clear hb4
        go_wp2_with fail
        refine (args_any (x.toNat : Int) _ HT4.out).mono ?_
        rintro e w4 ⟨rfl, he⟩
        cases ha : argsN (x.toNat : Int) with
        | none =>
          rw [ha] at he
          subst he
          have HBD := Lib.hid (HDI.out.trans (decIF_bad hlt (insR_op HXK.out ha)))
          clear ha
          go_wp2
          go_region
          go_wp2
          go_ret2
          exact diRet_no HBD.out (HB3.out.alloc HB3.out.size _).drew
        | some n =>
          rw [ha] at he
          subst he
          obtain ⟨h0, h17, -, hn2⟩ := argsN_some ha
          have HA := Lib.hid ha
          have HNE := Lib.hid (HO3.out.ne_new (Nat.le_refl w3.heap.size))
          have hgn : g ≠ w3.heap.size := by omega
          have hgn1 : g ≠ w3.heap.size + 1 := by omega
          clear ha cE cEz
          go_wp2
          go_loopw [43] (fun iv wx => DjRel m g C k n x w3.heap.size w (.slice A acc.length cap) acc iv wx) (fun iv _ => 2 - (intOf iv).toNat)
          case atStart =>
            have hbb : Below w3.heap.size w3 ((w3.alloc (.cells #[.int .i64 (x.toNat : Int), .int .u64 0, .int .u64 0] 43)).alloc (.cells #[.pointer (some ⟨w3.heap.size, 1, none⟩), .pointer (some ⟨w3.heap.size, 2, none⟩)] 121)) := ((Below.refl _ _).alloc (Nat.le_refl _) _).alloc (by rw [World.size_alloc]; omega) _
            refine ⟨0, 0, 0, k + 1, by omega, by omega, rfl, .inl ⟨rfl, rfl, rfl, rfl⟩, by omega, by omega, (Blk.new w3 _ _).alloc _, ?_, HO3.out.below hbb, HR3.out.below (hbb.mono (by have := HR3.out.lt; omega)), HB3.out.trans (hbb.mono HB3.out.size), hz3⟩
            have h := Blk.new (w3.alloc (.cells #[.int .i64 (x.toNat : Int), .int .u64 0, .int .u64 0] 43)) 121 #[.pointer (some ⟨w3.heap.size, 1, none⟩), .pointer (some ⟨w3.heap.size, 2, none⟩)]
            rw [World.size_alloc] at h
            exact h
          case round =>
            obtain ⟨i, a, b, j, hin, hi2, rfl, hop, ha64, hb64, hbx, hbp, ho, hr, hbl, hCb⟩ := hrel
            have HBX := Lib.hid hbx
            have HBP := Lib.hid hbp
            have HOx := Lib.hid ho
            have HRx := Lib.hid hr
            have HBL := Lib.hid hbl
            have c0 := hbx.cell 0
            have c1 := hbx.cell 1
            have c2 := hbx.cell 2
            have p0 := hbp.cell 0
            have p1 := hbp.cell 1
            simp only [List.getElem?_toArray, List.getElem?_cons_zero, List.getElem?_cons_succ] at c0 c1 c2 p0 p1
            clear hbx hbp ho hr hbl
            have HOP := Lib.hid hop
            rcases hop with ⟨rfl, rfl, rfl, hj⟩ | ⟨rfl, hn1, rfl, hu1⟩ | ⟨rfl, rfl, j1, hu1, hu2⟩
            · have HJ := Lib.hid hj
              clear hj
              by_cases hn0 : n = 0
              · subst hn0
                have HINS := Lib.hid (HOP.out.done HXK.out HA.out hn2 (.inr (Nat.le_refl _)) (Nat.le_refl _))
                have HNX := Lib.hid (HDI.out.trans (decIF_next hlt HINS.out))
                obtain ⟨hkj, hjm⟩ := HOP.out.le hlt
                have hal1 : acc.length + 1 ≤ 970000000000 := by omega
                have hCx : C ≤ wr.heap.size := by have := HBX.out.lt; omega
                go_wp2_with (at_builtin; refine OwnL.append insSOk HOx.out ⟨(x.toNat : Int), 0, 0⟩ rfl _ _ rfl rfl rfl _ rfl hCx hal1 ?_; intro v5 w5 ho5 hb5; obtain ⟨A5, cap5, rfl, hq5, hq6, -⟩ := ho5.open_; have HO5 := Lib.hid ho5; have HB5 := Lib.hid hb5; clear ho5 hb5)
                go_roundg (m.length - j)
                case measure => have := HGH.out; omega
                case rel =>
                  have hll : (acc ++ [(⟨(x.toNat : Int), 0, 0⟩ : Ins)]).length = acc.length + 1 := by simp
                  exact ⟨j, f', acc ++ [⟨(x.toNat : Int), 0, 0⟩], A5, cap5, Nat.le_refl _, hjm, by rw [hll], by rw [hll]; omega, by have := HDD.out; omega, HNX.out, HO5.out, HRx.out.below (HB5.out.mono hgC), HBL.out.trans (HB5.out.mono hwC), Nat.le_trans hCx HB5.out.size⟩
              · have hn1 : 1 ≤ n := by omega
                go_wp2_with fail
                refine (ruvarint_any g m j _ ea HRx.out ⟨w, HE.out, hg, HBL.out⟩).mono ?_
                rintro e w6 ⟨hf6, hm6⟩
                obtain ⟨hkj, hjm⟩ := HOP.out.le hlt
                have HB6 := Lib.hid (HBL.out.trans (hf6.below.mono hg))
                cases hu : uvR m j with
                | no z =>
                  rw [hu] at hm6
                  obtain ⟨rfl, hr6⟩ := hm6
                  have HBD := Lib.hid (HDI.out.trans (decIF_bad hlt (HOP.out.bad HXK.out HA.out hn2 (by omega) hu)))
                  have cE6 : w6.cell? ⟨16, 0, none⟩ = some (errI ea 20) := (HE.out.below HB6.out).cell 20 (by decide)
                  have hz24 := uvR_no hu
                  have k1 := fun W => errI_nnil ea z W
                  have k2 := fun op x y W => errI_guard0 ea z op x y W
                  clear hf6 hr6 hu
                  go_wp2
                  go_region
                  go_wp2
                  go_ret2
                  exact diRet_no HBD.out HB6.out.drew
                | ok v j2 =>
                  rw [hu] at hm6
                  obtain ⟨rfl, hr6⟩ := hm6
                  obtain ⟨hj2, hj3, hv⟩ := uvR_le hjm hu
                  have HBX6 := Lib.hid (hf6.blk HBX.out (Ne.symm hgn))
                  have HBP6 := Lib.hid (hf6.blk HBP.out (Ne.symm hgn1))
                  have HO6 := Lib.hid (hf6.own HOx.out hgC)
                  have HR6 := Lib.hid hr6
                  have z6 := HBX6.out.frozen 1
                  have d6 := HBX6.out.cell 1
                  simp only [List.getElem?_toArray, List.getElem?_cons_zero, List.getElem?_cons_succ] at d6
                  have HU := Lib.hid hu
                  clear hf6 hr6 hu
                  go_wp2
                  go_roundw
                  case measure => simp [intOf]
                  case rel =>
                    refine ⟨1, v, 0, j2, by omega, by omega, by go_num, ?_, by omega, by omega, by simpa using HBX6.out.set_ 1 (.int .u64 (v : Int)), HBP6.out.far (by show w3.heap.size + 1 ≠ w3.heap.size; omega) _, HO6.out.farNe (fun z hz e => HNE.out (by rw [hz, e])) _, HR6.out.below ((Below.refl _ _).setCell (by show g + 1 ≤ w3.heap.size; omega) _), HB6.out.setCell (by show w.heap.size ≤ w3.heap.size; omega) _, hCb⟩
                    exact .inr (.inl ⟨rfl, hn1, rfl, by rw [← HJ.out]; exact HU.out⟩)
            · have HU1 := Lib.hid hu1
              clear hu1
              by_cases hn2' : n = 1
              · subst hn2'
                have HINS := Lib.hid (HOP.out.done HXK.out HA.out hn2 (.inr (Nat.le_refl _)) (Nat.le_refl _))
                have HNX := Lib.hid (HDI.out.trans (decIF_next hlt HINS.out))
                obtain ⟨hkj, hjm⟩ := HOP.out.le hlt
                have hal1 : acc.length + 1 ≤ 970000000000 := by omega
                have hCx : C ≤ wr.heap.size := by have := HBX.out.lt; omega
                go_wp2_with (at_builtin; refine OwnL.append insSOk HOx.out ⟨(x.toNat : Int), a, 0⟩ rfl _ _ rfl rfl rfl _ rfl hCx hal1 ?_; intro v5 w5 ho5 hb5; obtain ⟨A5, cap5, rfl, hq5, hq6, -⟩ := ho5.open_; have HO5 := Lib.hid ho5; have HB5 := Lib.hid hb5; clear ho5 hb5)
                go_roundg (m.length - j)
                case measure => have := HGH.out; omega
                case rel =>
                  have hll : (acc ++ [(⟨(x.toNat : Int), a, 0⟩ : Ins)]).length = acc.length + 1 := by simp
                  exact ⟨j, f', acc ++ [⟨(x.toNat : Int), a, 0⟩], A5, cap5, Nat.le_refl _, hjm, by rw [hll], by rw [hll]; omega, by have := HDD.out; omega, HNX.out, HO5.out, HRx.out.below (HB5.out.mono hgC), HBL.out.trans (HB5.out.mono hwC), Nat.le_trans hCx HB5.out.size⟩
              · have HNN : Hid (n = 2) := Lib.hid (by omega)
                have hn2e : 2 ≤ n := by omega
                clear hn2'
                go_wp2_with fail
                refine (ruvarint_any g m j _ ea HRx.out ⟨w, HE.out, hg, HBL.out⟩).mono ?_
                rintro e w6 ⟨hf6, hm6⟩
                obtain ⟨hkj, hjm⟩ := HOP.out.le hlt
                have HB6 := Lib.hid (HBL.out.trans (hf6.below.mono hg))
                cases hu : uvR m j with
                | no z =>
                  rw [hu] at hm6
                  obtain ⟨rfl, hr6⟩ := hm6
                  have HBD := Lib.hid (HDI.out.trans (decIF_bad hlt (HOP.out.bad HXK.out HA.out hn2 (by omega) hu)))
                  have cE6 : w6.cell? ⟨16, 0, none⟩ = some (errI ea 20) := (HE.out.below HB6.out).cell 20 (by decide)
                  have hz24 := uvR_no hu
                  have k1 := fun W => errI_nnil ea z W
                  have k2 := fun op x y W => errI_guard0 ea z op x y W
                  clear hf6 hr6 hu
                  go_wp2
                  go_region
                  go_wp2
                  go_ret2
                  exact diRet_no HBD.out HB6.out.drew
                | ok v j2 =>
                  rw [hu] at hm6
                  obtain ⟨rfl, hr6⟩ := hm6
                  obtain ⟨hj2, hj3, hv⟩ := uvR_le hjm hu
                  have HBX6 := Lib.hid (hf6.blk HBX.out (Ne.symm hgn))
                  have HBP6 := Lib.hid (hf6.blk HBP.out (Ne.symm hgn1))
                  have HO6 := Lib.hid (hf6.own HOx.out hgC)
                  have HR6 := Lib.hid hr6
                  have z6 := HBX6.out.frozen 2
                  have d6 := HBX6.out.cell 2
                  simp only [List.getElem?_toArray, List.getElem?_cons_zero, List.getElem?_cons_succ] at d6
                  have HU := Lib.hid hu
                  clear hf6 hr6 hu
                  go_wp2
                  go_roundw
                  case measure => simp [intOf]
                  case rel =>
                    refine ⟨2, a, v, j2, by omega, by omega, by go_num, ?_, by omega, by omega, by simpa using HBX6.out.set_ 2 (.int .u64 (v : Int)), HBP6.out.far (by show w3.heap.size + 1 ≠ w3.heap.size; omega) _, HO6.out.farNe (fun z hz e => HNE.out (by rw [hz, e])) _, HR6.out.below ((Below.refl _ _).setCell (by show g + 1 ≤ w3.heap.size; omega) _), HB6.out.setCell (by show w.heap.size ≤ w3.heap.size; omega) _, hCb⟩
                    exact .inr (.inr ⟨rfl, HNN.out, j, HU1.out, HU.out⟩)
            · clear hu1 hu2
              have HINS := Lib.hid (HOP.out.done HXK.out HA.out hn2 (.inl rfl) (Nat.le_refl _))
              have HNX := Lib.hid (HDI.out.trans (decIF_next hlt HINS.out))
              obtain ⟨hkj, hjm⟩ := HOP.out.le hlt
              have hal1 : acc.length + 1 ≤ 970000000000 := by omega
              have hCx : C ≤ wr.heap.size := by have := HBX.out.lt; omega
              go_wp2_with (at_builtin; refine OwnL.append insSOk HOx.out ⟨(x.toNat : Int), a, b⟩ rfl _ _ rfl rfl rfl _ rfl hCx hal1 ?_; intro v5 w5 ho5 hb5; obtain ⟨A5, cap5, rfl, hq5, hq6, -⟩ := ho5.open_; have HO5 := Lib.hid ho5; have HB5 := Lib.hid hb5; clear ho5 hb5)
              go_roundg (m.length - j)
              case measure => have := HGH.out; omega
              case rel =>
                have hll : (acc ++ [(⟨(x.toNat : Int), a, b⟩ : Ins)]).length = acc.length + 1 := by simp
                exact ⟨j, f', acc ++ [⟨(x.toNat : Int), a, b⟩], A5, cap5, Nat.le_refl _, hjm, by rw [hll], by rw [hll]; omega, by have := HDD.out; omega, HNX.out, HO5.out, HRx.out.below (HB5.out.mono hgC), HBL.out.trans (HB5.out.mono hwC), Nat.le_trans hCx HB5.out.size⟩
      · exact absurd hx (by rw [List.getElem?_eq_getElem hlt]; simp)
    · have HEND : Hid (decI m = some acc) := Lib.hid (by
        obtain ⟨f', rfl⟩ : ∃ f', f = f' + 1 := ⟨f - 1, by omega⟩
        rw [HDI.out, decIF_end (by omega)])
      have hd0 : d = 0 := by omega
      subst hd0
      go_wp2
      go_ret2
      exact diRet_ok HEND.out HB2.out (HO2.out.more hwC)
end Go.Proofs.YtmdpfikalekmlaaGreatDoor
