/- Layer 4: Decode. -/
import Derived.Test.YtdkalcecmdadeaaDoorDe
namespace Go.Proofs.YtdkalcecmdadeaaDoor
open Go.RowKit
set_option maxRecDepth 100000
set_option maxHeartbeats 1000000
set_option linter.unusedSimpArgs false
set_option linter.unusedVariables false

/-- What Decode answers: fields, or none and an error. -/
def DecRet (bad : Nat → Value) (ok : Value) (m : List UInt8) (w : World) (e : Ending) (w' : World) : Prop :=
  Below w.heap.size w w' ∧ match decS m with
    | .ok l => ∃ v, e = .returned (.tuple #[.agg #[v], ok]) ∧ OwnL fdS w' w.heap.size v l
    | .error i => e = .returned (.tuple #[.agg #[.slice none 0 0], bad i]) ∧ i < 24
theorem decRet_ok {bad : Nat → Value} {ok v : Value} {m : List UInt8} {w w' : World} {l : List Fd} (h : decS m = .ok l) (hb : Below w.heap.size w w') (ho : OwnL fdS w' w.heap.size v l) : DecRet bad ok m w (.returned (.tuple #[.agg #[v], ok])) w' := by
  refine ⟨hb, ?_⟩
  rw [h]
  exact ⟨v, rfl, ho⟩
theorem decRet_no {bad : Nat → Value} {ok : Value} {m : List UInt8} {w w' : World} {i : Nat} (h : decS m = .error i) (hi : i < 24) (hb : Below w.heap.size w w') : DecRet bad ok m w (.returned (.tuple #[.agg #[.slice none 0 0], bad i])) w' := by
  refine ⟨hb, ?_⟩
  rw [h]
  exact ⟨rfl, hi⟩
theorem decS_no {m : List UInt8} {i : Nat} (h : decD m = .error i) : decS m = .error i := by unfold decS; rw [h]
theorem decS_ok {m : List UInt8} {l : List Fd} (h : decD m = .ok l) : decS m = if chkL l then .ok l else .error 10 := by unfold decS; rw [h]
theorem Decode_any (x : Value) (m : List UInt8) (w : World) (ea : List Addr) (hx : RdL byteS w w.heap.size x m) (hm : m.length ≤ 10000000000) (hE : ErrEnv w ea) :
    Calls Tryd.prog 24 #[x] w (DecRet (errI ea) .nilIface m w) := by
  obtain ⟨A, cap, rfl, h1, h2⟩ := hx.open_
  have HX := Lib.hid hx
  have HE := Lib.hid hE
  clear hx hE
  go_enter Tryd.func24, Tryd.ntmps24
  go_wp2_with fail
  have hb0 : Below w.heap.size w (w.alloc (.cells #[.slice none 0 0] 24)) := (Below.refl _ _).alloc (Nat.le_refl _) _
  refine (newReader_any _ m _ (HX.out.belowW (Nat.le_refl _) hb0 |>.more (by rw [World.size_alloc]; omega)) hm).mono ?_
  rintro e w1 ⟨g, rfl, hg, hr, hb1⟩
  rw [World.size_alloc] at hg
  have c0 : w1.cell? ⟨w.heap.size, 0, none⟩ = some (.slice none 0 0) := cellN hb1 rfl
  have HB0 : Blk w1 w.heap.size 24 #[.slice none 0 0] := (Blk.new w _ _).belowW hb1
  have HW1 := Lib.hid (hb0.trans (hb1.mono (by rw [World.size_alloc]; omega)))
  have HR := Lib.hid hr
  have HBK := Lib.hid HB0
  have hg1 := hr.lt
  have HE1 := Lib.hid (HE.out.below HW1.out)
  have HEL : Hid (ErrLow w1 g ea) := Lib.hid ⟨w, HE.out, by omega, HW1.out⟩
  clear hb1 hr hb0 HB0
  go_wp2_with fail
  refine (decode_any g m w1 ea HR.out HEL.out).mono ?_
  rintro e w2 ⟨v, l, ev, rfl, ho, hsm, hb2, hd⟩
  have HBK2 := Lib.hid (HBK.out.below hb2 (by omega))
  have HW2 := Lib.hid (HW1.out.trans (hb2.mono (by omega)))
  have HO := Lib.hid ho
  have HSM := Lib.hid hsm
  have hs2 : w1.heap.size ≤ w2.heap.size := hb2.size
  obtain ⟨A2, cap2, rfl, -, -, -⟩ := ho.open_
  have hb3 : Below w2.heap.size w2 (w2.alloc (.cells #[.slice A2 l.length cap2] 24)) := (Below.refl _ _).alloc (Nat.le_refl _) _
  have HW3 := Lib.hid (HW2.out.trans (hb3.mono (by omega)))
  have HO3 := Lib.hid (HO.out.alloc (.cells #[.slice A2 l.length cap2] 24))
  have HBK3 := Lib.hid (HBK2.out.alloc (.cells #[.slice A2 l.length cap2] 24))
  have c2 : w2.cell? ⟨w.heap.size, 0, none⟩ = some (.slice none 0 0) := HBK2.out.cell 0
  have z2 : w2.frozen? ⟨w.heap.size, 0, none⟩ = false := HBK2.out.frozen 0
  have hz2 : w.heap.size < w2.heap.size := HBK2.out.lt
  clear hb2 ho hsm
  rcases hd with ⟨hd, rfl⟩ | ⟨i, hd, rfl, hi⟩
  · have HD := Lib.hid (decS_ok hd)
    clear hd
    go_wp2_with fail
    refine (check_any (.slice A2 l.length cap2) l ea _ _ (Nat.le_refl _) ((RdL.of_own HO3.out)) HSM.out (HE.out.below HW3.out).sch).mono ?_
    rintro e w4 ⟨he, hb4⟩
    have HW4 := Lib.hid (HW3.out.trans (hb4.mono (by rw [World.size_alloc]; omega)))
    have hb4' : Below (w.heap.size + 1) (w2.alloc (.cells #[.slice A2 l.length cap2] 24)) w4 := hb4.mono (by rw [World.size_alloc]; omega)
    have HBK4 := Lib.hid (HBK3.out.below hb4' (by omega))
    have c4 : w4.cell? ⟨w2.heap.size, 0, none⟩ = some (.slice A2 l.length cap2) := cellN hb4 rfl
    have hc4z : w2.heap.size < w4.heap.size := World.block_lt_of_cell? w4 ⟨w2.heap.size, 0, none⟩ c4
    have c5 : w4.cell? ⟨w.heap.size, 0, none⟩ = some (.slice none 0 0) := HBK4.out.cell 0
    have z5 : w4.frozen? ⟨w.heap.size, 0, none⟩ = false := HBK4.out.frozen 0
    have hne : w2.heap.size ≠ w.heap.size := by omega
    have HO4 := Lib.hid (HO3.out.below hb4)
    have k1 := fun W => errI_nnil ea 10 W
    have k2 := fun op x y W => errI_guard0 ea 10 op x y W
    clear hb4 hb4' c2 z2 hb3
    cases hck : chkL l with
    | true =>
      rw [hck] at he HD
      simp only [if_true] at he
      subst he
      have HD' := Lib.hid (HD.out.trans (if_pos rfl))
      clear hck
      go_wp2
      refine (bodyPost_ret (v := .tuple #[.agg #[.slice A2 l.length cap2], .nilIface]) ?_ rfl ?_)
      · simp [results, Tryd.results24, go_sem, c4, c5, z5]
      · exact decRet_ok HD'.out (HW4.out.setCell (Nat.le_refl _) _) ((HO4.out.far (p := ⟨w.heap.size, 0, none⟩) (by show w.heap.size < w1.heap.size; omega) _).more (by omega))
    | false =>
      rw [hck] at he HD
      simp only [Bool.false_eq_true, if_false] at he
      subst he
      have HD' := Lib.hid (HD.out.trans (if_neg (by decide)))
      clear hck
      go_wp2
      refine (bodyPost_ret (v := .tuple #[.agg #[.slice none 0 0], errI ea 10]) ?_ rfl ?_)
      · simp [results, Tryd.results24, go_sem, c4, c5, z5]
      · exact decRet_no HD'.out (by omega) (HW4.out.setCell (Nat.le_refl _) _)
  · have HD := Lib.hid (decS_no hd)
    have k1 := fun W => errI_nnil ea i W
    have k2 := fun op x y W => errI_guard0 ea i op x y W
    have k3 := fun W => errI_nil ea i W
    clear hd
    go_wp2
    refine (bodyPost_ret (v := .tuple #[.agg #[.slice none 0 0], errI ea i]) ?_ rfl ?_)
    · have c7 : ((w2.setCell ⟨w.heap.size, 0, none⟩ (.slice none 0 0)).alloc (.cells #[.slice A2 l.length cap2] 24)).cell? ⟨w.heap.size, 0, none⟩ = some (.slice none 0 0) := by
        rw [World.cell?_alloc_lt _ _ _ (by simp [World.setCell]; exact hz2)]
        exact (HBK2.out.set_ 0 (.slice none 0 0)).cell 0
      simp [results, Tryd.results24, go_sem, c7]
    · exact decRet_no HD.out hi ((HW2.out.setCell (p := ⟨w.heap.size, 0, none⟩) (Nat.le_refl _) (.slice none 0 0)).alloc (by simp [World.setCell]; omega) _)
end Go.Proofs.YtdkalcecmdadeaaDoor
