/- Layer 20: the reader's cursor. -/
import Derived.Test.YtmdpfikalekmlaaGreatDoorWi
import Derived.Test.YtmdpfikalekmlaaGreatDoorMr
import Derived.Test.YtmdpfikalekmlaaGreatDoorYw
namespace Go.Proofs.YtmdpfikalekmlaaGreatDoor
open Go.RowKit
set_option maxRecDepth 100000
set_option maxHeartbeats 4000000
set_option linter.unusedSimpArgs false
set_option linter.unusedVariables false

theorem cutS_cutL (c : UInt8) : ∀ l : List UInt8, cutS c l = ((cutL c l).1, (cutL c l).2.1)
  | [] => rfl
  | b :: l => by
    by_cases h : b = c
    · rw [cutS, cutL, if_pos h, if_pos h]
    · rw [cutS, cutL, if_neg h, if_neg h, cutS_cutL c l]
theorem cutL_len (c : UInt8) : ∀ l : List UInt8, (cutL c l).1.length ≤ l.length ∧ (cutL c l).2.1.length ≤ l.length
  | [] => by simp [cutL]
  | b :: l => by
    have := cutL_len c l
    by_cases h : b = c
    · rw [cutL, if_pos h]; simp
    · rw [cutL, if_neg h]
      simp only [List.length_cons]
      omega
theorem OwnL.form {α : Type} {S : Shape α} {w : World} {B : Nat} {v : Value} {l : List α} (h : OwnL S w B v l) : ∃ A n cap, v = .slice A n cap := by
  obtain ⟨A, cap, e, _⟩ := h.open_
  exact ⟨A, _, cap, e⟩
/-- What a line's function hands back, of a reader that reads as st. -/
def LnRet (B rb mb : Nat) (w : World) (r : Option Rs) (e : Ending) (w' : World) : Prop :=
  RKeep B rb w w' ∧ match r with
    | some st' => e = .returned (.bool true) ∧ ∃ x', RdrAt w' B rb mb x' st'
    | none => e = .returned (.bool false)
theorem LnRet.bad {B rb mb : Nat} {w : World} {r : Option Rs} {e : Ending} {w' : World} (h : RKeep B rb w w') (hr : r = none) (he : e = .returned (.bool false)) : LnRet B rb mb w r e w' := by
  subst hr; exact ⟨h, he⟩
theorem LnRet.good {B rb mb : Nat} {w : World} {r : Option Rs} {e : Ending} {w' : World} (h : RKeep B rb w w') {st' : Rs} (hr : r = some st') (he : e = .returned (.bool true)) {x' : RdrV} (hx : RdrAt w' B rb mb x' st') : LnRet B rb mb w r e w' := by
  subst hr; exact ⟨h, he, x', hx⟩
theorem pCurR_some {r : List UInt8} {f : Nat} {t : List UInt8} (h1 : wholeL 9223372036854775808 (cutL 32 r).1 = some f) (h2 : unqL (cutL 32 r).2.1 = some t) : pCurR r = some ⟨(f : Int), t⟩ := by
  unfold pCurR; rw [cutS_cutL, h1, h2]
theorem pCurR_none1 {r : List UInt8} (h1 : wholeL 9223372036854775808 (cutL 32 r).1 = none) : pCurR r = none := by
  unfold pCurR; rw [cutS_cutL, h1]
theorem pCurR_none2 {r : List UInt8} (h1 : unqL (cutL 32 r).2.1 = none) : pCurR r = none := by
  unfold pCurR; rw [cutS_cutL, h1]
  split
  · rename_i h; cases h
  · rfl
theorem cursor_any (s : ByteArray) (w : World) (B rb mb : Nat) (x : RdrV) (st : Rs) (h : RdrAt w B rb mb x st) (hn : st.curs.length ≤ 1000000000) (hs : s.size ≤ 1000000000) (hE : PuEnv w) :
    Calls Tryz.prog 46 #[.pointer (some ⟨rb, 0, none⟩), .string s] w (LnRet B rb mb w ((pCurR s.data.toList).map fun c => { st with curs := st.curs ++ [c] })) := by
  have hc := cutL_len 32 s.data.toList
  have hcut := cutB_any s 32 w (by omega)
  have hls : s.data.toList.length = s.size := rfl
  have F1 := Lib.hid (fun f t => @pCurR_some s.data.toList f t)
  have F2 := Lib.hid (@pCurR_none1 s.data.toList)
  have F3 := Lib.hid (@pCurR_none2 s.data.toList)
  generalize (cutL 32 s.data.toList).1 = fl at *
  generalize (cutL 32 s.data.toList).2.1 = tm at *
  generalize (cutL 32 s.data.toList).2.2 = fd at *
  have hfl : fl.length ≤ 1000000000 := by omega
  have htm : tm.length ≤ 1000000000 := by omega
  have H := Lib.hid h; have HE := Lib.hid hE
  clear h hE hc hls
  go_enter Tryz.func46, Tryz.ntmps46
  go_wp2_with fail
  refine hcut.mono ?_
  rintro e w1 ⟨rfl, hb1⟩
  have HB1 := Lib.hid hb1
  clear hb1 hcut
  have hI := whole63_any (str fl) (by rw [str_size]; exact hfl) w1 (HE.out.belowW HB1.out)
  rw [str_data] at hI
  go_wp2_with fail
  refine hI.mono ?_
  rintro e w2 ⟨⟨v, hv0, hv1, rfl, hvv⟩, hb2⟩
  have HB2 := Lib.hid (HB1.out.trans (hb2.mono HB1.out.size))
  have HVV := Lib.hid hvv
  clear hb2 hvv hI
  have hU := unquoted_any (str tm) w2 (by rw [str_size]; exact htm)
  rw [str_data] at hU
  cases hu : unqL tm with
  | none =>
    rw [hu] at hU
    have HN := Lib.hid (F3.out hu)
    clear hu
    generalize (wholeL 9223372036854775808 fl).isSome = ok at *
    cases ok
    all_goals
      go_wp2_with fail
      refine hU.mono ?_
      rintro e w3 ⟨rfl, hb3⟩
      have HB3 := Lib.hid (HB2.out.trans (hb3.mono HB2.out.size))
      clear hb3 hU
      have HR3 := Lib.hid (H.out.below HB3.out)
      have c1 : w3.cell? ⟨rb, 1, none⟩ = some x.cv := HR3.out.blk.cell 1
      have hBB := HR3.out.hB
      have HK3 := Lib.hid (RKeep.ofW (rb := rb) H.out.hB HB3.out)
      have hal : st.curs.length + 1 ≤ 970000000000 := by omega
      unfold UqRet
      go_wp2_with (at_builtin; refine OwnL.appendK lfSOk HR3.out.curs (Lf.mk (wrap64 v) []) _ rfl _ _ rfl rfl rfl _ rfl rfl hBB hal ?_; intro v4 w4 ho4 hb4 hk4; obtain ⟨A4, n4, cap4, rfl⟩ := ho4.form; have HR4 := Lib.hid (HR3.out.pushCur _ ho4 hb4 hk4); have HB4 := Lib.hid ((HK3.out.trans (RKeep.of hb4)).trans (RKeep.set_ B rb 1 w4 (.slice A4 n4 cap4))); have c4 : w4.cell? ⟨rb, 1, none⟩ = some x.cv := (HR3.out.blk.keptL HR3.out.curs (by decide) hk4).cell 1; have f4 := (HR3.out.blk.keptL HR3.out.curs (by decide) hk4).frozen 1; clear ho4 hb4 hk4)
      go_ret
      exact LnRet.bad HB4.out (by rw [HN.out]; rfl) rfl
  | some t =>
    rw [hu] at hU
    cases hw : wholeL 9223372036854775808 fl with
    | none =>
      have HN := Lib.hid (F2.out hw)
      clear hu hw
      go_wp2_with fail
      refine hU.mono ?_
      rintro e w3 ⟨rfl, hb3⟩
      have HB3 := Lib.hid (HB2.out.trans (hb3.mono HB2.out.size))
      clear hb3 hU
      have HR3 := Lib.hid (H.out.below HB3.out)
      have c1 : w3.cell? ⟨rb, 1, none⟩ = some x.cv := HR3.out.blk.cell 1
      have hBB := HR3.out.hB
      have HK3 := Lib.hid (RKeep.ofW (rb := rb) H.out.hB HB3.out)
      have hal : st.curs.length + 1 ≤ 970000000000 := by omega
      unfold UqRet
      go_wp2_with (at_builtin; refine OwnL.appendK lfSOk HR3.out.curs (Lf.mk (wrap64 v) t) _ rfl _ _ rfl rfl rfl _ rfl rfl hBB hal ?_; intro v4 w4 ho4 hb4 hk4; obtain ⟨A4, n4, cap4, rfl⟩ := ho4.form; have HR4 := Lib.hid (HR3.out.pushCur _ ho4 hb4 hk4); have HB4 := Lib.hid ((HK3.out.trans (RKeep.of hb4)).trans (RKeep.set_ B rb 1 w4 (.slice A4 n4 cap4))); have c4 : w4.cell? ⟨rb, 1, none⟩ = some x.cv := (HR3.out.blk.keptL HR3.out.curs (by decide) hk4).cell 1; have f4 := (HR3.out.blk.keptL HR3.out.curs (by decide) hk4).frozen 1; clear ho4 hb4 hk4)
      go_ret
      exact LnRet.bad HB4.out (by rw [HN.out]; rfl) rfl
    | some f =>
      have HN := Lib.hid (F1.out f t hw hu)
      have hfl2 := wholeL_lt hw
      obtain rfl := HVV.out f hw
      clear hu hw
      go_wp2_with fail
      refine hU.mono ?_
      rintro e w3 ⟨rfl, hb3⟩
      have HB3 := Lib.hid (HB2.out.trans (hb3.mono HB2.out.size))
      clear hb3 hU
      have HR3 := Lib.hid (H.out.below HB3.out)
      have c1 : w3.cell? ⟨rb, 1, none⟩ = some x.cv := HR3.out.blk.cell 1
      have hBB := HR3.out.hB
      have HK3 := Lib.hid (RKeep.ofW (rb := rb) H.out.hB HB3.out)
      have hal : st.curs.length + 1 ≤ 970000000000 := by omega
      unfold UqRet
      go_wp2_with (at_builtin; refine OwnL.appendK lfSOk HR3.out.curs (Lf.mk (f : Int) t) _ rfl _ _ rfl rfl rfl _ rfl rfl hBB hal ?_; intro v4 w4 ho4 hb4 hk4; obtain ⟨A4, n4, cap4, rfl⟩ := ho4.form; have HR4 := Lib.hid (HR3.out.pushCur _ ho4 hb4 hk4); have HB4 := Lib.hid ((HK3.out.trans (RKeep.of hb4)).trans (RKeep.set_ B rb 1 w4 (.slice A4 n4 cap4))); have c4 : w4.cell? ⟨rb, 1, none⟩ = some x.cv := (HR3.out.blk.keptL HR3.out.curs (by decide) hk4).cell 1; have f4 := (HR3.out.blk.keptL HR3.out.curs (by decide) hk4).frozen 1; clear ho4 hb4 hk4)
      go_ret
      exact LnRet.good HB4.out (by rw [HN.out]; rfl) rfl HR4.out
end Go.Proofs.YtmdpfikalekmlaaGreatDoor
