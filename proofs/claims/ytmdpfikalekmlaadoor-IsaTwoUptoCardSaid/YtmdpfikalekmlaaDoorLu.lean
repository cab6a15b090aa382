/- Layer 20: the law of one listing, one program. -/
import Derived.Test.YtmdpfikalekmlaaDoorSe
import Derived.Test.YtmdpfikalekmlaaDoorLe
namespace Go.Proofs.YtmdpfikalekmlaaDoor
open Go.RowKit
set_option maxRecDepth 100000
set_option maxHeartbeats 2000000
set_option linter.unusedSimpArgs false
set_option linter.unusedVariables false

theorem isaTwo_env {W : World} (h : laidMetH Tryd.prog Rows.isaTwoUptoRow.laid W) : IsaEnvF W := by
  have h0 : laidMet Tryd.prog Rows.isaTwoUptoRow.laid W := h
  obtain ⟨ea, hE⟩ := errFew_of h0 (by rfl)
  exact ⟨ea, hE, isaTab_of h0 (by rfl), pow10_of h0 (by rfl)⟩
theorem isaTwo_walk (w : World) (x y : PgV) (p q : Pg) (hx : PgR w w.heap.size x p) (hy : PgR w w.heap.size y q) (hs : SmallPg p) (ht : SmallPg q) (hE : IsaEnvF w) :
    Calls Tryd.prog 7 #[x.val p, y.val q] w fun e w' => e = .returned (.bool true) ∧ Below w.heap.size w w' := by
  obtain ⟨ea, hE, hT, hP⟩ := hE
  have HX := Lib.hid hx; have HY := Lib.hid hy; have HSP := Lib.hid hs; have HSQ := Lib.hid ht
  have HE := Lib.hid hE; have HT := Lib.hid hT; have HP := Lib.hid hP
  have hxv := hx; have hyv := hy
  obtain ⟨av, cv, nv, dv, kv, nl⟩ := x
  obtain ⟨bv, ev, mv, fv, gv, ml⟩ := y
  obtain ⟨aA, ac, rfl, -, -⟩ := hxv.avgs.open_
  obtain ⟨cA, cc, rfl, -, -⟩ := hxv.curs.open_
  have hno : RdL nrS w w.heap.size nv nl := hxv.nears
  obtain ⟨nA, nc, hnv, -, -⟩ := hno.open_
  subst hnv
  obtain ⟨dA, dc, rfl, -, -⟩ := hxv.drive.open_
  obtain ⟨kA, kc, rfl, -, -⟩ := hxv.code.open_
  obtain ⟨bA, bc, rfl, -, -⟩ := hyv.avgs.open_
  obtain ⟨eA, ec, rfl, -, -⟩ := hyv.curs.open_
  have hmo : RdL nrS w w.heap.size mv ml := hyv.nears
  obtain ⟨mA, mc, hmv, -, -⟩ := hmo.open_
  subst hmv
  obtain ⟨fA, fc, rfl, -, -⟩ := hyv.drive.open_
  obtain ⟨gA, gc, rfl, -, -⟩ := hyv.code.open_
  clear hno hmo hxv hyv
  have hb0 : Below w.heap.size w ((w.alloc (.cells #[.slice aA p.avgs.length ac, .slice cA p.curs.length cc, .slice nA nl.length nc, .bool p.all, .slice dA p.drive.length dc, .slice kA p.code.length kc] 44)).alloc (.cells #[.slice bA q.avgs.length bc, .slice eA q.curs.length ec, .slice mA ml.length mc, .bool q.all, .slice fA q.drive.length fc, .slice gA q.code.length gc] 44)) := (((Below.refl _ _).alloc (Nat.le_refl _) _)).alloc (by rw [World.size_alloc]; omega) _
  have P1 := (PgAt.new w ⟨.slice aA p.avgs.length ac, .slice cA p.curs.length cc, .slice nA nl.length nc, .slice dA p.drive.length dc, .slice kA p.code.length kc, nl⟩ p).below ((Below.refl _ _).alloc (Nat.le_refl _) (.cells #[.slice bA q.avgs.length bc, .slice eA q.curs.length ec, .slice mA ml.length mc, .bool q.all, .slice fA q.drive.length fc, .slice gA q.code.length gc] 44))
  have P2 := PgAt.new (w.alloc (.cells #[.slice aA p.avgs.length ac, .slice cA p.curs.length cc, .slice nA nl.length nc, .bool p.all, .slice dA p.drive.length dc, .slice kA p.code.length kc] 44)) ⟨.slice bA q.avgs.length bc, .slice eA q.curs.length ec, .slice mA ml.length mc, .slice fA q.drive.length fc, .slice gA q.code.length gc, ml⟩ q
  rw [World.size_alloc] at P2
  have HB0 := Lib.hid hb0
  have HP1 := Lib.hid P1; have HP2 := Lib.hid P2
  have en1 := fun W => errI_nnil ea 20 W
  have eg0 := fun op x y W => errI_guard0 ea 20 op x y W
  clear hx hy hs ht hb0 P1 P2 hE hT hP
  simp only [PgV.val]
  go_enter Tryd.func7, Tryd.ntmps7
  go_wp2_with fail
  generalize ((w.alloc (.cells #[.slice aA p.avgs.length ac, .slice cA p.curs.length cc, .slice nA nl.length nc, .bool p.all, .slice dA p.drive.length dc, .slice kA p.code.length kc] 44)).alloc (.cells #[.slice bA q.avgs.length bc, .slice eA q.curs.length ec, .slice mA ml.length mc, .bool q.all, .slice fA q.drive.length fc, .slice gA q.code.length gc] 44)) = w0 at *
  refine (lives_any _ ea (HE.out.below HB0.out) (HT.out.below HB0.out) (HP.out.below HB0.out)).mono ?_
  rintro e w1 ⟨rfl, hb1⟩
  have HB1 := Lib.hid (HB0.out.trans (hb1.mono HB0.out.size))
  have HQ1 := Lib.hid (HP1.out.below hb1); have HQ2 := Lib.hid (HP2.out.below hb1)
  obtain ⟨a0, a1, a2, a3, a4, a5, az⟩ := HQ1.out
  obtain ⟨b0, b1, b2, b3, b4, b5, bz⟩ := HQ2.out
  simp only [] at a0 a1 a2 a3 a4 a5 b0 b1 b2 b3 b4 b5
  have HC1 := Lib.hid (Text_any ⟨.slice aA p.avgs.length ac, .slice cA p.curs.length cc, .slice nA nl.length nc, .slice dA p.drive.length dc, .slice kA p.code.length kc, nl⟩ p w1 ea ((HX.out.below HB1.out).more HB1.out.size) HSP.out (HE.out.below HB1.out) (HT.out.below HB1.out) (HP.out.below HB1.out))
  clear hb1
  go_wp2_with fail
  refine HC1.out.mono ?_
  intro e w2 h2
  clear a0 a1 a2 a3 a4 a5 az b0 b1 b2 b3 b4 b5 bz
  have HB2 := Lib.hid (HB1.out.trans (h2.1.mono HB1.out.size))
  have HR1 := Lib.hid (HQ1.out.below h2.1); have HR2 := Lib.hid (HQ2.out.below h2.1)
  obtain ⟨a0, a1, a2, a3, a4, a5, az⟩ := HR1.out
  obtain ⟨b0, b1, b2, b3, b4, b5, bz⟩ := HR2.out
  simp only [] at a0 a1 a2 a3 a4 a5 b0 b1 b2 b3 b4 b5
  have HC2 := Lib.hid (Text_any ⟨.slice bA q.avgs.length bc, .slice eA q.curs.length ec, .slice mA ml.length mc, .slice fA q.drive.length fc, .slice gA q.code.length gc, ml⟩ q w2 ea ((HY.out.below HB2.out).more HB2.out.size) HSQ.out (HE.out.below HB2.out) (HT.out.below HB2.out) (HP.out.below HB2.out))
  cases htp : textP p with
  | none =>
    obtain ⟨rfl, -⟩ := h2.bad htp
    clear htp h2
    go_wp2_with fail
    refine HC2.out.mono ?_
    intro e w3 h3
    have HB3 := Lib.hid (HB2.out.trans (h3.1.mono HB2.out.size))
    obtain ⟨sr, er, rfl⟩ : ∃ s e', e = .returned (.tuple #[.string s, e']) := by
      cases htq : textP q with
      | none => exact ⟨_, _, (h3.bad htq).1⟩
      | some t => exact ⟨_, _, (h3.good htq).1⟩
    clear h3
    clear a0 a1 a2 a3 a4 a5 az b0 b1 b2 b3 b4 b5 bz
    go_wp2
    go_ret
    exact ⟨rfl, HB3.out⟩
  | some s =>
  obtain ⟨rfl, -⟩ := h2.good htp
  have HTP := Lib.hid htp
  clear htp h2
  go_wp2_with fail
  refine HC2.out.mono ?_
  intro e w3 h3
  clear a0 a1 a2 a3 a4 a5 az b0 b1 b2 b3 b4 b5 bz
  have HB3 := Lib.hid (HB2.out.trans (h3.1.mono HB2.out.size))
  have HS1 := Lib.hid (HR1.out.below h3.1); have HS2 := Lib.hid (HR2.out.below h3.1)
  cases htq : textP q with
  | none =>
    obtain ⟨rfl, -⟩ := h3.bad htq
    clear htq h3
    go_wp2
    go_ret
    exact ⟨rfl, HB3.out⟩
  | some t =>
  obtain ⟨rfl, -⟩ := h3.good htq
  have HTQ := Lib.hid htq
  clear htq h3
  obtain ⟨a0, a1, a2, a3, a4, a5, az⟩ := HS1.out
  obtain ⟨b0, b1, b2, b3, b4, b5, bz⟩ := HS2.out
  simp only [] at a0 a1 a2 a3 a4 a5 b0 b1 b2 b3 b4 b5
  have HC3 := Lib.hid (same20_any ⟨.slice aA p.avgs.length ac, .slice cA p.curs.length cc, .slice nA nl.length nc, .slice dA p.drive.length dc, .slice kA p.code.length kc, nl⟩ ⟨.slice bA q.avgs.length bc, .slice eA q.curs.length ec, .slice mA ml.length mc, .slice fA q.drive.length fc, .slice gA q.code.length gc, ml⟩ p q w3 ((HX.out.below HB3.out).more HB3.out.size) ((HY.out.below HB3.out).more HB3.out.size) HSP.out HSQ.out)
  have hne : ¬ (str s).toList = [] := by rw [ByteArray.toList_eq]; simpa [str] using textP_ne HTP.out
  have hie : (str s).toList.isEmpty = false := by rw [List.isEmpty_eq_false_iff]; exact hne
  by_cases hst : s = t
  · have HPQ := Lib.hid (show decide (p = q) = true from decide_eq_true (textP_inj HTP.out (by rw [hst]; exact HTQ.out)))
    subst hst
    generalize str s = ss at *
    go_wp2_with fail
    refine HC3.out.mono ?_
    rintro e w4 ⟨rfl, hb4⟩
    rw [HPQ.out]
    have HB4 := Lib.hid (HB3.out.trans (hb4.mono HB3.out.size))
    clear hb4 a0 a1 a2 a3 a4 a5 az b0 b1 b2 b3 b4 b5 bz
    go_wp2
    go_ret
    exact ⟨rfl, HB4.out⟩
  · have HPQ := Lib.hid (show decide (p = q) = false from decide_eq_false (fun e => hst (by have h := HTP.out; rw [e, HTQ.out] at h; exact (Option.some.inj h).symm)))
    have hsb := str_ne_beq2 hst
    generalize str s = ss at *
    generalize str t = st at *
    clear hst
    go_wp2_with fail
    refine HC3.out.mono ?_
    rintro e w4 ⟨rfl, hb4⟩
    rw [HPQ.out]
    have HB4 := Lib.hid (HB3.out.trans (hb4.mono HB3.out.size))
    clear hb4 a0 a1 a2 a3 a4 a5 az b0 b1 b2 b3 b4 b5 bz
    go_wp2
    go_ret
    exact ⟨rfl, HB4.out⟩
end Go.Proofs.YtmdpfikalekmlaaDoor
