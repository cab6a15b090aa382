/- Layer 20: the law of Text. -/
import Derived.Test.YtmdpfikalekmlaaDoorLe
import Derived.Test.YtmdpfikalekmlaaDoorDt
import Derived.Test.YtmdpfikalekmlaaDoorPo
namespace Go.Proofs.YtmdpfikalekmlaaDoor
open Go.RowKit
set_option maxRecDepth 100000
set_option maxHeartbeats 2000000
set_option linter.unusedSimpArgs false
set_option linter.unusedVariables false

theorem isaTexts_env {W : World} (h : laidMetH Tryd.prog Rows.isaTextsUptoRow.laid W) : IsaEnv W := by
  have h0 : laidMet Tryd.prog Rows.isaTextsUptoRow.laid W := h
  obtain ⟨ea, hE⟩ := errEnv_of h0 (by rfl)
  exact ⟨ea, hE, isaTab_of h0 (by rfl), pow10_of h0 (by rfl)⟩
theorem TxtRet.good {bad ok : Value} {p : Pg} {w w' : World} {e : Ending} {t : List UInt8} (h : TxtRet bad ok p w e w') (ht : textP p = some t) : e = .returned (.tuple #[.string (str t), ok]) ∧ Below w.heap.size w w' := by
  obtain ⟨hb, h⟩ := h
  rw [ht] at h
  exact ⟨h, hb⟩
theorem TxtRet.bad {bad ok : Value} {p : Pg} {w w' : World} {e : Ending} (h : TxtRet bad ok p w e w') (ht : textP p = none) : e = .returned (.tuple #[.string ⟨#[]⟩, bad]) ∧ Below w.heap.size w w' := by
  obtain ⟨hb, h⟩ := h
  rw [ht] at h
  exact ⟨h, hb⟩
/-- A program's cells in memory. -/
def PgAt (w : World) (b : Nat) (x : PgV) (p : Pg) : Prop :=
  w.cell? ⟨b, 0, none⟩ = some x.av ∧ w.cell? ⟨b, 1, none⟩ = some x.cv ∧ w.cell? ⟨b, 2, none⟩ = some x.nv ∧ w.cell? ⟨b, 3, none⟩ = some (.bool p.all) ∧ w.cell? ⟨b, 4, none⟩ = some x.dv ∧ w.cell? ⟨b, 5, none⟩ = some x.kv ∧ b < w.heap.size
theorem PgAt.new (w : World) (x : PgV) (p : Pg) : PgAt (w.alloc (.cells #[x.av, x.cv, x.nv, .bool p.all, x.dv, x.kv] 44)) w.heap.size x p :=
  ⟨by rw [World.cell?_alloc_new]; rfl, by rw [World.cell?_alloc_new]; rfl, by rw [World.cell?_alloc_new]; rfl, by rw [World.cell?_alloc_new]; rfl, by rw [World.cell?_alloc_new]; rfl, by rw [World.cell?_alloc_new]; rfl, by rw [World.size_alloc]; omega⟩
theorem PgAt.below {w w' : World} {b : Nat} {x : PgV} {p : Pg} (h : PgAt w b x p) (hb : Below w.heap.size w w') : PgAt w' b x p :=
  ⟨(hb.cell (p := ⟨b, 0, none⟩) h.2.2.2.2.2.2).trans h.1, (hb.cell (p := ⟨b, 1, none⟩) h.2.2.2.2.2.2).trans h.2.1, (hb.cell (p := ⟨b, 2, none⟩) h.2.2.2.2.2.2).trans h.2.2.1, (hb.cell (p := ⟨b, 3, none⟩) h.2.2.2.2.2.2).trans h.2.2.2.1, (hb.cell (p := ⟨b, 4, none⟩) h.2.2.2.2.2.2).trans h.2.2.2.2.1, (hb.cell (p := ⟨b, 5, none⟩) h.2.2.2.2.2.2).trans h.2.2.2.2.2.1, Nat.lt_of_lt_of_le h.2.2.2.2.2.2 hb.size⟩
theorem isaTexts_walk (w : World) (x : PgV) (p : Pg) (h : PgR w w.heap.size x p) (hs : SmallPg p) (hE : IsaEnv w) :
    Calls Tryd.prog 6 #[x.val p] w fun e w' => e = .returned (.bool true) ∧ Below w.heap.size w w' := by
  obtain ⟨ea, hE, hT, hP⟩ := hE
  have H := Lib.hid h; have HS := Lib.hid hs; have HE := Lib.hid hE; have HT := Lib.hid hT; have HP := Lib.hid hP
  have HV := Lib.hid (show x.val p = .agg #[x.av, x.cv, x.nv, .bool p.all, x.dv, x.kv] from rfl)
  obtain ⟨aA, an, ac, ea1⟩ : ∃ A n c, x.av = .slice A n c := by obtain ⟨A, c, e, _⟩ := h.avgs.open_; exact ⟨A, _, c, e⟩
  obtain ⟨cA, cn, cc, ec1⟩ : ∃ A n c, x.cv = .slice A n c := by obtain ⟨A, c, e, _⟩ := h.curs.open_; exact ⟨A, _, c, e⟩
  obtain ⟨nA, nn, nc, en1⟩ : ∃ A n c, x.nv = .slice A n c := by obtain ⟨A, c, e, _⟩ := h.nears.open_; exact ⟨A, _, c, e⟩
  obtain ⟨dA, dn, dc, ed1⟩ : ∃ A n c, x.dv = .slice A n c := by obtain ⟨A, c, e, _⟩ := h.drive.open_; exact ⟨A, _, c, e⟩
  obtain ⟨kA, kn, kc, ek1⟩ : ∃ A n c, x.kv = .slice A n c := by obtain ⟨A, c, e, _⟩ := h.code.open_; exact ⟨A, _, c, e⟩
  have HX := Lib.hid (And.intro ea1 (And.intro ec1 (And.intro en1 (And.intro ed1 ek1))))
  have hb0 : Below w.heap.size w (w.alloc (.cells #[.slice aA an ac, .slice cA cn cc, .slice nA nn nc, .bool p.all, .slice dA dn dc, .slice kA kn kc] 44)) := (Below.refl _ _).alloc (Nat.le_refl _) _
  have HB0 := Lib.hid hb0
  have HPA := Lib.hid (show PgAt (w.alloc (.cells #[.slice aA an ac, .slice cA cn cc, .slice nA nn nc, .bool p.all, .slice dA dn dc, .slice kA kn kc] 44)) w.heap.size x p from by
    have h := PgAt.new w x p
    rw [ea1, ec1, en1, ed1, ek1] at h
    exact h)
  have HVV := Lib.hid (show x.val p = .agg #[.slice aA an ac, .slice cA cn cc, .slice nA nn nc, .bool p.all, .slice dA dn dc, .slice kA kn kc] from by rw [HV.out, ea1, ec1, en1, ed1, ek1])
  rw [HVV.out]
  clear h hs hE hT hP ea1 ec1 en1 ed1 ek1 hb0
  go_enter Tryd.func6, Tryd.ntmps6
  go_wp2_with fail
  refine (lives_any _ ea (HE.out.below HB0.out).few (HT.out.below HB0.out) (HP.out.below HB0.out)).mono ?_
  rintro e w1 ⟨rfl, hb1⟩
  have HB1 := Lib.hid (HB0.out.trans (hb1.mono HB0.out.size))
  have HP1 := Lib.hid (HPA.out.below hb1)
  obtain ⟨c0, c1, c2, c3, c4, c5, cz⟩ := HP1.out
  rw [HX.out.1] at c0; rw [HX.out.2.1] at c1; rw [HX.out.2.2.1] at c2; rw [HX.out.2.2.2.1] at c4; rw [HX.out.2.2.2.2] at c5
  clear hb1
  have hcall := Text_any x p w1 ea ((H.out.below HB1.out).more HB1.out.size) HS.out (HE.out.below HB1.out).few (HT.out.below HB1.out) (HP.out.below HB1.out)
  rw [HVV.out] at hcall
  have HCALL := Lib.hid hcall
  clear hcall
  go_wp2_with fail
  refine HCALL.out.mono ?_
  intro e w2 h2
  clear c0 c1 c2 c3 c4 c5 cz
  cases ht : textP p with
  | some t =>
    obtain ⟨rfl, hb2⟩ := h2.good ht
    have HB2 := Lib.hid (HB1.out.trans (hb2.mono HB1.out.size))
    have HP2 := Lib.hid (HP1.out.below hb2)
    obtain ⟨c0, c1, c2, c3, c4, c5, cz⟩ := HP2.out
    rw [HX.out.1] at c0; rw [HX.out.2.1] at c1; rw [HX.out.2.2.1] at c2; rw [HX.out.2.2.2.1] at c4; rw [HX.out.2.2.2.2] at c5
    have hcall := rtext_any x p w2 ((H.out.below HB2.out).more HB2.out.size) HS.out
    rw [HVV.out] at hcall
    have HCALL2 := Lib.hid hcall
    have HTT := Lib.hid ht
    clear hcall hb2 h2 ht
    go_wp2_with fail
    refine HCALL2.out.mono ?_
    intro e w3 h3
    obtain ⟨rfl, hb3⟩ := h3.good HTT.out
    have HB3 := Lib.hid (HB2.out.trans (hb3.mono HB2.out.size))
    clear hb3 h3 c0 c1 c2 c3 c4 c5 cz
    generalize str t = st at *
    go_wp2_with fail
    refine (Num_nil w3).mono ?_
    rintro e w4 ⟨rfl, rfl⟩
    go_wp2
    go_ret
    exact ⟨rfl, HB3.out⟩
  | none =>
    obtain ⟨rfl, hb2⟩ := h2.bad ht
    have HB2 := Lib.hid (HB1.out.trans (hb2.mono HB1.out.size))
    have HP2 := Lib.hid (HP1.out.below hb2)
    obtain ⟨c0, c1, c2, c3, c4, c5, cz⟩ := HP2.out
    rw [HX.out.1] at c0; rw [HX.out.2.1] at c1; rw [HX.out.2.2.1] at c2; rw [HX.out.2.2.2.1] at c4; rw [HX.out.2.2.2.2] at c5
    have hcall := rtext_any x p w2 ((H.out.below HB2.out).more HB2.out.size) HS.out
    rw [HVV.out] at hcall
    have HCALL2 := Lib.hid hcall
    have HTT := Lib.hid ht
    clear hcall hb2 h2 ht
    go_wp2_with fail
    refine HCALL2.out.mono ?_
    intro e w3 h3
    obtain ⟨rfl, hb3⟩ := h3.bad HTT.out
    have HB3 := Lib.hid (HB2.out.trans (hb3.mono HB2.out.size))
    clear hb3 h3 c0 c1 c2 c3 c4 c5 cz
    go_wp2_with fail
    refine (Num_any ea 20 (by omega) w3 (HE.out.below HB3.out)).mono ?_
    rintro e w4 ⟨rfl, rfl⟩
    go_wp2
    go_ret
    exact ⟨rfl, HB3.out⟩
end Go.Proofs.YtmdpfikalekmlaaDoor
