/- Layer 20: the law of there and back: listings. -/
import Derived.Test.YtmdpfikalekmlaaDoorKr
import Derived.Test.YtmdpfikalekmlaaDoorTw
import Derived.Test.YtmdpfikalekmlaaDoorSe
import Derived.Test.YtmdpfikalekmlaaDoorEv
import Derived.Test.YtmdpfikalekmlaaDoorIl
import Derived.Test.YtmdpfikalekmlaaDoorRq
namespace Go.Proofs.YtmdpfikalekmlaaDoor
open Go.RowKit
set_option maxRecDepth 100000
set_option maxHeartbeats 40000000
set_option linter.unusedSimpArgs false
set_option linter.unusedVariables false

/-- The variables that reading looks at. -/
def IsaEnvB (w : World) (ea : List Addr) : Prop := ErrEnv w ea ∧ TabEnv w ∧ Pow10 w ∧ PuEnv w
theorem IsaEnvB.below {w w' : World} {ea : List Addr} (h : IsaEnvB w ea) (hb : Below w.heap.size w w') : IsaEnvB w' ea :=
  ⟨h.1.below hb, h.2.1.below hb, h.2.2.1.below hb, h.2.2.2.belowW hb⟩
theorem puEnv_of {W : World} {l : List (String × DataW Unit)} (h : laidMet Tryd.prog l W) (e : l.filter (fun x => x.1 == "strconv.ErrRange") = [("strconv.ErrRange", errRow [118, 97, 108, 117, 101, 32, 111, 117, 116, 32, 111, 102, 32, 114, 97, 110, 103, 101])]) : PuEnv W := by
  have := h.filter (fun x => x.1 == "strconv.ErrRange")
  rw [e] at this
  obtain ⟨ps, h1, h2, h3⟩ := this
  obtain ⟨ea, g1, -, -, -⟩ := errsAt_of [("strconv.ErrRange", [118, 97, 108, 117, 101, 32, 111, 117, 116, 32, 111, 102, 32, 114, 97, 110, 103, 101])] [32] ps (by kernel_rfl) (by
    intro g hg
    rw [List.mem_singleton.1 hg]; kernel_rfl) h1 h2 h3
  match ea, g1 with
  | [a], g1 => exact ⟨_, g1.1, .inr ⟨_, _, rfl⟩⟩
theorem isaB_env {W : World} {l : List (String × DataW Unit)} (h : laidMet Tryd.prog l W) (e1 : l.filter (fun x => (errRows.map (·.1)).contains x.1) = errRows.map fun x => (x.1, errRow x.2))
    (e2 : l.filter (fun x => x.1 == "concord/isa.table") = [("concord/isa.table", Rows.laid_concord_isa_table)]) (e3 : l.filter (fun x => x.1 == "internal/strconv.uint64pow10") = [("internal/strconv.uint64pow10", Lib.tabData .u64 Lib.pow10Tab)])
    (e4 : l.filter (fun x => x.1 == "strconv.ErrRange") = [("strconv.ErrRange", errRow [118, 97, 108, 117, 101, 32, 111, 117, 116, 32, 111, 102, 32, 114, 97, 110, 103, 101])]) : ∃ ea, IsaEnvB W ea := by
  obtain ⟨ea, hE⟩ := errEnv_of h e1
  exact ⟨ea, hE, isaTab_of h e2, pow10_of h e3, puEnv_of h e4⟩
theorem isaBack_env {W : World} (h : laidMetH Tryd.prog Rows.isaBackUptoRow.laid W) : ∃ ea, IsaEnvB W ea :=
  isaB_env (l := Rows.isaBackUptoRow.laid) h (by rfl) (by rfl) (by rfl) (by rfl)
end Go.Proofs.YtmdpfikalekmlaaDoor
/- Layer 20: the law of there and back: listings, walked. -/
namespace Go.Proofs.YtmdpfikalekmlaaDoor
open Go.RowKit
set_option maxRecDepth 100000
set_option maxHeartbeats 40000000
set_option linter.unusedSimpArgs false
set_option linter.unusedVariables false

theorem count_yes {s : List UInt8} {k : Nat} (h : k < s.length) (e : s[k] = 10) : (s.take (k + 1)).count 10 = (s.take k).count 10 + 1 := by
  rw [← List.take_append_getElem h, List.count_append, List.count_singleton, e]; rfl
theorem count_no {s : List UInt8} {k : Nat} (h : k < s.length) (e : ¬ s[k] = 10) : (s.take (k + 1)).count 10 = (s.take k).count 10 := by
  rw [← List.take_append_getElem h, List.count_append, List.count_singleton]
  simp [e]
def BlRel2 (s : List UInt8) (lv iv : Value) : Prop := ∃ k : Nat, k ≤ s.length ∧ iv = .int .i64 (k : Int) ∧ lv = .int .i64 (((s.take k).count 10 + 1 : Nat) : Int)
def pgNone : Pg := ⟨[], [], [], false, [], []⟩
def pgvNone : PgV := ⟨.slice none 0 0, .slice none 0 0, .slice none 0 0, .slice none 0 0, .slice none 0 0, []⟩
theorem pgr_none (w : World) (B : Nat) : PgR w B pgvNone pgNone := ⟨RdL.nil _ _ _, RdL.nil _ _ _, RdL.nil _ _ _, rfl, fun y hy => (by cases hy), RdL.nil _ _ _, RdL.nil _ _ _⟩
theorem small_none : SmallPg pgNone := by
  refine ⟨⟨fun x hx => (by cases hx), Nat.zero_le _⟩, ⟨fun c hc => (by cases hc), Nat.zero_le _⟩, ⟨fun n hn => (by cases hn), Nat.zero_le _⟩, ⟨fun x hx => (by cases hx), Nat.zero_le _⟩, Nat.zero_le _⟩
theorem int_eq {a b : Int} (h : a = b) : Value.int .i64 a = Value.int .i64 b := by rw [h]
theorem isaBack_walk (w : World) (ea : List Addr) (x : PgV) (p : Pg) (s : List UInt8) (hx : PgR w w.heap.size x p) (hs : SmallPg p) (hw : WtPg p) (hl : s.length ≤ 1048576) (hE : IsaEnvB w ea) :
    Calls Tryd.prog 9 #[x.val p, .string (str s)] w fun e w' => e = .returned (.bool true) ∧ Below w.heap.size w w' := by
  have HX := Lib.hid hx; have HSP := Lib.hid hs; have HWP := Lib.hid hw; have HE := Lib.hid hE
  have hxv := hx
  obtain ⟨av, cv, nv, dv, kv, nl⟩ := x
  obtain ⟨aA, ac, rfl, -, -⟩ := hxv.avgs.open_
  obtain ⟨cA, cc, rfl, -, -⟩ := hxv.curs.open_
  have hno : RdL nrS w w.heap.size nv nl := hxv.nears
  obtain ⟨nA, nc, hnv, -, -⟩ := hno.open_
  subst hnv
  obtain ⟨dA, dc, rfl, -, -⟩ := hxv.drive.open_
  obtain ⟨kA, kc, rfl, -, -⟩ := hxv.code.open_
  clear hno hxv
  have hb0 : Below w.heap.size w (w.alloc (.cells #[.slice aA p.avgs.length ac, .slice cA p.curs.length cc, .slice nA nl.length nc, .bool p.all, .slice dA p.drive.length dc, .slice kA p.code.length kc] 44)) := (Below.refl _ _).alloc (Nat.le_refl _) _
  have P1 := PgAt.new w ⟨.slice aA p.avgs.length ac, .slice cA p.curs.length cc, .slice nA nl.length nc, .slice dA p.drive.length dc, .slice kA p.code.length kc, nl⟩ p
  have HB0 := Lib.hid hb0; have HP1 := Lib.hid P1
  have en1 := fun W => errI_nnil ea 20 W
  have en2 := fun W => errI_nil ea 20 W
  have en3 := fun W => errI_nnil ea 15 W
  have en4 := fun W => errI_nil ea 15 W
  have eg0 := fun op x y W => errI_guard0 ea 20 op x y W
  have eg1 := fun op x y W => errI_guard0 ea 15 op x y W
  clear hx hs hw hE hb0 P1
  simp only [PgV.val]
  go_enter Tryd.func9, Tryd.ntmps9
  go_wp2_with fail
  generalize (w.alloc (.cells #[.slice aA p.avgs.length ac, .slice cA p.curs.length cc, .slice nA nl.length nc, .bool p.all, .slice dA p.drive.length dc, .slice kA p.code.length kc] 44)) = w0 at *
  refine (lives_any _ ea (HE.out.below HB0.out).1.few (HE.out.below HB0.out).2.1 (HE.out.below HB0.out).2.2.1).mono ?_
  rintro e w1 ⟨rfl, hb1⟩
  have HB1 := Lib.hid (HB0.out.trans (hb1.mono HB0.out.size))
  have HQ1 := Lib.hid (HP1.out.below hb1)
  obtain ⟨a0, a1, a2, a3, a4, a5, az⟩ := HQ1.out
  simp only [] at a0 a1 a2 a3 a4 a5
  have HC1 := Lib.hid (Text_any ⟨.slice aA p.avgs.length ac, .slice cA p.curs.length cc, .slice nA nl.length nc, .slice dA p.drive.length dc, .slice kA p.code.length kc, nl⟩ p w1 ea ((HX.out.below HB1.out).more HB1.out.size) HSP.out (HE.out.below HB1.out).1.few (HE.out.below HB1.out).2.1 (HE.out.below HB1.out).2.2.1)
  clear hb1
  go_wp2_with fail
  refine HC1.out.mono ?_
  intro e w2 h2
  clear a0 a1 a2 a3 a4 a5 az
  have HB2 := Lib.hid (HB1.out.trans (h2.1.mono HB1.out.size))
  have HQ2 := Lib.hid (HQ1.out.below h2.1)
  cases htp : textP p with
  | none =>
    obtain ⟨rfl, -⟩ := h2.bad htp
    clear htp h2
    go_upto_if 24 with (fail)
    go_cut [] (fun wx => Below w.heap.size w wx)
    case first =>
      go_wp2_with fail
      refine (Num_any ea 20 (by omega) w2 (HE.out.below HB2.out).1).mono ?_
      rintro e w3 ⟨rfl, rfl⟩
      go_wp2
      go_meet
      exact HB2.out
    case rest =>
      have HBC := Lib.hid hcut
      clear hcut
      have hls : (splitS 10 s).length ≤ 20000000 := by rw [count_split]; have := List.count_le_length (a := (10 : UInt8)) (l := s); omega
      have hrs0 := read_any s wc ea (by omega) hls (HE.out.below HBC.out).1 (HE.out.below HBC.out).2.1 (HE.out.below HBC.out).2.2.2
      cases hrs : readP s with
      | inl q =>
        have HTQ := Lib.hid (textP_readP hrs).1
        have HSQ := Lib.hid (small_read hrs hl)
        rw [hrs] at hrs0
        have HRS := Lib.hid hrs0
        clear hrs hrs0 hls
        go_wp2_with fail
        refine HRS.out.mono ?_
        rintro e w5 ⟨hb5, y, hey, hpo⟩
        have HB5 := Lib.hid (HBC.out.trans (hb5.mono HBC.out.size))
        obtain ⟨b1, b2, b3, b4, b5, b6, b7, b8, b9, b10, hy⟩ := hpo.form
        have HY := Lib.hid hpo.read
        rw [hy] at HY
        generalize y.nl = ml at *
        have hev : e = .returned (.tuple #[.agg #[.slice b1 q.avgs.length b2, .slice b3 q.curs.length b4, .slice b5 ml.length b6, .bool q.all, .slice b7 q.drive.length b8, .slice b9 q.code.length b10], .int .i64 0, .nilIface]) := by rw [hey, hy]; rfl
        clear hey
        subst hev
        have HBA := Lib.hid ((Below.refl w5.heap.size w5).alloc (Nat.le_refl _) (.cells #[.slice b1 q.avgs.length b2, .slice b3 q.curs.length b4, .slice b5 ml.length b6, .bool q.all, .slice b7 q.drive.length b8, .slice b9 q.code.length b10] 44))
        have HB6 := Lib.hid (HB5.out.trans (HBA.out.mono HB5.out.size))
        have HTX := Lib.hid (Text_any ⟨.slice b1 q.avgs.length b2, .slice b3 q.curs.length b4, .slice b5 ml.length b6, .slice b7 q.drive.length b8, .slice b9 q.code.length b10, ml⟩ q (w5.alloc (.cells #[.slice b1 q.avgs.length b2, .slice b3 q.curs.length b4, .slice b5 ml.length b6, .bool q.all, .slice b7 q.drive.length b8, .slice b9 q.code.length b10] 44)) ea ((HY.out.below HBA.out).more HBA.out.size) HSQ.out (HE.out.below HB6.out).1.few (HE.out.below HB6.out).2.1 (HE.out.below HB6.out).2.2.1)
        clear hb5 hpo hy
        go_wp2_with fail
        refine HTX.out.mono ?_
        intro e w6 h6
        obtain ⟨rfl, hb6⟩ := h6.good HTQ.out
        have HB7 := Lib.hid (HB6.out.trans (hb6.mono HB6.out.size))
        clear h6 hb6
        generalize str s = ss at *
        go_wp2
        go_ret
        exact ⟨rfl, HB7.out⟩
      | inr n =>
        have hn := readP_le hrs
        rw [count_split] at hn
        obtain ⟨hn1, hn2⟩ := hn
        rw [hrs] at hrs0
        have HRS := Lib.hid hrs0
        have hn1' : (1 : Int) ≤ (n : Int) := by omega
        have HN2 := Lib.hid hn2
        clear hrs hrs0 hls hn1 hn2
        go_wp2_with fail
        refine HRS.out.mono ?_
        rintro e w5 ⟨hb5, hey⟩
        have hev : e = .returned (.tuple #[.agg #[.slice none 0 0, .slice none 0 0, .slice none 0 0, .bool false, .slice none 0 0, .slice none 0 0], .int .i64 (n : Int), errI ea 15]) := hey
        clear hey
        subst hev
        have HB5 := Lib.hid (HBC.out.trans (hb5.mono HBC.out.size))
        have HBA := Lib.hid ((Below.refl w5.heap.size w5).alloc (Nat.le_refl _) (.cells #[.slice none 0 0, .slice none 0 0, .slice none 0 0, .bool false, .slice none 0 0, .slice none 0 0] 44))
        have HB6 := Lib.hid (HB5.out.trans (HBA.out.mono HB5.out.size))
        have HK6 := Lib.hid (Blk.new w5 44 #[.slice none 0 0, .slice none 0 0, .slice none 0 0, .bool false, .slice none 0 0, .slice none 0 0])
        clear hb5
        go_wp2
        generalize (w5.alloc (.cells #[.slice none 0 0, .slice none 0 0, .slice none 0 0, .bool false, .slice none 0 0, .slice none 0 0] 44)) = W6 at *
        have hsz : (str s).size = s.length := str_size s
        go_loop [14, 15] (fun lv iv => BlRel2 s lv iv) (fun _ iv => s.length - (intOf iv).toNat)
        case atStart => exact ⟨0, Nat.zero_le _, rfl, rfl⟩
        case round =>
          obtain ⟨k, hk, rfl, rfl⟩ := hrel
          have hcl : (s.take k).count 10 ≤ k := Nat.le_trans List.count_le_length (List.length_take_le _ _)
          by_cases hlt : k < s.length
          · have hlt2 : k < (str s).size := by rw [str_size]; exact hlt
            have hgk : (str s)[k] = s[k] := rfl
            by_cases h10 : s[k] = 10
            · have e10 : (((str s)[k]).toNat : Int) = 10 := by rw [hgk, h10]; rfl
              have e11 : ((((str s)[k]).toNat : Int) == 10) = true := by rw [e10]; rfl
              have HCU := Lib.hid (show (s.take (k + 1)).count 10 = (s.take k).count 10 + 1 from count_yes hlt h10)
              clear hgk h10 e10
              go_wp2
              go_round
              case rel => exact ⟨k + 1, hlt, by go_num, by rw [HCU.out]; exact int_eq (by omega)⟩
              case measure => simp [intOf]; omega
            · have e10 : ¬ (((str s)[k]).toNat : Int) = 10 := by
                rw [hgk]; intro e
                exact h10 (UInt8.toNat_inj.1 (by show s[k].toNat = 10; omega))
              have e11 : ((((str s)[k]).toNat : Int) == 10) = false := by simpa using e10
              have HCU := Lib.hid (show (s.take (k + 1)).count 10 = (s.take k).count 10 from count_no hlt h10)
              clear hgk h10 e10
              go_wp2
              go_round
              case rel => exact ⟨k + 1, hlt, by go_num, by rw [HCU.out]⟩
              case measure => simp [intOf]; omega
          · obtain rfl : k = s.length := by omega
            have HCE := Lib.hid (show (s.take s.length).count 10 = s.count 10 from by rw [List.take_length])
            have hn2' : (n : Int) ≤ (((s.take s.length).count 10 + 1 : Nat) : Int) := by
              have h1 := HN2.out; have h2 := HCE.out
              omega
            have c0 := HK6.out.cell 0; have c1 := HK6.out.cell 1; have c2 := HK6.out.cell 2; have c3 := HK6.out.cell 3; have c4 := HK6.out.cell 4; have c5 := HK6.out.cell 5
            simp only [List.getElem?_toArray, List.getElem?_cons_zero, List.getElem?_cons_succ] at c0 c1 c2 c3 c4 c5
            generalize (s.take s.length).count 10 = cnt at *
            go_wp2_with fail
            refine (Num_any ea 15 (by omega) W6 (HE.out.below HB6.out).1).mono ?_
            rintro e w7 ⟨rfl, rfl⟩
            have hsm := same20_any pgvNone pgvNone pgNone pgNone W6 (pgr_none _ _) (pgr_none _ _) small_none small_none
            rw [decide_eq_true (rfl : pgNone = pgNone)] at hsm
            have HSM := Lib.hid hsm
            clear hsm
            go_wp2_with fail
            refine HSM.out.mono ?_
            rintro e w8 ⟨rfl, hb8⟩
            have HB8 := Lib.hid (HB6.out.trans (hb8.mono HB6.out.size))
            clear hb8
            go_wp2
            go_ret
            exact ⟨rfl, HB8.out⟩
  | some t =>
    obtain ⟨rfl, -⟩ := h2.good htp
    have hwt := text_wt HSP.out HWP.out htp
    have hrp := readP_textP htp (smallQ_of HSP.out)
    have hrd := read_any t w2 ea hwt.1 hwt.2 (HE.out.below HB2.out).1 (HE.out.below HB2.out).2.1 (HE.out.below HB2.out).2.2.2
    rw [hrp] at hrd
    have HRD := Lib.hid hrd
    clear htp h2 hwt hrp hrd
    go_upto_if 24 with (fail)
    go_cut [] (fun wx => Below w.heap.size w wx)
    case first =>
      go_wp2_with fail
      refine HRD.out.mono ?_
      rintro e w3 ⟨hb3, y, hey, hpo⟩
      have HB3 := Lib.hid (HB2.out.trans (hb3.mono HB2.out.size))
      have HQ3 := Lib.hid (HQ2.out.below hb3)
      obtain ⟨a0, a1, a2, a3, a4, a5, az⟩ := HQ3.out
      simp only [] at a0 a1 a2 a3 a4 a5
      obtain ⟨b1, b2, b3, b4, b5, b6, b7, b8, b9, b10, hy⟩ := hpo.form
      have HY := Lib.hid hpo.read
      rw [hy] at HY
      generalize y.nl = ml at *
      have hev : e = .returned (.tuple #[.agg #[.slice b1 p.avgs.length b2, .slice b3 p.curs.length b4, .slice b5 ml.length b6, .bool p.all, .slice b7 p.drive.length b8, .slice b9 p.code.length b10], .int .i64 0, .nilIface]) := by rw [hey, hy]; rfl
      clear hey
      subst hev
      have HBA := Lib.hid ((Below.refl w3.heap.size w3).alloc (Nat.le_refl _) (.cells #[.slice b1 p.avgs.length b2, .slice b3 p.curs.length b4, .slice b5 ml.length b6, .bool p.all, .slice b7 p.drive.length b8, .slice b9 p.code.length b10] 44))
      have HSM := Lib.hid (same20_any ⟨.slice aA p.avgs.length ac, .slice cA p.curs.length cc, .slice nA nl.length nc, .slice dA p.drive.length dc, .slice kA p.code.length kc, nl⟩ ⟨.slice b1 p.avgs.length b2, .slice b3 p.curs.length b4, .slice b5 ml.length b6, .slice b7 p.drive.length b8, .slice b9 p.code.length b10, ml⟩ p p (w3.alloc (.cells #[.slice b1 p.avgs.length b2, .slice b3 p.curs.length b4, .slice b5 ml.length b6, .bool p.all, .slice b7 p.drive.length b8, .slice b9 p.code.length b10] 44)) ((HX.out.below (HB3.out.trans (HBA.out.mono HB3.out.size))).more (HB3.out.trans (HBA.out.mono HB3.out.size)).size) ((HY.out.below HBA.out).more HBA.out.size) HSP.out HSP.out)
      have HDP := Lib.hid (show decide (p = p) = true from decide_eq_true rfl)
      clear hb3 hpo hy
      go_wp2_with fail
      refine HSM.out.mono ?_
      rintro e w4 ⟨rfl, hb4⟩
      rw [HDP.out]
      have HB4 := Lib.hid (HB3.out.trans ((HBA.out.trans (hb4.mono HBA.out.size)).mono HB3.out.size))
      clear hb4 a0 a1 a2 a3 a4 a5 az
      go_wp2
      go_meet
      exact HB4.out
    case rest =>
      have HBC := Lib.hid hcut
      clear hcut
      have hls : (splitS 10 s).length ≤ 20000000 := by rw [count_split]; have := List.count_le_length (a := (10 : UInt8)) (l := s); omega
      have hrs0 := read_any s wc ea (by omega) hls (HE.out.below HBC.out).1 (HE.out.below HBC.out).2.1 (HE.out.below HBC.out).2.2.2
      cases hrs : readP s with
      | inl q =>
        have HTQ := Lib.hid (textP_readP hrs).1
        have HSQ := Lib.hid (small_read hrs hl)
        rw [hrs] at hrs0
        have HRS := Lib.hid hrs0
        clear hrs hrs0 hls
        go_wp2_with fail
        refine HRS.out.mono ?_
        rintro e w5 ⟨hb5, y, hey, hpo⟩
        have HB5 := Lib.hid (HBC.out.trans (hb5.mono HBC.out.size))
        obtain ⟨b1, b2, b3, b4, b5, b6, b7, b8, b9, b10, hy⟩ := hpo.form
        have HY := Lib.hid hpo.read
        rw [hy] at HY
        generalize y.nl = ml at *
        have hev : e = .returned (.tuple #[.agg #[.slice b1 q.avgs.length b2, .slice b3 q.curs.length b4, .slice b5 ml.length b6, .bool q.all, .slice b7 q.drive.length b8, .slice b9 q.code.length b10], .int .i64 0, .nilIface]) := by rw [hey, hy]; rfl
        clear hey
        subst hev
        have HBA := Lib.hid ((Below.refl w5.heap.size w5).alloc (Nat.le_refl _) (.cells #[.slice b1 q.avgs.length b2, .slice b3 q.curs.length b4, .slice b5 ml.length b6, .bool q.all, .slice b7 q.drive.length b8, .slice b9 q.code.length b10] 44))
        have HB6 := Lib.hid (HB5.out.trans (HBA.out.mono HB5.out.size))
        have HTX := Lib.hid (Text_any ⟨.slice b1 q.avgs.length b2, .slice b3 q.curs.length b4, .slice b5 ml.length b6, .slice b7 q.drive.length b8, .slice b9 q.code.length b10, ml⟩ q (w5.alloc (.cells #[.slice b1 q.avgs.length b2, .slice b3 q.curs.length b4, .slice b5 ml.length b6, .bool q.all, .slice b7 q.drive.length b8, .slice b9 q.code.length b10] 44)) ea ((HY.out.below HBA.out).more HBA.out.size) HSQ.out (HE.out.below HB6.out).1.few (HE.out.below HB6.out).2.1 (HE.out.below HB6.out).2.2.1)
        clear hb5 hpo hy
        go_wp2_with fail
        refine HTX.out.mono ?_
        intro e w6 h6
        obtain ⟨rfl, hb6⟩ := h6.good HTQ.out
        have HB7 := Lib.hid (HB6.out.trans (hb6.mono HB6.out.size))
        clear h6 hb6
        generalize str s = ss at *
        go_wp2
        go_ret
        exact ⟨rfl, HB7.out⟩
      | inr n =>
        have hn := readP_le hrs
        rw [count_split] at hn
        obtain ⟨hn1, hn2⟩ := hn
        rw [hrs] at hrs0
        have HRS := Lib.hid hrs0
        have hn1' : (1 : Int) ≤ (n : Int) := by omega
        have HN2 := Lib.hid hn2
        clear hrs hrs0 hls hn1 hn2
        go_wp2_with fail
        refine HRS.out.mono ?_
        rintro e w5 ⟨hb5, hey⟩
        have hev : e = .returned (.tuple #[.agg #[.slice none 0 0, .slice none 0 0, .slice none 0 0, .bool false, .slice none 0 0, .slice none 0 0], .int .i64 (n : Int), errI ea 15]) := hey
        clear hey
        subst hev
        have HB5 := Lib.hid (HBC.out.trans (hb5.mono HBC.out.size))
        have HBA := Lib.hid ((Below.refl w5.heap.size w5).alloc (Nat.le_refl _) (.cells #[.slice none 0 0, .slice none 0 0, .slice none 0 0, .bool false, .slice none 0 0, .slice none 0 0] 44))
        have HB6 := Lib.hid (HB5.out.trans (HBA.out.mono HB5.out.size))
        have HK6 := Lib.hid (Blk.new w5 44 #[.slice none 0 0, .slice none 0 0, .slice none 0 0, .bool false, .slice none 0 0, .slice none 0 0])
        clear hb5
        go_wp2
        generalize (w5.alloc (.cells #[.slice none 0 0, .slice none 0 0, .slice none 0 0, .bool false, .slice none 0 0, .slice none 0 0] 44)) = W6 at *
        have hsz : (str s).size = s.length := str_size s
        go_loop [14, 15] (fun lv iv => BlRel2 s lv iv) (fun _ iv => s.length - (intOf iv).toNat)
        case atStart => exact ⟨0, Nat.zero_le _, rfl, rfl⟩
        case round =>
          obtain ⟨k, hk, rfl, rfl⟩ := hrel
          have hcl : (s.take k).count 10 ≤ k := Nat.le_trans List.count_le_length (List.length_take_le _ _)
          by_cases hlt : k < s.length
          · have hlt2 : k < (str s).size := by rw [str_size]; exact hlt
            have hgk : (str s)[k] = s[k] := rfl
            by_cases h10 : s[k] = 10
            · have e10 : (((str s)[k]).toNat : Int) = 10 := by rw [hgk, h10]; rfl
              have e11 : ((((str s)[k]).toNat : Int) == 10) = true := by rw [e10]; rfl
              have HCU := Lib.hid (show (s.take (k + 1)).count 10 = (s.take k).count 10 + 1 from count_yes hlt h10)
              clear hgk h10 e10
              go_wp2
              go_round
              case rel => exact ⟨k + 1, hlt, by go_num, by rw [HCU.out]; exact int_eq (by omega)⟩
              case measure => simp [intOf]; omega
            · have e10 : ¬ (((str s)[k]).toNat : Int) = 10 := by
                rw [hgk]; intro e
                exact h10 (UInt8.toNat_inj.1 (by show s[k].toNat = 10; omega))
              have e11 : ((((str s)[k]).toNat : Int) == 10) = false := by simpa using e10
              have HCU := Lib.hid (show (s.take (k + 1)).count 10 = (s.take k).count 10 from count_no hlt h10)
              clear hgk h10 e10
              go_wp2
              go_round
              case rel => exact ⟨k + 1, hlt, by go_num, by rw [HCU.out]⟩
              case measure => simp [intOf]; omega
          · obtain rfl : k = s.length := by omega
            have HCE := Lib.hid (show (s.take s.length).count 10 = s.count 10 from by rw [List.take_length])
            have hn2' : (n : Int) ≤ (((s.take s.length).count 10 + 1 : Nat) : Int) := by
              have h1 := HN2.out; have h2 := HCE.out
              omega
            have c0 := HK6.out.cell 0; have c1 := HK6.out.cell 1; have c2 := HK6.out.cell 2; have c3 := HK6.out.cell 3; have c4 := HK6.out.cell 4; have c5 := HK6.out.cell 5
            simp only [List.getElem?_toArray, List.getElem?_cons_zero, List.getElem?_cons_succ] at c0 c1 c2 c3 c4 c5
            generalize (s.take s.length).count 10 = cnt at *
            go_wp2_with fail
            refine (Num_any ea 15 (by omega) W6 (HE.out.below HB6.out).1).mono ?_
            rintro e w7 ⟨rfl, rfl⟩
            have hsm := same20_any pgvNone pgvNone pgNone pgNone W6 (pgr_none _ _) (pgr_none _ _) small_none small_none
            rw [decide_eq_true (rfl : pgNone = pgNone)] at hsm
            have HSM := Lib.hid hsm
            clear hsm
            go_wp2_with fail
            refine HSM.out.mono ?_
            rintro e w8 ⟨rfl, hb8⟩
            have HB8 := Lib.hid (HB6.out.trans (hb8.mono HB6.out.size))
            clear hb8
            go_wp2
            go_ret
            exact ⟨rfl, HB8.out⟩
theorem isaBack_row (w : World) (x : PgV) (p : Pg) (s : ByteArray) (hx : PgR w w.heap.size x p) (hs : SmallPg p) (hw : WtPg p) (hl : s.data.toList.length ≤ 1048576) (hE : ∃ ea, IsaEnvB w ea) :
    Calls Tryd.prog 9 #[x.val p, .string s] w fun e w' => e = .returned (.bool true) ∧ Below w.heap.size w w' := by
  obtain ⟨ea, hE⟩ := hE
  have h := isaBack_walk w ea x p s.data.toList hx hs hw hl hE
  rw [str_self] at h
  exact h
end Go.Proofs.YtmdpfikalekmlaaDoor
