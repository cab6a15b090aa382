/- Layer 4: the walk of Parse. -/
import Derived.Test.YtdkalcecmdadeaaDoorPs
import Derived.Test.YtdkalcecmdadeaaDoorRck
import Derived.Test.YtdkalcecmdadeaaDoorBlk
import Derived.Deep.CutBlock
namespace Go.Proofs.YtdkalcecmdadeaaDoor
open Go.RowKit
set_option maxRecDepth 100000
set_option maxHeartbeats 1000000
set_option linter.unusedSimpArgs false
set_option linter.unusedVariables false

/-- What Parse hands back. -/
def ParseRet (ea : List Addr) (w : World) (r : Option (List Fd)) (e : Ending) (w' : World) : Prop :=
  Below w.heap.size w w' ∧ match r with
    | none => e = .returned (.tuple #[.agg #[.slice none 0 0], errI ea 10])
    | some l => ∃ v, e = .returned (.tuple #[.agg #[v], .nilIface]) ∧ OwnL fdS w' w.heap.size v l
theorem jump_ret {l : Nat} {J : Act → World → Prop} {Q : Exit → Act → World → Prop} {a : Act} {w : World} (h : Q .ret a w) : Exit.jump l J Q .ret a w := h
def msr (more : Bool) (rest : List UInt8) : Nat := if more then rest.length + 1 else 0
/-- What the world holds in a round. -/
structure PEnv (w : World) (ea : List Addr) (acc : List Fd) (A : Option Addr) (cap : Nat) (wx : World) : Prop where
  b0 : Blk wx w.heap.size 24 #[.slice none 0 0]
  b1 : Blk wx (w.heap.size + 1) 24 #[.slice A acc.length cap]
  own : OwnL fdS wx (w.heap.size + 2) (.slice A acc.length cap) acc
  bel : Below w.heap.size w wx
  err0 : SchEnv w ea
section
variable {w wx wy : World} {ea : List Addr} {acc : List Fd} {A : Option Addr} {cap : Nat}
theorem PEnv.below (h : PEnv w ea acc A cap wx) (hb : Below wx.heap.size wx wy) : PEnv w ea acc A cap wy :=
  ⟨h.b0.belowW hb, h.b1.belowW hb, h.own.below hb, h.bel.trans (hb.mono h.bel.size), h.err0⟩
theorem PEnv.err (h : PEnv w ea acc A cap wx) : SchEnv wx ea := h.err0.below h.bel
theorem PEnv.set5 (h : PEnv w ea acc A cap wx) {p : Addr} (hp : w.heap.size + 1 < p.block) (hn : ∀ g, (Value.slice A acc.length cap).ownBlock = some g → g < p.block) (u : Value) : PEnv w ea acc A cap (wx.setCell p u) :=
  ⟨h.b0.far (by omega) _, h.b1.far (by omega) _, h.own.farNe (fun g hg => by have := hn g hg; omega) _, h.bel.setCell (by omega) _, h.err0⟩
theorem PEnv.facts (h : PEnv w ea acc A cap wx) : w.heap.size + 1 < wx.heap.size ∧ wx.cell? ⟨w.heap.size + 1, 0, none⟩ = some (.slice A acc.length cap) ∧ wx.cell? ⟨w.heap.size, 0, none⟩ = some (.slice none 0 0) ∧
    wx.frozen? ⟨w.heap.size + 1, 0, none⟩ = false ∧ wx.frozen? ⟨w.heap.size, 0, none⟩ = false ∧ wx.cell? ⟨0, 0, none⟩ = some (errI ea 10) :=
  ⟨h.b1.lt, h.b1.cell 0, h.b0.cell 0, h.b1.frozen 0, h.b0.frozen 0, h.err.c⟩
end
def ParRel (l : List UInt8) (w : World) (ea : List Addr) (g : Nat) (rv mv : Value) (wr : World) : Prop :=
  ∃ (rest : List UInt8) (more : Bool) (acc : List Fd) (A : Option Addr) (cap : Nat), msr more rest ≤ g ∧ PsAt l rest more acc ∧ SmallNames acc ∧ rv = .string (str rest) ∧ mv = .bool more ∧ acc.length ≤ cap ∧ cap ≤ 9223372036854775807 ∧ PEnv w ea acc A cap wr
def StRel (whole : Option Fl) (nm : ByteArray) (kd : Int) (n : Nat) (gf : Nat) (w : World) (ea : List Addr) (acc : List Fd) (A : Option Addr) (cap : Nat) (g : Nat) (cv sv : Value) (wr : World) : Prop :=
  ∃ (chain : List UInt8) (steps : Bool) (f : Fl), msr steps chain ≤ g ∧ chain.length ≤ n ∧ StAt whole chain steps f ∧ cv = .string (str chain) ∧ sv = .bool steps ∧
    Blk wr gf 34 #[.string nm, .int .i64 kd, .bool f.a, .bool f.b, .bool f.c] ∧ PEnv w ea acc A cap wr
theorem str_beq (l m : List UInt8) : ((str l).toList == m) = decide (l = m) := by
  rw [ba_toList, str_data]
  rw [Bool.eq_iff_iff]; simp
theorem step_cases (s : List UInt8) (a b c : Bool) :
    (s = bFold ∧ a = false ∧ b = false ∧ c = false ∧ stepF s ⟨a, b, c⟩ = some ⟨true, b, c⟩) ∨ (s = bFold ∧ a = true ∧ stepF s ⟨a, b, c⟩ = none) ∨ (s = bFold ∧ a = false ∧ b = true ∧ stepF s ⟨a, b, c⟩ = none) ∨ (s = bFold ∧ a = false ∧ b = false ∧ c = true ∧ stepF s ⟨a, b, c⟩ = none) ∨
    (s ≠ bFold ∧ s = bStop ∧ b = false ∧ c = false ∧ stepF s ⟨a, b, c⟩ = some ⟨a, true, c⟩) ∨ (s ≠ bFold ∧ s = bStop ∧ b = true ∧ stepF s ⟨a, b, c⟩ = none) ∨ (s ≠ bFold ∧ s = bStop ∧ b = false ∧ c = true ∧ stepF s ⟨a, b, c⟩ = none) ∨
    (s ≠ bFold ∧ s ≠ bStop ∧ s = bStem ∧ c = false ∧ stepF s ⟨a, b, c⟩ = some ⟨a, b, true⟩) ∨ (s ≠ bFold ∧ s ≠ bStop ∧ s = bStem ∧ c = true ∧ stepF s ⟨a, b, c⟩ = none) ∨ (s ≠ bFold ∧ s ≠ bStop ∧ s ≠ bStem ∧ stepF s ⟨a, b, c⟩ = none) := by
  have n1 : bStop ≠ bFold := by decide
  have n2 : bStem ≠ bFold := by decide
  have n3 : bStem ≠ bStop := by decide
  by_cases h1 : s = bFold
  · subst h1
    cases a <;> cases b <;> cases c <;> simp [stepF, n1.symm, n2.symm]
  · by_cases h2 : s = bStop
    · subst h2
      cases a <;> cases b <;> cases c <;> simp [stepF, n1, n3.symm]
    · by_cases h3 : s = bStem
      · subst h3
        cases a <;> cases b <;> cases c <;> simp [stepF, n2, n3]
      · simp [stepF, h1, h2, h3]
theorem size_setCell' (w : World) (p : Addr) (u : Value) : (w.setCell p u).heap.size = w.heap.size := by simp [World.setCell]
theorem psch_any (s : ByteArray) (ea : List Addr) (w : World) (hs : s.size ≤ 100000000) (hE : SchEnv w ea) :
    Calls Tryd.prog 17 #[.string s] w (ParseRet ea w (parseL s.data.toList)) := by
  have HE := Lib.hid hE; clear hE
  have hls : s.data.toList.length ≤ 100000000 := by rw [← ba_size]; exact hs
  have csz : 0 < w.heap.size := World.block_lt_of_cell? w ⟨0, 0, none⟩ (HE.out.c)
  go_enter Tryd.func17, Tryd.ntmps17
  go_wp2
  go_step3
  go_wp2
  go_step3
  go_wp2
  go_loopg [5, 6] (s.data.toList.length + 1) (fun g rv mv wr => ParRel s.data.toList w ea g rv mv wr)
  case atStart =>
    have hb : Below w.heap.size w ((w.alloc (.cells #[.slice none 0 0] 24)).alloc (.cells #[.slice none 0 0] 24)) := ((Below.refl _ _).alloc (Nat.le_refl _) _).alloc (by rw [World.size_alloc]; omega) _
    exact ⟨s.data.toList, true, [], none, 0, Nat.le_refl _, PsAt_start _, fun _ h => (by cases h), by rw [str_self], rfl, by simp, by omega, (Blk.new w _ _).alloc _, by have h := Blk.new (w.alloc (.cells #[.slice none 0 0] 24)) 24 #[.slice none 0 0]; rw [World.size_alloc] at h; exact h, OwnL.nil _ _ _, hb, HE.out⟩
  case round =>
    obtain ⟨wo, rfl⟩ : ∃ wo : World, wo = wr := ⟨_, rfl⟩
    obtain ⟨rest, more, acc, A, cap, hms, hps, hsm, rfl, rfl, hcap, hcap2, hpe⟩ := hrel
    have HP := Lib.hid hpe
    obtain ⟨hlt1, c1, c0, z1, z0, cs⟩ := hpe.facts
    have hrl : rest.length ≤ 100000000 := by have := hps.1; omega
    have hal : acc.length + 1 ≤ 100000000000 := by have := hps.2.1; omega
    have HPS := Lib.hid hps; have HSM := Lib.hid hsm
    have k1 := fun W => errI_nnil ea 10 W
    have k2 := fun op x y W => errI_guard0 ea 10 op x y W
    clear hpe hps hsm
    cases more with
    | false =>
      go_wp2_with fail
      refine (check_any (.slice A acc.length cap) acc ea wo wo.heap.size (Nat.le_refl _) (RdL.of_own HP.out.own) HSM.out HP.out.err).mono ?_
      rintro e w2 ⟨he, hb2⟩
      have HP2 := Lib.hid (HP.out.below hb2)
      clear hb2 hlt1 c1 c0 z1 z0 cs
      obtain ⟨hlt1, c1, c0, z1, z0, cs⟩ := HP2.out.facts
      have HPE := Lib.hid (parse_end HPS.out)
      cases hck : chkL acc with
      | true =>
        rw [hck] at he HPE
        simp only [if_true] at he
        subst he
        clear hck
        go_wp2
        refine (bodyPost_ret (v := .tuple #[.agg #[.slice A acc.length cap], .nilIface]) ?_ rfl ?_)
        · simp [results, Tryd.results17, go_sem, c0, c1, z0]
        · rw [HPE.out]
          exact ⟨HP2.out.bel.setCell (Nat.le_refl _) _, _, rfl, (HP2.out.own.far (p := ⟨w.heap.size, 0, none⟩) (by show w.heap.size < w.heap.size + 2; omega) _).more (by omega)⟩
      | false =>
        rw [hck] at he HPE
        simp only [Bool.false_eq_true, if_false] at he
        subst he
        clear hck
        go_wp2
        refine (bodyPost_ret (v := .tuple #[.agg #[.slice none 0 0], errI ea 10]) ?_ rfl ?_)
        · simp [results, Tryd.results17, go_sem, c0, z0]
        · rw [HPE.out]
          exact ⟨HP2.out.bel.setCell (Nat.le_refl _) _, rfl⟩
    | true =>
      have hsz : (str rest).size ≤ 1000000000000 := by rw [str_size]; omega
      have hc59 := cutL_length 59 rest
      have hsz1 : (str (cutL 59 rest).1).size ≤ 1000000000000 := by rw [str_size]; omega
      go_wp2_with fail
      refine (cutB_any (str rest) 59 _ hsz).mono ?_
      rintro e w1 ⟨rfl, hb1⟩
      have HP1 := Lib.hid (HP.out.below hb1)
      clear hb1 hlt1 c1 c0 z1 z0 cs
      obtain ⟨hlt1, c1, c0, z1, z0, cs⟩ := HP1.out.facts
      rw [str_data]
      by_cases h16 : acc.length = 16
      · have t16 : ((acc.length : Int) == 16) = true := by rw [h16]; rfl
        have HPE := Lib.hid (PsAt_full HPS.out h16)
        clear h16
        go_wp2
        go_region
        go_wp2
        refine (bodyPost_ret (v := .tuple #[.agg #[.slice none 0 0], errI ea 10]) ?_ rfl ?_)
        · simp [results, Tryd.results17, go_sem, c0, z0]
        · rw [HPE.out]
          refine ⟨?_, rfl⟩
          repeat (first | with_reducible refine Below.drew ?_ | with_reducible refine Below.setCell ?_ (by simp) _)
          exact HP1.out.bel
      · have t16 : ((acc.length : Int) == 16) = false := by rw [beq_eq_false_iff_ne]; omega
        go_wp2_with fail
        refine (cutB_any (str (cutL 59 rest).1) 58 _ hsz1).mono ?_
        rintro e w2 ⟨rfl, hb2⟩
        have HP2 := Lib.hid (HP1.out.below hb2)
        clear hb2 hlt1 c1 c0 z1 z0 cs
        obtain ⟨hlt1, c1, c0, z1, z0, cs⟩ := HP2.out.facts
        rw [str_data]
        cases h58 : (cutL 58 (cutL 59 rest).1).2.2 with
        | false =>
          have HPE := Lib.hid (PsAt_bad HPS.out (field_none h58))
          clear h58
          go_wp2
          go_region
          go_wp2
          refine (bodyPost_ret (v := .tuple #[.agg #[.slice none 0 0], errI ea 10]) ?_ rfl ?_)
          · simp [results, Tryd.results17, go_sem, c0, z0]
          · rw [HPE.out]
            refine ⟨?_, rfl⟩
            repeat (first | with_reducible refine Below.drew ?_ | with_reducible refine Below.setCell ?_ (by simp) _)
            exact HP2.out.bel
        | true =>
          have H58 := Lib.hid h58
          have hc58 := cutL_length 58 (cutL 59 rest).1
          have hc44 := cutL_length 44 (cutL 58 (cutL 59 rest).1).2.1
          have hsz2 : (str (cutL 58 (cutL 59 rest).1).2.1).size ≤ 1000000000000 := by rw [str_size]; omega
          have hlc : (cutL 44 (cutL 58 (cutL 59 rest).1).2.1).2.1.length ≤ 100000000 := by omega
          have hnm : (str (cutL 58 (cutL 59 rest).1).1).size ≤ maxLen := by unfold maxLen; rw [str_size]; omega
          have HNX := Lib.hid (fun (f : Fl) (hf : chainL (cutL 44 (cutL 58 (cutL 59 rest).1).2.1) = some f) => PsAt_step HPS.out h16 (field_some h58 hf))
          have HBAD := Lib.hid (fun (hf : chainL (cutL 44 (cutL 58 (cutL 59 rest).1).2.1) = none) => PsAt_bad HPS.out (field_bad h58 hf))
          clear h58 hc58 hc44 hc59
          go_wp2_with fail
          refine (cutB_any (str (cutL 58 (cutL 59 rest).1).2.1) 44 _ hsz2).mono ?_
          rintro e w3 ⟨rfl, hb3⟩
          rw [str_data]
          have HF := Lib.hid ((Blk.new w2 _ _).belowW hb3)
          have HP3 := Lib.hid ((HP2.out.below ((Below.refl _ _).alloc (Nat.le_refl _) _)).below hb3)
          clear hb3 hlt1 c1 c0 z1 z0 cs
          have hg2 : w.heap.size + 1 < w2.heap.size := HP2.out.b1.lt
          have HNB := Lib.hid (fun g (hg : (Value.slice A acc.length cap).ownBlock = some g) => (HP2.out.own.lt g hg).2)
          generalize hkc : cutL 44 (cutL 58 (cutL 59 rest).1).2.1 = kc at *
          obtain ⟨kn, ch, st⟩ := kc
          generalize (cutL 58 (cutL 59 rest).1).1 = nm at *
          have HKC := Lib.hid hkc
          clear hkc H58
          obtain ⟨hlt1, c1, c0, z1, z0, cs⟩ := HP3.out.facts
          have hgl : w2.heap.size < w3.heap.size := HF.out.lt
          have f1 := HF.out.cell 1
          have g1 := HF.out.frozen 1
          simp only [List.getElem?_toArray, List.getElem?_cons_succ, List.getElem?_cons_zero] at f1
          have hk4 : kn = bText ∨ (kn ≠ bText ∧ kn = bKeyword) ∨ (kn ≠ bText ∧ kn ≠ bKeyword ∧ kn = bNumber) ∨ (kn ≠ bText ∧ kn ≠ bKeyword ∧ kn ≠ bNumber) := by
            by_cases a : kn = bText
            · exact .inl a
            · by_cases b : kn = bKeyword
              · exact .inr (.inl ⟨a, b⟩)
              · by_cases c : kn = bNumber
                · exact .inr (.inr (.inl ⟨a, b, c⟩))
                · exact .inr (.inr (.inr ⟨a, b, c⟩))
          have e1 := str_beq kn bText
          have e2 := str_beq kn bKeyword
          have e3 := str_beq kn bNumber
          have HKD : Hid (kindOf kn = if kn = bText then 1 else if kn = bKeyword then 2 else if kn = bNumber then 3 else 0) := Lib.hid rfl
          have HX3 := Lib.hid (And.intro HF.out HP3.out)
          go_upto_block 2 with fail
          go_cut [] (fun wx => Blk wx w2.heap.size 34 #[.string (str nm), .int .i64 (kindOf kn), .bool false, .bool false, .bool false] ∧ PEnv w ea acc A cap wx)
          case first =>
            rcases hk4 with q | ⟨q1, q⟩ | ⟨q1, q2, q⟩ | ⟨q1, q2, q3⟩
            · have HK1 := Lib.hid (show kindOf kn = 1 from by rw [HKD.out, if_pos q])
              rw [decide_eq_true q] at e1
              clear q e2 e3
              simp only [bText] at e1
              go_wp2
              go_meet
              rw [HK1.out]
              exact ⟨HF.out.set_ 1 _, HP3.out.set5 hg2 HNB.out _⟩
            · have HK1 := Lib.hid (show kindOf kn = 2 from by rw [HKD.out, if_neg q1, if_pos q])
              rw [decide_eq_false q1] at e1
              rw [decide_eq_true q] at e2
              clear q q1 e3
              simp only [bText] at e1
              simp only [bKeyword] at e2
              go_wp2
              go_meet
              rw [HK1.out]
              exact ⟨HF.out.set_ 1 _, HP3.out.set5 hg2 HNB.out _⟩
            · have HK1 := Lib.hid (show kindOf kn = 3 from by rw [HKD.out, if_neg q1, if_neg q2, if_pos q])
              rw [decide_eq_false q1] at e1
              rw [decide_eq_false q2] at e2
              rw [decide_eq_true q] at e3
              clear q q1 q2
              simp only [bText] at e1
              simp only [bKeyword] at e2
              simp only [bNumber] at e3
              go_wp2
              go_meet
              rw [HK1.out]
              exact ⟨HF.out.set_ 1 _, HP3.out.set5 hg2 HNB.out _⟩
            · have HK1 := Lib.hid (show kindOf kn = 0 from by rw [HKD.out, if_neg q1, if_neg q2, if_neg q3])
              rw [decide_eq_false q1] at e1
              rw [decide_eq_false q2] at e2
              rw [decide_eq_false q3] at e3
              clear q3 q1 q2
              simp only [bText] at e1
              simp only [bKeyword] at e2
              simp only [bNumber] at e3
              go_wp2
              go_meet
              rw [HK1.out]
              exact ⟨HF.out, HP3.out⟩
          case rest =>
            obtain ⟨hf4, hp4⟩ := hcut
            have HF4 := Lib.hid hf4; have HP4 := Lib.hid hp4
            clear hf4 hp4 e1 e2 e3 hk4 f1 g1 c1 c0 z1 z0 cs
            obtain ⟨go, rfl⟩ : ∃ g : Nat, g = gk := ⟨_, rfl⟩
            have HMS : Hid (msr (cutL 59 rest).2.2 (cutL 59 rest).2.1 < go) := Lib.hid (by
              have h0 := cutL_length 59 rest
              have h1 : rest.length + 1 ≤ go := hms
              unfold msr
              split
              · rename_i h2; rw [if_pos h2] at h0; omega
              · omega)
            clear hms
            go_wp2
            go_loopg [12, 13] (msr st ch) (fun g cv sv wr => StRel (chainL (kn, ch, st)) (str nm) (kindOf kn) 100000000 w2.heap.size w ea acc A cap g cv sv wr)
            case atStart => exact ⟨ch, st, ⟨false, false, false⟩, Nat.le_refl _, hlc, StAt_start (kn, ch, st), rfl, rfl, HF4.out, HP4.out⟩
            case round =>
              obtain ⟨chain, steps, f, hm, hcl, hst, rfl, rfl, hf, hpe⟩ := hrel
              have HST := Lib.hid hst
              cases steps with
              | false =>
                have HWF := Lib.hid (HNX.out f (by have h := hst; unfold StAt at h; simpa using h))
                clear hst
                have HPi := Lib.hid hpe
                have HFi := Lib.hid hf
                obtain ⟨hlt1, c1, c0, z1, z0, cs⟩ := hpe.facts
                have e0 := hf.cell 0; have e1 := hf.cell 1; have e2 := hf.cell 2; have e3 := hf.cell 3; have e4 := hf.cell 4
                simp only [List.getElem?_toArray, List.getElem?_cons_succ, List.getElem?_cons_zero] at e0 e1 e2 e3 e4
                have hsi : w.heap.size + 2 ≤ wr.heap.size := by omega
                clear hf hpe hm
                go_wp2_with (at_builtin; refine OwnL.append fdOk HPi.out.own ⟨str nm, kindOf kn, f.a, f.b, f.c⟩ rfl _ _ rfl rfl rfl _ rfl hsi hal ?_; intro v5 w5 ho5 hb5; obtain ⟨A5, cap5, rfl, hq5, hq6, -⟩ := ho5.open_; have HO5 := Lib.hid ho5; have HB5 := Lib.hid hb5; have z5 := (HPi.out.b1.below hb5 (Nat.lt_succ_self _)).frozen 0; have c5 := (HPi.out.b1.below hb5 (Nat.lt_succ_self _)).cell 0; clear ho5 hb5)
                go_roundg (msr (cutL 59 rest).2.2 (cutL 59 rest).2.1)
                case measure => exact HMS.out
                case rel =>
                  have hb0 := HPi.out.b0.below HB5.out (show w.heap.size < w.heap.size + 2 by omega)
                  have hb1 := HPi.out.b1.below HB5.out (show w.heap.size + 1 < w.heap.size + 2 by omega)
                  have hbel := (HPi.out.bel.trans (HB5.out.mono (by omega))).setCell (p := ⟨w.heap.size + 1, 0, none⟩) (show w.heap.size ≤ w.heap.size + 1 by omega) (.slice A5 (acc.length + 1) cap5)
                  have hll : (acc ++ [(⟨str nm, kindOf kn, f.a, f.b, f.c⟩ : Fd)]).length = acc.length + 1 := by simp
                  refine ⟨_, _, acc ++ [⟨str nm, kindOf kn, f.a, f.b, f.c⟩], A5, cap5, Nat.le_refl _, HWF.out, ?_, rfl, rfl, hq5, hq6, ?_, by rw [hll]; exact hb1.set_ 0 _, ?_, hbel, HE.out⟩
                  · intro x hx
                    rw [List.mem_append, List.mem_singleton] at hx
                    rcases hx with hx | rfl
                    · exact HSM.out x hx
                    · exact hnm
                  · exact hb0.far (by show w.heap.size ≠ w.heap.size + 1; omega) _
                  · have h := HO5.out.far (p := ⟨w.heap.size + 1, 0, none⟩) (by show w.heap.size + 1 < w.heap.size + 2; omega) (.slice A5 (acc.length + 1) cap5)
                    exact h
              | true =>
                obtain ⟨wi0, rfl⟩ : ∃ x : World, x = wr := ⟨_, rfl⟩
                have hszc : (str chain).size ≤ 1000000000000 := by rw [str_size]; omega
                go_wp2_with fail
                refine (cutB_any (str chain) 44 _ hszc).mono ?_
                rintro e wi ⟨rfl, hbi⟩
                rw [str_data]
                have HF5 := Lib.hid (hf.belowW hbi)
                have HP5 := Lib.hid (hpe.below hbi)
                have hc44 := cutL_length 44 chain
                have hcl2 : (cutL 44 chain).2.1.length ≤ 100000000 := by omega
                have HMI : Hid (msr (cutL 44 chain).2.2 (cutL 44 chain).2.1 < gk) := Lib.hid (by
                  have h1 : chain.length + 1 ≤ gk := hm
                  unfold msr
                  split
                  · rename_i h2; rw [if_pos h2] at hc44; omega
                  · omega)
                clear hf hpe hbi hst hm hc44
                obtain ⟨hlt1, c1, c0, z1, z0, cs⟩ := HP5.out.facts
                have hgl : w2.heap.size < wi.heap.size := HF5.out.lt
                have x0 := HF5.out.cell 0; have x1 := HF5.out.cell 1; have x2 := HF5.out.cell 2; have x3 := HF5.out.cell 3; have x4 := HF5.out.cell 4
                have y2 := HF5.out.frozen 2; have y3 := HF5.out.frozen 3; have y4 := HF5.out.frozen 4
                simp only [List.getElem?_toArray, List.getElem?_cons_succ, List.getElem?_cons_zero] at x0 x1 x2 x3 x4
                have e1 := str_beq (cutL 44 chain).1 bFold
                have e2 := str_beq (cutL 44 chain).1 bStop
                have e3 := str_beq (cutL 44 chain).1 bStem
                obtain ⟨fa, fb, fc⟩ := f
                simp only [] at x2 x3 x4
                have hcase := step_cases (cutL 44 chain).1 fa fb fc
                generalize hsw : (cutL 44 chain).1 = sw at *
                have HSW := Lib.hid hsw
                clear hsw
                rcases hcase with ⟨q, rfl, rfl, rfl, hstep⟩ | ⟨q, rfl, hstep⟩ | ⟨q, rfl, rfl, hstep⟩ | ⟨q, rfl, rfl, rfl, hstep⟩ | ⟨q1, q, rfl, rfl, hstep⟩ | ⟨q1, q, rfl, hstep⟩ | ⟨q1, q, rfl, rfl, hstep⟩ | ⟨q1, q2, q, rfl, hstep⟩ | ⟨q1, q2, q, rfl, hstep⟩ | ⟨q1, q2, q3, hstep⟩
                · have q2 : sw ≠ bStop := by rw [q]; decide
                  have q3 : sw ≠ bStem := by rw [q]; decide
                  rw [decide_eq_true q] at e1; rw [decide_eq_false q2] at e2; rw [decide_eq_false q3] at e3
                  simp only [bFold] at e1; simp only [bStop] at e2; simp only [bStem] at e3
                  clear q q2 q3
                  have HS2 := Lib.hid (StAt_step HST.out (by rw [HSW.out]; exact hstep))
                  clear hstep
                  go_wp2
                  go_roundg (msr (cutL 44 chain).2.2 (cutL 44 chain).2.1)
                  case measure => exact HMI.out
                  case rel => exact ⟨_, _, _, Nat.le_refl _, hcl2, HS2.out, rfl, rfl, HF5.out.set_ 2 (.bool true), HP5.out.set5 hg2 HNB.out _⟩
                · have q2 : sw ≠ bStop := by rw [q]; decide
                  have q3 : sw ≠ bStem := by rw [q]; decide
                  rw [decide_eq_true q] at e1; rw [decide_eq_false q2] at e2; rw [decide_eq_false q3] at e3
                  simp only [bFold] at e1; simp only [bStop] at e2; simp only [bStem] at e3
                  clear q q2 q3
                  have HPE := Lib.hid (HBAD.out (StAt_bad HST.out (by rw [HSW.out]; exact hstep)))
                  clear hstep
                  go_wp2_with fail
                  refine (check_any (.slice none 0 0) [] ea _ 0 (Nat.zero_le _) (RdL.nil _ _ _) (fun _ h => by cases h) (HE.out.below (HP5.out.bel.setCell (by show w.heap.size ≤ w.heap.size + 1; omega) _))).mono ?_
                  rintro e w6 ⟨he, hb6⟩
                  have he' : e = .returned (errI ea 10) := he
                  subst he'
                  have c06 : w6.cell? ⟨w.heap.size, 0, none⟩ = some (.slice none 0 0) := (hb6.cell (p := ⟨w.heap.size, 0, none⟩) (by rw [size_setCell']; show w.heap.size < wi.heap.size; omega)).trans (by rw [World.cell?_setCell_other _ _ _ _ (by intro h; injection h with h; omega)]; exact c0)
                  have z06 : w6.frozen? ⟨w.heap.size, 0, none⟩ = false := (hb6.frozen (p := ⟨w.heap.size, 0, none⟩) (by rw [size_setCell']; show w.heap.size < wi.heap.size; omega)).trans (by rw [World.frozen?_setCell]; exact z0)
                  have HB6 := Lib.hid ((HP5.out.bel.setCell (p := ⟨w.heap.size + 1, 0, none⟩) (by show w.heap.size ≤ w.heap.size + 1; omega) (.slice none 0 0)).trans (hb6.mono (by rw [size_setCell']; have := HP5.out.bel.size; omega)))
                  clear hb6
                  go_wp2
                  rw [Exit.noGoto_ret]
                  refine (bodyPost_ret (v := .tuple #[.agg #[.slice none 0 0], errI ea 10]) ?_ rfl ?_)
                  · simp [results, Tryd.results17, go_sem, c06, z06]
                  · rw [HPE.out]
                    exact ⟨HB6.out.setCell (Nat.le_refl _) _, rfl⟩
                · have q2 : sw ≠ bStop := by rw [q]; decide
                  have q3 : sw ≠ bStem := by rw [q]; decide
                  rw [decide_eq_true q] at e1; rw [decide_eq_false q2] at e2; rw [decide_eq_false q3] at e3
                  simp only [bFold] at e1; simp only [bStop] at e2; simp only [bStem] at e3
                  clear q q2 q3
                  have HPE := Lib.hid (HBAD.out (StAt_bad HST.out (by rw [HSW.out]; exact hstep)))
                  clear hstep
                  go_wp2_with fail
                  refine (check_any (.slice none 0 0) [] ea _ 0 (Nat.zero_le _) (RdL.nil _ _ _) (fun _ h => by cases h) (HE.out.below (HP5.out.bel.setCell (by show w.heap.size ≤ w.heap.size + 1; omega) _))).mono ?_
                  rintro e w6 ⟨he, hb6⟩
                  have he' : e = .returned (errI ea 10) := he
                  subst he'
                  have c06 : w6.cell? ⟨w.heap.size, 0, none⟩ = some (.slice none 0 0) := (hb6.cell (p := ⟨w.heap.size, 0, none⟩) (by rw [size_setCell']; show w.heap.size < wi.heap.size; omega)).trans (by rw [World.cell?_setCell_other _ _ _ _ (by intro h; injection h with h; omega)]; exact c0)
                  have z06 : w6.frozen? ⟨w.heap.size, 0, none⟩ = false := (hb6.frozen (p := ⟨w.heap.size, 0, none⟩) (by rw [size_setCell']; show w.heap.size < wi.heap.size; omega)).trans (by rw [World.frozen?_setCell]; exact z0)
                  have HB6 := Lib.hid ((HP5.out.bel.setCell (p := ⟨w.heap.size + 1, 0, none⟩) (by show w.heap.size ≤ w.heap.size + 1; omega) (.slice none 0 0)).trans (hb6.mono (by rw [size_setCell']; have := HP5.out.bel.size; omega)))
                  clear hb6
                  go_wp2
                  rw [Exit.noGoto_ret]
                  refine (bodyPost_ret (v := .tuple #[.agg #[.slice none 0 0], errI ea 10]) ?_ rfl ?_)
                  · simp [results, Tryd.results17, go_sem, c06, z06]
                  · rw [HPE.out]
                    exact ⟨HB6.out.setCell (Nat.le_refl _) _, rfl⟩
                · have q2 : sw ≠ bStop := by rw [q]; decide
                  have q3 : sw ≠ bStem := by rw [q]; decide
                  rw [decide_eq_true q] at e1; rw [decide_eq_false q2] at e2; rw [decide_eq_false q3] at e3
                  simp only [bFold] at e1; simp only [bStop] at e2; simp only [bStem] at e3
                  clear q q2 q3
                  have HPE := Lib.hid (HBAD.out (StAt_bad HST.out (by rw [HSW.out]; exact hstep)))
                  clear hstep
                  go_wp2_with fail
                  refine (check_any (.slice none 0 0) [] ea _ 0 (Nat.zero_le _) (RdL.nil _ _ _) (fun _ h => by cases h) (HE.out.below (HP5.out.bel.setCell (by show w.heap.size ≤ w.heap.size + 1; omega) _))).mono ?_
                  rintro e w6 ⟨he, hb6⟩
                  have he' : e = .returned (errI ea 10) := he
                  subst he'
                  have c06 : w6.cell? ⟨w.heap.size, 0, none⟩ = some (.slice none 0 0) := (hb6.cell (p := ⟨w.heap.size, 0, none⟩) (by rw [size_setCell']; show w.heap.size < wi.heap.size; omega)).trans (by rw [World.cell?_setCell_other _ _ _ _ (by intro h; injection h with h; omega)]; exact c0)
                  have z06 : w6.frozen? ⟨w.heap.size, 0, none⟩ = false := (hb6.frozen (p := ⟨w.heap.size, 0, none⟩) (by rw [size_setCell']; show w.heap.size < wi.heap.size; omega)).trans (by rw [World.frozen?_setCell]; exact z0)
                  have HB6 := Lib.hid ((HP5.out.bel.setCell (p := ⟨w.heap.size + 1, 0, none⟩) (by show w.heap.size ≤ w.heap.size + 1; omega) (.slice none 0 0)).trans (hb6.mono (by rw [size_setCell']; have := HP5.out.bel.size; omega)))
                  clear hb6
                  go_wp2
                  rw [Exit.noGoto_ret]
                  refine (bodyPost_ret (v := .tuple #[.agg #[.slice none 0 0], errI ea 10]) ?_ rfl ?_)
                  · simp [results, Tryd.results17, go_sem, c06, z06]
                  · rw [HPE.out]
                    exact ⟨HB6.out.setCell (Nat.le_refl _) _, rfl⟩
                · have q3 : sw ≠ bStem := by rw [q]; decide
                  rw [decide_eq_false q1] at e1; rw [decide_eq_true q] at e2; rw [decide_eq_false q3] at e3
                  simp only [bFold] at e1; simp only [bStop] at e2; simp only [bStem] at e3
                  clear q q1 q3
                  have HS2 := Lib.hid (StAt_step HST.out (by rw [HSW.out]; exact hstep))
                  clear hstep
                  go_wp2
                  go_roundg (msr (cutL 44 chain).2.2 (cutL 44 chain).2.1)
                  case measure => exact HMI.out
                  case rel => exact ⟨_, _, _, Nat.le_refl _, hcl2, HS2.out, rfl, rfl, HF5.out.set_ 3 (.bool true), HP5.out.set5 hg2 HNB.out _⟩
                · have q3 : sw ≠ bStem := by rw [q]; decide
                  rw [decide_eq_false q1] at e1; rw [decide_eq_true q] at e2; rw [decide_eq_false q3] at e3
                  simp only [bFold] at e1; simp only [bStop] at e2; simp only [bStem] at e3
                  clear q q1 q3
                  have HPE := Lib.hid (HBAD.out (StAt_bad HST.out (by rw [HSW.out]; exact hstep)))
                  clear hstep
                  go_wp2_with fail
                  refine (check_any (.slice none 0 0) [] ea _ 0 (Nat.zero_le _) (RdL.nil _ _ _) (fun _ h => by cases h) (HE.out.below (HP5.out.bel.setCell (by show w.heap.size ≤ w.heap.size + 1; omega) _))).mono ?_
                  rintro e w6 ⟨he, hb6⟩
                  have he' : e = .returned (errI ea 10) := he
                  subst he'
                  have c06 : w6.cell? ⟨w.heap.size, 0, none⟩ = some (.slice none 0 0) := (hb6.cell (p := ⟨w.heap.size, 0, none⟩) (by rw [size_setCell']; show w.heap.size < wi.heap.size; omega)).trans (by rw [World.cell?_setCell_other _ _ _ _ (by intro h; injection h with h; omega)]; exact c0)
                  have z06 : w6.frozen? ⟨w.heap.size, 0, none⟩ = false := (hb6.frozen (p := ⟨w.heap.size, 0, none⟩) (by rw [size_setCell']; show w.heap.size < wi.heap.size; omega)).trans (by rw [World.frozen?_setCell]; exact z0)
                  have HB6 := Lib.hid ((HP5.out.bel.setCell (p := ⟨w.heap.size + 1, 0, none⟩) (by show w.heap.size ≤ w.heap.size + 1; omega) (.slice none 0 0)).trans (hb6.mono (by rw [size_setCell']; have := HP5.out.bel.size; omega)))
                  clear hb6
                  go_wp2
                  rw [Exit.noGoto_ret]
                  refine (bodyPost_ret (v := .tuple #[.agg #[.slice none 0 0], errI ea 10]) ?_ rfl ?_)
                  · simp [results, Tryd.results17, go_sem, c06, z06]
                  · rw [HPE.out]
                    exact ⟨HB6.out.setCell (Nat.le_refl _) _, rfl⟩
                · have q3 : sw ≠ bStem := by rw [q]; decide
                  rw [decide_eq_false q1] at e1; rw [decide_eq_true q] at e2; rw [decide_eq_false q3] at e3
                  simp only [bFold] at e1; simp only [bStop] at e2; simp only [bStem] at e3
                  clear q q1 q3
                  have HPE := Lib.hid (HBAD.out (StAt_bad HST.out (by rw [HSW.out]; exact hstep)))
                  clear hstep
                  go_wp2_with fail
                  refine (check_any (.slice none 0 0) [] ea _ 0 (Nat.zero_le _) (RdL.nil _ _ _) (fun _ h => by cases h) (HE.out.below (HP5.out.bel.setCell (by show w.heap.size ≤ w.heap.size + 1; omega) _))).mono ?_
                  rintro e w6 ⟨he, hb6⟩
                  have he' : e = .returned (errI ea 10) := he
                  subst he'
                  have c06 : w6.cell? ⟨w.heap.size, 0, none⟩ = some (.slice none 0 0) := (hb6.cell (p := ⟨w.heap.size, 0, none⟩) (by rw [size_setCell']; show w.heap.size < wi.heap.size; omega)).trans (by rw [World.cell?_setCell_other _ _ _ _ (by intro h; injection h with h; omega)]; exact c0)
                  have z06 : w6.frozen? ⟨w.heap.size, 0, none⟩ = false := (hb6.frozen (p := ⟨w.heap.size, 0, none⟩) (by rw [size_setCell']; show w.heap.size < wi.heap.size; omega)).trans (by rw [World.frozen?_setCell]; exact z0)
                  have HB6 := Lib.hid ((HP5.out.bel.setCell (p := ⟨w.heap.size + 1, 0, none⟩) (by show w.heap.size ≤ w.heap.size + 1; omega) (.slice none 0 0)).trans (hb6.mono (by rw [size_setCell']; have := HP5.out.bel.size; omega)))
                  clear hb6
                  go_wp2
                  rw [Exit.noGoto_ret]
                  refine (bodyPost_ret (v := .tuple #[.agg #[.slice none 0 0], errI ea 10]) ?_ rfl ?_)
                  · simp [results, Tryd.results17, go_sem, c06, z06]
                  · rw [HPE.out]
                    exact ⟨HB6.out.setCell (Nat.le_refl _) _, rfl⟩
                · rw [decide_eq_false q1] at e1; rw [decide_eq_false q2] at e2; rw [decide_eq_true q] at e3
                  simp only [bFold] at e1; simp only [bStop] at e2; simp only [bStem] at e3
                  clear q q1 q2
                  have HS2 := Lib.hid (StAt_step HST.out (by rw [HSW.out]; exact hstep))
                  clear hstep
                  go_wp2
                  go_roundg (msr (cutL 44 chain).2.2 (cutL 44 chain).2.1)
                  case measure => exact HMI.out
                  case rel => exact ⟨_, _, _, Nat.le_refl _, hcl2, HS2.out, rfl, rfl, HF5.out.set_ 4 (.bool true), HP5.out.set5 hg2 HNB.out _⟩
                · rw [decide_eq_false q1] at e1; rw [decide_eq_false q2] at e2; rw [decide_eq_true q] at e3
                  simp only [bFold] at e1; simp only [bStop] at e2; simp only [bStem] at e3
                  clear q q1 q2
                  have HPE := Lib.hid (HBAD.out (StAt_bad HST.out (by rw [HSW.out]; exact hstep)))
                  clear hstep
                  go_wp2_with fail
                  refine (check_any (.slice none 0 0) [] ea _ 0 (Nat.zero_le _) (RdL.nil _ _ _) (fun _ h => by cases h) (HE.out.below (HP5.out.bel.setCell (by show w.heap.size ≤ w.heap.size + 1; omega) _))).mono ?_
                  rintro e w6 ⟨he, hb6⟩
                  have he' : e = .returned (errI ea 10) := he
                  subst he'
                  have c06 : w6.cell? ⟨w.heap.size, 0, none⟩ = some (.slice none 0 0) := (hb6.cell (p := ⟨w.heap.size, 0, none⟩) (by rw [size_setCell']; show w.heap.size < wi.heap.size; omega)).trans (by rw [World.cell?_setCell_other _ _ _ _ (by intro h; injection h with h; omega)]; exact c0)
                  have z06 : w6.frozen? ⟨w.heap.size, 0, none⟩ = false := (hb6.frozen (p := ⟨w.heap.size, 0, none⟩) (by rw [size_setCell']; show w.heap.size < wi.heap.size; omega)).trans (by rw [World.frozen?_setCell]; exact z0)
                  have HB6 := Lib.hid ((HP5.out.bel.setCell (p := ⟨w.heap.size + 1, 0, none⟩) (by show w.heap.size ≤ w.heap.size + 1; omega) (.slice none 0 0)).trans (hb6.mono (by rw [size_setCell']; have := HP5.out.bel.size; omega)))
                  clear hb6
                  go_wp2
                  rw [Exit.noGoto_ret]
                  refine (bodyPost_ret (v := .tuple #[.agg #[.slice none 0 0], errI ea 10]) ?_ rfl ?_)
                  · simp [results, Tryd.results17, go_sem, c06, z06]
                  · rw [HPE.out]
                    exact ⟨HB6.out.setCell (Nat.le_refl _) _, rfl⟩
                · rw [decide_eq_false q1] at e1; rw [decide_eq_false q2] at e2; rw [decide_eq_false q3] at e3
                  simp only [bFold] at e1; simp only [bStop] at e2; simp only [bStem] at e3
                  clear q1 q2 q3
                  have HPE := Lib.hid (HBAD.out (StAt_bad HST.out (by rw [HSW.out]; exact hstep)))
                  clear hstep
                  go_wp2_with fail
                  refine (check_any (.slice none 0 0) [] ea _ 0 (Nat.zero_le _) (RdL.nil _ _ _) (fun _ h => by cases h) (HE.out.below (HP5.out.bel.setCell (by show w.heap.size ≤ w.heap.size + 1; omega) _))).mono ?_
                  rintro e w6 ⟨he, hb6⟩
                  have he' : e = .returned (errI ea 10) := he
                  subst he'
                  have c06 : w6.cell? ⟨w.heap.size, 0, none⟩ = some (.slice none 0 0) := (hb6.cell (p := ⟨w.heap.size, 0, none⟩) (by rw [size_setCell']; show w.heap.size < wi.heap.size; omega)).trans (by rw [World.cell?_setCell_other _ _ _ _ (by intro h; injection h with h; omega)]; exact c0)
                  have z06 : w6.frozen? ⟨w.heap.size, 0, none⟩ = false := (hb6.frozen (p := ⟨w.heap.size, 0, none⟩) (by rw [size_setCell']; show w.heap.size < wi.heap.size; omega)).trans (by rw [World.frozen?_setCell]; exact z0)
                  have HB6 := Lib.hid ((HP5.out.bel.setCell (p := ⟨w.heap.size + 1, 0, none⟩) (by show w.heap.size ≤ w.heap.size + 1; omega) (.slice none 0 0)).trans (hb6.mono (by rw [size_setCell']; have := HP5.out.bel.size; omega)))
                  clear hb6
                  go_wp2
                  rw [Exit.noGoto_ret]
                  refine (bodyPost_ret (v := .tuple #[.agg #[.slice none 0 0], errI ea 10]) ?_ rfl ?_)
                  · simp [results, Tryd.results17, go_sem, c06, z06]
                  · rw [HPE.out]
                    exact ⟨HB6.out.setCell (Nat.le_refl _) _, rfl⟩
end Go.Proofs.YtdkalcecmdadeaaDoor
