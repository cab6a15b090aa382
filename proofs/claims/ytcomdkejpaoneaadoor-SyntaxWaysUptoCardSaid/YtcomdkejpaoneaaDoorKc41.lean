/- Merged for a claim by shake.py: Wb Wc -/
import Derived.Test.YtcomdkejpaoneaaDoorKc40
section
namespace Go.Proofs.YtcomdkejpaoneaaDoor
open Go.RowKit
set_option maxRecDepth 100000
set_option maxHeartbeats 4000000
set_option linter.unusedSimpArgs false
set_option linter.unusedVariables false
theorem folA_mem {l : List Lt} {m : Mc} {pre : List Lt} (h : runI mc0 0 l = .inl m) (hi : Inv m pre) (k : Int) : k ∈ folA l ↔ (0 ≤ k ∧ k < 22) ∧ rAny m.row k = true := by
  unfold folA
  rw [h]
  simp only []
  obtain ⟨P, C, _, _, _, hst, _⟩ := hi
  rw [folL_row (by omega) 22]
  exact rFolL_mem
theorem way_in {la : List Lx} (hs : ∀ x ∈ la, 0 ≤ x.kind ∧ x.kind ≤ 21) {i : Nat} (hi : i < la.length) (hj : ∀ j, runI mc0 0 (la.map Lx.lt) = .inr j → i < j) : la[i].kind ∈ folA ((la.map Lx.lt).take i) := by
  obtain ⟨mi, prei, h1, h2, h3⟩ := runI_take (l := la.map Lx.lt) (i0 := 0) inv0 i (by rw [List.length_map]; exact hi) (fun j h => by have := hj j h; omega)
  rw [folA_mem h1 h2]
  have hk := hs _ (List.getElem_mem hi)
  refine ⟨⟨hk.1, by omega⟩, ?_⟩
  have hst : mi.state ≤ 14 := h2.st
  rw [List.getElem_map] at h3
  have h4 : (rStep mi.row (Lx.lt la[i])).isSome = true := by
    rw [row_step _ hst, Option.isSome_map]
    cases hs : stepM mi (Lx.lt la[i]) with
    | none => have := hj _ (h3.2 hs); omega
    | some _ => rfl
  exact rAny_some h4
theorem way_out {la : List Lx} {i : Nat} (hi : i < la.length) (hj : runI mc0 0 (la.map Lx.lt) = .inr i) (h2 : la[i].kind ≠ 2) (h20 : la[i].kind ≠ 20) : la[i].kind ∉ folA ((la.map Lx.lt).take i) := by
  obtain ⟨mi, prei, h1, h4, h3⟩ := runI_take (l := la.map Lx.lt) (i0 := 0) inv0 i (by rw [List.length_map]; exact hi) (fun j h => by rw [hj] at h; injection h with h; omega)
  rw [folA_mem h1 h4]
  rw [List.getElem_map, Nat.zero_add] at h3
  have hst : mi.state ≤ 14 := h4.st
  have h5 : rStep mi.row (Lx.lt la[i]) = none := by rw [row_step _ hst, h3.1 hj]; rfl
  rintro ⟨_, h6⟩
  have h7 := rAny_none (t := Lx.lt la[i]) h2 h20 h5
  have h8 : rAny mi.row la[i].kind = false := h7
  rw [h8] at h6; cases h6
theorem way_end {la : List Lx} {q : List UInt8} (hs : scanL q = (la, none)) {m : Mc} (hm : runI mc0 0 (la.map Lx.lt) = .inl m) : folA (la.map Lx.lt) = [] := by
  obtain ⟨l0, e, rfl, he⟩ := scanF_end hs
  have hm2 := hm
  rw [List.map_append, List.map_singleton] at hm
  have h14 := runI_last inv0 (e := Lx.lt e) he hm
  unfold folA
  rw [hm2]
  simp only []
  unfold folL
  have hz : ∀ k : Int, anyM m k = false := fun k => by
    unfold anyM
    have : ∀ t, stepM m t = none := fun t => by
      have := row_step (m := m) t (by omega)
      have h5 : rStep m.row t = none := by
        unfold rStep
        rw [if_pos (show m.row.at_ = 14 from h14)]
      rw [h5] at this
      cases hq : stepM m t with
      | none => rfl
      | some _ => rw [hq] at this; cases this
    rw [this, this]; rfl
  rw [List.filter_eq_nil_iff.2 (fun i _ => by rw [hz]; decide)]
  rfl
def HasRel (l : List Int) (k : Int) (iv : Value) : Prop := ∃ i : Nat, i ≤ l.length ∧ k ∉ l.take i ∧ iv = .int .i64 (i : Int)
theorem has_any (v : Value) (l : List Int) (k : Int) (w : World) (B : Nat) (hv : RdL folS w B v l) :
    Calls Tryd.prog 28 #[v, .int .i64 k] w fun e w' => e = .returned (.bool (decide (k ∈ l))) ∧ w' = w := by
  obtain ⟨A, cap, rfl, _, hm⟩ := hv.open_
  unfold maxLen at hm
  have HV := Lib.hid hv
  clear hv
  go_enter Tryd.func28, Tryd.ntmps28
  go_wp2
  go_loopw [9] (fun iv wr => HasRel l k iv ∧ wr = w) (fun iv _ => l.length - (intOf iv).toNat)
  case atStart => exact ⟨⟨0, by omega, by simp, rfl⟩, rfl⟩
  case round =>
    obtain ⟨⟨i, hi, hn0, rfl⟩, rfl⟩ := hrel
    have hn := Lib.hid hn0
    clear hn0
    by_cases hlt : i < l.length
    · obtain ⟨g, rfl, hg, c0⟩ := at_fo HV.out hlt
      by_cases hx : l[i] = k
      · have HM := Lib.hid (show decide (k ∈ l) = true from decide_eq_true (hx ▸ List.getElem_mem hlt))
        have hb : (l[i] == k) = true := by rw [hx]; exact beq_self_eq_true k
        clear hx
        generalize l[i] = x at *
        go_wp2
        go_ret
        exact ⟨congrArg (fun b => Ending.returned (.bool b)) HM.out.symm, rfl⟩
      · have HN := Lib.hid (show k ∉ l.take (i + 1) from by
          rw [List.take_succ_eq_append_getElem hlt, List.mem_append, List.mem_singleton]
          rintro (h | h)
          · exact hn.out h
          · exact hx h.symm)
        have hb : (l[i] == k) = false := beq_eq_false_iff_ne.2 hx
        clear hx
        generalize l[i] = x at *
        go_wp2
        go_roundw
        case rel => exact ⟨⟨i + 1, by omega, HN.out, by go_num⟩, trivial⟩
        case measure => simp [intOf]; omega
    · have HM := Lib.hid (show decide (k ∈ l) = false from decide_eq_false (by
        have h := hn.out
        rw [List.take_of_length_le (by omega)] at h
        exact h))
      go_wp2
      go_ret
      exact ⟨congrArg (fun b => Ending.returned (.bool b)) HM.out.symm, rfl⟩
end Go.Proofs.YtcomdkejpaoneaaDoor
end
section
namespace Go.Proofs.YtcomdkejpaoneaaDoor
open Go.RowKit
set_option maxRecDepth 100000
set_option maxHeartbeats 4000000
set_option linter.unusedSimpArgs false
set_option linter.unusedVariables false
theorem RdL.pre {α : Type} {S : Shape α} {w : World} {B : Nat} {A : Option Addr} {n cap : Nat} {l : List α} (h : RdL S w B (.slice A n cap) l) (i : Nat) (hi : i ≤ l.length) : RdL S w B (.slice A i cap) (l.take i) := by
  obtain ⟨A', cap', e, h1, h2, h3, h4⟩ := h
  injection e with e1 e2 e3
  subst e1 e3
  have hl : (l.take i).length = i := by rw [List.length_take]; omega
  refine ⟨A, cap, by rw [hl], by omega, h2, fun hn => ?_, h4⟩
  obtain ⟨a, e, hb, hc⟩ := h3 (by omega)
  refine ⟨a, e, hb, fun j u hu => hc j u ?_⟩
  have hs : S.cells l = S.cells (l.take i) ++ S.cells (l.drop i) := by rw [← Shape.cells_append, List.take_append_drop]
  rw [hs, List.getElem?_append_left (List.getElem?_eq_some_iff.1 hu).1]
  exact hu
theorem at_tk {w : World} {B : Nat} {A : Option Addr} {n cap : Nat} {la : List Lx} (h : RdL ltS w B (.slice A n cap) (la.map Lx.lt)) {k : Nat} (hk : k < la.length) :
    ∃ a, A = some a ∧ (a.add (k * 5)).block < B ∧ w.cell? (a.add (k * 5)) = some (.int .i64 la[k].kind) ∧
      w.cell? ⟨(a.add (k * 5)).block, (a.add (k * 5)).off + 1, none⟩ = some (.string (str la[k].text)) ∧
      w.cell? ⟨(a.add (k * 5)).block, (a.add (k * 5)).off + 2, none⟩ = some (.int .i64 la[k].n) ∧
      w.cell? ⟨(a.add (k * 5)).block, (a.add (k * 5)).off + 3, none⟩ = some (.int .i64 (la[k].at_ : Int)) ∧
      w.cell? ⟨(a.add (k * 5)).block, (a.add (k * 5)).off + 4, none⟩ = some (.int .i64 (la[k].end_ : Int)) := by
  obtain ⟨a, rfl, hb, h0, h1, h2, h3, h4⟩ := at_lt h (k := k) (by rw [List.length_map]; exact hk)
  simp only [List.getElem_map, Lx.lt] at h0 h1 h2 h3 h4
  exact ⟨a, rfl, hb, h0, h1, h2, h3, h4⟩
def WaysRel (la : List Lx) (w : World) (iv : Value) (wr : World) : Prop :=
  ∃ i : Nat, i ≤ la.length ∧ iv = .int .i64 (i : Int) ∧ (∀ j, runI mc0 0 (la.map Lx.lt) = .inr j → i ≤ j) ∧ Below w.heap.size w wr
theorem ways_walk (q : ByteArray) (w : World) (ea : List Addr) (hq : q.size ≤ 10000000) (hE : SynEnv w ea) (hc : ClsEnv w) :
    Calls Tryd.prog 13 #[.string q] w fun e w' => e = .returned (.bool true) ∧ Below w.heap.size w w' := by
  have HLV := Lib.hid (slives_at w ea 0 hE.1 hc)
  have HSC := Lib.hid (fun (W : World) (hW : Below w.heap.size w W) => Scan_any q W (errI ea 0) hq (hc.belowB hc.2 hW) (hE.1.below hE.1.2 hW))
  have HCK := Lib.hid (fun (W : World) (hW : Below w.heap.size w W) => scheck_any q W ea 0 hq (hc.belowB hc.2 hW) (hE.1.below hE.1.2 hW))
  have HF := Lib.hid (fun (W : World) (x : Value) (ts : List Lt) (h : RdL ltS W W.heap.size x ts) (hl : ts.length ≤ 1000000000) => (sfollow_any x ts W h hl).mono fun e w' h => h.list)
  have hz1 := fun W => errI_nnil ea 0 W
  have hz2 := fun op x y W => errI_guard0 ea 0 op x y W
  generalize errI ea 0 = v at *
  clear hE hc
  go_enter Tryd.func13, Tryd.ntmps13
  go_wp2_with fail
  refine HLV.out.mono ?_
  rintro e w1 ⟨rfl, hb1⟩
  have HB1 := Lib.hid hb1
  clear hb1
  go_wp2_with fail
  refine (HSC.out w1 HB1.out).mono ?_
  rintro e w2 ⟨hb2, hm⟩
  have HB2 := Lib.hid (HB1.out.trans (hb2.mono HB1.out.size))
  clear hb2
  cases hr : scanL q.data.toList with
  | mk la r =>
  rw [hr] at hm
  simp only [] at hm
  cases r with
  | some p =>
    simp only [] at hm
    subst hm
    go_wp2
    go_ret
    exact ⟨rfl, HB2.out⟩
  | none =>
    simp only [] at hm
    obtain ⟨sl, rfl, ho⟩ := hm
    have hrd : RdL ltS w2 w2.heap.size sl (la.map Lx.lt) := RdL.of_own ho.lt
    have HRD := Lib.hid hrd
    obtain ⟨A, ca, rfl, hca, hca2⟩ := hrd.open_
    rw [List.length_map] at *
    by_cases hbig : 300 < la.length
    · have hbg : decide ((300 : Int) < (la.length : Int)) = true := decide_eq_true (by omega)
      clear hr ho hrd
      go_wp2
      go_ret
      exact ⟨rfl, HB2.out⟩
    have hbg : decide ((300 : Int) < (la.length : Int)) = false := decide_eq_false (by omega)
    have hall := scanF_all hr
    have HQ := Lib.hid hr
    have HALL := Lib.hid hall
    clear hr ho hrd hall
    go_wp2_with fail
    refine (HCK.out w2 HB2.out).mono ?_
    rintro e w3 ⟨hb3, he⟩
    have HB3 := Lib.hid (HB2.out.trans (hb3.mono HB2.out.size))
    have HRD3 := Lib.hid ((HRD.out.below hb3).more hb3.size)
    clear hb3
    cases hrn : runI mc0 0 (la.map Lx.lt) with
    | inl m =>
      have hck : checkS q.data.toList = .inl m.at_.most := by unfold checkS; rw [HQ.out]; simp only []; rw [hrn]
      rw [hck] at he
      simp only [] at he
      subst he
      have HRN := Lib.hid hrn
      have HEND := Lib.hid (way_end HQ.out hrn)
      clear hrn hck
      go_wp2
      go_loopw [36] (fun iv wr => WaysRel la w3 iv wr) (fun iv _ => la.length - (intOf iv).toNat)
      case atStart => exact ⟨0, by omega, rfl, fun j h => by omega, Below.refl _ _⟩
      case round =>
        obtain ⟨i, hi, rfl, hij, hbl⟩ := hrel
        have HBL := Lib.hid hbl
        have HRr := Lib.hid (HRD3.out.below hbl)
        clear hbl hij
        have HBW := Lib.hid (HB3.out.trans (HBL.out.mono HB3.out.size))
        by_cases hlt : i < la.length
        · obtain ⟨a, rfl, hab, q0, q1, q2, q3, q4⟩ := at_tk HRr.out hlt
          have HIN := Lib.hid (way_in (fun x hx => ⟨(HALL.out.1 x hx).1, (HALL.out.1 x hx).2.1⟩) hlt (fun j h => by rw [HRN.out] at h; cases h))
          have HJ := Lib.hid (fun (j : Nat) (h : runI mc0 0 (la.map Lx.lt) = .inr j) => show i + 1 ≤ j from by rw [HRN.out] at h; cases h)
          generalize la[i] = t at *
          obtain ⟨tk, tx, tn, ta, te⟩ := t
          simp only [] at q0 q1 q2 q3 q4
          have hblk := Blk.new wr 49 #[.int .i64 tk, .string (str tx), .int .i64 tn, .int .i64 (ta : Int), .int .i64 (te : Int)]
          have HBX := Lib.hid (HBW.out.alloc HBW.out.size (.cells #[.int .i64 tk, .string (str tx), .int .i64 tn, .int .i64 (ta : Int), .int .i64 (te : Int)] 49))
          have HBY := Lib.hid (HBL.out.alloc HBL.out.size (.cells #[.int .i64 tk, .string (str tx), .int .i64 tn, .int .i64 (ta : Int), .int .i64 (te : Int)] 49))
          have HPX := Lib.hid ((((HRr.out.more HBL.out.size).alloc (Nat.le_refl _) (.cells #[.int .i64 tk, .string (str tx), .int .i64 tn, .int .i64 (ta : Int), .int .i64 (te : Int)] 49)).more (B' := (wr.alloc (.cells #[.int .i64 tk, .string (str tx), .int .i64 tn, .int .i64 (ta : Int), .int .i64 (te : Int)] 49)).heap.size) (by rw [World.size_alloc]; omega)).pre i (by rw [List.length_map]; omega))
          have HBK := Lib.hid hblk
          clear hblk
          go_wp2_with fail
          refine (HF.out _ _ _ HPX.out (by rw [List.length_take, List.length_map]; omega)).mono ?_
          rintro e w5 ⟨hb5, sl5, rfl, ho5⟩
          have HB5 := Lib.hid (HBX.out.trans (hb5.mono HBX.out.size))
          have HL5 := Lib.hid (HBY.out.trans (hb5.mono HBY.out.size))
          have HK5 := Lib.hid (HBK.out.belowW hb5)
          have HO5 := Lib.hid (RdL.of_own ho5)
          have d0 : w5.cell? ⟨wr.heap.size, 0, none⟩ = some (.int .i64 tk) := HK5.out.cell 0
          have d3 : w5.cell? ⟨wr.heap.size, 3, none⟩ = some (.int .i64 (ta : Int)) := HK5.out.cell 3
          clear hb5 ho5
          generalize folA ((la.map Lx.lt).take i) = fl at *
          obtain ⟨A5, c5, rfl, hc5, hc52⟩ := HO5.out.open_
          have hmem : tk ∈ fl := HIN.out
          have HDM := Lib.hid (decide_eq_true hmem)
          have hpos : 0 < fl.length := List.length_pos_of_mem hmem
          have hn0 : ((fl.length : Int) == 0) = false := beq_eq_false_iff_ne.2 (by omega)
          have HHS := Lib.hid (has_any (.slice A5 fl.length c5) fl tk w5 _ HO5.out)
          clear hmem hpos
          go_wp2_with fail
          refine HHS.out.mono ?_
          rintro e w6 ⟨rfl, rfl⟩
          rw [HDM.out]
          go_wp2
          go_roundw
          case rel => exact ⟨i + 1, by omega, by go_num, HJ.out, HL5.out⟩
          case measure => simp [intOf]; omega
        · have hie : i = la.length := by omega
          subst hie
          have HWH := Lib.hid (HF.out wr _ _ (HRr.out.more HBL.out.size) (by rw [List.length_map]; omega))
          rw [HEND.out] at HWH
          go_wp2_with fail
          refine HWH.out.mono ?_
          rintro e w5 ⟨hb5, sl5, rfl, ho5⟩
          have HB5 := Lib.hid (HBW.out.trans (hb5.mono HBW.out.size))
          obtain ⟨A5, c5, rfl, _, _⟩ := (RdL.of_own ho5).open_
          clear hb5 ho5
          go_wp2
          go_ret
          exact ⟨rfl, HB5.out⟩
    | inr jj =>
      have hjl := runI_lt hrn
      rw [List.length_map, Nat.zero_add] at hjl
      have hck : checkS q.data.toList = .inr (la[jj].at_) := by unfold checkS; rw [HQ.out]; simp only []; rw [hrn]; simp only []; rw [List.getElem?_eq_getElem hjl]; rfl
      rw [hck] at he
      simp only [] at he
      subst he
      have HRN := Lib.hid hrn
      have HPW := Lib.hid (fun (i : Nat) (hi : i < la.length) (h : i < jj) => List.pairwise_iff_getElem.1 HALL.out.2 i jj hi hjl h)
      have HOUT := Lib.hid (fun h2 h20 => way_out hjl hrn h2 h20)
      have HPJ : ∃ pj, pj = la[jj].at_ := ⟨_, rfl⟩
      obtain ⟨pj, hpj⟩ := HPJ
      rw [← hpj]
      have HPJ := Lib.hid hpj
      clear hrn hck hpj
      go_wp2
      go_loopw [36] (fun iv wr => WaysRel la w3 iv wr) (fun iv _ => la.length - (intOf iv).toNat)
      case atStart => exact ⟨0, by omega, rfl, fun j h => by omega, Below.refl _ _⟩
      case round =>
        obtain ⟨i, hi, rfl, hij, hbl⟩ := hrel
        have hij2 := hij jj HRN.out
        have HBL := Lib.hid hbl
        have HRr := Lib.hid (HRD3.out.below hbl)
        clear hbl hij
        have HBW := Lib.hid (HB3.out.trans (HBL.out.mono HB3.out.size))
        have hlt : i < la.length := by omega
        obtain ⟨a, rfl, hab, q0, q1, q2, q3, q4⟩ := at_tk HRr.out hlt
        by_cases hlj : i < jj
        · have HIN := Lib.hid (way_in (fun x hx => ⟨(HALL.out.1 x hx).1, (HALL.out.1 x hx).2.1⟩) hlt (fun j h => by rw [HRN.out] at h; injection h with h; omega))
          have HJ := Lib.hid (fun (j : Nat) (h : runI mc0 0 (la.map Lx.lt) = .inr j) => show i + 1 ≤ j from by rw [HRN.out] at h; injection h with h; omega)
          have HAT := Lib.hid (show la[i].at_ < pj from by rw [HPJ.out]; exact HPW.out i hlt hlj)
          generalize la[i] = t at *
          obtain ⟨tk, tx, tn, ta, te⟩ := t
          simp only [] at q0 q1 q2 q3 q4
          have hblk := Blk.new wr 49 #[.int .i64 tk, .string (str tx), .int .i64 tn, .int .i64 (ta : Int), .int .i64 (te : Int)]
          have HBX := Lib.hid (HBW.out.alloc HBW.out.size (.cells #[.int .i64 tk, .string (str tx), .int .i64 tn, .int .i64 (ta : Int), .int .i64 (te : Int)] 49))
          have HBY := Lib.hid (HBL.out.alloc HBL.out.size (.cells #[.int .i64 tk, .string (str tx), .int .i64 tn, .int .i64 (ta : Int), .int .i64 (te : Int)] 49))
          have HPX := Lib.hid ((((HRr.out.more HBL.out.size).alloc (Nat.le_refl _) (.cells #[.int .i64 tk, .string (str tx), .int .i64 tn, .int .i64 (ta : Int), .int .i64 (te : Int)] 49)).more (B' := (wr.alloc (.cells #[.int .i64 tk, .string (str tx), .int .i64 tn, .int .i64 (ta : Int), .int .i64 (te : Int)] 49)).heap.size) (by rw [World.size_alloc]; omega)).pre i (by rw [List.length_map]; omega))
          have HBK := Lib.hid hblk
          clear hblk
          go_wp2_with fail
          refine (HF.out _ _ _ HPX.out (by rw [List.length_take, List.length_map]; omega)).mono ?_
          rintro e w5 ⟨hb5, sl5, rfl, ho5⟩
          have HB5 := Lib.hid (HBX.out.trans (hb5.mono HBX.out.size))
          have HL5 := Lib.hid (HBY.out.trans (hb5.mono HBY.out.size))
          have HK5 := Lib.hid (HBK.out.belowW hb5)
          have HO5 := Lib.hid (RdL.of_own ho5)
          have d0 : w5.cell? ⟨wr.heap.size, 0, none⟩ = some (.int .i64 tk) := HK5.out.cell 0
          have d3 : w5.cell? ⟨wr.heap.size, 3, none⟩ = some (.int .i64 (ta : Int)) := HK5.out.cell 3
          clear hb5 ho5
          generalize folA ((la.map Lx.lt).take i) = fl at *
          obtain ⟨A5, c5, rfl, hc5, hc52⟩ := HO5.out.open_
          have htp : ta < pj := HAT.out
          have hge : decide ((pj : Int) ≤ (ta : Int)) = false := decide_eq_false (by omega)
          have hge2 : decide (pj ≤ ta) = false := decide_eq_false (by omega)
          have hge3 : ¬ pj ≤ ta := by omega
          have hmem : tk ∈ fl := HIN.out
          have HDM := Lib.hid (decide_eq_true hmem)
          have hpos : 0 < fl.length := List.length_pos_of_mem hmem
          have hn0 : ((fl.length : Int) == 0) = false := beq_eq_false_iff_ne.2 (by omega)
          have HHS := Lib.hid (has_any (.slice A5 fl.length c5) fl tk w5 _ HO5.out)
          clear hmem hpos
          go_wp2_with fail
          refine HHS.out.mono ?_
          rintro e w6 ⟨rfl, rfl⟩
          rw [HDM.out]
          go_wp2
          go_roundw
          case rel => exact ⟨i + 1, by omega, by go_num, HJ.out, HL5.out⟩
          case measure => simp [intOf]; omega
        · have hie : i = jj := by omega
          subst hie
          have HAT := Lib.hid (HPJ.out : pj = la[i].at_)
          clear HPJ HPW
          generalize la[i] = t at *
          obtain ⟨tk, tx, tn, ta, te⟩ := t
          simp only [] at q0 q1 q2 q3 q4
          have hblk := Blk.new wr 49 #[.int .i64 tk, .string (str tx), .int .i64 tn, .int .i64 (ta : Int), .int .i64 (te : Int)]
          have HBX := Lib.hid (HBW.out.alloc HBW.out.size (.cells #[.int .i64 tk, .string (str tx), .int .i64 tn, .int .i64 (ta : Int), .int .i64 (te : Int)] 49))
          have HBY := Lib.hid (HBL.out.alloc HBL.out.size (.cells #[.int .i64 tk, .string (str tx), .int .i64 tn, .int .i64 (ta : Int), .int .i64 (te : Int)] 49))
          have HPX := Lib.hid ((((HRr.out.more HBL.out.size).alloc (Nat.le_refl _) (.cells #[.int .i64 tk, .string (str tx), .int .i64 tn, .int .i64 (ta : Int), .int .i64 (te : Int)] 49)).more (B' := (wr.alloc (.cells #[.int .i64 tk, .string (str tx), .int .i64 tn, .int .i64 (ta : Int), .int .i64 (te : Int)] 49)).heap.size) (by rw [World.size_alloc]; omega)).pre i (by rw [List.length_map]; omega))
          have HBK := Lib.hid hblk
          clear hblk
          go_wp2_with fail
          refine (HF.out _ _ _ HPX.out (by rw [List.length_take, List.length_map]; omega)).mono ?_
          rintro e w5 ⟨hb5, sl5, rfl, ho5⟩
          have HB5 := Lib.hid (HBX.out.trans (hb5.mono HBX.out.size))
          have HL5 := Lib.hid (HBY.out.trans (hb5.mono HBY.out.size))
          have HK5 := Lib.hid (HBK.out.belowW hb5)
          have HO5 := Lib.hid (RdL.of_own ho5)
          have d0 : w5.cell? ⟨wr.heap.size, 0, none⟩ = some (.int .i64 tk) := HK5.out.cell 0
          have d3 : w5.cell? ⟨wr.heap.size, 3, none⟩ = some (.int .i64 (ta : Int)) := HK5.out.cell 3
          clear hb5 ho5
          generalize folA ((la.map Lx.lt).take i) = fl at *
          obtain ⟨A5, c5, rfl, hc5, hc52⟩ := HO5.out.open_
          have hat : pj = ta := HAT.out
          subst hat
          have hge : decide ((pj : Int) ≤ (pj : Int)) = true := decide_eq_true (Int.le_refl _)
          have HHS := Lib.hid (has_any (.slice A5 fl.length c5) fl tk w5 _ HO5.out)
          by_cases h2 : tk = 2
          · subst h2
            clear HHS HOUT
            go_wp2
            go_ret
            exact ⟨rfl, HB5.out⟩
          by_cases h20 : tk = 20
          · subst h20
            clear HHS HOUT
            go_wp2
            go_ret
            exact ⟨rfl, HB5.out⟩
          have hnm : tk ∉ fl := HOUT.out h2 h20
          have HDM := Lib.hid (decide_eq_false hnm)
          have hb2 : (tk == 2) = false := beq_eq_false_iff_ne.2 h2
          have hb20 : (tk == 20) = false := beq_eq_false_iff_ne.2 h20
          have hd2 : decide (tk = 2) = false := decide_eq_false h2
          have hd20 : decide (tk = 20) = false := decide_eq_false h20
          clear hnm
          go_wp2_with fail
          refine HHS.out.mono ?_
          rintro e w6 ⟨rfl, rfl⟩
          rw [HDM.out]
          go_wp2
          go_ret
          exact ⟨rfl, HB5.out⟩
theorem syntaxWays_env {W : World} (h : laidMetH Tryd.prog Rows.syntaxWaysUptoRow.laid W) : ∃ ea, SynEnv W ea ∧ ClsEnv W := by
  have h0 : laidMet Tryd.prog Rows.syntaxWaysUptoRow.laid W := h
  obtain ⟨ea, h1⟩ := synEnv_of h0 (by rfl)
  have h3 := h0.filter (fun x => x.1 == "concord/lexer.classes")
  exact ⟨ea, h1, cls_of_head (rest := []) h3⟩
theorem syntaxWays_walk (a0 : ByteArray) (w0 : a0.size ≤ 1048576) (w : World) (hE : ∃ ea, SynEnv w ea ∧ ClsEnv w) :
    Calls Tryd.prog 13 #[.string a0] w fun e w' => e = .returned (.bool true) ∧ Below w.heap.size w w' := by
  obtain ⟨ea, hE, hc⟩ := hE
  exact ways_walk a0 w ea (by omega) hE hc
end Go.Proofs.YtcomdkejpaoneaaDoor
end
