/- Layer 20: the reader's instr. -/
import Derived.Test.YtmdpfikalekmlaaGreatDoorNe
import Derived.Deep.QuietTactic
import Derived.Deep.RegionHeldLaw
namespace Go.Proofs.YtmdpfikalekmlaaGreatDoor
open Go.RowKit Go.Maps
set_option maxRecDepth 100000
set_option maxHeartbeats 4000000
set_option linter.unusedSimpArgs false
set_option linter.unusedVariables false

theorem MapSI.run {w : World} {b n : Nat} {m : List UInt8 → Option Int} (h : MapSI w b n m) (key : ByteArray) (hs : key.size ≤ maxLen) :
    (Instr.lookup 55 (.map (some b)) (.string key) true).run Tryz.prog w = .ok (.tuple #[.int .i64 ((m key.data.toList).getD 0), .bool (m key.data.toList).isSome]) w := by
  obtain ⟨D, hown, hk⟩ := h
  obtain ⟨v, ps, hrun, hv⟩ := hown.look_ok lawStr Tryz.underlying55 (zeroInt w) (plainElem_int Tryz.underlying3 (by decide)) (keyStr key hs)
  obtain ⟨c, rfl, hc, hwc⟩ := plainElem_int_inv Tryz.underlying3 hv
  obtain ⟨h1, h2⟩ := hk key.data.toList
  simp only [Prod.mk.injEq] at hc
  rw [hrun, h1]
  cases hm : m key.data.toList with
  | none =>
    rw [hm] at h1
    have := atKey_of_not_has (z := (.lit (.int .i64 0) : DataW Unit)) h1
    rw [this] at hc
    have hc1 := hc.1
    injection hc1 with hc1
    injection hc1 with _ hc1
    subst hc1; rfl
  | some z =>
    rw [h2 z hm] at hc
    have hc1 := hc.1
    injection hc1 with hc1
    injection hc1 with _ hc1
    subst hc1; rfl
def insPto : List (List UInt8) → Option (Nat × Nat)
  | [] => some (0, 0)
  | [a] => (wholeL top64 a).map fun v => (v, 0)
  | [a, b] => match wholeL top64 a, wholeL top64 b with
    | some v, some u => some (v, u)
    | _, _ => none
  | _ => none
def pInsR (w : List UInt8) (ws : List (List UInt8)) : Option Ins := match opIdx w with
  | none => none
  | some i => if (ws.length : Int) = opArgs i then (insPto ws).map fun p => ⟨(i : Int), p.1, p.2⟩ else none
theorem pIns_pInsR {s w : List UInt8} {ws : List (List UInt8)} (h : splitS 32 s = w :: ws) : pIns s = pInsR w ws := by
  unfold pIns pInsR
  rw [h]
  simp only []
  cases opIdx w with
  | none => rfl
  | some i =>
    have ha := opArgs_bd i
    match ws with
    | [] => simp only [List.length_nil, insPto, Option.map_some]; by_cases h0 : opArgs i = 0 <;> simp [h0]; intro h1; exact absurd h1.symm h0
    | [a] => simp only [List.length_cons, List.length_nil, insPto]; by_cases h0 : opArgs i = 1 <;> simp [h0, Function.comp_def]; intro h1; exact absurd h1.symm h0
    | [a, b] =>
      simp only [List.length_cons, List.length_nil, insPto]
      by_cases h0 : opArgs i = 2
      · simp [h0]
        cases wholeL top64 a <;> cases wholeL top64 b <;> rfl
      · simp [h0]; intro h1; exact absurd h1.symm h0
    | _ :: _ :: _ :: r =>
      simp only [List.length_cons]
      rw [if_neg (by omega)]
theorem insPto_bad {ws : List (List UInt8)} {k : Nat} (hk : k < ws.length) (h2 : ws.length ≤ 2) (h : wholeL top64 ws[k] = none) : insPto ws = none := by
  match ws, hk, h2, h with
  | [a], hk, _, h =>
    have : k = 0 := by simp at hk; exact hk
    subst this
    simp only [List.getElem_cons_zero] at h
    simp [insPto, h]
  | [a, b], hk, _, h =>
    rcases (show k = 0 ∨ k = 1 by simp at hk; omega) with rfl | rfl
    · simp only [List.getElem_cons_zero] at h
      simp [insPto, h]
    · simp only [List.getElem_cons_succ, List.getElem_cons_zero] at h
      simp only [insPto, h]
      split
      · rename_i h2; cases h2
      · rfl
theorem insPto_zero {ws : List (List UInt8)} {k v va vb : Nat} (hk : k < ws.length) (h0 : k = 0) (h : wholeL top64 ws[k] = some v) (ht : insPto (ws.take k) = some (va, vb)) : insPto (ws.take (k + 1)) = some (v, vb) := by
  subst h0
  match ws, hk, h with
  | a :: r, _, h =>
    simp only [List.getElem_cons_zero] at h
    simp only [List.take_zero, insPto, Option.some.injEq, Prod.mk.injEq] at ht
    obtain ⟨_, rfl⟩ := ht
    simp [insPto, h]
theorem insPto_one {ws : List (List UInt8)} {k v va vb : Nat} (hk : k < ws.length) (h0 : k = 1) (h : wholeL top64 ws[k] = some v) (ht : insPto (ws.take k) = some (va, vb)) : insPto (ws.take (k + 1)) = some (va, v) := by
  subst h0
  match ws, hk, h with
  | a :: b :: r, _, h =>
    simp only [List.getElem_cons_succ, List.getElem_cons_zero] at h
    simp only [List.take_succ_cons, List.take_zero, insPto] at ht
    cases ha : wholeL top64 a with
    | none => rw [ha] at ht; cases ht
    | some u =>
      rw [ha] at ht
      simp only [Option.map_some, Option.some.injEq, Prod.mk.injEq] at ht
      obtain ⟨rfl, _⟩ := ht
      simp [insPto, ha, h]
theorem inscell {w : World} {nb : Nat} {x : Ins} (h0 : w.cell? ⟨nb, 0, none⟩ = some (.int .i64 x.op)) (h1 : w.cell? ⟨nb, 1, none⟩ = some (.int .u64 (x.a : Int))) (h2 : w.cell? ⟨nb, 2, none⟩ = some (.int .u64 (x.b : Int))) : ∀ j u, (insS.enc x)[j]? = some u → w.cell? ⟨nb, j, none⟩ = some u := by
  intro j u hj
  match j with
  | 0 => simp only [insS, List.getElem?_cons_zero] at hj; rw [← hj]; exact h0
  | 1 => simp only [insS, List.getElem?_cons_succ, List.getElem?_cons_zero] at hj; rw [← hj]; exact h1
  | 2 => simp only [insS, List.getElem?_cons_succ, List.getElem?_cons_zero] at hj; rw [← hj]; exact h2
  | j + 3 => simp [insS] at hj
theorem RdrAt.codeKept {w w' : World} {B rb mb : Nat} {x : RdrV} {st : Rs} (h : RdrAt w B rb mb x st) (hk : KeptBut w w' x.kv) : w'.cell? ⟨rb, 6, none⟩ = some x.kv ∧ w'.frozen? ⟨rb, 6, none⟩ = false :=
  ⟨(h.blk.keptL h.code (by decide) hk).cell 6, (h.blk.keptL h.code (by decide) hk).frozen 6⟩
def IrRel (ws : List (List UInt8)) (w : World) (ib : Nat) (i : Nat) (iv : Value) (wr : World) : Prop :=
  ∃ (k va vb : Nat), k ≤ ws.length ∧ iv = .int .i64 (k : Int) ∧ insPto (ws.take k) = some (va, vb) ∧ Blk wr ib 43 #[.int .i64 (i : Int), .int .u64 (va : Int), .int .u64 (vb : Int)] ∧ Below w.heap.size w wr
theorem instr_any (A : Option Addr) (n cap : Nat) (w0 : List UInt8) (ws : List (List UInt8)) (w : World) (C B rb mb : Nat) (hw : RdL strS w C (.slice A n cap) ((w0 :: ws).map str)) (hC : C ≤ w.heap.size) (x : RdrV) (st : Rs) (h : RdrAt w B rb mb x st) (hn : st.code.length ≤ 1000000000) (hsz0 : w0.length ≤ 1000000000) (hsz : ∀ x ∈ ws, x.length ≤ 1000000000) (hlen : ws.length ≤ 1000000001) (hE : PuEnv w) (hT : TabEnv w) :
    Calls Tryz.prog 48 #[.pointer (some ⟨rb, 0, none⟩), .slice A n cap] w (LnRet B rb mb w ((pInsR w0 ws).map fun c => { st with code := st.code ++ [c] })) := by
  obtain ⟨A0, c0, he, hc1, hc2⟩ := hw.open_
  injection he with e1 e2 e3
  subst e1 e3
  rw [List.length_map, List.length_cons] at e2 hc1
  subst e2
  unfold maxLen at hc2
  obtain ⟨a, rfl, hab, c0⟩ := at_word (k := 0) hw (by simp)
  simp only [List.getElem_cons_zero, addr_zero] at c0
  have H := Lib.hid h; have HE := Lib.hid hE; have HSZ := Lib.hid hsz; have HW := Lib.hid hw; have HT := Lib.hid hT
  have hl := h.drew.ops.run (str w0) (by rw [str_size]; unfold maxLen; omega)
  rw [str_data] at hl
  have r8 : w.cell? ⟨rb, 8, none⟩ = some (.map (some mb)) := h.blk.cell 8
  clear h hE hsz hw hT
  cases hv : opIdx w0 with
  | none =>
    have HN := Lib.hid (show pInsR w0 ws = none from by unfold pInsR; rw [hv])
    rw [show opsM w0 = none from by unfold opsM; rw [hv]; rfl] at hl
    clear hv
    go_enter Tryz.func48, Tryz.ntmps48
    go_wp2
    go_region
    go_wp2
    go_ret
    exact LnRet.bad (RKeep.of (Below.refl _ _).drew) (by rw [HN.out]; rfl) rfl
  | some i =>
    have hi17 : i < 17 := ((opIdx_iff _ _).1 hv).1
    rw [show opsM w0 = some (i : Int) from by unfold opsM; rw [hv]; rfl] at hl
    have t1 : w.cell? ⟨17, i * 2 + 1, none⟩ = some (.int .i64 (opArgs i)) := by rw [Nat.mul_comm]; exact HT.out.args i hi17
    have hab2 := opArgs_bd i
    by_cases hla : (ws.length : Int) = opArgs i
    · have HNX := Lib.hid (show pInsR w0 ws = (insPto ws).map fun p => ⟨(i : Int), p.1, p.2⟩ from by unfold pInsR; rw [hv]; exact if_pos hla)
      have hws2 : ws.length ≤ 2 := by omega
      have HLA := Lib.hid hla
      have hnq : (((ws.length : Int) + 1) != (1 + (ws.length : Int))) = false := by rw [Int.add_comm]; simp
      rw [← hla] at t1
      clear hv hla hab2
      by_cases hcap : cap = 1
      · subst hcap
        obtain rfl : ws = [] := List.eq_nil_of_length_eq_zero (by omega)
        have HTL := Lib.hid (RdL.tail1 HW.out)
        rw [List.length_map] at HTL
        go_enter Tryz.func48, Tryz.ntmps48
        go_wp2
        go_region
        go_wp2
        have hibE : w.heap.size ≤ w.heap.size := Nat.le_refl _
        go_loopw [40] (fun iv wr => IrRel [] w w.heap.size i iv wr) (fun iv _ => ([] : List (List UInt8)).length - (intOf iv).toNat)
        case atStart => exact ⟨0, 0, 0, Nat.zero_le _, rfl, rfl, Blk.new _ _ _, (Below.refl _ _).drew.alloc (Nat.le_refl _) _⟩
        case round =>
          obtain ⟨k, va, vb, hk, rfl, hu, hkb, hb⟩ := hrel
          have HU := Lib.hid hu; have HB := Lib.hid hb; have HK := Lib.hid hkb
          have hBr := hb.size
          clear hu hb hkb
          by_cases hlt : k < ([] : List (List UInt8)).length
          · exact absurd hlt (by simp)
          · have HN := Lib.hid (show insPto [] = some (va, vb) from by
              have := HU.out
              rwa [List.take_of_length_le (by omega)] at this)
            have HRr := Lib.hid (H.out.below HB.out)
            have q0 := HK.out.cell 0
            have q1 := HK.out.cell 1
            have q2 := HK.out.cell 2
            simp only [List.getElem?_toArray, List.getElem?_cons_zero, List.getElem?_cons_succ] at q0 q1 q2
            have hib := HK.out.lt
            have r6 : wr.cell? ⟨rb, 6, none⟩ = some x.kv := HRr.out.blk.cell 6
            have hrl := HRr.out.blk.lt
            have HL := Lib.hid (show st.code.length + 1 ≤ 970000000000 by omega)
            have HKB := Lib.hid (RKeep.ofW (rb := rb) H.out.hB HB.out)
            have hne : ¬ rb = w.heap.size := by
              have := H.out.blk.lt
              show ¬ rb = w.heap.size
              omega
            have hne2 : ¬ w.heap.size = rb := fun e => hne e.symm
            go_wp2
            go_region_law (first
              | ((with_reducible refine OwnL.stepAppendG insSOk (B := B) (v := x.kv) (l := st.code) (RdrAt.code (B := B) (rb := rb) (mb := mb) (x := x) (st := st) (by (repeat (first | exact HRr.out | with_reducible refine RdrAt.drew ?_ | with_reducible refine RdrAt.alloc ?_ _)); done)) (Ins.mk (i : Int) va vb) _ rfl _ _ rfl rfl rfl (by refine inscell ?_ ?_ ?_ <;> simp [World.cell?_alloc_new]) (RdrAt.hB (B := B) (rb := rb) (mb := mb) (x := x) (st := st) (by (repeat (first | exact HRr.out | with_reducible refine RdrAt.drew ?_ | with_reducible refine RdrAt.alloc ?_ _)); done)) HL.out (fun g6 c6 w6 h2 h3 h3k h4 h5 => ?_)); (have hR6 := (RdrAt.pushIns (B := B) (rb := rb) (mb := mb) (x := x) (st := st) (by (repeat (first | exact HRr.out | with_reducible refine RdrAt.drew ?_ | with_reducible refine RdrAt.alloc ?_ _)); done) (Ins.mk (i : Int) va vb) h2 h3 h3k)); (have hK6 := HKB.out.grow1 HRr.out.hB h3); (obtain ⟨m6, m7⟩ := (RdrAt.codeKept (B := B) (rb := rb) (mb := mb) (x := x) (st := st) (by (repeat (first | exact HRr.out | with_reducible refine RdrAt.drew ?_ | with_reducible refine RdrAt.alloc ?_ _)); done) h3k)); clear h2 h3 h3k h4))
            all_goals
              have HR6 := Lib.hid hR6
              have HK6 := Lib.hid ((hK6).trans (RKeep.set_ B rb 6 _ (.slice (some ⟨g6, 0, none⟩) (st.code.length + 1) c6)))
              clear hR6 hK6
              go_wp2
              go_ret
              exact LnRet.good HK6.out (by rw [HNX.out, HN.out]; rfl) rfl HR6.out
      · have HTL := Lib.hid (RdL.tail2 HW.out)
        rw [List.length_map] at HTL
        go_enter Tryz.func48, Tryz.ntmps48
        go_wp2
        go_region
        go_wp2
        have hibE : w.heap.size ≤ w.heap.size := Nat.le_refl _
        go_loopw [40] (fun iv wr => IrRel ws w w.heap.size i iv wr) (fun iv _ => ws.length - (intOf iv).toNat)
        case atStart => exact ⟨0, 0, 0, Nat.zero_le _, rfl, rfl, Blk.new _ _ _, (Below.refl _ _).drew.alloc (Nat.le_refl _) _⟩
        case round =>
          obtain ⟨k, va, vb, hk, rfl, hu, hkb, hb⟩ := hrel
          have HU := Lib.hid hu; have HB := Lib.hid hb; have HK := Lib.hid hkb
          have hBr := hb.size
          clear hu hb hkb
          by_cases hlt : k < ws.length
          · obtain ⟨a2, he2, hab2, c2⟩ := at_word (HTL.out.below (HB.out.mono hC)) hlt
            injection he2 with he2
            subst he2
            rw [Addr.add_lit] at c2
            have hxs : ws[k].length ≤ 1000000000 := HSZ.out _ (List.getElem_mem hlt)
            have hI := whole64_any (str ws[k]) (by rw [str_size]; exact hxs) wr (HE.out.belowW HB.out)
            rw [str_data] at hI
            have F0 := Lib.hid (fun v h0 h => @insPto_zero ws k v va vb hlt h0 h HU.out)
            have F1 := Lib.hid (fun v h0 h => @insPto_one ws k v va vb hlt h0 h HU.out)
            have F2 := Lib.hid (fun h => @insPto_bad ws k hlt hws2 h)
            have hk01 : k = 0 ∨ k = 1 := by omega
            generalize ws[k] = y at *
            cases hv : wholeL top64 y with
            | none =>
              have HN := Lib.hid (F2.out hv)
              have HV := Lib.hid hv
              clear hv
              go_wp2_with fail
              refine hI.mono ?_
              rintro e w2 ⟨⟨v', hv0, hv1, rfl, -⟩, hb2⟩
              have e64 : wholeL 18446744073709551616 y = none := HV.out
              rw [e64]
              have HB2 := Lib.hid (RKeep.ofW (rb := rb) H.out.hB (HB.out.trans (hb2.mono hBr)))
              clear hb2 hI e64
              go_wp2
              go_ret
              exact LnRet.bad HB2.out (by rw [HNX.out, HN.out]; rfl) rfl
            | some v =>
              have hvl := wholeL_lt hv
              unfold top64 at hvl
              have HV := Lib.hid hv
              clear hv
              go_wp2_with fail
              refine hI.mono ?_
              rintro e w2 ⟨⟨v', -, -, rfl, hvv⟩, hb2⟩
              have e64 : wholeL 18446744073709551616 y = some v := HV.out
              obtain rfl := hvv v e64
              rw [e64]
              have HB2 := Lib.hid (HB.out.trans (hb2.mono hBr))
              have HK2 := Lib.hid (HK.out.belowW hb2)
              have q1 := HK2.out.cell 1
              have q2 := HK2.out.cell 2
              have z1 := HK2.out.frozen 1
              have z2 := HK2.out.frozen 2
              simp only [List.getElem?_toArray, List.getElem?_cons_zero, List.getElem?_cons_succ] at q1 q2
              clear hb2 hI hvv e64
              rcases hk01 with h0 | h0
              · have HNX2 := Lib.hid (F0.out v h0 HV.out)
                have hk0 : (k : Int) = 0 := by omega
                clear h0
                go_wp2
                go_roundw
                case rel =>
                  have hr : IrRel ws w w.heap.size i (.int .i64 1) (w2.setCell ⟨w.heap.size, 1, none⟩ (.int .u64 (v : Int))) := by
                    refine ⟨k + 1, v, vb, hlt, by rw [show ((k + 1 : Nat) : Int) = 1 from by omega], HNX2.out, ?_, HB2.out.setCell (by show w.heap.size ≤ _; exact hibE) _⟩
                    simpa using HK2.out.set_ 1 (.int .u64 (v : Int))
                  exact hr
                case measure => simp [intOf]; omega
              · have HNX2 := Lib.hid (F1.out v h0 HV.out)
                have hk0 : ¬ (k : Int) = 0 := by omega
                clear h0
                go_wp2
                go_roundw
                case rel =>
                  have hr : IrRel ws w w.heap.size i (.int .i64 ((k : Int) + 1)) (w2.setCell ⟨w.heap.size, 2, none⟩ (.int .u64 (v : Int))) := by
                    refine ⟨k + 1, va, v, hlt, by go_num, HNX2.out, ?_, HB2.out.setCell (by show w.heap.size ≤ _; exact hibE) _⟩
                    simpa using HK2.out.set_ 2 (.int .u64 (v : Int))
                  exact hr
                case measure => simp [intOf]; omega
          · have HN := Lib.hid (show insPto ws = some (va, vb) from by
              have := HU.out
              rwa [List.take_of_length_le (by omega)] at this)
            have HRr := Lib.hid (H.out.below HB.out)
            have q0 := HK.out.cell 0
            have q1 := HK.out.cell 1
            have q2 := HK.out.cell 2
            simp only [List.getElem?_toArray, List.getElem?_cons_zero, List.getElem?_cons_succ] at q0 q1 q2
            have hib := HK.out.lt
            have r6 : wr.cell? ⟨rb, 6, none⟩ = some x.kv := HRr.out.blk.cell 6
            have hrl := HRr.out.blk.lt
            have HL := Lib.hid (show st.code.length + 1 ≤ 970000000000 by omega)
            have HKB := Lib.hid (RKeep.ofW (rb := rb) H.out.hB HB.out)
            have hne : ¬ rb = w.heap.size := by
              have := H.out.blk.lt
              show ¬ rb = w.heap.size
              omega
            have hne2 : ¬ w.heap.size = rb := fun e => hne e.symm
            go_wp2
            go_region_law (first
              | ((with_reducible refine OwnL.stepAppendG insSOk (B := B) (v := x.kv) (l := st.code) (RdrAt.code (B := B) (rb := rb) (mb := mb) (x := x) (st := st) (by (repeat (first | exact HRr.out | with_reducible refine RdrAt.drew ?_ | with_reducible refine RdrAt.alloc ?_ _)); done)) (Ins.mk (i : Int) va vb) _ rfl _ _ rfl rfl rfl (by refine inscell ?_ ?_ ?_ <;> simp [World.cell?_alloc_new]) (RdrAt.hB (B := B) (rb := rb) (mb := mb) (x := x) (st := st) (by (repeat (first | exact HRr.out | with_reducible refine RdrAt.drew ?_ | with_reducible refine RdrAt.alloc ?_ _)); done)) HL.out (fun g6 c6 w6 h2 h3 h3k h4 h5 => ?_)); (have hR6 := (RdrAt.pushIns (B := B) (rb := rb) (mb := mb) (x := x) (st := st) (by (repeat (first | exact HRr.out | with_reducible refine RdrAt.drew ?_ | with_reducible refine RdrAt.alloc ?_ _)); done) (Ins.mk (i : Int) va vb) h2 h3 h3k)); (have hK6 := HKB.out.grow1 HRr.out.hB h3); (obtain ⟨m6, m7⟩ := (RdrAt.codeKept (B := B) (rb := rb) (mb := mb) (x := x) (st := st) (by (repeat (first | exact HRr.out | with_reducible refine RdrAt.drew ?_ | with_reducible refine RdrAt.alloc ?_ _)); done) h3k)); clear h2 h3 h3k h4))
            all_goals
              have HR6 := Lib.hid hR6
              have HK6 := Lib.hid ((hK6).trans (RKeep.set_ B rb 6 _ (.slice (some ⟨g6, 0, none⟩) (st.code.length + 1) c6)))
              clear hR6 hK6
              go_wp2
              go_ret
              exact LnRet.good HK6.out (by rw [HNX.out, HN.out]; rfl) rfl HR6.out
    · have HN := Lib.hid (show pInsR w0 ws = none from by unfold pInsR; rw [hv]; exact if_neg hla)
      have hnl : ¬ (ws.length : Int) + 1 = 1 + opArgs i := by omega
      have hnl2 : (((ws.length : Int) + 1) != (1 + opArgs i)) = true := by simpa using hnl
      generalize opArgs i = na at *
      clear hv
      go_enter Tryz.func48, Tryz.ntmps48
      go_wp2
      go_region
      go_wp2
      go_ret
      exact LnRet.bad (RKeep.of (Below.refl _ _).drew) (by rw [HN.out]; rfl) rfl
end Go.Proofs.YtmdpfikalekmlaaGreatDoor
