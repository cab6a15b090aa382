/- The walk of the law LexerBack. -/
import Derived.Test.YtlgcofinmpckkaaDoorBw
import Derived.Test.YtlgcofinmpckkaaDoorOs
import Derived.Test.YtlgcofinmpckkaaDoorLqu
namespace Go.Proofs.YtlgcofinmpckkaaDoor
open Go.RowKit
set_option maxRecDepth 100000
set_option maxHeartbeats 40000000
set_option linter.unusedSimpArgs false
set_option linter.unusedVariables false

theorem strB_self (s : ByteArray) : str s.data.toList = s := by unfold str; exact ba_ext rfl
theorem strB_beq (l m : List UInt8) : ((str l).toList == m) = decide (l = m) := by
  rw [ba_toList, str_data]
  rw [Bool.eq_iff_iff]; simp
theorem wordL_len (l : List UInt8) : (wordL l).length ≤ 2 * l.length + 1 := by
  unfold wordL
  split
  · simp; omega
  · have := lettersTo_length true l l.length
    unfold lettersL; omega
theorem quoteL_len (l : List UInt8) : (quoteL l).length ≤ 2 * l.length + 2 := by
  unfold quoteL
  have := quoteTo_length l l.length
  rw [List.length_append, List.length_singleton]; omega
theorem patternL_len (l : List UInt8) : (patternL l).length ≤ 2 * l.length := by
  unfold patternL
  split
  · simp
  · split
    · have h1 := patTo_length (signs l) (signs l).length
      have h2 := signs_length l
      omega
    · simp
theorem word_scan (s : ByteArray) : ∃ la, scanL (wordL s.data.toList) = (la, none) := by
  by_cases h : s.data.toList = []
  · rw [h, word_none]; exact ⟨_, scanL_nil⟩
  · exact ⟨_, word_back h⟩
/-- LexerBack's outer loop. -/
def LbRel (lets : List ByteArray) (gaps : List Bool) (w : World) (pv cv sv iv : Value) (wr : World) : Prop :=
  ∃ k : Nat, k ≤ lets.length ∧ pv = .string (str (ptP (ptTo lets gaps k))) ∧ cv = .string (str (ptC (ptTo lets gaps k))) ∧ sv = .bool ((ptTo lets gaps k).any Pt.isWi) ∧ iv = .int .i64 (k : Int) ∧ Below w.heap.size w wr
/-- Its inner loop, over the bytes x. -/
def LbIn (pre : List Pt) (x : ByteArray) (w : World) (pv cv jv : Value) (wr : World) : Prop :=
  ∃ j : Nat, j ≤ x.size ∧ pv = .string (str (ptP (pre ++ (x.data.toList.take j).map Pt.le))) ∧ cv = .string (str (ptC (pre ++ (x.data.toList.take j).map Pt.le))) ∧ jv = .int .i64 (j : Int) ∧ Below w.heap.size w wr
theorem le_take {x : ByteArray} {j : Nat} (h : j < x.size) (pre : List Pt) : pre ++ (x.data.toList.take (j + 1)).map Pt.le = (pre ++ (x.data.toList.take j).map Pt.le) ++ [Pt.le x[j]] := by
  rw [List.take_succ_eq_append_getElem (by rw [← ba_size]; exact h), List.map_append, List.append_assoc]; rfl
theorem chr_byte (c : UInt8) : (chr (c.toNat : Int)).data.toList = [c] := by
  rw [chr_data]; simp
theorem chr_eq (c d : UInt8) : ((chr (c.toNat : Int)).toList == [d]) = decide (c = d) := by
  rw [ba_toList, chr_byte, Bool.eq_iff_iff]; simp
theorem str_cat (a : List UInt8) (b : ByteArray) : str a ++ b = str (a ++ b.data.toList) := by
  apply ba_ext; rw [ba_append, str_data, str_data]
theorem back_walk (s : ByteArray) (lv : Value) (lets : List ByteArray) (gv : Value) (gaps : List Bool) (a b : Int) (w : World) (v : Value) (hE : LexEnv w v) (hs : s.size ≤ 1048576)
    (hl : RdL strS w w.heap.size lv lets) (hg : RdL boolS w w.heap.size gv gaps) (hsum : (lets.map fun s => s.size + 1).sum ≤ 1048576)
    (ha : IntKind.i64.min ≤ a ∧ a ≤ IntKind.i64.max) (hb : IntKind.i64.min ≤ b ∧ b ≤ IntKind.i64.max) :
    Calls Tryd.prog 8 #[.string s, lv, gv, .int .i64 a, .int .i64 b] w fun e w' => e = .returned (.bool true) ∧ Below w.heap.size w w' := by
  obtain ⟨lA, lcap, rfl, hl1, hl2⟩ := hl.open_
  obtain ⟨gA, gcap, rfl, hg1, hg2⟩ := hg.open_
  unfold maxLen at hl2 hg2
  have HE := Lib.hid hE; have HL := Lib.hid hl; have HG := Lib.hid hg; have HSUM := Lib.hid hsum
  have HRA := Lib.hid ha; have HRB := Lib.hid hb
  clear hE hl hg hsum ha hb
  have hlb : ∀ c k : Nat, c ≤ 1048576 → k ≤ lets.length → True := fun _ _ _ _ => trivial
  clear hlb
  go_enter Tryd.func8, Tryd.ntmps8
  go_wp2_with fail
  refine (lives_any w v HE.out).mono ?_
  rintro e w1 ⟨rfl, hb1⟩
  have HE1 := Lib.hid (HE.out.below hb1)
  have HB1 := Lib.hid hb1; clear hb1
  by_cases hlen : 1000 < lets.length
  · have hlen' : 1000 < (lets.length : Int) := by omega
    go_wp2
    go_ret
    exact ⟨rfl, HB1.out⟩
  have hlen' : (lets.length : Int) ≤ 1000 := by omega
  have hwl := wordL_len s.data.toList
  rw [← ba_size] at hwl
  have hql := quoteL_len s.data.toList
  rw [← ba_size] at hql
  by_cases hs0 : s.data.toList = []
  · have HS0 := Lib.hid hs0
    have t0 : (s.toList == []) = true := by rw [ba_toList, hs0]; rfl
    have t3 : ((str (wordL s.data.toList)).toList == []) = true := by rw [hs0, word_none, strB_beq]; rfl
    have t2 : ((str (wordL s.data.toList)).toList != []) = false := by unfold bne; rw [t3]; rfl
    clear hs0
    go_wp2_with fail
    refine (word_any s w1 HE1.out.cls (by omega)).mono ?_
    rintro e w2 ⟨rfl, hb2⟩
    have HB2 := Lib.hid (HB1.out.trans (hb2.mono HB1.out.size))
    have HE2 := Lib.hid (HE1.out.below hb2)
    clear hb2
    go_wp2_with fail
    refine (quote_any s w2 (by omega)).mono ?_
    rintro e w3 ⟨rfl, hb3⟩
    have HB3 := Lib.hid (HB2.out.trans (hb3.mono HB2.out.size))
    have HE3 := Lib.hid (HE2.out.below hb3)
    clear hb3
    go_wp2_with fail
    have hlone := lone_any (str (quoteL s.data.toList)) 3 s.data.toList w3 v (by rw [str_size]; omega) HE3.out (by rw [str_data, str_size]; exact quote_back _)
    rw [strB_self] at hlone
    refine hlone.mono ?_
    rintro e w4 ⟨rfl, hb4⟩
    have HB4 := Lib.hid (HB3.out.trans (hb4.mono HB3.out.size))
    have HE4 := Lib.hid (HE3.out.below hb4)
    clear hb4 hlone
    have HWS := Lib.hid (word_scan s)
    go_wp2
    go_loopw [12, 13, 14, 46] (fun pv cv sv iv wr => LbRel lets gaps w pv cv sv iv wr) (fun _ _ _ iv _ => lets.length - (intOf iv).toNat)
    case atStart => exact ⟨0, Nat.zero_le _, rfl, rfl, rfl, rfl, HB4.out⟩
    case round =>
      obtain ⟨k, hk, rfl, rfl, rfl, rfl, hbl⟩ := hrel
      have HBl := Lib.hid hbl
      have hsz : w.heap.size ≤ wr.heap.size := hbl.size
      have hplen : (ptTo lets gaps k).length ≤ 1048576 := by
        have h1 := ptTo_len lets gaps k hk
        have h2 := sum_take lets k
        have h3 := HSUM.out
        omega
      have hpc := ptP_len (ptTo lets gaps k)
      have HOK := Lib.hid (ptTo_ok lets gaps k)
      clear hbl
      by_cases hlt : k < lets.length
      · obtain ⟨la, rfl, hab, c0⟩ := at_strA (HL.out.below HBl.out) hlt
        have hroom := ptTo_room lets gaps k hlt
        have hsum := HSUM.out
        have HNX : Hid (ptTo lets gaps (k + 1) = ptTo lets gaps k ++ (lets[k].data.toList.map Pt.le ++ (if k < gaps.length then [Pt.wi (if gaps.getD k false then 63 else 42)] else []))) := Lib.hid (by
          rw [ptTo, pcs, List.getD_eq_getElem?_getD, List.getElem?_eq_getElem hlt, Option.getD_some])
        generalize lets[k] = x at *
        have hxs : x.size ≤ 1048576 := by omega
        have hpl : (ptTo lets gaps k).length + x.size + 1 ≤ 1048576 := by omega
        clear hroom hsum
        go_wp2
        go_loopw [12, 13, 17] (fun pv cv jv wx => LbIn (ptTo lets gaps k) x w pv cv jv wx) (fun _ _ jv _ => x.size - (intOf jv).toNat)
        case atStart => exact ⟨0, Nat.zero_le _, by simp, by simp, rfl, HBl.out⟩
        case round =>
          obtain ⟨j, hj, rfl, rfl, rfl, hbx⟩ := hrel
          have HBx := Lib.hid hbx
          have hszx : w.heap.size ≤ wr.heap.size := hbx.size
          have hq2 := ptP_len (ptTo lets gaps k ++ (x.data.toList.take j).map Pt.le)
          rw [List.length_append, List.length_map, List.length_take] at hq2
          have hP := hq2.1
          have hC := hq2.2
          clear hbx hq2
          by_cases hjx : j < x.size
          · have hcu := u8_lt x[j]
            have HLT := Lib.hid (le_take hjx (ptTo lets gaps k))
            have hconv := fun (W : World) (z : Int) => conv_one (P := Tryd.prog) 40 5 5 Tryd.underlying40 Tryd.underlying5 9 Tryd.underlying9 W z
            have e42 := chr_eq x[j] 42
            have e63 := chr_eq x[j] 63
            have e92 := chr_eq x[j] 92
            have HCB := Lib.hid (chr_byte x[j])
            have HCZ : (chr (x[j].toNat : Int)).size = 1 := chr_size _
            obtain ⟨P0, hP0⟩ : ∃ P0, P0 = ptP (ptTo lets gaps k ++ (x.data.toList.take j).map Pt.le) := ⟨_, rfl⟩
            obtain ⟨C0, hC0⟩ : ∃ C0, C0 = ptC (ptTo lets gaps k ++ (x.data.toList.take j).map Pt.le) := ⟨_, rfl⟩
            have HSN := Lib.hid (ptP_snoc (ptTo lets gaps k ++ (x.data.toList.take j).map Pt.le) (Pt.le x[j]))
            rw [← HLT.out] at HSN
            rw [← hP0] at hP HSN ⊢
            rw [← hC0] at hC HSN ⊢
            have hz1 : (str P0).size ≤ 3000000 := by rw [str_size]; omega
            have hz2 : (str C0).size ≤ 3000000 := by rw [str_size]; omega
            clear hP0 hC0
            by_cases hw : x[j] = 42 ∨ x[j] = 63 ∨ x[j] = 92
            · have HW : Hid ((Pt.le x[j]).c.b = [92, x[j]]) := Lib.hid (by show (if x[j] = 42 ∨ x[j] = 63 ∨ x[j] = 92 then At.es x[j] else At.pl x[j]).b = [92, x[j]]; rw [if_pos hw]; rfl)
              rcases hw with hw | hw | hw
              · rw [decide_eq_true hw] at e42
                clear hw
                go_wp2
                go_roundw
                case measure => simp [intOf]; omega
                case rel =>
                  refine ⟨j + 1, hjx, ?_, ?_, by go_num, HBx.out.alloc hszx _⟩
                  · rw [HSN.out.1, str_cat, ba_append, HCB.out]; rfl
                  · rw [HSN.out.2, HW.out, str_cat, str_cat, HCB.out, List.append_assoc]; rfl
              · rw [decide_eq_false (by rw [hw]; decide)] at e42
                rw [decide_eq_true hw] at e63
                clear hw
                go_wp2
                go_roundw
                case measure => simp [intOf]; omega
                case rel =>
                  refine ⟨j + 1, hjx, ?_, ?_, by go_num, HBx.out.alloc hszx _⟩
                  · rw [HSN.out.1, str_cat, ba_append, HCB.out]; rfl
                  · rw [HSN.out.2, HW.out, str_cat, str_cat, HCB.out, List.append_assoc]; rfl
              · rw [decide_eq_false (by rw [hw]; decide)] at e42
                rw [decide_eq_false (by rw [hw]; decide)] at e63
                rw [decide_eq_true hw] at e92
                clear hw
                go_wp2
                go_roundw
                case measure => simp [intOf]; omega
                case rel =>
                  refine ⟨j + 1, hjx, ?_, ?_, by go_num, HBx.out.alloc hszx _⟩
                  · rw [HSN.out.1, str_cat, ba_append, HCB.out]; rfl
                  · rw [HSN.out.2, HW.out, str_cat, str_cat, HCB.out, List.append_assoc]; rfl
            · have HW : Hid ((Pt.le x[j]).c.b = [x[j]]) := Lib.hid (by show (if x[j] = 42 ∨ x[j] = 63 ∨ x[j] = 92 then At.es x[j] else At.pl x[j]).b = [x[j]]; rw [if_neg hw]; rfl)
              rw [decide_eq_false (fun h => hw (.inl h))] at e42
              rw [decide_eq_false (fun h => hw (.inr (.inl h)))] at e63
              rw [decide_eq_false (fun h => hw (.inr (.inr h)))] at e92
              clear hw
              go_wp2
              go_roundw
              case measure => simp [intOf]; omega
              case rel =>
                refine ⟨j + 1, hjx, ?_, ?_, by go_num, HBx.out.alloc hszx _⟩
                · rw [HSN.out.1, str_cat, ba_append, HCB.out]; rfl
                · rw [HSN.out.2, str_cat, HW.out, HCB.out]
          · have HALL : Hid (ptTo lets gaps k ++ (x.data.toList.take j).map Pt.le = ptTo lets gaps k ++ x.data.toList.map Pt.le) := Lib.hid (by rw [List.take_of_length_le (by rw [← ba_size]; omega)])
            have hP1 : (ptP (ptTo lets gaps k ++ (x.data.toList.take j).map Pt.le)).length ≤ 3000000 := by omega
            have hC1 : (ptC (ptTo lets gaps k ++ (x.data.toList.take j).map Pt.le)).length ≤ 3000000 := by omega
            rw [HALL.out] at hP1 hC1 ⊢
            obtain ⟨L1, hL1⟩ : ∃ L1, L1 = ptTo lets gaps k ++ x.data.toList.map Pt.le := ⟨_, rfl⟩
            have hst : (ptTo lets gaps k).any Pt.isWi = L1.any Pt.isWi := by rw [hL1, List.any_append, any_le, Bool.or_false]
            rw [← List.append_assoc, ← hL1] at HNX
            rw [← hL1] at hP1 hC1 ⊢
            rw [hst]
            clear hL1 hst HALL hP hC
            have hz1 : (str (ptP L1)).size ≤ 3000000 := by rw [str_size]; exact hP1
            have hz2 : (str (ptC L1)).size ≤ 3000000 := by rw [str_size]; exact hC1
            by_cases hkg : k < gaps.length
            · rw [if_pos hkg] at HNX
              obtain ⟨gA0, rfl, hgb, g0⟩ := at_bool (HG.out.below HBx.out) hkg
              have egd : gaps.getD k false = gaps[k] := by rw [List.getD_eq_getElem?_getD, List.getElem?_eq_getElem hkg, Option.getD_some]
              rw [egd] at HNX
              clear egd
              cases hgv : gaps[k] with
              | true =>
                rw [hgv] at g0 HNX
                have HSN := Lib.hid (ptP_snoc L1 (Pt.wi 63))
                have HANY : Hid ((L1 ++ [Pt.wi 63]).any Pt.isWi = true) := Lib.hid (by rw [List.any_append]; simp [Pt.isWi])
                clear hgv
                go_wp2
                go_roundw
                case measure => simp [intOf]; omega
                case rel =>
                  refine ⟨k + 1, hlt, ?_, ?_, ?_, by go_num, HBx.out⟩
                  · rw [HNX.out, if_pos rfl, HSN.out.1, str_cat]; rfl
                  · rw [HNX.out, if_pos rfl, HSN.out.2, str_cat]; rfl
                  · rw [HNX.out, if_pos rfl, HANY.out]
              | false =>
                rw [hgv] at g0 HNX
                have HSN := Lib.hid (ptP_snoc L1 (Pt.wi 42))
                have HANY : Hid ((L1 ++ [Pt.wi 42]).any Pt.isWi = true) := Lib.hid (by rw [List.any_append]; simp [Pt.isWi])
                clear hgv
                go_wp2
                go_roundw
                case measure => simp [intOf]; omega
                case rel =>
                  refine ⟨k + 1, hlt, ?_, ?_, ?_, by go_num, HBx.out⟩
                  · rw [HNX.out, if_neg (by decide), HSN.out.1, str_cat]; rfl
                  · rw [HNX.out, if_neg (by decide), HSN.out.2, str_cat]; rfl
                  · rw [HNX.out, if_neg (by decide), HANY.out]
            · rw [if_neg hkg, List.append_nil] at HNX
              go_wp2
              go_roundw
              case measure => simp [intOf]; omega
              case rel =>
                refine ⟨k + 1, hlt, ?_, ?_, ?_, by go_num, HBx.out⟩
                · rw [HNX.out]
                · rw [HNX.out]
                · rw [HNX.out]
      · have hzp : (str (ptP (ptTo lets gaps k))).size ≤ 2200000 := by rw [str_size]; omega
        have hzc : (str (ptC (ptTo lets gaps k))).size ≤ 2200000 := by rw [str_size]; omega
        have HEr := Lib.hid (HE.out.below HBl.out)
        cases hst : (ptTo lets gaps k).any Pt.isWi with
        | false =>
          have HN := Lib.hid (pattern_none (ptTo lets gaps k) HOK.out hst)
          have t5 : ((str []).toList == []) = true := by rw [strB_beq]; rfl
          clear hst
          go_wp2_with fail
          refine (pattern_any (str (ptP (ptTo lets gaps k))) wr (by omega) HEr.out.cls).mono ?_
          rintro e wx ⟨he, hbx⟩
          rw [str_data, HN.out.1] at he
          subst he
          have HBx := Lib.hid (HBl.out.trans (hbx.mono hsz))
          have HEx := Lib.hid (HEr.out.below hbx)
          clear hbx
          go_wp2_with fail
          refine (pattern_any (str (ptC (ptTo lets gaps k))) wx (by omega) HEx.out.cls).mono ?_
          rintro e wy ⟨he, hby⟩
          rw [str_data, HN.out.2] at he
          subst he
          have HBy := Lib.hid (HBx.out.trans (hby.mono HBx.out.size))
          clear hby
          go_wp2
          go_ret
          exact ⟨rfl, HBy.out⟩
        | true =>
          have HPB := Lib.hid (pattern_back (ptTo lets gaps k) HOK.out hst)
          have HPS := Lib.hid (pattern_same (ptTo lets gaps k) HOK.out)
          have HBAD := Lib.hid (pattern_bad (ptTo lets gaps k) HOK.out)
          have hpz := patternL_len (ptP (ptTo lets gaps k))
          rw [← str_size (ptP (ptTo lets gaps k))] at hpz
          clear hst
          obtain ⟨Z, hZ⟩ : ∃ Z, Z = patternL (ptP (ptTo lets gaps k)) := ⟨_, rfl⟩
          rw [← hZ] at hpz HPB HPS
          have HZ := Lib.hid hZ
          have tz : ((str Z).toList == (str Z).toList) = true := beq_self_eq_true _
          have tn : ((str Z).toList != (str Z).toList) = false := by unfold bne; rw [tz]; rfl
          have t5 : ((str []).toList == []) = true := by rw [strB_beq]; rfl
          have t6 : ((str []).toList != []) = false := by unfold bne; rw [t5]; rfl
          clear hZ
          go_wp2_with fail
          refine (pattern_any (str (ptP (ptTo lets gaps k))) wr (by omega) HEr.out.cls).mono ?_
          rintro e wa ⟨he, hba⟩
          rw [str_data, ← HZ.out] at he
          subst he
          have HBa := Lib.hid (HBl.out.trans (hba.mono hsz))
          have HEa := Lib.hid (HEr.out.below hba)
          clear hba
          go_wp2_with fail
          refine (pattern_any (str (ptC (ptTo lets gaps k))) wa (by omega) HEa.out.cls).mono ?_
          rintro e wb ⟨he, hbb⟩
          rw [str_data, HPS.out] at he
          subst he
          have HBb := Lib.hid (HBa.out.trans (hbb.mono HBa.out.size))
          have HEb := Lib.hid (HEa.out.below hbb)
          clear hbb
          go_wp2_with fail
          refine (pattern_any (str (ptP (ptTo lets gaps k))) wb (by omega) HEb.out.cls).mono ?_
          rintro e wc ⟨he, hbc⟩
          rw [str_data, ← HZ.out] at he
          subst he
          have HBc := Lib.hid (HBb.out.trans (hbc.mono HBb.out.size))
          have HEc := Lib.hid (HEb.out.below hbc)
          clear hbc
          go_wp2_with fail
          refine (lone_any (str Z) 2 (ptC (ptTo lets gaps k)) wc v (by rw [str_size]; omega) HEc.out (by rw [str_data, str_size]; exact HPB.out)).mono ?_
          rintro e wd ⟨rfl, hbd⟩
          have HBd := Lib.hid (HBc.out.trans (hbd.mono HBc.out.size))
          have HEd := Lib.hid (HEc.out.below hbd)
          clear hbd
          go_wp2_with fail
          have hbz : (str (ptP (ptTo lets gaps k)) ++ (⟨#[92]⟩ : ByteArray)).size ≤ 10000000 := by
            rw [ba_append_size, show ((⟨#[92]⟩ : ByteArray)).size = 1 from rfl]; omega
          have hcall := pattern_any (str (ptP (ptTo lets gaps k)) ++ (⟨#[92]⟩ : ByteArray)) wd hbz HEd.out.cls
          refine hcall.mono ?_
          rintro e we ⟨he, hbe⟩
          rw [ba_append, str_data, show ((⟨#[92]⟩ : ByteArray)).data.toList = [92] from rfl, HBAD.out] at he
          subst he
          have HBe := Lib.hid (HBd.out.trans (hbe.mono HBd.out.size))
          have HEe := Lib.hid (HEd.out.below hbe)
          clear hbe hcall hbz
          obtain ⟨lw, hlw⟩ := HWS.out
          have HLW := Lib.hid hlw
          clear hlw
          go_wp2_with fail
          refine (word_any s we HEe.out.cls (by omega)).mono ?_
          rintro e wf ⟨rfl, hbf⟩
          have HBf := Lib.hid (HBe.out.trans (hbf.mono HBe.out.size))
          have HEf := Lib.hid (HEe.out.below hbf)
          clear hbf
          go_wp2_with fail
          refine (wrapped_any (str (wordL s.data.toList)) lw a b wf v (by rw [str_size]; omega) HEf.out HRA.out HRB.out (by rw [str_data]; exact HLW.out)).mono ?_
          rintro e wg ⟨rfl, hbg⟩
          have HBg := Lib.hid (HBf.out.trans (hbg.mono HBf.out.size))
          have HEg := Lib.hid (HEf.out.below hbg)
          clear hbg
          go_wp2_with fail
          refine (pattern_any (str (ptP (ptTo lets gaps k))) wg (by omega) HEg.out.cls).mono ?_
          rintro e wh ⟨he, hbh⟩
          rw [str_data, ← HZ.out] at he
          subst he
          have HBh := Lib.hid (HBg.out.trans (hbh.mono HBg.out.size))
          have HEh := Lib.hid (HEg.out.below hbh)
          clear hbh
          go_wp2_with fail
          refine (wrapped_any (str Z) _ a b wh v (by rw [str_size]; omega) HEh.out HRA.out HRB.out (by rw [str_data]; exact HPB.out)).mono ?_
          rintro e wi ⟨rfl, hbi⟩
          have HBi := Lib.hid (HBh.out.trans (hbi.mono HBh.out.size))
          clear hbi
          go_wp2
          go_ret
          exact ⟨rfl, HBi.out⟩
  · have HS0 := Lib.hid (word_back hs0)
    have t0 : (s.toList == []) = false := by rw [ba_toList, beq_eq_false_iff_ne]; exact hs0
    clear hs0
    go_wp2_with fail
    refine (word_any s w1 HE1.out.cls (by omega)).mono ?_
    rintro e w1a ⟨rfl, hb1a⟩
    have HB1a := Lib.hid (HB1.out.trans (hb1a.mono HB1.out.size))
    have HE1a := Lib.hid (HE1.out.below hb1a)
    clear hb1a
    go_wp2_with fail
    have hlone := lone_any (str (wordL s.data.toList)) 1 s.data.toList w1a v (by rw [str_size]; omega) HE1a.out (by rw [str_data, str_size]; exact HS0.out)
    rw [strB_self] at hlone
    refine hlone.mono ?_
    rintro e w2 ⟨rfl, hb2⟩
    have HB2 := Lib.hid (HB1a.out.trans (hb2.mono HB1a.out.size))
    have HE2 := Lib.hid (HE1a.out.below hb2)
    clear hb2 hlone
    go_wp2_with fail
    refine (quote_any s w2 (by omega)).mono ?_
    rintro e w3 ⟨rfl, hb3⟩
    have HB3 := Lib.hid (HB2.out.trans (hb3.mono HB2.out.size))
    have HE3 := Lib.hid (HE2.out.below hb3)
    clear hb3
    go_wp2_with fail
    have hlone := lone_any (str (quoteL s.data.toList)) 3 s.data.toList w3 v (by rw [str_size]; omega) HE3.out (by rw [str_data, str_size]; exact quote_back _)
    rw [strB_self] at hlone
    refine hlone.mono ?_
    rintro e w4 ⟨rfl, hb4⟩
    have HB4 := Lib.hid (HB3.out.trans (hb4.mono HB3.out.size))
    have HE4 := Lib.hid (HE3.out.below hb4)
    clear hb4 hlone
    have HWS := Lib.hid (word_scan s)
    go_wp2
    go_loopw [12, 13, 14, 46] (fun pv cv sv iv wr => LbRel lets gaps w pv cv sv iv wr) (fun _ _ _ iv _ => lets.length - (intOf iv).toNat)
    case atStart => exact ⟨0, Nat.zero_le _, rfl, rfl, rfl, rfl, HB4.out⟩
    case round =>
      obtain ⟨k, hk, rfl, rfl, rfl, rfl, hbl⟩ := hrel
      have HBl := Lib.hid hbl
      have hsz : w.heap.size ≤ wr.heap.size := hbl.size
      have hplen : (ptTo lets gaps k).length ≤ 1048576 := by
        have h1 := ptTo_len lets gaps k hk
        have h2 := sum_take lets k
        have h3 := HSUM.out
        omega
      have hpc := ptP_len (ptTo lets gaps k)
      have HOK := Lib.hid (ptTo_ok lets gaps k)
      clear hbl
      by_cases hlt : k < lets.length
      · obtain ⟨la, rfl, hab, c0⟩ := at_strA (HL.out.below HBl.out) hlt
        have hroom := ptTo_room lets gaps k hlt
        have hsum := HSUM.out
        have HNX : Hid (ptTo lets gaps (k + 1) = ptTo lets gaps k ++ (lets[k].data.toList.map Pt.le ++ (if k < gaps.length then [Pt.wi (if gaps.getD k false then 63 else 42)] else []))) := Lib.hid (by
          rw [ptTo, pcs, List.getD_eq_getElem?_getD, List.getElem?_eq_getElem hlt, Option.getD_some])
        generalize lets[k] = x at *
        have hxs : x.size ≤ 1048576 := by omega
        have hpl : (ptTo lets gaps k).length + x.size + 1 ≤ 1048576 := by omega
        clear hroom hsum
        go_wp2
        go_loopw [12, 13, 17] (fun pv cv jv wx => LbIn (ptTo lets gaps k) x w pv cv jv wx) (fun _ _ jv _ => x.size - (intOf jv).toNat)
        case atStart => exact ⟨0, Nat.zero_le _, by simp, by simp, rfl, HBl.out⟩
        case round =>
          obtain ⟨j, hj, rfl, rfl, rfl, hbx⟩ := hrel
          have HBx := Lib.hid hbx
          have hszx : w.heap.size ≤ wr.heap.size := hbx.size
          have hq2 := ptP_len (ptTo lets gaps k ++ (x.data.toList.take j).map Pt.le)
          rw [List.length_append, List.length_map, List.length_take] at hq2
          have hP := hq2.1
          have hC := hq2.2
          clear hbx hq2
          by_cases hjx : j < x.size
          · have hcu := u8_lt x[j]
            have HLT := Lib.hid (le_take hjx (ptTo lets gaps k))
            have hconv := fun (W : World) (z : Int) => conv_one (P := Tryd.prog) 40 5 5 Tryd.underlying40 Tryd.underlying5 9 Tryd.underlying9 W z
            have e42 := chr_eq x[j] 42
            have e63 := chr_eq x[j] 63
            have e92 := chr_eq x[j] 92
            have HCB := Lib.hid (chr_byte x[j])
            have HCZ : (chr (x[j].toNat : Int)).size = 1 := chr_size _
            obtain ⟨P0, hP0⟩ : ∃ P0, P0 = ptP (ptTo lets gaps k ++ (x.data.toList.take j).map Pt.le) := ⟨_, rfl⟩
            obtain ⟨C0, hC0⟩ : ∃ C0, C0 = ptC (ptTo lets gaps k ++ (x.data.toList.take j).map Pt.le) := ⟨_, rfl⟩
            have HSN := Lib.hid (ptP_snoc (ptTo lets gaps k ++ (x.data.toList.take j).map Pt.le) (Pt.le x[j]))
            rw [← HLT.out] at HSN
            rw [← hP0] at hP HSN ⊢
            rw [← hC0] at hC HSN ⊢
            have hz1 : (str P0).size ≤ 3000000 := by rw [str_size]; omega
            have hz2 : (str C0).size ≤ 3000000 := by rw [str_size]; omega
            clear hP0 hC0
            by_cases hw : x[j] = 42 ∨ x[j] = 63 ∨ x[j] = 92
            · have HW : Hid ((Pt.le x[j]).c.b = [92, x[j]]) := Lib.hid (by show (if x[j] = 42 ∨ x[j] = 63 ∨ x[j] = 92 then At.es x[j] else At.pl x[j]).b = [92, x[j]]; rw [if_pos hw]; rfl)
              rcases hw with hw | hw | hw
              · rw [decide_eq_true hw] at e42
                clear hw
                go_wp2
                go_roundw
                case measure => simp [intOf]; omega
                case rel =>
                  refine ⟨j + 1, hjx, ?_, ?_, by go_num, HBx.out.alloc hszx _⟩
                  · rw [HSN.out.1, str_cat, ba_append, HCB.out]; rfl
                  · rw [HSN.out.2, HW.out, str_cat, str_cat, HCB.out, List.append_assoc]; rfl
              · rw [decide_eq_false (by rw [hw]; decide)] at e42
                rw [decide_eq_true hw] at e63
                clear hw
                go_wp2
                go_roundw
                case measure => simp [intOf]; omega
                case rel =>
                  refine ⟨j + 1, hjx, ?_, ?_, by go_num, HBx.out.alloc hszx _⟩
                  · rw [HSN.out.1, str_cat, ba_append, HCB.out]; rfl
                  · rw [HSN.out.2, HW.out, str_cat, str_cat, HCB.out, List.append_assoc]; rfl
              · rw [decide_eq_false (by rw [hw]; decide)] at e42
                rw [decide_eq_false (by rw [hw]; decide)] at e63
                rw [decide_eq_true hw] at e92
                clear hw
                go_wp2
                go_roundw
                case measure => simp [intOf]; omega
                case rel =>
                  refine ⟨j + 1, hjx, ?_, ?_, by go_num, HBx.out.alloc hszx _⟩
                  · rw [HSN.out.1, str_cat, ba_append, HCB.out]; rfl
                  · rw [HSN.out.2, HW.out, str_cat, str_cat, HCB.out, List.append_assoc]; rfl
            · have HW : Hid ((Pt.le x[j]).c.b = [x[j]]) := Lib.hid (by show (if x[j] = 42 ∨ x[j] = 63 ∨ x[j] = 92 then At.es x[j] else At.pl x[j]).b = [x[j]]; rw [if_neg hw]; rfl)
              rw [decide_eq_false (fun h => hw (.inl h))] at e42
              rw [decide_eq_false (fun h => hw (.inr (.inl h)))] at e63
              rw [decide_eq_false (fun h => hw (.inr (.inr h)))] at e92
              clear hw
              go_wp2
              go_roundw
              case measure => simp [intOf]; omega
              case rel =>
                refine ⟨j + 1, hjx, ?_, ?_, by go_num, HBx.out.alloc hszx _⟩
                · rw [HSN.out.1, str_cat, ba_append, HCB.out]; rfl
                · rw [HSN.out.2, str_cat, HW.out, HCB.out]
          · have HALL : Hid (ptTo lets gaps k ++ (x.data.toList.take j).map Pt.le = ptTo lets gaps k ++ x.data.toList.map Pt.le) := Lib.hid (by rw [List.take_of_length_le (by rw [← ba_size]; omega)])
            have hP1 : (ptP (ptTo lets gaps k ++ (x.data.toList.take j).map Pt.le)).length ≤ 3000000 := by omega
            have hC1 : (ptC (ptTo lets gaps k ++ (x.data.toList.take j).map Pt.le)).length ≤ 3000000 := by omega
            rw [HALL.out] at hP1 hC1 ⊢
            obtain ⟨L1, hL1⟩ : ∃ L1, L1 = ptTo lets gaps k ++ x.data.toList.map Pt.le := ⟨_, rfl⟩
            have hst : (ptTo lets gaps k).any Pt.isWi = L1.any Pt.isWi := by rw [hL1, List.any_append, any_le, Bool.or_false]
            rw [← List.append_assoc, ← hL1] at HNX
            rw [← hL1] at hP1 hC1 ⊢
            rw [hst]
            clear hL1 hst HALL hP hC
            have hz1 : (str (ptP L1)).size ≤ 3000000 := by rw [str_size]; exact hP1
            have hz2 : (str (ptC L1)).size ≤ 3000000 := by rw [str_size]; exact hC1
            by_cases hkg : k < gaps.length
            · rw [if_pos hkg] at HNX
              obtain ⟨gA0, rfl, hgb, g0⟩ := at_bool (HG.out.below HBx.out) hkg
              have egd : gaps.getD k false = gaps[k] := by rw [List.getD_eq_getElem?_getD, List.getElem?_eq_getElem hkg, Option.getD_some]
              rw [egd] at HNX
              clear egd
              cases hgv : gaps[k] with
              | true =>
                rw [hgv] at g0 HNX
                have HSN := Lib.hid (ptP_snoc L1 (Pt.wi 63))
                have HANY : Hid ((L1 ++ [Pt.wi 63]).any Pt.isWi = true) := Lib.hid (by rw [List.any_append]; simp [Pt.isWi])
                clear hgv
                go_wp2
                go_roundw
                case measure => simp [intOf]; omega
                case rel =>
                  refine ⟨k + 1, hlt, ?_, ?_, ?_, by go_num, HBx.out⟩
                  · rw [HNX.out, if_pos rfl, HSN.out.1, str_cat]; rfl
                  · rw [HNX.out, if_pos rfl, HSN.out.2, str_cat]; rfl
                  · rw [HNX.out, if_pos rfl, HANY.out]
              | false =>
                rw [hgv] at g0 HNX
                have HSN := Lib.hid (ptP_snoc L1 (Pt.wi 42))
                have HANY : Hid ((L1 ++ [Pt.wi 42]).any Pt.isWi = true) := Lib.hid (by rw [List.any_append]; simp [Pt.isWi])
                clear hgv
                go_wp2
                go_roundw
                case measure => simp [intOf]; omega
                case rel =>
                  refine ⟨k + 1, hlt, ?_, ?_, ?_, by go_num, HBx.out⟩
                  · rw [HNX.out, if_neg (by decide), HSN.out.1, str_cat]; rfl
                  · rw [HNX.out, if_neg (by decide), HSN.out.2, str_cat]; rfl
                  · rw [HNX.out, if_neg (by decide), HANY.out]
            · rw [if_neg hkg, List.append_nil] at HNX
              go_wp2
              go_roundw
              case measure => simp [intOf]; omega
              case rel =>
                refine ⟨k + 1, hlt, ?_, ?_, ?_, by go_num, HBx.out⟩
                · rw [HNX.out]
                · rw [HNX.out]
                · rw [HNX.out]
      · have hzp : (str (ptP (ptTo lets gaps k))).size ≤ 2200000 := by rw [str_size]; omega
        have hzc : (str (ptC (ptTo lets gaps k))).size ≤ 2200000 := by rw [str_size]; omega
        have HEr := Lib.hid (HE.out.below HBl.out)
        cases hst : (ptTo lets gaps k).any Pt.isWi with
        | false =>
          have HN := Lib.hid (pattern_none (ptTo lets gaps k) HOK.out hst)
          have t5 : ((str []).toList == []) = true := by rw [strB_beq]; rfl
          clear hst
          go_wp2_with fail
          refine (pattern_any (str (ptP (ptTo lets gaps k))) wr (by omega) HEr.out.cls).mono ?_
          rintro e wx ⟨he, hbx⟩
          rw [str_data, HN.out.1] at he
          subst he
          have HBx := Lib.hid (HBl.out.trans (hbx.mono hsz))
          have HEx := Lib.hid (HEr.out.below hbx)
          clear hbx
          go_wp2_with fail
          refine (pattern_any (str (ptC (ptTo lets gaps k))) wx (by omega) HEx.out.cls).mono ?_
          rintro e wy ⟨he, hby⟩
          rw [str_data, HN.out.2] at he
          subst he
          have HBy := Lib.hid (HBx.out.trans (hby.mono HBx.out.size))
          clear hby
          go_wp2
          go_ret
          exact ⟨rfl, HBy.out⟩
        | true =>
          have HPB := Lib.hid (pattern_back (ptTo lets gaps k) HOK.out hst)
          have HPS := Lib.hid (pattern_same (ptTo lets gaps k) HOK.out)
          have HBAD := Lib.hid (pattern_bad (ptTo lets gaps k) HOK.out)
          have hpz := patternL_len (ptP (ptTo lets gaps k))
          rw [← str_size (ptP (ptTo lets gaps k))] at hpz
          clear hst
          obtain ⟨Z, hZ⟩ : ∃ Z, Z = patternL (ptP (ptTo lets gaps k)) := ⟨_, rfl⟩
          rw [← hZ] at hpz HPB HPS
          have HZ := Lib.hid hZ
          have tz : ((str Z).toList == (str Z).toList) = true := beq_self_eq_true _
          have tn : ((str Z).toList != (str Z).toList) = false := by unfold bne; rw [tz]; rfl
          have t5 : ((str []).toList == []) = true := by rw [strB_beq]; rfl
          have t6 : ((str []).toList != []) = false := by unfold bne; rw [t5]; rfl
          clear hZ
          go_wp2_with fail
          refine (pattern_any (str (ptP (ptTo lets gaps k))) wr (by omega) HEr.out.cls).mono ?_
          rintro e wa ⟨he, hba⟩
          rw [str_data, ← HZ.out] at he
          subst he
          have HBa := Lib.hid (HBl.out.trans (hba.mono hsz))
          have HEa := Lib.hid (HEr.out.below hba)
          clear hba
          go_wp2_with fail
          refine (pattern_any (str (ptC (ptTo lets gaps k))) wa (by omega) HEa.out.cls).mono ?_
          rintro e wb ⟨he, hbb⟩
          rw [str_data, HPS.out] at he
          subst he
          have HBb := Lib.hid (HBa.out.trans (hbb.mono HBa.out.size))
          have HEb := Lib.hid (HEa.out.below hbb)
          clear hbb
          go_wp2_with fail
          refine (pattern_any (str (ptP (ptTo lets gaps k))) wb (by omega) HEb.out.cls).mono ?_
          rintro e wc ⟨he, hbc⟩
          rw [str_data, ← HZ.out] at he
          subst he
          have HBc := Lib.hid (HBb.out.trans (hbc.mono HBb.out.size))
          have HEc := Lib.hid (HEb.out.below hbc)
          clear hbc
          go_wp2_with fail
          refine (lone_any (str Z) 2 (ptC (ptTo lets gaps k)) wc v (by rw [str_size]; omega) HEc.out (by rw [str_data, str_size]; exact HPB.out)).mono ?_
          rintro e wd ⟨rfl, hbd⟩
          have HBd := Lib.hid (HBc.out.trans (hbd.mono HBc.out.size))
          have HEd := Lib.hid (HEc.out.below hbd)
          clear hbd
          go_wp2_with fail
          have hbz : (str (ptP (ptTo lets gaps k)) ++ (⟨#[92]⟩ : ByteArray)).size ≤ 10000000 := by
            rw [ba_append_size, show ((⟨#[92]⟩ : ByteArray)).size = 1 from rfl]; omega
          have hcall := pattern_any (str (ptP (ptTo lets gaps k)) ++ (⟨#[92]⟩ : ByteArray)) wd hbz HEd.out.cls
          refine hcall.mono ?_
          rintro e we ⟨he, hbe⟩
          rw [ba_append, str_data, show ((⟨#[92]⟩ : ByteArray)).data.toList = [92] from rfl, HBAD.out] at he
          subst he
          have HBe := Lib.hid (HBd.out.trans (hbe.mono HBd.out.size))
          have HEe := Lib.hid (HEd.out.below hbe)
          clear hbe hcall hbz
          obtain ⟨lw, hlw⟩ := HWS.out
          have HLW := Lib.hid hlw
          clear hlw
          go_wp2_with fail
          refine (word_any s we HEe.out.cls (by omega)).mono ?_
          rintro e wf ⟨rfl, hbf⟩
          have HBf := Lib.hid (HBe.out.trans (hbf.mono HBe.out.size))
          have HEf := Lib.hid (HEe.out.below hbf)
          clear hbf
          go_wp2_with fail
          refine (wrapped_any (str (wordL s.data.toList)) lw a b wf v (by rw [str_size]; omega) HEf.out HRA.out HRB.out (by rw [str_data]; exact HLW.out)).mono ?_
          rintro e wg ⟨rfl, hbg⟩
          have HBg := Lib.hid (HBf.out.trans (hbg.mono HBf.out.size))
          have HEg := Lib.hid (HEf.out.below hbg)
          clear hbg
          go_wp2_with fail
          refine (pattern_any (str (ptP (ptTo lets gaps k))) wg (by omega) HEg.out.cls).mono ?_
          rintro e wh ⟨he, hbh⟩
          rw [str_data, ← HZ.out] at he
          subst he
          have HBh := Lib.hid (HBg.out.trans (hbh.mono HBg.out.size))
          have HEh := Lib.hid (HEg.out.below hbh)
          clear hbh
          go_wp2_with fail
          refine (wrapped_any (str Z) _ a b wh v (by rw [str_size]; omega) HEh.out HRA.out HRB.out (by rw [str_data]; exact HPB.out)).mono ?_
          rintro e wi ⟨rfl, hbi⟩
          have HBi := Lib.hid (HBh.out.trans (hbi.mono HBh.out.size))
          clear hbi
          go_wp2
          go_ret
          exact ⟨rfl, HBi.out⟩
theorem lexerBack_env {W : World} (h : laidMetH Tryd.prog Rows.lexerBackUptoRow.laid W) : ∃ v, LexEnv W v := lexEnv_of h
theorem lexerBack_walk (w : World) (s : ByteArray) (hs : s.size ≤ 1048576) (lv : Value) (lets : List ByteArray) (hl : RdL strS w w.heap.size lv lets) (hsum : (lets.map fun s => s.size + 1).sum ≤ 1048576)
    (gv : Value) (gaps : List Bool) (hg : RdL boolS w w.heap.size gv gaps) (a b : Int) (ha : (Lit.int .i64 a).wf = true) (hb : (Lit.int .i64 b).wf = true) (hE : ∃ v, LexEnv w v) :
    Calls Tryd.prog 8 #[.string s, lv, gv, .int .i64 a, .int .i64 b] w fun e w' => e = .returned (.bool true) ∧ Below w.heap.size w w' := by
  obtain ⟨v, hE⟩ := hE
  have ha' : IntKind.i64.min ≤ a ∧ a ≤ IntKind.i64.max := by simpa [Lit.wf] using ha
  have hb' : IntKind.i64.min ≤ b ∧ b ≤ IntKind.i64.max := by simpa [Lit.wf] using hb
  exact back_walk s lv lets gv gaps a b w v hE hs hl hg hsum ha' hb'
end Go.Proofs.YtlgcofinmpckkaaDoor
