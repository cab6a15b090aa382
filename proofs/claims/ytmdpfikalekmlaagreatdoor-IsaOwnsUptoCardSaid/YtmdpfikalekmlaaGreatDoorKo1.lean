/- Merged for a claim: Rg Rw Ir Is It Nq Ra Mb -/
import Derived.Test.YtmdpfikalekmlaaGreatDoorBy
import Derived.Test.YtmdpfikalekmlaaGreatDoorRu
import Derived.Test.YtmdpfikalekmlaaGreatDoorWr
import Derived.Test.YtmdpfikalekmlaaGreatDoorIf
import Derived.Test.YtmdpfikalekmlaaGreatDoorIg
import Derived.Test.YtmdpfikalekmlaaGreatDoorRd
import Derived.Laws.AppendOwnNone
import Derived.Test.YtmdpfikalekmlaaGreatDoorMk
import Derived.Deep.RegionLaw
import Derived.Deep.QuietTactic
import Derived.BigQuiet
section
/- Layer 1, the reference: GetUvarint. -/
namespace Go.Proofs.YtmdpfikalekmlaaGreatDoor
open Go.RowKit
set_option maxRecDepth 100000
set_option maxHeartbeats 1000000
set_option linter.unusedSimpArgs false
set_option linter.unusedVariables false

theorem at_byteG {w : World} {B : Nat} {A : Option Addr} {n cap : Nat} {l : List UInt8} (h : RdL byteS w B (.slice A n cap) l) {k : Nat} (hk : k < l.length) :
    ∃ a x, A = some a ∧ (a.add k).block < B ∧ l[k]? = some x ∧ w.cell? (a.add k) = some (.int .u8 x.toNat) := by
  obtain ⟨a, h1, h2, h3⟩ := at_byte h hk
  exact ⟨a, l[k], h1, h2, List.getElem?_eq_getElem hk, h3⟩
theorem uvScan_getG {m : List UInt8} {j : Nat} {x : UInt8} (i : Nat) (h : m[j]? = some x) : uvScan i (m.drop j) = if i = 9 ∧ 1 < x.toNat then .bad else if 128 ≤ x.toNat then uvScan (i + 1) (m.drop (j + 1)) else if x.toNat = 0 ∧ 0 < i then .bad else .ok (i + 1) := by
  obtain ⟨h1, rfl⟩ := List.getElem?_eq_some_iff.1 h
  exact uvScan_at i h1
/-- What a reading function of the reference answers. -/
def GtRet {α : Type} (k : Nat) (val : α → Value) (zero : Value) (r : Rr α) (w : World) (e : Ending) (w' : World) : Prop :=
  w = w' ∧ match r with
    | .ok v j => e = .returned (.tuple #[val v, .int .i64 (j : Int), .int .i64 0])
    | .no i => e = .returned (.tuple #[zero, .int .i64 (k : Int), .int .i64 ((i : Int) + 1)])
theorem gtRet_ok {α : Type} {k : Nat} {val : α → Value} {zero : Value} {r : Rr α} {w : World} {v : α} {j : Nat} (hr : r = .ok v j) : GtRet k val zero r w (.returned (.tuple #[val v, .int .i64 (j : Int), .int .i64 0])) w := by
  subst hr; exact ⟨rfl, rfl⟩
theorem gtRet_no {α : Type} {k : Nat} {val : α → Value} {zero : Value} {r : Rr α} {w : World} {i : Nat} (hr : r = .no i) : GtRet k val zero r w (.returned (.tuple #[zero, .int .i64 (k : Int), .int .i64 ((i : Int) + 1)])) w := by
  subst hr; exact ⟨rfl, rfl⟩
def GvRel (m : List UInt8) (k : Nat) (nv : Value) : Prop :=
  ∃ i : Nat, i ≤ 9 ∧ k + i ≤ m.length ∧ nv = .int .i64 (i : Int) ∧ uvScan 0 (m.drop k) = uvScan i (m.drop (k + i))
/-- The value, from the last byte on. -/
def GwRel (m : List UInt8) (k n : Nat) (vv iv : Value) : Prop :=
  ∃ i : Nat, i ≤ n ∧ iv = .int .i64 ((i : Int) - 1) ∧ vv = .int .u64 (uvVal (((m.drop k).take n).drop i) : Int)
theorem uvVal_back {m : List UInt8} {k n i : Nat} {x : UInt8} (hi : i < n) (h : m[k + i]? = some x) : uvVal (((m.drop k).take n).drop i) = 128 * uvVal (((m.drop k).take n).drop (i + 1)) + x.toNat % 128 := by
  obtain ⟨h1, rfl⟩ := List.getElem?_eq_some_iff.1 h
  have hl : i < ((m.drop k).take n).length := by rw [List.length_take, List.length_drop]; omega
  rw [List.drop_eq_getElem_cons hl, uvVal_cons, List.getElem_take, List.getElem_drop]
theorem uvVal_mono (l : List UInt8) (i : Nat) : uvVal (l.drop i) ≤ uvVal l := by
  induction i generalizing l with
  | zero => exact Nat.le_refl _
  | succ i ih =>
    cases l with
    | nil => exact Nat.le_refl _
    | cons a l =>
      rw [List.drop_succ_cons, uvVal_cons]
      have := ih l
      omega
theorem guvarint_any (x : Value) (m : List UInt8) (k : Nat) (w : World) (B : Nat) (hx : RdL byteS w B x m) (hk : k ≤ m.length) (hm : m.length ≤ 10000000000) :
    Calls Tryz.prog 83 #[x, .int .i64 (k : Int)] w (GtRet k (fun v : Nat => .int .u64 (v : Int)) (.int .u64 0) (uvR m k) w) := by
  obtain ⟨A, cap, rfl, h1, h2⟩ := hx.open_
  have HX := Lib.hid hx
  clear hx
  go_enter Tryz.func83, Tryz.ntmps83
  go_wp2
  go_loop [7] (fun nv => GvRel m k nv) (fun nv => 10 - (intOf nv).toNat)
  case atStart => exact ⟨0, by omega, by omega, rfl, rfl⟩
  case round =>
    obtain ⟨i, hi, hki, rfl, hs⟩ := hrel
    have HS := Lib.hid hs
    clear hs
    by_cases hlt : k + i < m.length
    · obtain ⟨a, x, rfl, hab, hg, hc⟩ := at_byteG HX.out hlt
      have HU := Lib.hid (HS.out.trans (uvScan_getG i hg))
      have HG := Lib.hid hg
      have hxl := x.toNat_lt
      clear hg
      by_cases hbad : i = 9 ∧ 1 < x.toNat
      · have HR9 : Hid (uvR m k = .no 1) := Lib.hid (uvR_bad (by rw [HU.out, if_pos hbad]))
        obtain ⟨h9, hb1⟩ := hbad
        have h9b : ((i : Int) + 1 == 10) = true := by rw [beq_iff_eq]; omega
        have hb1' : 1 < (x.toNat : Int) := by omega
        clear h9 hb1
        go_wp2
        go_ret3
        exact gtRet_no HR9.out
      · have hnb : i = 9 → (x.toNat : Int) ≤ 1 := fun h => by
          rcases Nat.lt_or_ge 1 x.toNat with h5 | h5
          · exact absurd ⟨h, h5⟩ hbad
          · omega
        have HUn := Lib.hid (HU.out.trans (if_neg hbad))
        clear hbad
        by_cases hc128 : 128 ≤ x.toNat
        · have hc' : 128 ≤ (x.toNat : Int) := by omega
          have hi8 : i ≤ 8 := by
            rcases Nat.lt_or_ge i 9 with h | h
            · omega
            · have := hnb (by omega); omega
          have h9b : ((i : Int) + 1 == 10) = false := by rw [beq_eq_false_iff_ne]; omega
          have HC := Lib.hid hc128
          clear hnb hc128
          go_wp2
          go_round
          case rel => exact ⟨i + 1, by omega, by omega, by go_num, by rw [HUn.out, if_pos HC.out]; rfl⟩
          case measure => simp [intOf]; omega
        · have hc' : (x.toNat : Int) < 128 := by omega
          have HC := Lib.hid hc128
          clear hc128
          by_cases hz : x.toNat = 0 ∧ 0 < i
          · have HR9 : Hid (uvR m k = .no 1) := Lib.hid (uvR_bad (by rw [HUn.out, if_neg HC.out, if_pos hz]))
            obtain ⟨hz0, hz1⟩ := hz
            have hz0b : ((x.toNat : Int) == 0) = true := by rw [beq_iff_eq]; omega
            have hx1 : (x.toNat : Int) ≤ 1 := by omega
            clear hz0 hnb
            by_cases h9 : i = 9
            · have h9b : ((i : Int) + 1 == 10) = true := by rw [beq_iff_eq]; omega
              clear h9
              go_wp2
              go_ret3
              exact gtRet_no HR9.out
            · have h9b : ((i : Int) + 1 == 10) = false := by rw [beq_eq_false_iff_ne]; omega
              clear h9
              go_wp2
              go_ret3
              exact gtRet_no HR9.out
          · have HOK : Hid (uvScan 0 (m.drop k) = .ok (i + 1)) := Lib.hid (by rw [HUn.out, if_neg HC.out, if_neg hz])
            have hfit := uvVal_fits _ _ HOK.out
            have HFIT := Lib.hid hfit
            have hzz : (((x.toNat : Int) == 0) = false) ∨ (((x.toNat : Int) == 0) = true ∧ (i : Int) + 1 ≤ 1) := by
              by_cases h0 : x.toNat = 0
              · exact .inr ⟨by rw [beq_iff_eq]; omega, by
                  rcases Nat.eq_zero_or_pos i with h | h
                  · omega
                  · exact absurd ⟨h0, h⟩ hz⟩
              · exact .inl (by rw [beq_eq_false_iff_ne]; omega)
            have hb10 : (((i : Int) + 1 == 10) = false) ∨ (((i : Int) + 1 == 10) = true ∧ (x.toNat : Int) ≤ 1) := by
              by_cases h9 : i = 9
              · exact .inr ⟨by rw [beq_iff_eq]; omega, hnb h9⟩
              · exact .inl (by rw [beq_eq_false_iff_ne]; omega)
            clear hz hnb hfit
            have HR9 := Lib.hid (uvR_ok HOK.out)
            have hki1 : k + i < m.length := hlt
            rcases hzz with h0 | ⟨h0, hi0⟩ <;> rcases hb10 with hb | ⟨hb, hx1⟩
            all_goals try (exfalso; have hbb := beq_iff_eq.1 hb; omega)
            all_goals
              go_wp2
              go_loop [9, 10] (fun vv jv => GwRel m k (i + 1) vv jv) (fun _ jv => (intOf jv + 1).toNat)
              case atStart => exact ⟨i + 1, Nat.le_refl _, by go_num, by rw [List.drop_eq_nil_of_le (by rw [List.length_take]; omega)]; rfl⟩
              case round =>
                obtain ⟨j, hj, rfl, rfl⟩ := hrel
                cases j with
                | zero =>
                  go_wp2
                  go_ret3
                  rw [show (k : Int) + ((i : Int) + 1) = ((k + (i + 1) : Nat) : Int) from by omega]
                  exact gtRet_ok (val := fun v : Nat => Value.int .u64 (v : Int)) HR9.out
                | succ j =>
                  obtain ⟨a2, y, e2, hab2, hg2, hc2⟩ := at_byteG HX.out (k := k + j) (by omega)
                  cases e2
                  have hb2 := uvVal_back (n := i + 1) (by omega : j < i + 1) hg2
                  have hb3 := uvVal_mono ((m.drop k).take (i + 1)) j
                  have hb4 := HFIT.out
                  have hyl := y.toNat_lt
                  have HB2 := Lib.hid hb2
                  obtain ⟨V, hV⟩ : ∃ V, V = uvVal (((m.drop k).take (i + 1)).drop (j + 1)) := ⟨_, rfl⟩
                  rw [← hV] at hb2 ⊢
                  have hv1 : 128 * V + y.toNat % 128 < 18446744073709551616 := by omega
                  have HV := Lib.hid hV
                  rw [show (((j + 1 : Nat)) : Int) - 1 = (j : Int) from by omega]
                  clear hb2 hb3 hb4 hV hg2
                  go_wp2
                  go_round
                  case rel => exact ⟨j, by omega, by go_num, by rw [HB2.out, ← HV.out]; go_num⟩
                  case measure => simp [intOf]
    · have HR9 : Hid (uvR m k = .no 0) := Lib.hid (uvR_short (by rw [HS.out, uvScan_end i (by omega)]))
      go_wp2
      go_ret3
      exact gtRet_no HR9.out
end Go.Proofs.YtmdpfikalekmlaaGreatDoor
end
section
/- Layer 1, the reference: Uvarint and Text. -/
namespace Go.Proofs.YtmdpfikalekmlaaGreatDoor
open Go.RowKit
set_option maxRecDepth 100000
set_option maxHeartbeats 1000000
set_option linter.unusedSimpArgs false
set_option linter.unusedVariables false

def RuvRel (n : Nat) (w : World) (bv xv : Value) (wr : World) : Prop :=
  ∃ (m : Nat) (pre : List UInt8), xv = .int .u64 (m : Int) ∧ m ≤ n ∧ pre ++ uvL m = uvL n ∧ OwnB wr w.heap.size bv pre ∧ Below w.heap.size w wr
theorem rfuvarint_any (n : Nat) (w : World) (hn : n < 18446744073709551616) :
    Calls Tryz.prog 24 #[.int .u64 (n : Int)] w fun e w' => ∃ v, e = .returned v ∧ OwnB w' w.heap.size v (uvL n) ∧ Below w.heap.size w w' := by
  have HL := Lib.hid (uvL_len64 hn)
  go_enter Tryz.func24, Tryz.ntmps24
  go_wp2
  go_loopw [3, 0] (fun bv xv wr => RuvRel n w bv xv wr) (fun _ xv _ => (intOf xv).toNat)
  case atStart => exact ⟨n, [], rfl, Nat.le_refl _, rfl, OwnB.lit0 w (Nat.le_refl _), (Below.refl _ _).alloc (Nat.le_refl _) _⟩
  case round =>
    obtain ⟨m, pre, rfl, hm, hp, ho, hb⟩ := hrel
    have hpl : pre.length ≤ 10 := by have := HL.out; rw [← hp] at this; simp at this ⊢; omega
    have HO := Lib.hid ho
    have HP := Lib.hid hp
    have HB := Lib.hid hb
    have hsz := hb.size
    clear ho hp hb
    by_cases hs : m < 128
    · have HS := Lib.hid hs
      have hmm : (m : Int) % 256 = m := by omega
      go_wp2_with (at_builtin; refine OwnB.appendAt HO.out _ _ rfl _ _ rfl rfl rfl ?_ ?_ ?_ hsz ?_ ?_)
      all_goals first | omega | exact (World.size_alloc ..).symm | skip
      intro v' w' h2' h3' hk'
      have H2 := Lib.hid h2'
      have H3 := Lib.hid h3'
      clear h2' h3' hk'
      go_wp2
      go_ret
      refine ⟨v', rfl, ?_, HB.out.trans H3.out⟩
      have := H2.out
      rw [← HP.out, uvL_small HS.out]
      simpa using this
    · have HS := Lib.hid hs
      have h128 : 128 ≤ m := by omega
      go_wp2_with (at_builtin; refine OwnB.appendAt HO.out _ _ rfl _ _ rfl rfl rfl ?_ ?_ ?_ hsz ?_ ?_)
      all_goals first | omega | exact (World.size_alloc ..).symm | skip
      intro v' w' h2' h3' hk'
      have H2 := Lib.hid h2'
      have H3 := Lib.hid h3'
      clear h2' h3' hk'
      go_wp2
      go_roundw
      case rel =>
        refine ⟨m / 128, pre ++ [UInt8.ofNat (m % 128 + 128)], by simp, by omega, ?_, ?_, HB.out.trans H3.out⟩
        · rw [List.append_assoc, List.singleton_append, ← uvL_big HS.out, HP.out]
        · have := H2.out
          have e : (128 + (m : Int) % 128).toNat = m % 128 + 128 := by omega
          first | (rw [e] at this; exact this) | simpa [e] using this
      case measure => simp [intOf]; omega
end Go.Proofs.YtmdpfikalekmlaaGreatDoor
end
section
/- Layer 20, the reference: its table, Args, operands. -/
namespace Go.Proofs.YtmdpfikalekmlaaGreatDoor
open Go.RowKit
set_option maxRecDepth 100000
set_option maxHeartbeats 4000000
set_option linter.unusedSimpArgs false
set_option linter.unusedVariables false

def refCells : Array Value := (opTab.flatMap fun x => [Value.string ⟨x.1.toArray⟩, Value.int .i64 x.2]).toArray
theorem refCells_get : ∀ (o : Nat), o < 17 → refCells[o * 2]? = some (.string ⟨(opName o).toArray⟩) ∧ refCells[o * 2 + 1]? = some (.int .i64 (opArgs o))
  | 0, _ => ⟨rfl, rfl⟩
  | 1, _ => ⟨rfl, rfl⟩
  | 2, _ => ⟨rfl, rfl⟩
  | 3, _ => ⟨rfl, rfl⟩
  | 4, _ => ⟨rfl, rfl⟩
  | 5, _ => ⟨rfl, rfl⟩
  | 6, _ => ⟨rfl, rfl⟩
  | 7, _ => ⟨rfl, rfl⟩
  | 8, _ => ⟨rfl, rfl⟩
  | 9, _ => ⟨rfl, rfl⟩
  | 10, _ => ⟨rfl, rfl⟩
  | 11, _ => ⟨rfl, rfl⟩
  | 12, _ => ⟨rfl, rfl⟩
  | 13, _ => ⟨rfl, rfl⟩
  | 14, _ => ⟨rfl, rfl⟩
  | 15, _ => ⟨rfl, rfl⟩
  | 16, _ => ⟨rfl, rfl⟩
  | n + 17, h => absurd h (by omega)
theorem rtable_any (w : World) : Calls Tryz.prog 82 #[] w fun e w' => e = .returned (.slice (some ⟨w.heap.size, 0, none⟩) 17 17) ∧ w' = w.alloc (.cells refCells 150) := by
  go_enter Tryz.func82, Tryz.ntmps82
  go_wp2
  go_ret
  exact ⟨rfl, rfl⟩
theorem rargs_any (op : Int) (w : World) :
    Calls Tryz.prog 56 #[.int .i64 op] w fun e w' => Below w.heap.size w w' ∧ e = .returned (match argsN op with | none => .tuple #[.int .i64 0, .bool false] | some n => .tuple #[.int .i64 (n : Int), .bool true]) := by
  have hb : Below w.heap.size w (w.alloc (.cells refCells 150)) := (Below.refl _ _).alloc (Nat.le_refl _) _
  have HB := Lib.hid hb
  clear hb
  cases h : argsN op with
  | none =>
    have h2 := argsN_none h
    clear h
    by_cases hn : op < 0
    · go_enter Tryz.func56, Tryz.ntmps56
      go_wp2_with fail
      refine (rtable_any w).mono ?_
      rintro e w1 ⟨rfl, hw1⟩
      have HB1 : Hid (Below w.heap.size w w1) := Lib.hid (by rw [hw1]; exact HB.out)
      clear hw1
      go_wp2
      go_ret2
      exact ⟨HB1.out, rfl⟩
    · have h17 : 17 ≤ op := by omega
      go_enter Tryz.func56, Tryz.ntmps56
      go_wp2_with fail
      refine (rtable_any w).mono ?_
      rintro e w1 ⟨rfl, hw1⟩
      have HB1 : Hid (Below w.heap.size w w1) := Lib.hid (by rw [hw1]; exact HB.out)
      clear hw1
      go_wp2
      go_ret2
      exact ⟨HB1.out, rfl⟩
  | some n =>
    obtain ⟨h0, h1, h2, h3⟩ := argsN_some h
    obtain ⟨o, rfl⟩ : ∃ o : Nat, op = (o : Int) := ⟨op.toNat, by omega⟩
    have HO : Hid (opArgs o = (n : Int)) := Lib.hid (by rw [← h2]; rfl)
    clear h h2
    go_enter Tryz.func56, Tryz.ntmps56
    go_wp2_with fail
    refine (rtable_any w).mono ?_
    rintro e w1 ⟨rfl, hw1⟩
    have HB1 : Hid (Below w.heap.size w w1) := Lib.hid (by rw [hw1]; exact HB.out)
    have c1 : w1.cell? ⟨w.heap.size, o * 2 + 1, none⟩ = some (.int .i64 (n : Int)) := by rw [hw1, World.cell?_alloc_new, ← HO.out]; exact (refCells_get o (by omega)).2
    clear hw1
    go_wp2
    go_ret2
    exact ⟨HB1.out, rfl⟩
theorem operands_any (x : Ins) (w : World) :
    Calls Tryz.prog 23 #[.agg #[.int .i64 x.op, .int .u64 (x.a : Int), .int .u64 (x.b : Int)]] w fun e w' => Below w.heap.size w w' ∧
      ((insOk x = false ∧ e = .returned (.tuple #[.slice none 0 0, .bool false])) ∨ (insOk x = true ∧ ∃ n g, argsN x.op = some n ∧ e = .returned (.tuple #[.slice (some ⟨g, 0, none⟩) n 2, .bool true]) ∧ w.heap.size ≤ g ∧ Blk w' g 41 #[.int .u64 (x.a : Int), .int .u64 (x.b : Int)])) := by
  obtain ⟨op, a, b⟩ := x
  have hb0 : Below w.heap.size w (w.alloc (.cells #[.int .i64 op, .int .u64 (a : Int), .int .u64 (b : Int)] 43)) := (Below.refl _ _).alloc (Nat.le_refl _) _
  have HB0 := Lib.hid hb0
  clear hb0
  go_enter Tryz.func23, Tryz.ntmps23
  go_wp2_with fail
  refine (rargs_any op _).mono ?_
  rintro e w1 ⟨hb1, he⟩
  have hfb := (Blk.new w 43 #[.int .i64 op, .int .u64 (a : Int), .int .u64 (b : Int)]).belowW hb1
  have c1 := hfb.cell 1
  have c2 := hfb.cell 2
  simp only [List.getElem?_toArray, List.getElem?_cons_zero, List.getElem?_cons_succ] at c1 c2
  have HB1 := Lib.hid (HB0.out.trans (hb1.mono (by rw [World.size_alloc]; omega)))
  have hsz := HB1.out.size
  clear hb1 hfb
  cases ha : argsN op with
  | none =>
    rw [ha] at he
    subst he
    have HI := Lib.hid (insOk_none (x := ⟨op, a, b⟩) ha)
    clear ha
    go_wp2
    go_ret2
    exact ⟨HB1.out, .inl ⟨HI.out, rfl⟩⟩
  | some n =>
    rw [ha] at he
    subst he
    have hn2 := (argsN_some ha).2.2.2
    have HI := Lib.hid (insOk_some (x := ⟨op, a, b⟩) ha)
    have HA := Lib.hid ha
    clear ha
    have hbad : (insOk ⟨op, a, b⟩ = false ∧ ((n = 0 ∧ a ≠ 0) ∨ ((n = 0 ∧ a = 0 ∨ n = 1) ∧ b ≠ 0))) ∨ (insOk ⟨op, a, b⟩ = true ∧ ((n = 0 ∧ a = 0 ∧ b = 0) ∨ (n = 1 ∧ b = 0) ∨ n = 2)) := by
      rw [HI.out]
      simp only []
      rcases Nat.lt_or_ge n 1 with h | h
      · obtain rfl : n = 0 := by omega
        by_cases h1 : a = 0 <;> by_cases h2 : b = 0 <;> simp [h1, h2]
      · rcases Nat.lt_or_ge n 2 with h' | h'
        · obtain rfl : n = 1 := by omega
          by_cases h2 : b = 0 <;> simp [h2]
        · obtain rfl : n = 2 := by omega
          simp
    rcases hbad with ⟨hi, hc⟩ | ⟨hi, hc⟩
    · have HII := Lib.hid hi
      clear hi
      rcases hc with ⟨rfl, hane⟩ | ⟨⟨rfl, rfl⟩ | rfl, hbne⟩
      · have hx : ((a : Int) == 0) = false := by rw [beq_eq_false_iff_ne]; omega
        clear hane
        go_wp2
        go_ret2
        exact ⟨HB1.out, .inl ⟨HII.out, rfl⟩⟩
      · have hx : ((b : Int) == 0) = false := by rw [beq_eq_false_iff_ne]; omega
        clear hbne
        go_wp2
        go_ret2
        exact ⟨HB1.out, .inl ⟨HII.out, rfl⟩⟩
      · have hx : ((b : Int) == 0) = false := by rw [beq_eq_false_iff_ne]; omega
        clear hbne
        go_wp2
        go_ret2
        exact ⟨HB1.out, .inl ⟨HII.out, rfl⟩⟩
    · have HII := Lib.hid hi
      clear hi
      rcases hc with ⟨rfl, rfl, rfl⟩ | ⟨rfl, rfl⟩ | rfl
      all_goals
        go_wp2
        go_ret2
        refine ⟨HB1.out.alloc hsz _, .inr ⟨HII.out, _, w1.heap.size, HA.out, rfl, hsz, Blk.new w1 _ _⟩⟩
end Go.Proofs.YtmdpfikalekmlaaGreatDoor
end
section
/- Layer 20, the reference: Encode. -/
namespace Go.Proofs.YtmdpfikalekmlaaGreatDoor
open Go.RowKit
set_option maxRecDepth 100000
set_option maxHeartbeats 4000000
set_option linter.unusedSimpArgs false
set_option linter.unusedVariables false

def partB (x : Ins) (j : Nat) : List UInt8 := (if 1 ≤ j then uvL x.a else []) ++ (if 2 ≤ j then uvL x.b else [])
def ReRel (l : List Ins) (w : World) (ov iv : Value) (wr : World) : Prop :=
  ∃ k : Nat, k ≤ l.length ∧ iv = .int .i64 (k : Int) ∧ OwnB wr w.heap.size ov (encI (l.take k)) ∧ (l.take k).all insOk = true ∧ Below w.heap.size w wr
def RjRel (pre : List UInt8) (x : Ins) (n g : Nat) (w : World) (ov jv : Value) (wx : World) : Prop :=
  ∃ j : Nat, j ≤ n ∧ jv = .int .i64 (j : Int) ∧ OwnB wx w.heap.size ov (pre ++ partB x j) ∧ Blk wx g 41 #[.int .u64 (x.a : Int), .int .u64 (x.b : Int)] ∧ Below w.heap.size w wx ∧ (∀ z, ov.ownBlock = some z → z ≠ g)
theorem own_ne {w : World} {B g : Nat} {v : Value} {l : List UInt8} {t : TypeId} {cs : Array Value} (ho : OwnB w B v l) (hB : Blk w g t cs) (ht : t ≠ 5) : ∀ z, v.ownBlock = some z → z ≠ g := by
  intro z hz e
  subst e
  obtain ⟨cur, hcur⟩ := own_block ho hz
  unfold Blk at hB
  rw [hB] at hcur
  injection hcur with hcur
  injection hcur with _ hcur
  exact ht hcur
theorem partB_0 (x : Ins) : partB x 0 = [] := by unfold partB; simp
theorem partB_1 (x : Ins) : partB x 1 = uvL x.a := by unfold partB; simp
theorem partB_2 (x : Ins) : partB x 2 = uvL x.a ++ uvL x.b := by unfold partB; simp
theorem riencode_any (lv : Value) (l : List Ins) (w : World) (B : Nat) (hB : B ≤ w.heap.size) (h : RdL insS w B lv l) (hl : l.length ≤ 2000000) (hs : SmallIns l) :
    Calls Tryz.prog 10 #[lv] w (EiRet l (.int .i64 21) (.int .i64 0) w) := by
  obtain ⟨A, cap, rfl, hc, hc2⟩ := h.open_
  unfold maxLen at hc2
  have H := Lib.hid h; have HSM := Lib.hid hs
  clear h hs
  go_enter Tryz.func10, Tryz.ntmps10
  go_wp2
  go_loopw [4, 14] (fun ov iv wr => ReRel l w ov iv wr) (fun _ iv _ => l.length - (intOf iv).toNat)
  case atStart => exact ⟨0, Nat.zero_le _, rfl, OwnB.lit0 _ (Nat.le_refl _), rfl, (Below.refl _ _).alloc (Nat.le_refl _) _⟩
  case round =>
    obtain ⟨k, hk, rfl, ho, hal, hbl⟩ := hrel
    have hel := encI_len HSM.out k
    have HB := Lib.hid hbl
    have HF := Lib.hid (H.out.belowW hB hbl)
    have HO := Lib.hid ho
    have HAL := Lib.hid hal
    have hszr : w.heap.size ≤ wr.heap.size := hbl.size
    clear hbl ho hal
    by_cases hlt : k < l.length
    · obtain ⟨a0, rfl, hab, c0, c1, c2⟩ := at_ins HF.out hlt
      have hza : (a0.add (k * 3)).block < wr.heap.size := by omega
      have HTK := Lib.hid (all_take hlt)
      have HBAD := Lib.hid (fun h => all_bad hlt h)
      have HEN : Hid (encI (l.take (k + 1)) = encI (l.take k) ++ insB l[k]) := Lib.hid (by rw [List.take_succ_eq_append_getElem hlt, encI_snoc])
      obtain ⟨hsa, hsb⟩ := HSM.out l[k] (List.getElem_mem hlt)
      obtain ⟨L, hL⟩ : ∃ L, L = encI (l.take k) := ⟨_, rfl⟩
      rw [← hL] at hel HO HEN
      clear hL
      generalize l[k] = x at *
      have hb3 : Below wr.heap.size wr (wr.alloc (.cells #[.int .i64 x.op, .int .u64 (x.a : Int), .int .u64 (x.b : Int)] 43)) := (Below.refl _ _).alloc (Nat.le_refl _) _
      have HB3 := Lib.hid (HB.out.trans (hb3.mono hszr))
      have HO3 := Lib.hid (HO.out.below hb3)
      clear hb3
      go_wp2_with fail
      refine (operands_any x _).mono ?_
      rintro e w4 ⟨hb4, ⟨hok, rfl⟩ | ⟨hok, n, g, ha, rfl, hg, hgb⟩⟩
      · have HBD := Lib.hid (HBAD.out hok)
        have HB4 := Lib.hid (HB3.out.trans (hb4.mono HB3.out.size))
        clear hok hb4
        go_wp2
        go_ret2
        exact eiRet_bad HBD.out (OwnB.nil _ _) HB4.out
      · obtain ⟨h0, h17, -, hn2⟩ := argsN_some ha
        have HOK := Lib.hid hok
        have HIB := Lib.hid (insB_some (x := x) ha)
        have HB4 := Lib.hid (HB3.out.trans (hb4.mono HB3.out.size))
        have HO4 := Lib.hid (HO3.out.below hb4)
        have hfb := (Blk.new wr 43 #[.int .i64 x.op, .int .u64 (x.a : Int), .int .u64 (x.b : Int)]).belowW hb4
        have d0 := hfb.cell 0
        simp only [List.getElem?_toArray, List.getElem?_cons_zero, List.getElem?_cons_succ] at d0
        have HGB := Lib.hid hgb
        have hs4 : w.heap.size ≤ w4.heap.size := HB4.out.size
        have HNE : Hid (∀ (v : Value) (m : List UInt8), OwnB (wr.alloc (.cells #[.int .i64 x.op, .int .u64 (x.a : Int), .int .u64 (x.b : Int)] 43)) w.heap.size v m → v.ownBlock ≠ some g) := Lib.hid (fun v m hv => hv.ne_new hg)
        have HNG := Lib.hid (HNE.out _ _ HO3.out)
        have hlt0 := x.op
        clear ha hok hb4 hfb hgb hlt0
        obtain ⟨c, hc⟩ : ∃ c : UInt8, x.op = (c.toNat : Int) := ⟨UInt8.ofNat x.op.toNat, by rw [UInt8.toNat_ofNat']; omega⟩
        have HCC : Hid (UInt8.ofNat x.op.toNat = c) := Lib.hid (by rw [hc]; simp)
        rw [hc] at d0
        clear hc h0 h17
        have hcl := c.toNat_lt
        go_wp2_with (at_builtin; refine OwnB.appendAt HO4.out (c.toNat : Int) w4.heap.size rfl _ _ rfl rfl rfl rfl (by omega) (by omega) hs4 (by omega) ?_)
        intro v5 w5 ho5 hb5 hk5
        have hgl := HGB.out.lt
        have HGB5 := Lib.hid ((hk5 g hgl HNG.out).trans HGB.out)
        have HB5 := Lib.hid (HB4.out.trans hb5)
        have HO5 := Lib.hid ho5
        have hne5 := own_ne HO5.out HGB5.out (by decide)
        have HN5 := Lib.hid hne5
        clear hb5 ho5 hk5 hne5
        go_wp2
        go_loopw [4, 33] (fun ov jv wx => RjRel (L ++ [c]) x n g w ov jv wx) (fun _ jv _ => n - (intOf jv).toNat)
        case atStart => exact ⟨0, Nat.zero_le _, rfl, by have h := HO5.out; simpa [partB] using h, HGB5.out, HB5.out, HN5.out⟩
        case round =>
          obtain ⟨j, hj, rfl, hox, hgx, hbx, hnx⟩ := hrel
          have HOx := Lib.hid hox
          have HGx := Lib.hid hgx
          have HBx := Lib.hid hbx
          have HNx := Lib.hid hnx
          have hszx : w.heap.size ≤ wr.heap.size := hbx.size
          have p0 := hgx.cell 0
          have p1 := hgx.cell 1
          simp only [List.getElem?_toArray, List.getElem?_cons_zero, List.getElem?_cons_succ] at p0 p1
          clear hox hgx hbx hnx
          by_cases hjn : j < n
          · have hj01 : (j = 0) ∨ (j = 1 ∧ n = 2) := by omega
            rcases hj01 with hj0 | ⟨hj1, hnn⟩
            · subst hj0
              go_wp2_with fail
              refine (rfuvarint_any x.a wr hsa).mono ?_
              rintro e w6 ⟨v6, rfl, ho6, hb6⟩
              have HO6 := Lib.hid ho6
              have HOy := Lib.hid (HOx.out.below hb6)
              have HGy := Lib.hid (HGx.out.belowW hb6)
              have HBy := Lib.hid (HBx.out.trans (hb6.mono hszx))
              have hsy : w.heap.size ≤ w6.heap.size := HBy.out.size
              have hu1 := uvL_len64 hsa
              have hu2 := uvL_len64 hsb
              have hpl : (L ++ [c] ++ partB x 0).length ≤ 100000000 := by rw [partB_0]; simp only [List.length_append, List.length_singleton, List.length_nil]; omega
              have hgl := HGy.out.lt
              clear ho6 hb6
              go_wp2_with (at_builtin; refine OwnB.appendAllK HOy.out HO6.out rfl _ _ rfl rfl rfl hsy (by omega) ?_)
              intro v7 w7 ho7 hb7 hk7
              have HG7 := Lib.hid ((hk7 g hgl (fun e => HNx.out g e rfl)).trans HGy.out)
              have HO7 := Lib.hid ho7
              have HB7 := Lib.hid (HBy.out.trans hb7)
              have HN7 := Lib.hid (own_ne ho7 HG7.out (by decide))
              clear ho7 hb7 hk7
              go_wp2
              go_roundw
              case rel => exact ⟨1, by omega, by go_num, by have h := HO7.out; rw [partB_0] at h; rw [partB_1]; simpa [List.append_assoc] using h, HG7.out, HB7.out, HN7.out⟩
              case measure => simp [intOf]; omega
            · subst hj1
              clear hnn
              go_wp2_with fail
              refine (rfuvarint_any x.b wr hsb).mono ?_
              rintro e w6 ⟨v6, rfl, ho6, hb6⟩
              have HO6 := Lib.hid ho6
              have HOy := Lib.hid (HOx.out.below hb6)
              have HGy := Lib.hid (HGx.out.belowW hb6)
              have HBy := Lib.hid (HBx.out.trans (hb6.mono hszx))
              have hsy : w.heap.size ≤ w6.heap.size := HBy.out.size
              have hu1 := uvL_len64 hsa
              have hu2 := uvL_len64 hsb
              have hpl : (L ++ [c] ++ partB x 1).length ≤ 100000000 := by rw [partB_1]; simp only [List.length_append, List.length_singleton, List.length_nil]; omega
              have hgl := HGy.out.lt
              clear ho6 hb6
              go_wp2_with (at_builtin; refine OwnB.appendAllK HOy.out HO6.out rfl _ _ rfl rfl rfl hsy (by omega) ?_)
              intro v7 w7 ho7 hb7 hk7
              have HG7 := Lib.hid ((hk7 g hgl (fun e => HNx.out g e rfl)).trans HGy.out)
              have HO7 := Lib.hid ho7
              have HB7 := Lib.hid (HBy.out.trans hb7)
              have HN7 := Lib.hid (own_ne ho7 HG7.out (by decide))
              clear ho7 hb7 hk7
              go_wp2
              go_roundw
              case rel => exact ⟨2, by omega, by go_num, by have h := HO7.out; rw [partB_1] at h; rw [partB_2]; simpa [List.append_assoc] using h, HG7.out, HB7.out, HN7.out⟩
              case measure => simp [intOf]; omega
          · have HEQ : Hid (encI (l.take (k + 1)) = L ++ [c] ++ partB x j) := Lib.hid (by
              have : j = n := by omega
              subst this
              rw [HEN.out, HIB.out, HCC.out, List.append_assoc]; rfl)
            go_wp2
            go_roundw
            case rel => exact ⟨k + 1, by omega, by go_num, by rw [HEQ.out]; exact HOx.out, by rw [HTK.out, HAL.out, HOK.out]; rfl, HBx.out⟩
            case measure => simp [intOf]; omega
    · have HTL : Hid (l.take k = l) := Lib.hid (List.take_of_length_le (by omega))
      go_wp2
      go_ret2
      exact eiRet_ok (by rw [← HTL.out]; exact HAL.out) (by rw [HTL.out]) HO.out HB.out
end Go.Proofs.YtmdpfikalekmlaaGreatDoor
end
section
/- Layer 20, the reference: Decode. -/
namespace Go.Proofs.YtmdpfikalekmlaaGreatDoor
open Go.RowKit
set_option maxRecDepth 100000
set_option maxHeartbeats 4000000
set_option linter.unusedSimpArgs false
set_option linter.unusedVariables false

def RdiRel (m : List UInt8) (w : World) (gh : Nat) (ov av : Value) (wr : World) : Prop :=
  ∃ (k f : Nat) (acc : List Ins) (A : Option Addr) (cap : Nat), m.length - k ≤ gh ∧ k ≤ m.length ∧ ov = .slice A acc.length cap ∧ av = .int .i64 (k : Int) ∧ acc.length ≤ k ∧ m.length - k < f ∧ decI m = decIF m f k acc ∧ OwnL insS wr w.heap.size (.slice A acc.length cap) acc ∧ Below w.heap.size w wr
def RdjRel (m : List UInt8) (k n : Nat) (x : UInt8) (bx : Nat) (w : World) (ov : Value) (acc : List Ins) (av iv : Value) (wx : World) : Prop :=
  ∃ i a b j : Nat, i ≤ n ∧ i ≤ 2 ∧ iv = .int .i64 (i : Int) ∧ av = .int .i64 (j : Int) ∧ OpSt m k n i a b j ∧ a < 18446744073709551616 ∧ b < 18446744073709551616 ∧
    Blk wx bx 43 #[.int .i64 (x.toNat : Int), .int .u64 (a : Int), .int .u64 (b : Int)] ∧ OwnL insS wx w.heap.size ov acc ∧ Below w.heap.size w wx
theorem ridecode_any (x : Value) (m : List UInt8) (w : World) (hx : RdL byteS w w.heap.size x m) (hm : m.length ≤ 100000000) :
    Calls Tryz.prog 62 #[x] w (DiRet (.int .i64 21) (.int .i64 0) m w) := by
  obtain ⟨A0, cap0, rfl, h1, h2⟩ := hx.open_
  have HX := Lib.hid hx
  clear hx
  go_enter Tryz.func62, Tryz.ntmps62
  go_wp2
  go_loopg [4, 5] (m.length) (fun gh ov av wr => RdiRel m w gh ov av wr)
  case atStart => exact ⟨0, m.length + 1, [], some ⟨w.heap.size, 0, none⟩, 0, by omega, Nat.zero_le _, rfl, rfl, Nat.le_refl _, by omega, rfl, OwnL.lit0 _ _ (Nat.le_refl _), (Below.refl _ _).alloc (Nat.le_refl _) _⟩
  case round =>
    obtain ⟨k, f, acc, A, cap, hgh, hkm, rfl, rfl, hak, hf, hdi, ho, hbl⟩ := hrel
    have HDI := Lib.hid hdi
    have HO := Lib.hid ho
    have HB := Lib.hid hbl
    have HXr := Lib.hid (HX.out.below hbl)
    have HGH := Lib.hid hgh
    have hsz : w.heap.size ≤ wr.heap.size := hbl.size
    clear hdi ho hbl hgh
    obtain ⟨wo, rfl⟩ : ∃ wo : World, wo = wr := ⟨_, rfl⟩
    by_cases hlt : k < m.length
    · obtain ⟨f', rfl⟩ : ∃ f', f = f' + 1 := ⟨f - 1, by omega⟩
      obtain ⟨pa, x, rfl, hpb, hx, hpc⟩ := at_byteG HXr.out hlt
      have HXK := Lib.hid hx
      have hxl := x.toNat_lt
      have hwop : (pa.add k).block < wo.heap.size := by omega
      clear hx
      have hb4 : Below wo.heap.size wo (wo.alloc (.cells #[.int .i64 (x.toNat : Int), .int .u64 0, .int .u64 0] 43)) := (Below.refl _ _).alloc (Nat.le_refl _) _
      have HB4 := Lib.hid (HB.out.trans (hb4.mono hsz))
      have HO4 := Lib.hid (HO.out.below hb4)
      clear hb4
      cases ha : argsN (x.toNat : Int) with
      | none =>
        have HBD := Lib.hid (HDI.out.trans (decIF_bad hlt (insR_op HXK.out ha)))
        go_wp2_with fail
        refine (rargs_any (x.toNat : Int) _).mono ?_
        rintro e w4 ⟨hb5, he⟩
        rw [ha] at he
        subst he
        have HB5 := Lib.hid (HB4.out.trans (hb5.mono HB4.out.size))
        clear ha hb5
        go_wp2
        go_ret2
        exact diRet_no HBD.out HB5.out
      | some n =>
        obtain ⟨h0, h17, -, hn2⟩ := argsN_some ha
        go_wp2_with fail
        refine (rargs_any (x.toNat : Int) _).mono ?_
        rintro e w4 ⟨hb5, he⟩
        rw [ha] at he
        subst he
        have HB5 := Lib.hid (HB4.out.trans (hb5.mono HB4.out.size))
        have HBX := Lib.hid ((Blk.new wo 43 #[.int .i64 (x.toNat : Int), .int .u64 0, .int .u64 0]).belowW hb5)
        have HO5 := Lib.hid (HO4.out.below hb5)
        have HNE := Lib.hid (HO.out.ne_new (Nat.le_refl wo.heap.size))
        have HA := Lib.hid ha
        clear ha hb5
        go_wp2
        go_loopw [5, 9] (fun av iv wx => RdjRel m k n x wo.heap.size w (.slice A acc.length cap) acc av iv wx) (fun _ iv _ => 2 - (intOf iv).toNat)
        case atStart => exact ⟨0, 0, 0, k + 1, by omega, by omega, rfl, by go_num, .inl ⟨rfl, rfl, rfl, rfl⟩, by omega, by omega, HBX.out, HO5.out, HB5.out⟩
        case round =>
          obtain ⟨i, a, b, j, hin, hi2, rfl, rfl, hop, ha64, hb64, hbx, ho, hbl⟩ := hrel
          have HBX := Lib.hid hbx
          have HOx := Lib.hid ho
          have HBL := Lib.hid hbl
          have HXx := Lib.hid (HX.out.below hbl)
          have hszx : w.heap.size ≤ wr.heap.size := hbl.size
          have c0 := hbx.cell 0
          have c1 := hbx.cell 1
          have c2 := hbx.cell 2
          have z1 := hbx.frozen 1
          have z2 := hbx.frozen 2
          simp only [List.getElem?_toArray, List.getElem?_cons_zero, List.getElem?_cons_succ] at c0 c1 c2
          clear hbx ho hbl
          have HOP := Lib.hid hop
          obtain ⟨hkj, hjm⟩ := HOP.out.le hlt
          by_cases hi : i < n
          · go_wp2_with fail
            refine (guvarint_any (.slice (some pa) m.length cap0) m j _ w.heap.size HXx.out hjm (by omega)).mono ?_
            rintro e w6 ⟨rfl, hm6⟩
            cases hu : uvR m j with
            | no z =>
              rw [hu] at hm6
              have hm7 : e = .returned (.tuple #[.int .u64 0, .int .i64 (j : Int), .int .i64 ((z : Int) + 1)]) := hm6
              subst hm7
              have HBD := Lib.hid (HDI.out.trans (decIF_bad hlt (HOP.out.bad HXK.out HA.out hn2 hi hu)))
              have hz24 := uvR_no hu
              have hzb : ((z : Int) + 1 == 0) = false := by rw [beq_eq_false_iff_ne]; omega
              clear hm6 hu
              go_wp2
              go_ret2
              exact diRet_no HBD.out HBL.out
            | ok v j2 =>
              rw [hu] at hm6
              have hm7 : e = .returned (.tuple #[.int .u64 (v : Int), .int .i64 (j2 : Int), .int .i64 0]) := hm6
              subst hm7
              obtain ⟨hj2, hj3, hv⟩ := uvR_le hjm hu
              have HU := Lib.hid hu
              clear hm6 hu
              rcases hop with ⟨hi0, rfl, rfl, hj⟩ | ⟨hi1, hn1, rfl, hu1⟩ | ⟨rfl, rfl, j1, hu1, hu2⟩
              · subst hi0
                have HJ := Lib.hid hj
                clear hj
                go_wp2
                go_roundw
                case measure => simp [intOf]
                case rel =>
                  refine ⟨1, v, 0, j2, by omega, by omega, by go_num, rfl, .inr (.inl ⟨rfl, by omega, rfl, by rw [← HJ.out]; exact HU.out⟩), by omega, by omega, by simpa using HBX.out.set_ 1 (.int .u64 (v : Int)), HOx.out.farNe (fun z hz e => HNE.out (by rw [hz, e])) _, HBL.out.setCell (by show w.heap.size ≤ wo.heap.size; omega) _⟩
              · subst hi1
                have HU1 := Lib.hid hu1
                clear hu1
                go_wp2
                go_roundw
                case measure => simp [intOf]
                case rel =>
                  refine ⟨2, a, v, j2, by omega, by omega, by go_num, rfl, .inr (.inr ⟨rfl, by omega, j, HU1.out, HU.out⟩), by omega, by omega, by simpa using HBX.out.set_ 2 (.int .u64 (v : Int)), HOx.out.farNe (fun z hz e => HNE.out (by rw [hz, e])) _, HBL.out.setCell (by show w.heap.size ≤ wo.heap.size; omega) _⟩
              · omega
          · have HINS := Lib.hid (HOP.out.done HXK.out HA.out hn2 (.inr (by omega)) hin)
            have HNX := Lib.hid (HDI.out.trans (decIF_next hlt HINS.out))
            have hal1 : acc.length + 1 ≤ 970000000000 := by omega
            clear hop
            go_wp2_with (at_builtin; refine OwnL.append insSOk HOx.out ⟨(x.toNat : Int), a, b⟩ rfl _ _ rfl rfl rfl _ rfl hszx hal1 ?_; intro v5 w5 ho5 hb5; obtain ⟨A5, cap5, rfl, hq5, hq6, -⟩ := ho5.open_; have HO5 := Lib.hid ho5; have HB5 := Lib.hid hb5; clear ho5 hb5)
            go_roundg (m.length - j)
            case measure => have := HGH.out; omega
            case rel =>
              have hll : (acc ++ [(⟨(x.toNat : Int), a, b⟩ : Ins)]).length = acc.length + 1 := by simp
              exact ⟨j, f', acc ++ [⟨(x.toNat : Int), a, b⟩], A5, cap5, Nat.le_refl _, hjm, by rw [hll], rfl, by rw [hll]; omega, by omega, HNX.out, HO5.out, HBL.out.trans HB5.out⟩
    · have HEND : Hid (decI m = some acc) := Lib.hid (by
        obtain ⟨f', rfl⟩ : ∃ f', f = f' + 1 := ⟨f - 1, by omega⟩
        rw [HDI.out, decIF_end (by omega)])
      go_wp2
      go_ret2
      exact diRet_ok HEND.out HB.out HO.out
end Go.Proofs.YtmdpfikalekmlaaGreatDoor
end
section
/- Layer 20: the document's Name. -/
namespace Go.Proofs.YtmdpfikalekmlaaGreatDoor
open Go.RowKit
set_option maxRecDepth 100000
set_option maxHeartbeats 1000000
set_option linter.unusedSimpArgs false
set_option linter.unusedVariables false

theorem rname_any (op : Int) (w : World) :
    Calls Tryz.prog 85 #[.int .i64 op] w fun e w' => Below w.heap.size w w' ∧ e = .returned (match argsN op with | none => .tuple #[.string ⟨#[]⟩, .bool false] | some n => .tuple #[.string (str (opName op.toNat)), .bool true]) := by
  have hb : Below w.heap.size w (w.alloc (.cells refCells 150)) := (Below.refl _ _).alloc (Nat.le_refl _) _
  have HB := Lib.hid hb
  clear hb
  cases h : argsN op with
  | none =>
    have h2 := argsN_none h
    clear h
    by_cases hn : op < 0
    · go_enter Tryz.func85, Tryz.ntmps85
      go_wp2_with fail
      refine (rtable_any w).mono ?_
      rintro e w1 ⟨rfl, hw1⟩
      have HB1 : Hid (Below w.heap.size w w1) := Lib.hid (by rw [hw1]; exact HB.out)
      clear hw1
      go_wp2
      go_ret2
      exact ⟨HB1.out, rfl⟩
    · have h17 : 17 ≤ op := by omega
      go_enter Tryz.func85, Tryz.ntmps85
      go_wp2_with fail
      refine (rtable_any w).mono ?_
      rintro e w1 ⟨rfl, hw1⟩
      have HB1 : Hid (Below w.heap.size w w1) := Lib.hid (by rw [hw1]; exact HB.out)
      clear hw1
      go_wp2
      go_ret2
      exact ⟨HB1.out, rfl⟩
  | some n =>
    obtain ⟨h0, h1, h2, h3⟩ := argsN_some h
    obtain ⟨o, rfl⟩ : ∃ o : Nat, op = (o : Int) := ⟨op.toNat, by omega⟩
    have HN := Lib.hid (show refCells[o * 2]? = some (.string (str (opName o))) from (refCells_get o (by omega)).1)
    rw [show ((o : Int)).toNat = o from rfl]
    generalize str (opName o) = sn at *
    clear h h2
    go_enter Tryz.func85, Tryz.ntmps85
    go_wp2_with fail
    refine (rtable_any w).mono ?_
    rintro e w1 ⟨rfl, hw1⟩
    have HB1 : Hid (Below w.heap.size w w1) := Lib.hid (by rw [hw1]; exact HB.out)
    have c1 : w1.cell? ⟨w.heap.size, o * 2, none⟩ = some (.string sn) := by rw [hw1, World.cell?_alloc_new]; exact HN.out
    clear hw1
    go_wp2
    go_ret2
    exact ⟨HB1.out, rfl⟩
theorem str_ne_beq {a b : ByteArray} (h : a ≠ b) : (a.toList == b.toList) = false := by
  rw [beq_eq_false_iff_ne]
  intro e
  rw [ByteArray.toList_eq, ByteArray.toList_eq] at e
  apply h
  obtain ⟨⟨a⟩⟩ := a
  obtain ⟨⟨b⟩⟩ := b
  simpa using e
end Go.Proofs.YtmdpfikalekmlaaGreatDoor
end
section
/- Appending what came in. -/
namespace Go.Proofs.YtmdpfikalekmlaaGreatDoor
open Go.RowKit Go.ChangeShapes Go.WideShapes Go.Deep
set_option maxRecDepth 100000

/-- 'append(l, x...)', x of whatever place. -/
theorem OwnL.appendRd {α : Type} {S : Shape α} (hS : S.Ok) {w : World} {B C : Nat} {v x : Value} {l m : List α} (h : OwnL S w B v l) (hx : RdL S w C x m) {ops : Array Oper} {rest : List Oper} {o : Oper} {a : Act} {Q : Exit → Act → World → Prop} (hgd : o.guard = none) (s y : Operand)
    (ho : o.op = .call { callee := .builtin .append, args := #[s, y], argTypes := #[S.tS, S.tS] }) (hs : a.eval s = v) (hy : a.eval y = x) (hB : B ≤ w.heap.size) (hl : l.length + m.length ≤ 970000000000)
    (k : ∀ v' w', OwnL S w' B v' (l ++ m) → Below B w w' → wpList Tryz.prog ops Q rest (a.put o.dst v') w') :
    wpList Tryz.prog ops Q (o :: rest) a w := by
  obtain ⟨i0, hi, hz0, hz1, hz2⟩ := info_parts hS.info
  have hlt := h.lt
  obtain ⟨A, cap, rfl, h1, h2, h3, h4⟩ := hx
  cases A with
  | none =>
    have e : m = [] := by
      rcases Nat.eq_zero_or_pos m.length with h0 | h0
      · exact List.eq_nil_of_length_eq_zero h0
      · obtain ⟨_, e, _⟩ := h3 h0; cases e
    subst e
    rw [h4 rfl] at hy
    refine wpList_append_own_none hgd s y S.tS ho B S.tE i0 S.size hS.under hi v l.length (S.cells l) hs h hy ?_
    exact k v w (by rw [List.append_nil]; exact h) (Below.refl _ _)
  | some ad =>
    have hc : ∀ j u, (S.cells m)[j]? = some u → w.cell? (ad.add j) = some u := by
      intro j u hu
      rcases Nat.eq_zero_or_pos m.length with h0 | h0
      · rw [List.eq_nil_of_length_eq_zero h0] at hu; simp [Shape.cells] at hu
      · obtain ⟨a', e, _, hc⟩ := h3 h0
        cases e
        exact hc j u hu
    refine wpList_append_own _ hgd s y S.tS ho B S.tE i0 S.zero S.size S.bytes hS.under hi hz0 hz1 hz2 hS.zs hS.pos v l.length (S.cells l) hs h ad m.length cap (S.cells m) hy (Shape.cells_length hS m) hc ?_ ?_ ?_ hB ?_
    · intro u hu
      obtain ⟨x, _, hx⟩ := List.mem_flatMap.1 hu
      exact hS.one x u hx
    · unfold maxLen; omega
    · have := hS.small
      have h1 : (l.length + m.length) * S.bytes ≤ 970000000000 * 145 := Nat.mul_le_mul hl this
      omega
    · intro v' w' h2 h3 _
      refine k v' w' ?_ ?_
      · unfold OwnL
        rw [Shape.cells_append, List.length_append]
        exact h2
      · exact (Below.refl _ _).grown h3 hB (fun g hg => (hlt g hg).1)
end Go.Proofs.YtmdpfikalekmlaaGreatDoor
end
section
/- concordmem.Own: lists each alone in its row are each other's strangers. -/
namespace Go.Proofs.YtmdpfikalekmlaaGreatDoor
open Go.RowKit
set_option maxRecDepth 100000
set_option maxHeartbeats 4000000
set_option linter.unusedSimpArgs false
set_option linter.unusedVariables false

namespace MoB
def mark8 (i j : Int) : Int := IntKind.u8.wrap (markF i j)
/-- The marks of list i, as bytes. -/
def marks8 (i : Nat) (n : Nat) : List Int := (List.range n).map fun (j : Nat) => mark8 (i : Int) (j : Int)
theorem marks8_len (i n : Nat) : (marks8 i n).length = n := by simp [marks8]
theorem marks8_get (i n j : Nat) (h : j < n) : (marks8 i n)[j]? = some (mark8 (i : Int) (j : Int)) := by simp [marks8, h]
theorem marks8_succ (i n : Nat) : marks8 i (n + 1) = marks8 i n ++ [mark8 (i : Int) (n : Int)] := by simp [marks8, List.range_succ]
def moS : Shape Int := { tS := 26, tE := 5, size := 1, bytes := 1, enc := fun x => [.int .u8 x], zero := .int .u8 0 }
theorem moS_ok : moS.Ok := ⟨by kernel_rfl, by kernel_rfl, rfl, by decide, fun _ => rfl, fun x u hu => by simp [moS] at hu; subst hu; rfl, by decide⟩
def goS : Shape SlV := { tS := 48, tE := 26, size := 1, bytes := 24, enc := fun s => [s.val], zero := .slice none 0 0 }
theorem goS_ok : goS.Ok := ⟨by kernel_rfl, by kernel_rfl, rfl, by decide, fun _ => rfl, fun x u hu => by simp [goS] at hu; subst hu; rfl, by decide⟩
theorem mo_enc : ∀ y : Int, ∃ v, moS.enc y = [v] := fun y => ⟨_, rfl⟩
/-- Slice k of the list of slices, as the walk loads it. -/
theorem at_go {w : World} {B n cap : Nat} {A : Option Addr} {s : List SlV} (h : OwnL goS w B (.slice A n cap) s) {k : Nat} (hk : k < s.length) :
    ∃ g, A = some ⟨g, 0, none⟩ ∧ w.cell? ⟨g, k, none⟩ = some (.slice s[k].a s[k].n s[k].c) ∧ w.frozen? ⟨g, k, none⟩ = false := by
  obtain ⟨g, rfl, hc⟩ := h.at_ goS_ok hk
  refine ⟨g, rfl, ?_, ?_⟩
  · have := hc 0 (s[k].val) (by decide) rfl
    simpa [goS, SlV.val] using this
  · have h2 := h
    obtain ⟨A', cap', e, _⟩ := h2.form
    injection e with _ e2 _
    subst e2
    exact World.ownsRow.frozenAt h k
/-- Element j of a list of ints. -/
theorem at_mo {w : World} {B n cap : Nat} {A : Option Addr} {l : List Int} (h : OwnL moS w B (.slice A n cap) l) {k : Nat} (hk : k < l.length) :
    ∃ g, A = some ⟨g, 0, none⟩ ∧ w.cell? ⟨g, k, none⟩ = some (.int .u8 l[k]) ∧ w.frozen? ⟨g, k, none⟩ = false := by
  obtain ⟨g, rfl, hc⟩ := h.at_ moS_ok hk
  refine ⟨g, rfl, ?_, ?_⟩
  · have := hc 0 (.int .u8 l[k]) (by decide) rfl
    simpa [moS] using this
  · have h2 := h
    obtain ⟨A', cap', e, _⟩ := h2.form
    injection e with _ e2 _
    subst e2
    exact World.ownsRow.frozenAt h k
/-- While the lists are marked: k of them, and j places of list k. -/
def Mk1 (w0 : World) (B : Nat) (v : Value) (s : List SlV) (C : Nat → List Int) (k j : Nat) (w : World) : Prop :=
  ∃ C', (∀ q, (C' q).length = (C q).length) ∧ (∀ q, q < k → C' q = marks8 q (C q).length) ∧ (C' k).take j = marks8 k j ∧ Many moS w B s C' ∧ OwnL goS w B v s ∧ Below B w0 w ∧ KTy moS.tE w0 w
section
variable {w0 w : World} {B k j : Nat} {v : Value} {s : List SlV} {C : Nat → List Int}
theorem Mk1.outer (h : Mk1 w0 B v s C k j w) : OwnL goS w B v s := h.elim fun _ h => h.2.2.2.2.1
theorem Mk1.bel (h : Mk1 w0 B v s C k j w) : Below B w0 w := h.elim fun _ h => h.2.2.2.2.2.1
theorem Mk1.len (h : Mk1 w0 B v s C k j w) {t : SlV} (ht : s[k]? = some t) : t.n = (C k).length := by
  obtain ⟨C', h1, _, _, h4, _⟩ := h
  rw [h4.len ht, h1]
theorem Mk1.cell (h : Mk1 w0 B v s C k j w) {A : Option Addr} {n c : Nat} (ht : s[k]? = some ⟨A, n, c⟩) (hj : j < (C k).length) : ∃ b x, A = some ⟨b, 0, none⟩ ∧ w.cell? ⟨b, j, none⟩ = some x ∧ w.frozen? ⟨b, j, none⟩ = false := by
  obtain ⟨C', h1, _, _, h4, _⟩ := h
  obtain ⟨b, e, hc, hf⟩ := at_mo (h4.own k _ ht) (k := j) (by rw [h1]; exact hj)
  exact ⟨b, _, e, hc, hf⟩
theorem Mk1.put (h : Mk1 w0 B v s C k j w) (hB : B ≤ w0.heap.size) {b n c : Nat} (ht : s[k]? = some ⟨some ⟨b, 0, none⟩, n, c⟩) (hj : j < (C k).length) : Mk1 w0 B v s C k (j + 1) (w.setCell ⟨b, j, none⟩ (.int .u8 (mark8 (k : Int) (j : Int)))) := by
  have hn := h.len ht
  obtain ⟨C', h1, h2, h3, h4, h5, h6⟩ := h
  simp only [] at hn
  have ho := h4.own k _ ht
  have hl := h4.len ht
  simp only [] at hl
  subst hl
  have hst := World.ownsRow.stored (show w.ownsRow B moS.tE moS.size (.slice (some ⟨b, 0, none⟩) (C' k).length c) (C' k).length (moS.cells (C' k)) from ho) j (.int .u8 (mark8 (k : Int) (j : Int)))
  refine ⟨updC C' k ((C' k).set j (mark8 (k : Int) (j : Int))), fun q => ?_, fun q hq => ?_, ?_, h4.put rfl ht j _ _ rfl mo_enc (by rw [h1]; exact hj), ?_, ?_⟩
  · by_cases hqk : q = k
    · subst hqk; rw [updC_same, List.length_set, h1]
    · rw [updC_ne hqk, h1]
  · rw [updC_ne (by omega)]; exact h2 q hq
  · rw [updC_same, marks8_succ, ← h3]
    have hj2 : j < (C' k).length := by rw [h1]; exact hj
    rw [List.take_succ_eq_append_getElem (by rw [List.length_set]; exact hj2), List.getElem_set_self, List.take_set_of_le (Nat.le_refl _)]
  · exact h5.keptL ho (by decide) (fun z hz hne => hst.2.block z hz (fun e => hne e.symm))
  · exact ⟨h6.1.grown hst.2 (Nat.le_trans hB h6.1.size) (fun g hg => by injection hg with hg; subst hg; exact (ho.lt b rfl).1), h6.2.kept h6.1.size ho rfl (fun z hz hne => hst.2.block z hz (fun e => hne e.symm))⟩
theorem Mk1.next (h : Mk1 w0 B v s C k j w) (hj : j = (C k).length) : Mk1 w0 B v s C (k + 1) 0 w := by
  obtain ⟨C', h1, h2, h3, h4⟩ := h
  refine ⟨C', h1, fun q hq => ?_, by simp [marks8], h4⟩
  by_cases hqk : q = k
  · subst hqk
    rw [← hj, ← h3, List.take_of_length_le (by rw [h1, hj]; exact Nat.le_refl _)]
  · exact h2 q (by omega)
end
theorem goS_enc : ∀ y : SlV, ∃ v, goS.enc y = [v] := fun y => ⟨_, rfl⟩
/-- While the lists are grown. -/
structure M2 (w0 : World) (B : Nat) (v gv : Value) (s gl : List SlV) (O D : Nat → List Int) (w : World) : Prop where
  outer : OwnL goS w B gv gl
  grown : Grown moS w B s gl O D
  lists : OwnL goS w B v s
  far : ∀ b, v.ownBlock = some b → gv.ownBlock ≠ some b
  farS : ∀ (q : Nat) (t : SlV), s[q]? = some t → ∀ b, t.val.ownBlock = some b → gv.ownBlock ≠ some b
  bel : Below B w0 w
  hB : B ≤ w0.heap.size
  kt : KTy moS.tE w0 w
  hgv : ∀ b, gv.ownBlock = some b → w0.heap.size ≤ b
section
variable {w0 w w' : World} {B i : Nat} {v gv : Value} {s gl : List SlV} {O D : Nat → List Int}
theorem M2.below (h : M2 w0 B v gv s gl O D w) (hb : Below w.heap.size w w') : M2 w0 B v gv s gl O D w' :=
  ⟨h.outer.below hb, h.grown.below hb, h.lists.below hb, h.far, h.farS, h.bel.trans (hb.mono (Nat.le_trans h.hB h.bel.size)), h.hB, h.kt.below h.bel.size hb, h.hgv⟩
theorem M2.alloc (h : M2 w0 B v gv s gl O D w) (o : Obj) : M2 w0 B v gv s gl O D (w.alloc o) := h.below ((Below.refl _ _).alloc (Nat.le_refl _) _)
theorem M2.drew (h : M2 w0 B v gv s gl O D w) : M2 w0 B v gv s gl O D w.drew := h.below (Below.refl _ _).drew
theorem M2.drewN (h : M2 w0 B v gv s gl O D w) (n : Nat) : M2 w0 B v gv s gl O D (w.drewN n) := h.below ⟨rfl, rfl, rfl, Nat.le_refl _, fun _ _ => rfl⟩
theorem M2.hBw (h : M2 w0 B v gv s gl O D w) : B ≤ w.heap.size := Nat.le_trans h.hB h.bel.size
theorem M2.own {u : SlV} (h : M2 w0 B v gv s gl O D w) (hu : gl[i]? = some u) : OwnL moS w B u.val (D i) := h.grown.many.own i u hu
theorem M2.ownS {ua : Option Addr} {un uc : Nat} (h : M2 w0 B v gv s gl O D w) (hu : gl[i]? = some ⟨ua, un, uc⟩) : OwnL moS w B (.slice ua un uc) (D i) := h.own hu
/-- Behind an append to list i, its slice not yet stored. -/
theorem M2.app {u : SlV} (h : M2 w0 B v gv s gl O D w) (hu : gl[i]? = some u) {g c n : Nat} {x : Int} (h2 : OwnL moS w' B (.slice (some ⟨g, 0, none⟩) n c) (D i ++ [x])) (h3 : Below B w w') (h3k : KeptBut w w' u.val)
    (h4 : u.val.ownBlock = some g ∨ g = w.heap.size) (h6 : CellsTo w w' u.val ((D i).length * moS.size)) :
    OwnL goS w' B gv gl ∧ OwnL goS w' B v s ∧ Grown moS w' B s (gl.set i ⟨some ⟨g, 0, none⟩, n, c⟩) O (updC D i (D i ++ [x])) ∧ KTy moS.tE w0 w' := by
  refine ⟨h.outer.keptL (h.own hu) (by decide) h3k, h.lists.keptL (h.own hu) (by decide) h3k, ?_, h.kt.kept h.bel.size (h.own hu) rfl h3k⟩
  refine h.grown.step rfl hu ⟨some ⟨g, 0, none⟩, n, c⟩ x h2 h3k ?_ h3.size h6
  rcases h4 with h4 | h4
  · exact Or.inl h4
  · exact Or.inr (by rw [← h4]; rfl)
/-- And stored. -/
theorem M2.stored {gg gc : Nat} {w6 : World} {t : SlV} {D' : Nat → List Int} (hg : Grown moS w6 B s (gl.set i t) O D') (ho : OwnL goS w6 B (.slice (some ⟨gg, 0, none⟩) s.length gc) gl) (hl : OwnL goS w6 B v s) (hi : i < gl.length) (hlen : gl.length = s.length)
    (hf : ∀ b, v.ownBlock = some b → (Value.slice (some ⟨gg, 0, none⟩) s.length gc).ownBlock ≠ some b) (hfS : ∀ (q : Nat) (t : SlV), s[q]? = some t → ∀ b, t.val.ownBlock = some b → (Value.slice (some ⟨gg, 0, none⟩) s.length gc).ownBlock ≠ some b) (hb : Below B w0 w6) (hB : B ≤ w0.heap.size) (hkt : KTy moS.tE w0 w6) (hgv : ∀ b, (Value.slice (some ⟨gg, 0, none⟩) s.length gc).ownBlock = some b → w0.heap.size ≤ b) :
    M2 w0 B v (.slice (some ⟨gg, 0, none⟩) s.length gc) s (gl.set i t) O D' (w6.setCell ⟨gg, i, none⟩ (.slice t.a t.n t.c)) := by
  have ho2 : Many goS w6 B [⟨some ⟨gg, 0, none⟩, s.length, gc⟩] (fun _ => gl) := ⟨fun q u hu => by
    rcases q with _ | q
    · simp at hu; subst hu; exact ho
    · simp at hu, fun p q a b hp hq hpq => by
    rcases p with _ | p <;> rcases q with _ | q <;> simp at hp hq hpq⟩
  have hp := ho2.put (q := 0) rfl (b := gg) (n := s.length) (c := gc) rfl i t (.slice t.a t.n t.c) rfl goS_enc hi
  have ho' : w6.ownsRow B goS.tE goS.size (.slice (some ⟨gg, 0, none⟩) gl.length gc) gl.length (goS.cells gl) := by rw [hlen]; have h := ho; unfold OwnL at h; rw [hlen] at h; exact h
  have hst := World.ownsRow.stored ho' i (.slice t.a t.n t.c)
  have hk : KeptBut w6 (w6.setCell ⟨gg, i, none⟩ (.slice t.a t.n t.c)) (.slice (some ⟨gg, 0, none⟩) s.length gc) := fun k hk hne => hst.2.block k hk (fun e => hne e.symm)
  refine ⟨?_, hg.keptL ho (by decide) hk (by rw [set_size]; exact Nat.le_refl _) hfS, hl.keptNe hk hf, hf, hfS, hb.grown hst.2 (Nat.le_trans hB hb.size) (fun k e => by injection e with e; subst e; exact (ho.lt gg rfl).1), hB, hkt.new hb.size hgv hk, hgv⟩
  · have := hp.own 0 _ rfl
    rw [updC_same] at this
    exact this
/-- Ahead of all growing: the lists marked, the slice of slices copied to a row of its own. -/
theorem M2.start {B2 : Nat} (hB : B ≤ w0.heap.size) (hm : Many moS w B s O) (hl : OwnL goS w B v s) (hb : Below B w0 w) (hkt : KTy moS.tE w0 w) (ho : OwnL goS w' B2 gv s) (h2 : w.heap.size ≤ B2) (hb2 : Below w.heap.size w w') : M2 w0 B v gv s s O O w' := by
  have hgv : ∀ b, b < w.heap.size → gv.ownBlock ≠ some b := fun b hb e => by have := (ho.lt b e).1; omega
  have hBw := Nat.le_trans hB hb.size
  exact ⟨ho.more (Nat.le_trans hBw h2), Grown.start mo_enc rfl (hm.below hb2), hl.below hb2, fun b hv => hgv b (hl.lt b hv).2, fun q t ht b hv => hgv b ((hm.own q t ht).lt b hv).2, hb.trans (hb2.mono hBw), hB, hkt.below hb.size hb2, fun b hv => Nat.le_trans hb.size (Nat.le_trans h2 (ho.lt b hv).1)⟩
theorem M2.at_ {G : Option Addr} {n c : Nat} (h : M2 w0 B v (.slice G n c) s gl O D w) (hi : i < gl.length) : ∃ gg u, G = some ⟨gg, 0, none⟩ ∧ gl[i]? = some u ∧ u.n = (D i).length ∧ w.cell? ⟨gg, i, none⟩ = some (.slice u.a u.n u.c) ∧ gg < w.heap.size := by
  obtain ⟨gg, e, hc, _⟩ := at_go h.outer hi
  refine ⟨gg, gl[i], e, List.getElem?_eq_getElem hi, h.grown.many.len (List.getElem?_eq_getElem hi), hc, ?_⟩
  have ho := h.outer
  rw [e] at ho
  exact (ho.lt gg rfl).2
end
/-- The marks8 that stand when k rounds are done, and i lists of the next. -/
def Dk (C : Nat → List Int) (k i : Nat) : Nat → List Int := fun q => marks8 q ((C q).length + k + if q < i then 1 else 0)
theorem Dk_step (C : Nat → List Int) (k i : Nat) : updC (Dk C k i) i (Dk C k i i ++ [mark8 (i : Int) (((C i).length + k : Nat) : Int)]) = Dk C k (i + 1) := by
  funext q
  by_cases hq : q = i
  · subst hq
    rw [updC_same]
    unfold Dk
    rw [if_neg (by omega), if_pos (by omega), Nat.add_zero, ← marks8_succ]
  · rw [updC_ne hq]
    unfold Dk
    by_cases h : q < i
    · rw [if_pos h, if_pos (by omega)]
    · rw [if_neg h, if_neg (by omega)]
theorem Dk_next {C : Nat → List Int} {k n : Nat} (q : Nat) (h : q < n) : Dk C k n q = Dk C (k + 1) 0 q := by
  unfold Dk
  rw [if_pos h, if_neg (by omega)]
  rfl
theorem Dk_zero (C : Nat → List Int) : (fun q => marks8 q (C q).length) = Dk C 0 0 := by
  funext q
  unfold Dk
  rw [if_neg (by omega)]
  rfl
theorem Dk_len (C : Nat → List Int) (k i : Nat) : (Dk C k i i).length = (C i).length + k := by
  unfold Dk
  rw [marks8_len, if_neg (by omega)]
  rfl
theorem Dk_len2 (C : Nat → List Int) (k i : Nat) : (Dk C k 0 i).length = (C i).length + k := by
  unfold Dk
  rw [marks8_len, if_neg (by omega)]
  rfl
theorem Grown.congr {α : Type} {S : Shape α} {w : World} {B : Nat} {s g : List SlV} {O D D' : Nat → List α} (h : Grown S w B s g O D) (hd : ∀ q, q < s.length → D q = D' q) (hp : ∀ q, (O q).length ≤ (D' q).length) : Grown S w B s g O D' := by
  refine ⟨⟨fun q t ht => ?_, h.many.apart⟩, h.len, h.old, h.lt, h.apart, hp⟩
  have hq : q < g.length := by
    rcases Nat.lt_or_ge q g.length with h | h
    · exact h
    · rw [List.getElem?_eq_none h] at ht; cases ht
  rw [← hd q (by rw [← h.len]; exact hq)]
  exact h.many.own q t ht
theorem M2.next {w0 w : World} {B k : Nat} {v gv : Value} {s gl : List SlV} {C : Nat → List Int} (h : M2 w0 B v gv s gl (Dk C 0 0) (Dk C k s.length) w) : M2 w0 B v gv s gl (Dk C 0 0) (Dk C (k + 1) 0) w :=
  ⟨h.outer, Grown.congr h.grown (fun q hq => Dk_next q hq) (fun q => by unfold Dk; rw [marks8_len, marks8_len]; omega), h.lists, h.far, h.farS, h.bel, h.hB, h.kt, h.hgv⟩
theorem mocell {w : World} {nb : Nat} {x : Int} (h : w.cell? ⟨nb, 0, none⟩ = some (.int .u8 x)) : ∀ j u, (moS.enc x)[j]? = some u → w.cell? ⟨nb, j, none⟩ = some u := by
  intro j u hj
  match j, hj with
  | 0, hj => simp [moS] at hj; subst hj; exact h
theorem at_go2 {w : World} {B n cap g : Nat} {s : List SlV} (h : OwnL goS w B (.slice (some ⟨g, 0, none⟩) n cap) s) {k : Nat} (hk : k < s.length) :
    w.cell? ⟨g, k, none⟩ = some (.slice s[k].a s[k].n s[k].c) ∧ w.frozen? ⟨g, k, none⟩ = false := by
  obtain ⟨g', e, h1, h2⟩ := at_go h hk
  injection e with e
  injection e with e _ _
  subst e
  exact ⟨h1, h2⟩
theorem at_go3 {w : World} {B n cap g : Nat} {s : List SlV} (h : OwnL goS w B (.slice (some ⟨g, 0, none⟩) n cap) s) {k : Nat} {ta : Option Addr} {tn tc : Nat} (ht : s[k]? = some ⟨ta, tn, tc⟩) :
    w.cell? ⟨g, k, none⟩ = some (.slice ta tn tc) ∧ g < w.heap.size := by
  have hk : k < s.length := by
    rcases Nat.lt_or_ge k s.length with h | h
    · exact h
    · rw [List.getElem?_eq_none h] at ht; cases ht
  have e : s[k] = ⟨ta, tn, tc⟩ := by rw [List.getElem?_eq_getElem hk] at ht; injection ht
  have := (at_go2 h hk).1
  rw [e] at this
  exact ⟨this, (h.lt g rfl).2⟩
theorem M2.tn {w0 w : World} {B i : Nat} {v gv : Value} {s gl : List SlV} {C D : Nat → List Int} (h : M2 w0 B v gv s gl (Dk C 0 0) D w) {ta : Option Addr} {tn tc : Nat} (ht : s[i]? = some ⟨ta, tn, tc⟩) : tn = (C i).length := by
  have := (h.grown.old i _ ht).1
  simp only [] at this
  rw [this]
  unfold Dk
  rw [marks8_len, if_neg (by omega)]
  rfl
theorem M2.gcell {w0 w : World} {B i j k : Nat} {v gv : Value} {s gl : List SlV} {C O : Nat → List Int} (h : M2 w0 B v gv s gl O (Dk C k 0) w) {ua : Option Addr} {un uc : Nat} (hu : gl[i]? = some ⟨ua, un, uc⟩) (hj : j < un) :
    ∃ b, ua = some ⟨b, 0, none⟩ ∧ w.cell? ⟨b, j, none⟩ = some (.int .u8 (mark8 (i : Int) (j : Int))) ∧ b < w.heap.size := by
  have hl := h.grown.many.len hu
  simp only [] at hl
  have hj2 : j < (Dk C k 0 i).length := by rw [← hl]; exact hj
  obtain ⟨b, rfl, hc, _⟩ := at_mo (h.ownS hu) hj2
  refine ⟨b, rfl, ?_, ((h.ownS hu).lt b rfl).2⟩
  rw [hc]
  have : (Dk C k 0 i)[j]? = some (mark8 (i : Int) (j : Int)) := marks8_get i _ j (by unfold Dk at hj2; rw [marks8_len] at hj2; exact hj2)
  rw [List.getElem?_eq_getElem hj2] at this
  injection this with this
  rw [this]
theorem M2.lcell {w0 w : World} {B i j : Nat} {v gv : Value} {s gl : List SlV} {C D : Nat → List Int} (h : M2 w0 B v gv s gl (Dk C 0 0) D w) {ta : Option Addr} {tn tc : Nat} (ht : s[i]? = some ⟨ta, tn, tc⟩) (hj : j < tn) :
    ∃ b, ta = some ⟨b, 0, none⟩ ∧ w.cell? ⟨b, j, none⟩ = some (.int .u8 (mark8 (i : Int) (j : Int))) ∧ b < w.heap.size := by
  have hn := h.tn ht
  obtain ⟨b, x, h1, h2, h3, h4⟩ := (h.grown.old i _ ht).2 j (mark8 (i : Int) (j : Int)) (marks8_get i _ j (by omega))
  have e : x = .int .u8 (mark8 (i : Int) (j : Int)) := by
    have : [Value.int .u8 (mark8 (i : Int) (j : Int))] = [x] := h3
    injection this with this _
    exact this.symm
  exact ⟨b, h1, by rw [h4, e], h2⟩
theorem own_any {w : World} {B : Nat} {v : Value} {s : List SlV} {C : Nat → List Int} (hV : OwnL goS w B v s) (hM : Many moS w B s C) (hC : ∀ q, (C q).length ≤ 960000000000) (hB : B ≤ w.heap.size) (hs : s.length ≤ 960000000000) :
    Calls Tryz.prog 13 #[v] w fun e w' => e = .returned (.bool true) ∧ Below B w w' ∧ KTy moS.tE w w' := by
  obtain ⟨A, cap, rfl, hcap, hcap2⟩ := hV.form
  unfold maxLen at hcap2
  have HV := Lib.hid hV; have HM := Lib.hid hM; have HC := Lib.hid hC; have HB := Lib.hid hB
  have HMK := Lib.hid (fun i j W => Mark_any i j W)
  have hm8 : ∀ i j : Int, IntKind.u8.wrap (markF i j) = mark8 i j := fun _ _ => rfl
  clear hV hM hC hB
  go_enter Tryz.func13, Tryz.ntmps13
  go_wp2
  go_loopw [15] (fun iv wr => ∃ k : Nat, k ≤ s.length ∧ iv = .int .i64 (k : Int) ∧ Mk1 w B (.slice A s.length cap) s C k 0 wr) (fun iv _ => s.length - (intOf iv).toNat)
  case atStart => exact ⟨0, by omega, rfl, C, fun _ => rfl, fun q hq => by omega, by simp [marks8], HM.out, HV.out, Below.refl _ _, KTy.refl _ _⟩
  case round =>
    obtain ⟨k, hk, rfl, hmk⟩ := hrel
    by_cases hlt : k < s.length
    · have HK := Lib.hid hmk
      obtain ⟨g, rfl, z0, f0⟩ := at_go hmk.outer hlt
      have ht : s[k]? = some s[k] := List.getElem?_eq_getElem hlt
      have HL := Lib.hid (hmk.len ht)
      have HT := Lib.hid ht
      have hcl := HC.out k
      rw [← HL.out] at hcl
      clear hmk ht
      generalize s[k] = t at *
      obtain ⟨ta, tn, tc⟩ := t
      simp only [] at hcl z0
      go_wp2
      go_loopw [22] (fun iv wx => ∃ j : Nat, j ≤ tn ∧ iv = .int .i64 (j : Int) ∧ Mk1 w B (.slice (some ⟨g, 0, none⟩) s.length cap) s C k j wx) (fun iv _ => tn - (intOf iv).toNat)
      case atStart => exact ⟨0, by omega, rfl, HK.out⟩
      case round =>
        obtain ⟨j, hj, rfl, hmj⟩ := hrel
        clear z0 f0
        by_cases hjt : j < tn
        · have HJ := Lib.hid hmj
          have hjc : j < (C k).length := by have := HL.out; omega
          obtain ⟨b, x, rfl, z1, f1⟩ := hmj.cell HT.out hjc
          have HP := Lib.hid (hmj.put HB.out HT.out hjc)
          clear hmj
          go_wp2_with (refine (HMK.out _ _ _).mono ?_; rintro e w5 ⟨rfl, rfl⟩)
          go_roundw
          case rel => exact ⟨j + 1, by omega, by go_num, HP.out⟩
          case measure => simp [intOf]; omega
        · have HP := Lib.hid (hmj.next (by have := HL.out; omega))
          clear hmj
          go_wp2
          go_roundw
          case rel => exact ⟨k + 1, by omega, by go_num, HP.out⟩
          case measure => simp [intOf]; omega
    · have hks : k = s.length := by omega
      subst hks
      have HR := Lib.hid hmk
      obtain ⟨C', h1, h2, -, h4, h5, h6⟩ := hmk
      have HMM := Lib.hid (show Many moS wr B s (fun q => marks8 q (C q).length) from ⟨fun q t ht => by
        have hq : q < s.length := by
          rcases Nat.lt_or_ge q s.length with h | h
          · exact h
          · rw [List.getElem?_eq_none h] at ht; cases ht
        rw [← h2 q hq]
        exact h4.own q t ht, h4.apart⟩)
      have HL5 := Lib.hid h5; have HB6 := Lib.hid h6.1; have HKT := Lib.hid h6.2
      clear h1 h2 h4 h5 h6 C'
      have HL0 := Lib.hid (show OwnL goS (wr.alloc (.cells #[] 26)) wr.heap.size (.slice (some ⟨wr.heap.size, 0, none⟩) 0 0) [] from OwnL.lit0 goS wr (Nat.le_refl _))
      have HR0 := Lib.hid (RdL.of_own (HL5.out.alloc (.cells #[] 26)))
      have hz3 : wr.heap.size ≤ (wr.alloc (.cells #[] 26)).heap.size := by rw [World.size_alloc]; omega
      have hap1 : ([] : List SlV).length + s.length ≤ 970000000000 := by simp; omega
      go_wp2_with (refine OwnL.appendRd goS_ok HL0.out HR0.out rfl _ _ rfl rfl rfl hz3 hap1 ?_; intro v4 w4 ho4 hb4; rw [List.nil_append] at ho4; obtain ⟨A4, c4, rfl, hc4, hc5⟩ := ho4.form; unfold maxLen at hc5; have HB4 := Lib.hid (((Below.refl wr.heap.size wr).alloc (Nat.le_refl _) (.cells #[] 26)).trans hb4); have HO4 := Lib.hid ho4; clear ho4 hb4)
      rw [Dk_zero] at HMM
      have HST := Lib.hid (M2.start HB.out HMM.out HL5.out HB6.out HKT.out HO4.out (Nat.le_refl _) HB4.out)
      clear HR HMM HL5 HB6 HKT HL0 HR0 hz3 hap1 HO4 HB4 HM HV hk hlt
      obtain ⟨wa, rfl⟩ : ∃ wa, wa = wr := ⟨_, rfl⟩
      go_loopw [7] (fun iv wx => ∃ k : Nat, k ≤ 80 ∧ iv = .int .i64 (k : Int) ∧ ∃ gl, M2 w B (.slice A s.length cap) (.slice A4 s.length c4) s gl (Dk C 0 0) (Dk C k 0) wx) (fun iv _ => 80 - (intOf iv).toNat)
      case atStart => exact ⟨0, by omega, rfl, s, HST.out⟩
      case round =>
        clear HST
        obtain ⟨k, hk, rfl, gl, hM⟩ := hrel
        by_cases hk80 : k < 80
        · have HMJ := Lib.hid hM
          clear hM
          have hkd : decide ((k : Int) < 80) = true := decide_eq_true (by omega)
          go_wp2
          obtain ⟨wb, rfl⟩ : ∃ wb, wb = wr := ⟨_, rfl⟩
          go_loopw [43] (fun iv wx => ∃ i : Nat, i ≤ s.length ∧ iv = .int .i64 (i : Int) ∧ ∃ gl, M2 w B (.slice A s.length cap) (.slice A4 s.length c4) s gl (Dk C 0 0) (Dk C k i) wx) (fun iv _ => s.length - (intOf iv).toNat)
          case atStart => exact ⟨0, by omega, rfl, gl, HMJ.out⟩
          case round =>
            clear HMJ
            clear gl
            obtain ⟨i, hi, rfl, gl, hM⟩ := hrel
            by_cases hlt : i < s.length
            · have HMI := Lib.hid hM
              have HGL := Lib.hid hM.grown.len
              have hig : i < gl.length := by rw [HGL.out]; exact hlt
              obtain ⟨gg, u, rfl, hu, hun, z0, hgb⟩ := hM.at_ hig
              obtain ⟨ua, un, uc⟩ := u
              have HU := Lib.hid hu
              have HUN := Lib.hid (show un = (C i).length + k from hun.trans (Dk_len C k i))
              have HLE := Lib.hid (show (Dk C k i i).length + 1 ≤ 970000000000 from by rw [Dk_len]; have := HC.out i; omega)
              have hul : un ≤ 970000000000 := by have := HC.out i; have := HUN.out; omega
              have HIG := Lib.hid hig
              simp only [] at z0
              clear hM hu hun hig
              go_wp2
              go_region_law (first
                | ((with_reducible refine OwnL.stepAppendTo moS_ok (B := B) (v := .slice ua un uc) (l := Dk C k i i) (M2.ownS (w0 := w) (B := B) (v := .slice A s.length cap) (gv := .slice (some ⟨gg, 0, none⟩) s.length c4) (s := s) (gl := gl) (O := Dk C 0 0) (D := Dk C k i) (by (repeat (first | exact HMI.out | with_reducible refine M2.drew ?_ | with_reducible refine M2.alloc ?_ _)); done) HU.out) (mark8 (i : Int) (un : Int)) _ rfl _ _ rfl rfl rfl (by refine mocell ?_; simp [World.cell?_alloc_new]) (M2.hBw (w0 := w) (B := B) (v := .slice A s.length cap) (gv := .slice (some ⟨gg, 0, none⟩) s.length c4) (s := s) (gl := gl) (O := Dk C 0 0) (D := Dk C k i) (by (repeat (first | exact HMI.out | with_reducible refine M2.drew ?_ | with_reducible refine M2.alloc ?_ _)); done)) HLE.out (fun g6 c6 w6 h2 h3 h3k h4 h5 h6 => ?_)); (have hM6 := M2.app (w0 := w) (B := B) (v := .slice A s.length cap) (gv := .slice (some ⟨gg, 0, none⟩) s.length c4) (s := s) (gl := gl) (O := Dk C 0 0) (D := Dk C k i) (by (repeat (first | exact HMI.out | with_reducible refine M2.drew ?_ | with_reducible refine M2.alloc ?_ _)); done) HU.out h2 h3 h3k h4 h6); (have hB6 := (M2.bel (w0 := w) (B := B) (v := .slice A s.length cap) (gv := .slice (some ⟨gg, 0, none⟩) s.length c4) (s := s) (gl := gl) (O := Dk C 0 0) (D := Dk C k i) (by (repeat (first | exact HMI.out | with_reducible refine M2.drew ?_ | with_reducible refine M2.alloc ?_ _)); done)).trans h3); (obtain ⟨m6, m7⟩ := at_go2 hM6.1 HIG.out); clear h2 h3 h3k h4 h6)
                | (go_simp; go_at_call 30; refine (HMK.out _ _ _).mono ?_; rintro e w5 ⟨rfl, rfl⟩))
              all_goals
                have HS6 := Lib.hid (M2.stored hM6.2.2.1 hM6.1 hM6.2.1 HIG.out HGL.out (HMI.out.far) (HMI.out.farS) hB6 HB.out hM6.2.2.2 (HMI.out.hgv))
                have hdk := Dk_step C k i
                rw [← HUN.out] at hdk
                have HDK := Lib.hid hdk
                simp only [] at HS6
                rw [HDK.out] at HS6
                clear hM6 hB6 m6 m7 hdk
                go_wp2
                go_roundw
                case rel => exact ⟨i + 1, by omega, by go_num, _, HS6.out⟩
                case measure => simp [intOf]; omega
            · have hie : i = s.length := by omega
              subst hie
              have HMI := Lib.hid hM.next
              clear hM
              go_wp2
              go_roundw
              case rel => exact ⟨k + 1, by omega, by go_num, gl, HMI.out⟩
              case measure => simp [intOf]; omega
        · have hke : k = 80 := by omega
          have HKE := Lib.hid hke
          have HMI := Lib.hid hM
          have hkd : decide ((k : Int) < 80) = false := decide_eq_false (by omega)
          clear hM hke hk80 hk
          go_wp2
          obtain ⟨wb, rfl⟩ : ∃ wb, wb = wr := ⟨_, rfl⟩
          go_loopw [67] (fun iv wx => ∃ i : Nat, i ≤ s.length ∧ iv = .int .i64 (i : Int) ∧ M2 w B (.slice A s.length cap) (.slice A4 s.length c4) s gl (Dk C 0 0) (Dk C k 0) wx) (fun iv _ => s.length - (intOf iv).toNat)
          case atStart => exact ⟨0, by omega, rfl, HMI.out⟩
          case round =>
            clear HMI
            obtain ⟨i, hi, rfl, hM⟩ := hrel
            by_cases hlt : i < s.length
            · have HMI := Lib.hid hM
              have hig : i < gl.length := by rw [hM.grown.len]; exact hlt
              obtain ⟨gg, u, rfl, hu, hun, z0, hgb⟩ := hM.at_ hig
              obtain ⟨ua, un, uc⟩ := u
              obtain ⟨ga, rfl, z1, -⟩ := at_go hM.lists hlt
              have ht : s[i]? = some s[i] := List.getElem?_eq_getElem hlt
              generalize s[i] = t at *
              obtain ⟨ta, tn, tc⟩ := t
              have HU := Lib.hid hu
              have HT := Lib.hid ht
              have HUN := Lib.hid (show un = (C i).length + k from hun.trans (Dk_len2 C k i))
              have HTN := Lib.hid (hM.tn ht)
              have hul : un ≤ 970000000000 := by have := HC.out i; have := HUN.out; have := HKE.out; omega
              simp only [] at z0 z1
              clear hM hu ht hun hig
              go_wp2
              obtain ⟨wd, rfl⟩ : ∃ wd, wd = wr := ⟨_, rfl⟩
              go_loopw [74] (fun iv wx => ∃ j : Nat, j ≤ un ∧ iv = .int .i64 (j : Int) ∧ M2 w B (.slice (some ⟨ga, 0, none⟩) s.length cap) (.slice (some ⟨gg, 0, none⟩) s.length c4) s gl (Dk C 0 0) (Dk C k 0) wx) (fun iv _ => un - (intOf iv).toNat)
              case atStart => exact ⟨0, by omega, rfl, HMI.out⟩
              case round =>
                clear HMI z0 z1 hgb
                obtain ⟨j, hj, rfl, hM⟩ := hrel
                by_cases hju : j < un
                · obtain ⟨b, rfl, y0, hb0⟩ := hM.gcell HU.out hju
                  obtain ⟨z1, hz1⟩ := at_go3 hM.lists HT.out
                  by_cases hjt : j < tn
                  · obtain ⟨b2, rfl, y1, hb1⟩ := hM.lcell HT.out hjt
                    have HMJ := Lib.hid hM
                    clear hM
                    go_wp2
                    go_region_law (go_simp; go_at_call 30; refine (HMK.out _ _ _).mono ?_; rintro e w5 ⟨rfl, rfl⟩)
                    all_goals
                      go_wp2
                      simp only [Act.put, List.getElem_toArray, List.getElem_cons_zero, List.getElem_cons_succ, List.setIfInBounds_toArray, List.set_cons_zero, List.set_cons_succ]
                      go_quiet (fail)
                      go_wp2
                      go_roundw
                      case rel => exact ⟨j + 1, by omega, by go_num, HMJ.out.drewN _⟩
                      case measure => simp [intOf]; omega
                  · have HMJ := Lib.hid hM
                    have hjd : decide (j < tn) = false := decide_eq_false hjt
                    clear hM hjt
                    go_wp2
                    go_region_law (go_simp; go_at_call 30; refine (HMK.out _ _ _).mono ?_; rintro e w5 ⟨rfl, rfl⟩)
                    all_goals
                      go_wp2
                      simp only [Act.put, List.getElem_toArray, List.getElem_cons_zero, List.getElem_cons_succ, List.setIfInBounds_toArray, List.set_cons_zero, List.set_cons_succ]
                      go_quiet (fail)
                      go_wp2
                      go_roundw
                      case rel => exact ⟨j + 1, by omega, by go_num, HMJ.out.drewN _⟩
                      case measure => simp [intOf]; omega
                · have HMJ := Lib.hid hM
                  clear hM
                  go_wp2
                  go_roundw
                  case rel => exact ⟨i + 1, by omega, by go_num, HMJ.out⟩
                  case measure => simp [intOf]; omega
            · have HMI := Lib.hid hM
              clear hM
              go_wp2
              go_ret
              exact ⟨rfl, HMI.out.bel, HMI.out.kt⟩
/-- A list of bytes, as numbers. -/
theorem own_iff {w : World} {B : Nat} {v : Value} {l : List UInt8} : OwnB w B v l ↔ OwnL moS w B v (l.map fun b => (b.toNat : Int)) := by
  unfold OwnB OwnL
  rw [List.length_map, show moS.cells (l.map fun b => (b.toNat : Int)) = byteVals l from by unfold Shape.cells byteVals moS; induction l with | nil => rfl | cons x l ih => simp only [List.map_cons, List.flatMap_cons, List.singleton_append]; rw [ih]]
  exact Iff.rfl
end MoB
end Go.Proofs.YtmdpfikalekmlaaGreatDoor
end
