/- Patterns, plainly, and the walks of the reference's Canon and Pattern. -/
import Derived.Test.YtlgcofinmpckkaaDoorLsg
namespace Go.Proofs.YtlgcofinmpckkaaDoor
open Go.RowKit
set_option maxRecDepth 100000
set_option maxHeartbeats 1000000

def badSg (x : Sg) : Bool := !x.letter && x.c == 92
def wildSg (x : Sg) : Bool := !x.letter && decide (cls x.c = 3)
/-- one sign of a canonical form -/
def canSg (x : Sg) : List UInt8 := if x.letter = true ∧ (cls x.c = 3 ∨ x.c = 92) then [92, x.c] else [x.c]
def canOf (l : List Sg) : List UInt8 := l.flatMap canSg
/-- one sign of a pattern as it is written -/
def patSg (first : Bool) (x : Sg) : List UInt8 := if wildSg x then [x.c] else esc first x.c
def patTo (l : List Sg) : Nat → List UInt8
  | 0 => []
  | k + 1 => patTo l k ++ (match l[k]? with | some x => patSg (k == 0) x | none => [])
def patternL (l : List UInt8) : List UInt8 := if (signs l).any badSg = true then [] else if (signs l).any wildSg = true then patTo (signs l) (signs l).length else []

theorem take_snoc' {α : Type} (l : List α) (k : Nat) (h : k < l.length) : l.take (k + 1) = l.take k ++ [l[k]] := List.take_succ_eq_append_getElem h
def CRel (l : List Sg) (w : World) (vs : Value) (v i : Value) (wr : World) : Prop :=
  ∃ k : Nat, k ≤ l.length ∧ i = .int .i64 k ∧ OwnB wr w.heap.size v (canOf (l.take k)) ∧ (l.take k).any badSg = false ∧ Below w.heap.size w wr ∧ OwnL sgShape wr w.heap.size vs l
def CanRet (l : List Sg) (w : World) (e : Ending) (w' : World) : Prop :=
  (e = .returned (if l.any badSg then .tuple #[.string ByteArray.empty, .bool false] else .tuple #[.string (str (canOf l)), .bool true])) ∧ Below w.heap.size w w'
theorem canSg_length (x : Sg) : (canSg x).length ≤ 2 := by unfold canSg; split <;> simp
theorem canOf_length (l : List Sg) : (canOf l).length ≤ 2 * l.length := by
  induction l with
  | nil => simp [canOf]
  | cons x l ih =>
    have e : canOf (x :: l) = canSg x ++ canOf l := by simp [canOf]
    have := canSg_length x
    rw [e, List.length_append, List.length_cons]; omega
theorem canOf_snoc (l : List Sg) (x : Sg) : canOf (l ++ [x]) = canOf l ++ canSg x := by simp [canOf]
theorem any_bad {l : List Sg} {k : Nat} (h : k < l.length) (hb : badSg l[k] = true) : l.any badSg = true := List.any_eq_true.2 ⟨l[k], List.getElem_mem h, hb⟩
theorem signs_length (l : List UInt8) : (signs l).length ≤ l.length := by
  unfold signs
  suffices h : ∀ n i, n = l.length → ∀ l' : List UInt8, l'.length ≤ n → (signsFrom l' i).length ≤ l'.length by exact h l.length 0 rfl l (Nat.le_refl _)
  intro n
  induction n using Nat.strongRecOn generalizing l with
  | _ n ih =>
    intro i hn l' hl'
    match l' with
    | [] => simp [signsFrom]
    | [c] => simp [signsFrom]
    | c :: d :: t =>
      unfold signsFrom
      simp only [List.length_cons] at hl'
      split
      · have := ih (n - 1) (by omega) (l := List.replicate (n - 1) 0) (i + 2) (by simp) t (by omega)
        simp only [List.length_cons]; omega
      · have := ih (n - 1) (by omega) (l := List.replicate (n - 1) 0) (i + 1) (by simp) (d :: t) (by simp only [List.length_cons]; omega)
        simp only [List.length_cons] at this ⊢; omega

theorem canon_any (s : ByteArray) (w : World) (hs : s.size ≤ 10000000) :
    Calls Tryd.prog 27 #[.string s] w (CanRet (signs s.data.toList) w) := by
  have hsl := signs_length s.data.toList
  rw [← ba_size] at hsl
  go_enter Tryd.func27, Tryd.ntmps27
  go_wp2_with fail
  refine (signs_any s _ hs).mono ?_
  rintro e w1 hR
  obtain ⟨v, rfl, ho, hb1⟩ := hR
  obtain ⟨A, cap, rfl, hcap, hml, _⟩ := ho.open_
  generalize signs s.data.toList = l at *
  have hl : l.length ≤ 10000000 := by omega
  clear hsl hs
  have HL := Lib.hid (ho.more (B2 := w.heap.size) (by simp)); clear ho
  unfold maxLen at hml
  go_wp2
  go_loopw [4, 11] (fun v i wr => CRel l w (.slice A l.length cap) v i wr) (fun _ i _ => l.length - (intOf i).toNat)
  case atStart => exact ⟨0, by omega, rfl, (OwnB.lit0 w (Nat.le_refl _)).below hb1, rfl, (((Below.refl _ _).alloc (Nat.le_refl _) _).trans (hb1.mono (by simp))), HL.out⟩
  case round =>
    obtain ⟨k, hk, rfl, hob, hnb, hb, how⟩ := hrel
    have HB := Lib.hid hob; clear hob
    have HNB := Lib.hid hnb; clear hnb
    have HW := Lib.hid how; clear how
    have hBr := hb.size
    have hlq : (canOf (l.take k)).length ≤ 20000000 := by have := canOf_length (l.take k); have := List.length_take_le k l; omega
    by_cases hlt : k < l.length
    · obtain ⟨g, hA, hx⟩ := HW.out.at_ sgOk hlt
      subst hA
      have c0 : wr.cell? ⟨g, k * 4, none⟩ = some (.int .u8 (l[k].c.toNat : Int)) := hx 0 _ (by decide) rfl
      have c1 : wr.cell? ⟨g, k * 4 + 1, none⟩ = some (.bool l[k].letter) := hx 1 _ (by decide) rfl
      have c2 : wr.cell? ⟨g, k * 4 + 2, none⟩ = some (.int .i64 l[k].place) := hx 2 _ (by decide) rfl
      have c3 : wr.cell? ⟨g, k * 4 + 3, none⟩ = some (.int .i64 l[k].size) := hx 3 _ (by decide) rfl
      clear hx
      have HT := Lib.hid (take_snoc' l k hlt)
      have HBD : Hid (badSg l[k] = true → l.any badSg = true) := fun h => any_bad hlt h
      generalize l[k] = x at *
      obtain ⟨c, lt, pl, sz⟩ := x
      have e92 := e92_cls c
      have hbx := u8_lt c
      cases lt
      · by_cases h92 : cls c = 4
        · have HQ : Hid (badSg ⟨c, false, pl, sz⟩ = true) := by
            have := beq_iff_eq.1 (esc_cls c)
            show (!false && c == 92) = true
            rw [this, h92]; rfl
          go_wp2
          go_ret2
          exact ⟨by rw [if_pos (HBD.out HQ.out)]; rfl, hb.alloc hb.size _⟩
        · have h92b : ((c.toNat : Int) == 92) = false := by rw [e92]; simpa using h92
          clear e92
          have HQ : Hid (badSg ⟨c, false, pl, sz⟩ = false) := by
            have := beq_iff_eq.1 (esc_cls c)
            show (!false && c == 92) = false
            rw [this]; simpa using h92
          clear h92
          have hbA := hb.alloc hb.size (.cells #[.int .u8 (c.toNat : Int), .bool false, .int .i64 pl, .int .i64 sz] 52)
          have HWA := Lib.hid (HW.out.alloc (.cells #[.int .u8 (c.toNat : Int), .bool false, .int .i64 pl, .int .i64 sz] 52))
          have HBA := Lib.hid (HB.out.alloc (.cells #[.int .u8 (c.toNat : Int), .bool false, .int .i64 pl, .int .i64 sz] 52))
          go_wp2_with (at_builtin; refine OwnB.appendAt HBA.out _ _ rfl _ _ rfl rfl rfl ?_ ?_ ?_ hbA.size ?_ ?_)
          all_goals first | omega | exact (World.size_alloc ..).symm | skip
          intro v' w' h2 h3 h3k
          have H2 := Lib.hid h2
          have HW2 := Lib.hid (HWA.out.keptB HBA.out (by decide) h3k)
          clear h2 h3k
          go_wp2
          go_roundw
          case rel =>
            refine ⟨k + 1, by omega, by go_num, ?_, ?_, hbA.trans h3, HW2.out⟩
            · rw [HT.out, canOf_snoc]
              simpa [ofNat_byte, canSg] using H2.out
            · rw [HT.out, List.any_append, HNB.out]; simpa using HQ.out
          case measure => simp [intOf]; omega
      · clear e92
        have hbA := hb.alloc hb.size (.cells #[.int .u8 (c.toNat : Int), .bool true, .int .i64 pl, .int .i64 sz] 52)
        have HWA := Lib.hid (HW.out.alloc (.cells #[.int .u8 (c.toNat : Int), .bool true, .int .i64 pl, .int .i64 sz] 52))
        have HBA := Lib.hid (HB.out.alloc (.cells #[.int .u8 (c.toNat : Int), .bool true, .int .i64 pl, .int .i64 sz] 52))
        have HQ : Hid (badSg ⟨c, true, pl, sz⟩ = false) := rfl
        have hcases : (decide (cls c = 3) = true ∧ canSg ⟨c, true, pl, sz⟩ = [92, c]) ∨ (decide (cls c = 3) = false ∧ ((c.toNat : Int) == 92) = true ∧ canSg ⟨c, true, pl, sz⟩ = [92, c]) ∨ (decide (cls c = 3) = false ∧ ((c.toNat : Int) == 92) = false ∧ canSg ⟨c, true, pl, sz⟩ = [c]) := by
          rw [show ((c.toNat : Int) == 92) = (c == 92) from byte_beq c 92]
          unfold canSg
          by_cases h3 : cls c = 3 <;> by_cases h4 : c = 92 <;> simp_all
        rcases hcases with ⟨g1, g2⟩ | ⟨g1, g3, g2⟩ | ⟨g1, g3, g2⟩
        · have HX := Lib.hid g2; clear g2
          go_wp2_with fail
          refine (wild_any c _).mono ?_
          rintro e w2 ⟨rfl, rfl⟩
          go_wp2_with (at_builtin; refine OwnB.appendAt HBA.out _ _ rfl _ _ rfl rfl rfl ?_ ?_ ?_ hbA.size ?_ ?_)
          all_goals first | omega | exact (World.size_alloc ..).symm | skip
          intro v' w' h2 h3 h3k
          have H2 := Lib.hid h2; clear h2
          have hbB := hbA.trans h3
          have HW2 := Lib.hid (HWA.out.keptB HBA.out (by decide) h3k)
          have hcc : w'.cell? ⟨wr.heap.size, 0, none⟩ = some (.int .u8 (c.toNat : Int)) := by
            rw [h3k.cell (by simp) (HB.out.ne_new (Nat.le_refl _))]
            exact World.cell?_alloc_new wr _ _ 0
          clear h3k
          go_wp2_with (at_builtin; refine OwnB.appendAt H2.out _ _ rfl _ _ rfl rfl rfl ?_ ?_ ?_ hbB.size ?_ ?_)
          all_goals first | omega | exact (World.size_alloc ..).symm | (rw [List.length_append, List.length_singleton]; omega) | skip
          intro v2 w2 h4 h5 h5k
          have H4 := Lib.hid h4
          have HW4 := Lib.hid (HW2.out.keptB H2.out (by decide) h5k)
          clear h4 h5k
          go_wp2
          go_roundw
          case rel =>
            refine ⟨k + 1, by omega, by go_num, ?_, ?_, hbB.trans h5, HW4.out⟩
            · rw [HT.out, canOf_snoc, HX.out]
              simpa [ofNat_byte] using H4.out
            · rw [HT.out, List.any_append, HNB.out]; simpa using HQ.out
          case measure => simp [intOf]; omega
        · have HX := Lib.hid g2; clear g2
          go_wp2_with fail
          refine (wild_any c _).mono ?_
          rintro e w2 ⟨rfl, rfl⟩
          go_wp2_with (at_builtin; refine OwnB.appendAt HBA.out _ _ rfl _ _ rfl rfl rfl ?_ ?_ ?_ hbA.size ?_ ?_)
          all_goals first | omega | exact (World.size_alloc ..).symm | skip
          intro v' w' h2 h3 h3k
          have H2 := Lib.hid h2; clear h2
          have hbB := hbA.trans h3
          have HW2 := Lib.hid (HWA.out.keptB HBA.out (by decide) h3k)
          have hcc : w'.cell? ⟨wr.heap.size, 0, none⟩ = some (.int .u8 (c.toNat : Int)) := by
            rw [h3k.cell (by simp) (HB.out.ne_new (Nat.le_refl _))]
            exact World.cell?_alloc_new wr _ _ 0
          clear h3k
          go_wp2_with (at_builtin; refine OwnB.appendAt H2.out _ _ rfl _ _ rfl rfl rfl ?_ ?_ ?_ hbB.size ?_ ?_)
          all_goals first | omega | exact (World.size_alloc ..).symm | (rw [List.length_append, List.length_singleton]; omega) | skip
          intro v2 w2 h4 h5 h5k
          have H4 := Lib.hid h4
          have HW4 := Lib.hid (HW2.out.keptB H2.out (by decide) h5k)
          clear h4 h5k
          go_wp2
          go_roundw
          case rel =>
            refine ⟨k + 1, by omega, by go_num, ?_, ?_, hbB.trans h5, HW4.out⟩
            · rw [HT.out, canOf_snoc, HX.out]
              simpa [ofNat_byte] using H4.out
            · rw [HT.out, List.any_append, HNB.out]; simpa using HQ.out
          case measure => simp [intOf]; omega
        · have HX := Lib.hid g2; clear g2
          go_wp2_with fail
          refine (wild_any c _).mono ?_
          rintro e w2 ⟨rfl, rfl⟩
          go_wp2_with (at_builtin; refine OwnB.appendAt HBA.out _ _ rfl _ _ rfl rfl rfl ?_ ?_ ?_ hbA.size ?_ ?_)
          all_goals first | omega | exact (World.size_alloc ..).symm | skip
          intro v' w' h2 h3 h3k
          have H2 := Lib.hid h2
          have HW2 := Lib.hid (HWA.out.keptB HBA.out (by decide) h3k)
          clear h2 h3k
          go_wp2
          go_roundw
          case rel =>
            refine ⟨k + 1, by omega, by go_num, ?_, ?_, hbA.trans h3, HW2.out⟩
            · rw [HT.out, canOf_snoc, HX.out]
              simpa [ofNat_byte] using H2.out
            · rw [HT.out, List.any_append, HNB.out]; simpa using HQ.out
          case measure => simp [intOf]; omega
    · have e : l.take k = l := List.take_of_length_le (by omega)
      rw [e] at HNB HB
      have HC := Lib.hid HB.out.conv
      have HP := Lib.hid (show CanRet l w (.returned (.tuple #[.string (str (canOf l)), .bool true])) wr from ⟨by rw [if_neg (by rw [HNB.out]; simp)], hb⟩)
      clear e
      go_wp2_with fail
      simp only [HC.out, Result.andThen]
      go_wp2
      go_ret2
      exact HP.out
end Go.Proofs.YtlgcofinmpckkaaDoor
