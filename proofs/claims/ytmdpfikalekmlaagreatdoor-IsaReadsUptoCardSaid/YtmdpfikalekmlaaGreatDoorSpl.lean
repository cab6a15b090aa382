/- strings.Split at a separator of one byte. -/
import Derived.Test.YtmdpfikalekmlaaGreatDoorIxb
import Derived.Test.YtmdpfikalekmlaaGreatDoorStr
import Derived.Test.YtmdpfikalekmlaaGreatDoorRq
import Derived.Test.YtmdpfikalekmlaaGreatDoorSh
import Derived.Shelf.Strings.SplitCore
import Derived.Lib.SplitLaws
import Derived.Lib.IndexBytes
import Derived.Lib.CutLaws
import Derived.Lib.CountLaws
namespace Go.Proofs.YtmdpfikalekmlaaGreatDoor
open Go.RowKit
set_option maxRecDepth 100000
set_option maxHeartbeats 1000000
set_option linter.unusedSimpArgs false
set_option linter.unusedVariables false

theorem splitS_head (c : UInt8) (b : UInt8) (l : List UInt8) (h : b ≠ c) : ∃ w ws, splitS c l = w :: ws ∧ splitS c (b :: l) = (b :: w) :: ws := by
  cases hs : splitS c l with
  | nil => exact absurd hs (splitS_ne _ _)
  | cons w ws =>
    refine ⟨w, ws, rfl, ?_⟩
    rw [splitS, if_neg h, hs]
theorem splitS_none {c : UInt8} : ∀ {l : List UInt8}, Lib.indexByte l c = -1 → splitS c l = [l]
  | [], _ => rfl
  | b :: l, h => by
    unfold Lib.indexByte at h
    by_cases hb : b = c
    · subst hb; simp at h
    · have hb' : (b == c) = false := beq_eq_false_iff_ne.2 hb
      rw [hb'] at h
      obtain ⟨w, ws, h1, h2⟩ := splitS_head c b l hb
      by_cases hi : Lib.indexByte l c = -1
      · rw [splitS_none hi] at h1
        injection h1 with e1 e2
        rw [h2, ← e1, ← e2]
      · have hi' : (Lib.indexByte l c == -1) = false := beq_eq_false_iff_ne.2 hi
        rw [hi'] at h
        simp only [Bool.false_eq_true, if_false] at h
        have := ixb_ge l c
        omega
theorem splitS_some {c : UInt8} : ∀ {l : List UInt8} {i : Nat}, Lib.indexByte l c = (i : Int) → splitS c l = l.take i :: splitS c (l.drop (i + 1)) ∧ l.count c = 1 + (l.drop (i + 1)).count c
  | [], i, h => by unfold Lib.indexByte at h; omega
  | b :: l, i, h => by
    unfold Lib.indexByte at h
    by_cases hb : b = c
    · subst hb
      simp only [beq_self_eq_true, if_true] at h
      obtain rfl : i = 0 := by omega
      exact ⟨by rw [splitS, if_pos rfl]; rfl, by simp [Nat.add_comm]⟩
    · have hb' : (b == c) = false := beq_eq_false_iff_ne.2 hb
      rw [hb'] at h
      simp only [Bool.false_eq_true, if_false] at h
      split at h
      · omega
      · rename_i hi
        have hg := ixb_ge l c
        have hi2 : Lib.indexByte l c ≠ -1 := by simpa using hi
        obtain ⟨j, hj⟩ : ∃ j : Nat, Lib.indexByte l c = (j : Int) := ⟨(Lib.indexByte l c).toNat, by omega⟩
        obtain ⟨h1, h2⟩ := splitS_some hj
        obtain rfl : i = j + 1 := by omega
        obtain ⟨w, ws, e1, e2⟩ := splitS_head c b l hb
        rw [h1] at e1
        injection e1 with e3 e4
        refine ⟨by rw [e2, ← e3, ← e4]; rfl, ?_⟩
        rw [List.count_cons, hb']
        simpa using h2
theorem count_none {c : UInt8} : ∀ {l : List UInt8}, Lib.indexByte l c = -1 → l.count c = 0
  | [], _ => rfl
  | b :: l, h => by
    unfold Lib.indexByte at h
    by_cases hb : b = c
    · subst hb; simp at h
    · have hb' : (b == c) = false := beq_eq_false_iff_ne.2 hb
      rw [hb'] at h
      by_cases hi : Lib.indexByte l c = -1
      · rw [List.count_cons, hb', count_none hi]; rfl
      · have hi' : (Lib.indexByte l c == -1) = false := beq_eq_false_iff_ne.2 hi
        rw [hi'] at h
        simp only [Bool.false_eq_true, if_false] at h
        have := ixb_ge l c
        omega
theorem indexB1 (s : ByteArray) (c : UInt8) : Lib.indexB s ⟨#[c]⟩ = Lib.indexByte s.data.toList c := Lib.index_one _ _
theorem drop_data (s : ByteArray) (i : Nat) : (s.extract i s.size).data.toList = s.data.toList.drop i := by
  rw [← str_drop]; exact str_data _
theorem countB1 (c : UInt8) : ∀ (n : Nat) (s : ByteArray), s.size ≤ n → Lib.countB s ⟨#[c]⟩ = s.data.toList.count c := by
  intro n
  induction n with
  | zero =>
    intro s hs
    have e : s.data.toList = [] := List.eq_nil_of_length_eq_zero (show s.size = 0 by omega)
    have hi : Lib.indexB s ⟨#[c]⟩ = -1 := by rw [indexB1, e]; rfl
    rw [Lib.countB_miss _ _ hi, e]; rfl
  | succ n ih =>
    intro s hs
    by_cases hi : Lib.indexByte s.data.toList c = -1
    · rw [Lib.countB_miss _ _ ((indexB1 s c).trans hi), count_none hi]
    · have hg := ixb_ge s.data.toList c
      obtain ⟨i, hj⟩ : ∃ i : Nat, Lib.indexByte s.data.toList c = (i : Int) := ⟨(Lib.indexByte s.data.toList c).toNat, by omega⟩
      have hz : (s.extract (i + 1) s.size).size ≤ n := by rw [ByteArray.size_extract]; omega
      rw [Lib.countB_hit s ⟨#[c]⟩ i (Nat.le_refl 1) ((indexB1 s c).trans hj), (splitS_some hj).2]
      show 1 + Lib.countB (s.extract (i + 1) s.size) ⟨#[c]⟩ = _
      rw [ih _ hz, drop_data]
theorem splitB1 (c : UInt8) : ∀ (k : Nat) (s : ByteArray), s.data.toList.count c = k → Lib.splitB ⟨#[c]⟩ 0 k s = (splitS c s.data.toList).map str := by
  intro k
  induction k with
  | zero =>
    intro s hs
    by_cases hi : Lib.indexByte s.data.toList c = -1
    · rw [Lib.splitB_zero, splitS_none hi, List.map_cons, str_self]; rfl
    · have hg := ixb_ge s.data.toList c
      obtain ⟨i, hj⟩ : ∃ i : Nat, Lib.indexByte s.data.toList c = (i : Int) := ⟨(Lib.indexByte s.data.toList c).toNat, by omega⟩
      have := (splitS_some hj).2
      omega
  | succ k ih =>
    intro s hs
    by_cases hi : Lib.indexByte s.data.toList c = -1
    · have := count_none hi
      omega
    · have hg := ixb_ge s.data.toList c
      obtain ⟨i, hj⟩ : ∃ i : Nat, Lib.indexByte s.data.toList c = (i : Int) := ⟨(Lib.indexByte s.data.toList c).toNat, by omega⟩
      obtain ⟨h1, h2⟩ := splitS_some hj
      rw [Lib.splitB_hit _ 0 k s i ((indexB1 s c).trans hj), h1, List.map_cons]
      show s.extract 0 i :: Lib.splitB ⟨#[c]⟩ 0 k (s.extract (i + 1) s.size) = _
      rw [ih _ (by rw [drop_data]; omega), drop_data, str_take]
theorem splitS_length (c : UInt8) (l : List UInt8) : (splitS c l).length = l.count c + 1 := by
  induction l with
  | nil => rfl
  | cons b l ih =>
    by_cases h : b = c
    · subst h
      rw [splitS, if_pos rfl, List.length_cons, ih, List.count_cons, beq_self_eq_true]; simp
    · obtain ⟨w, ws, h1, h2⟩ := splitS_head c b l h
      have h3 : ws.length + 1 = l.count c + 1 := by rw [← ih, h1, List.length_cons]
      rw [h2, List.length_cons, List.count_cons, beq_eq_false_iff_ne.2 h, h3]; simp
theorem sIndex1_any (s : ByteArray) (c : UInt8) (w : World) :
    Calls Tryz.prog 77 #[.string s, .string ⟨#[c]⟩] w fun e w' => e = .returned (.int .i64 (Lib.indexByte s.data.toList c)) ∧ w' = w := by
  go_enter Tryz.func77, Tryz.ntmps77
  go_wp2_with fail
  refine (index1_any s c _).mono ?_
  rintro e w' ⟨rfl, rfl⟩
  go_wp2
  go_ret
  exact ⟨rfl, rfl⟩
def spRow (c : UInt8) (s : ByteArray) : Array Value := (((splitS c s.data.toList).map str).map Value.string).toArray
/-- What a Split of a text makes: a new row of the pieces. -/
def SpRet (c : UInt8) (s : ByteArray) (w : World) (e : Ending) (w' : World) : Prop :=
  e = .returned (.slice (some ⟨w.heap.size, 0, none⟩) (splitS c s.data.toList).length (splitS c s.data.toList).length) ∧ w' = w.alloc (.cells (spRow c s) 9)
theorem genSplit1_any (s : ByteArray) (c : UInt8) (w : World) (hs : s.size ≤ 2000000000) :
    Calls Tryz.prog 44 #[.string s, .string ⟨#[c]⟩, .int .i64 0, .int .i64 (-1)] w (SpRet c s w) := by
  have hcl : s.data.toList.count c ≤ s.size := List.count_le_length
  have hcb := countB1 c s.size s (Nat.le_refl _)
  have h := Any.strings_genSplit_core Tryz.lays221 (by kernel_rfl) s ⟨#[c]⟩ 0 (-1) (s.data.toList.count c + 1) w (by omega) (Nat.le_refl 1) (Nat.zero_le _)
    (fun x cs _ => (sIndex1_any x c _).mono fun e w' h => ⟨by rw [h.1, indexB1], h.2⟩)
    ((Tryz.strings_Count_one s c w).mono fun e w' h => ⟨by rw [h.1, hcb]; rfl, h.2⟩)
    (by decide) (by decide) (by rw [hcb]; generalize s.data.toList.count c = cn at *; rw [if_pos (by decide)]; omega)
  refine h.mono ?_
  rintro e w' ⟨rfl, rfl⟩
  have e1 : Lib.splitB ⟨#[c]⟩ 0 (s.data.toList.count c + 1 - 1) s = (splitS c s.data.toList).map str := splitB1 c _ s rfl
  have e2 := splitS_length c s.data.toList
  unfold SpRet
  rw [e1, List.length_map, e2]
  refine ⟨rfl, ?_⟩
  have e3 : s.data.toList.count c + 1 = ((splitS c s.data.toList).map str).length := by rw [List.length_map, e2]
  rw [e3, Lib.cellsOf_full]
  rfl
theorem split1_any (s : ByteArray) (c : UInt8) (w : World) (hs : s.size ≤ 2000000000) :
    Calls Tryz.prog 18 #[.string s, .string ⟨#[c]⟩] w (SpRet c s w) := by
  go_enter Tryz.func18, Tryz.ntmps18
  go_wp2_with fail
  refine (genSplit1_any s c w hs).mono ?_
  rintro e w' ⟨rfl, rfl⟩
  go_wp2
  go_ret
  exact ⟨rfl, rfl⟩
theorem spRd (c : UInt8) (s : ByteArray) (w : World) (hs : s.size ≤ 2000000000) : RdL strS (w.alloc (.cells (spRow c s) 9)) (w.heap.size + 1) (.slice (some ⟨w.heap.size, 0, none⟩) (splitS c s.data.toList).length (splitS c s.data.toList).length) ((splitS c s.data.toList).map str) := by
  have hl := splitS_length c s.data.toList
  have hcl : s.data.toList.count c ≤ s.size := List.count_le_length
  refine ⟨some ⟨w.heap.size, 0, none⟩, (splitS c s.data.toList).length, by rw [List.length_map], by rw [List.length_map]; exact Nat.le_refl _, by unfold maxLen; omega, fun _ => ⟨_, rfl, Nat.lt_succ_self _, ?_⟩, fun h => by cases h⟩
  intro j u hj
  have e : (⟨w.heap.size, 0, none⟩ : Addr).add j = ⟨w.heap.size, j, none⟩ := by unfold Addr.add; split <;> simp_all
  rw [e, World.cell?_alloc_new]
  have e2 : strS.cells ((splitS c s.data.toList).map str) = ((splitS c s.data.toList).map str).map Value.string := by
    unfold Shape.cells
    rw [List.map_eq_flatMap (f := Value.string)]; rfl
  rw [e2] at hj
  unfold spRow
  simpa using hj
end Go.Proofs.YtmdpfikalekmlaaGreatDoor
