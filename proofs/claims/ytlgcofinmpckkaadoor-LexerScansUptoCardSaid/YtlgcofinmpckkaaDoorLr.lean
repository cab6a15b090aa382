/- The walks of the reference's blank, mark, wild, escaped, Word and Quote. -/
import Derived.Test.YtlgcofinmpckkaaDoorLw
import Derived.Lib.SlBytesConst
namespace Go.Proofs.YtlgcofinmpckkaaDoor
open Go.RowKit
set_option maxRecDepth 100000
set_option maxHeartbeats 1000000

def markTab : List UInt8 := [40, 41, 91, 93, 123, 125, 58, 124, 94, 126, 64, 34]
def markArr : Array Value := (markTab.map fun b => Value.int .u8 (b.toNat : Int)).toArray
theorem markArr_get (k : Nat) (h : k < 12) : markArr[k]? = some (.int .u8 ((markTab.getD k 0).toNat : Int)) := by
  unfold markArr
  rw [List.getElem?_toArray, List.getElem?_map, List.getElem?_eq_getElem (by simpa [markTab] using h)]
  rw [List.getD_eq_getElem?_getD, List.getElem?_eq_getElem (by simpa [markTab] using h)]; rfl
theorem all_bytes {p : UInt8 → Bool} (h : (List.range 256).all (fun n => p (UInt8.ofNat n)) = true) (c : UInt8) : p c = true := by
  rw [List.all_eq_true] at h
  have := h c.toNat (by rw [List.mem_range]; exact c.toNat_lt)
  rwa [UInt8.ofNat_toNat] at this
theorem mark_cls (c : UInt8) : (markTab.contains c == decide (cls c = 2)) = true :=
  all_bytes (p := fun c => markTab.contains c == decide (cls c = 2)) (by decide +kernel) c
theorem mark_eq (c : UInt8) : markTab.contains c = decide (cls c = 2) := beq_iff_eq.1 (mark_cls c)

theorem mark_any (c : UInt8) (w : World) :
    Calls Tryd.prog 34 #[.int .u8 (c.toNat : Int)] w fun e w' => e = .returned (.bool (decide (cls c = 2))) ∧ Below w.heap.size w w' := by
  have kc := fun (w : World) (C : Array Value) (n c : Nat) => Lib.run_convert_bytes_const (P := Tryd.prog) w 40 5 C n c Tryd.underlying40 Tryd.underlying5
  go_enter Tryd.func34, Tryd.ntmps34
  go_wp2
  clear kc
  go_loopw [8] (fun i wr => ∃ k : Nat, k ≤ 12 ∧ (∀ j, j < k → markTab.getD j 0 ≠ c) ∧ i = .int .i64 k ∧ wr = w.alloc (.cells markArr 5 (12, 13))) (fun i _ => 12 - (intOf i).toNat)
  case atStart => exact ⟨0, by omega, fun j hj => by omega, rfl, rfl⟩
  case round =>
    obtain ⟨k, hk, hno, rfl, rfl⟩ := hrel
    have HN := Lib.hid hno; clear hno
    have HB := Lib.hid ((Below.refl _ _ : Below w.heap.size w w).alloc (Nat.le_refl _) (.cells markArr 5 (12, 13)))
    by_cases hlt : k < 12
    · have hc : (w.alloc (.cells markArr 5 (12, 13))).cell? ⟨w.heap.size, k, none⟩ = some (.int .u8 ((markTab.getD k 0).toNat : Int)) := by rw [World.cell?_alloc_mark, markArr_get k hlt]
      generalize hm : markTab.getD k 0 = m at *
      have HM := Lib.hid hm; clear hm
      by_cases heq : c = m
      · have hb : ((c.toNat : Int) == (m.toNat : Int)) = true := by rw [heq]; simp
        have HE : Hid (decide (cls c = 2) = true) := by
          rw [← mark_eq, heq, ← HM.out, List.contains_eq_mem]
          simp only [decide_eq_true_eq]
          rw [List.getD_eq_getElem?_getD, List.getElem?_eq_getElem (by simpa [markTab] using hlt)]
          exact List.getElem_mem _
        clear heq
        go_wp2
        go_ret
        exact ⟨by rw [HE.out]; rfl, HB.out⟩
      · have hb : ((c.toNat : Int) == (m.toNat : Int)) = false := by
          rw [beq_eq_false_iff_ne]; intro h; exact heq (byte_eq h)
        have HQ := Lib.hid heq; clear heq
        go_wp2
        go_roundw
        case rel =>
          refine ⟨k + 1, by omega, fun j hj => ?_, by go_num, by trivial⟩
          rcases Nat.lt_or_ge j k with h | h
          · exact HN.out j h
          · obtain rfl : j = k := by omega
            rw [HM.out]; exact fun e => HQ.out e.symm
        case measure => simp [intOf]; omega
    · have HE : Hid (decide (cls c = 2) = false) := by
        rw [← mark_eq, List.contains_eq_mem, decide_eq_false_iff_not]
        intro hmem
        obtain ⟨j, hj, he⟩ := List.getElem_of_mem hmem
        have hj12 : j < k := by simp [markTab] at hj; omega
        refine HN.out j hj12 ?_
        rw [List.getD_eq_getElem?_getD, List.getElem?_eq_getElem hj, he]; rfl
      go_wp2
      go_ret
      exact ⟨by rw [HE.out]; rfl, HB.out⟩

/-- the reference's blank -/
theorem blank_cls (c : UInt8) : ((c == 32 || c == 9 || c == 10 || c == 13) == decide (cls c = 1)) = true :=
  all_bytes (p := fun c => (c == 32 || c == 9 || c == 10 || c == 13) == decide (cls c = 1)) (by decide +kernel) c
theorem wild_cls (c : UInt8) : ((c == 42 || c == 63) == decide (cls c = 3)) = true :=
  all_bytes (p := fun c => (c == 42 || c == 63) == decide (cls c = 3)) (by decide +kernel) c
theorem esc_cls (c : UInt8) : ((c == 92) == decide (cls c = 4)) = true :=
  all_bytes (p := fun c => (c == 92) == decide (cls c = 4)) (by decide +kernel) c
theorem byte_beq (c d : UInt8) : ((c.toNat : Int) == (d.toNat : Int)) = (c == d) := by
  rw [Bool.eq_iff_iff, beq_iff_eq, beq_iff_eq]; exact ⟨byte_eq, fun h => by rw [h]⟩
theorem blank_any (c : UInt8) (w : World) :
    Calls Tryd.prog 31 #[.int .u8 (c.toNat : Int)] w fun e w' => e = .returned (.bool (decide (cls c = 1))) ∧ w = w' := by
  have h := beq_iff_eq.1 (blank_cls c)
  have e1 := byte_beq c 32; have e2 := byte_beq c 9; have e3 := byte_beq c 10; have e4 := byte_beq c 13
  rw [← h, ← e1, ← e2, ← e3, ← e4]
  clear h e1 e2 e3 e4
  generalize (c.toNat : Int) = x
  go_enter Tryd.func31, Tryd.ntmps31
  go_wp2
  all_goals go_ret
  all_goals refine ⟨?_, rfl⟩
  all_goals simp_all
theorem wild_any (c : UInt8) (w : World) :
    Calls Tryd.prog 29 #[.int .u8 (c.toNat : Int)] w fun e w' => e = .returned (.bool (decide (cls c = 3))) ∧ w = w' := by
  have h := beq_iff_eq.1 (wild_cls c)
  have e1 := byte_beq c 42; have e2 := byte_beq c 63
  rw [← h, ← e1, ← e2]
  clear h e1 e2
  generalize (c.toNat : Int) = x
  go_enter Tryd.func29, Tryd.ntmps29
  go_wp2
  all_goals go_ret
  all_goals refine ⟨?_, rfl⟩
  all_goals simp_all

theorem cls_bd (c : UInt8) : 0 ≤ cls c ∧ cls c ≤ 4 := by
  have := all_bytes (p := fun c => decide (0 ≤ cls c ∧ cls c ≤ 4)) (by decide +kernel) c
  simpa using this
theorem e92_cls (c : UInt8) : ((c.toNat : Int) == 92) = decide (cls c = 4) := by
  have h := beq_iff_eq.1 (esc_cls c)
  have e1 := byte_beq c 92
  rw [← h, ← e1]; rfl
/-- the reference's escaped, at a byte that is no letter -/
theorem escaped_mark (c : UInt8) (first : Bool) (w : World) (h : cls c ≠ 0) :
    Calls Tryd.prog 25 #[.int .u8 (c.toNat : Int), .bool first] w (RetB w w.heap.size (esc first c)) := by
  have hb := cls_bd c
  have h92 := e92_cls c
  have HX := Lib.hid (esc_yes (f := first) (c := c) (.inl h))
  have hcases : cls c = 1 ∨ cls c = 2 ∨ cls c = 3 ∨ cls c = 4 := by omega
  clear h hb
  rcases hcases with h | h | h | h
  · clear h92
    go_enter Tryd.func25, Tryd.ntmps25
    go_wp2_with fail
    refine (blank_any c _).mono ?_
    rintro e w1 ⟨rfl, rfl⟩
    go_wp2
    go_ret
    exact ⟨_, rfl, by rw [HX.out]; exact OwnB.lit2 w (Nat.le_refl _) 92 c, (Below.refl _ _).alloc (Nat.le_refl _) _⟩
  · clear h92
    go_enter Tryd.func25, Tryd.ntmps25
    go_wp2_with fail
    refine (blank_any c _).mono ?_
    rintro e w1 ⟨rfl, rfl⟩
    go_wp2_with fail
    refine (mark_any c _).mono ?_
    rintro e w1 ⟨rfl, hm⟩
    go_wp2
    go_ret
    exact ⟨_, rfl, by rw [HX.out]; exact OwnB.lit2 w1 hm.size 92 c, hm.alloc hm.size _⟩
  · clear h92
    go_enter Tryd.func25, Tryd.ntmps25
    go_wp2_with fail
    refine (blank_any c _).mono ?_
    rintro e w1 ⟨rfl, rfl⟩
    go_wp2_with fail
    refine (mark_any c _).mono ?_
    rintro e w1 ⟨rfl, hm⟩
    go_wp2_with fail
    refine (wild_any c _).mono ?_
    rintro e w2 ⟨rfl, rfl⟩
    go_wp2
    go_ret
    exact ⟨_, rfl, by rw [HX.out]; exact OwnB.lit2 w1 hm.size 92 c, hm.alloc hm.size _⟩
  · go_enter Tryd.func25, Tryd.ntmps25
    go_wp2_with fail
    refine (blank_any c _).mono ?_
    rintro e w1 ⟨rfl, rfl⟩
    go_wp2_with fail
    refine (mark_any c _).mono ?_
    rintro e w1 ⟨rfl, hm⟩
    go_wp2_with fail
    refine (wild_any c _).mono ?_
    rintro e w2 ⟨rfl, rfl⟩
    go_wp2
    go_ret
    exact ⟨_, rfl, by rw [HX.out]; exact OwnB.lit2 w1 hm.size 92 c, hm.alloc hm.size _⟩
theorem escaped_letter (c : UInt8) (first : Bool) (w : World) (h : cls c = 0) :
    Calls Tryd.prog 25 #[.int .u8 (c.toNat : Int), .bool first] w (RetB w w.heap.size (esc first c)) := by
  have h92 := e92_cls c
  have e43 := byte_beq c 43
  have e45 := byte_beq c 45
  rw [show ((43 : UInt8).toNat : Int) = 43 from rfl] at e43
  rw [show ((45 : UInt8).toNat : Int) = 45 from rfl] at e45
  have hcases : (first = true ∧ (c == 43) = true ∧ esc first c = [92, c]) ∨ (first = true ∧ (c == 43) = false ∧ (c == 45) = true ∧ esc first c = [92, c]) ∨ (first = true ∧ (c == 43) = false ∧ (c == 45) = false ∧ esc first c = [c]) ∨ (first = false ∧ esc first c = [c]) := by
    unfold esc
    by_cases h1 : c = 43 <;> by_cases h2 : c = 45 <;> cases first <;> simp_all
  rcases hcases with ⟨g1, g2, g3⟩ | ⟨g1, g2, g3, g4⟩ | ⟨g1, g2, g3, g4⟩ | ⟨g1, g4⟩
  · have HX := Lib.hid g3; clear g3
    subst g1
    go_enter Tryd.func25, Tryd.ntmps25
    go_wp2_with fail
    refine (blank_any c _).mono ?_
    rintro e w1 ⟨rfl, rfl⟩
    go_wp2_with fail
    refine (mark_any c _).mono ?_
    rintro e w1 ⟨rfl, hm⟩
    go_wp2_with fail
    refine (wild_any c _).mono ?_
    rintro e w2 ⟨rfl, rfl⟩
    go_wp2
    go_ret
    exact ⟨_, rfl, by rw [HX.out]; exact OwnB.lit2 w1 hm.size 92 c, hm.alloc hm.size _⟩
  · have HX := Lib.hid g4; clear g4
    subst g1
    go_enter Tryd.func25, Tryd.ntmps25
    go_wp2_with fail
    refine (blank_any c _).mono ?_
    rintro e w1 ⟨rfl, rfl⟩
    go_wp2_with fail
    refine (mark_any c _).mono ?_
    rintro e w1 ⟨rfl, hm⟩
    go_wp2_with fail
    refine (wild_any c _).mono ?_
    rintro e w2 ⟨rfl, rfl⟩
    go_wp2
    go_ret
    exact ⟨_, rfl, by rw [HX.out]; exact OwnB.lit2 w1 hm.size 92 c, hm.alloc hm.size _⟩
  · have HX := Lib.hid g4; clear g4
    subst g1
    go_enter Tryd.func25, Tryd.ntmps25
    go_wp2_with fail
    refine (blank_any c _).mono ?_
    rintro e w1 ⟨rfl, rfl⟩
    go_wp2_with fail
    refine (mark_any c _).mono ?_
    rintro e w1 ⟨rfl, hm⟩
    go_wp2_with fail
    refine (wild_any c _).mono ?_
    rintro e w2 ⟨rfl, rfl⟩
    go_wp2
    go_ret
    exact ⟨_, rfl, by rw [HX.out]; exact OwnB.lit1 w1 hm.size c, hm.alloc hm.size _⟩
  · have HX := Lib.hid g4; clear g4
    subst g1
    go_enter Tryd.func25, Tryd.ntmps25
    go_wp2_with fail
    refine (blank_any c _).mono ?_
    rintro e w1 ⟨rfl, rfl⟩
    go_wp2_with fail
    refine (mark_any c _).mono ?_
    rintro e w1 ⟨rfl, hm⟩
    go_wp2_with fail
    refine (wild_any c _).mono ?_
    rintro e w2 ⟨rfl, rfl⟩
    go_wp2
    go_ret
    exact ⟨_, rfl, by rw [HX.out]; exact OwnB.lit1 w1 hm.size c, hm.alloc hm.size _⟩
theorem escaped_any (c : UInt8) (first : Bool) (w : World) :
    Calls Tryd.prog 25 #[.int .u8 (c.toNat : Int), .bool first] w (RetB w w.heap.size (esc first c)) := by
  by_cases h : cls c = 0
  · exact escaped_letter c first w h
  · exact escaped_mark c first w h
end Go.Proofs.YtlgcofinmpckkaaDoor
