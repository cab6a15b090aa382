/- strconv.Itoa and strconv.FormatUint at base 10: the decimal digits. -/
import Derived.Test.YtmdpfikalekmlaaGreatDoorSh
import Derived.Test.YtmdpfikalekmlaaGreatDoorBase
import Derived.Lib.ItoaMem
import Derived.Lib.LaidTab
import Derived.LaidSub
import Derived.BigCall
import Derived.KernelRfl
namespace Go.Proofs.YtmdpfikalekmlaaGreatDoor
open Go.Shelf Go.RowKit Go.Sort Go.Lib
set_option maxRecDepth 100000
set_option maxHeartbeats 4000000
set_option linter.unusedSimpArgs false
set_option linter.unusedVariables false

/-- The table of the powers of ten. -/
def Pow10 (w : World) : Prop := Lib.TabIs Tryz.prog w "internal/strconv.uint64pow10" .u64 Lib.pow10Tab
theorem gP10 : Tryz.prog.globalNamed "internal/strconv.uint64pow10" = some 25 := by kernel_rfl
theorem Pow10.below {w w' : World} (h : Pow10 w) (hb : Below w.heap.size w w') : Pow10 w' := by
  unfold Pow10 Lib.TabIs World.var? at *
  rw [gP10] at h ⊢
  have hlt : 25 < w.heap.size := by
    rcases Nat.lt_or_ge 25 w.heap.size with hl | hl
    · exact hl
    · simp [Array.getElem?_eq_none hl] at h
  have e := hb.block 25 hlt
  simpa [e] using h
theorem gP10Type : (Tryz.prog.globals[25]?).map (·.type) = some 170 := by kernel_rfl
theorem pow10_of_head {W : World} {rest : List (String × DataW Unit)} (h : laidMet Tryz.prog (("internal/strconv.uint64pow10", Lib.tabData .u64 Lib.pow10Tab) :: rest) W) : Pow10 W :=
  Lib.tabIs_of_head gP10 gP10Type Tryz.underlying170 Tryz.underlying41 (by kernel_rfl) (by kernel_rfl) h
theorem grow_below' (w : World) (k : Nat) (os : Array Obj) : Below w.heap.size w (grow (w.drewN k) os) :=
  ⟨rfl, rfl, rfl, by show w.heap.size ≤ (w.heap ++ os).size; rw [Array.size_append]; omega, fun i hi => by
    show ((w.drewN k).heap ++ os)[i]? = _
    rw [Array.getElem?_append_left (by show i < w.heap.size; omega)]; rfl⟩
/-- The digits of a number. -/
def dgt (n : Nat) : List UInt8 := Lib.decDigits n
theorem Itoa_any (n : Nat) (hn : n < 9223372036854775808) (w : World) (hP : Pow10 w) :
    Calls Tryz.prog 41 #[.int .i64 (n : Int)] w fun e w' => e = .returned (.string ⟨(dgt n).toArray⟩) ∧ Below w.heap.size w w' := by
  refine (Tryz.strconv_Itoa (n : Int) (by omega) (by omega) w hP).mono ?_
  rintro e w' ⟨rfl, k, os, rfl⟩
  exact ⟨by rw [Lib.itoa_nonneg]; rfl, grow_below' w k os⟩
theorem holds_zero0 (w : World) (T : TypeId) (nd : Nat) (hs : nd ≤ 24) : Holds (fun (b : UInt8) => Value.int .u8 (b.toNat : Int)) (w.alloc (.cells Lib.zeros24 T)) w.heap.size 0 (Array.replicate nd (0 : UInt8)) := fun j hj => by
  have hj' : j < nd := by simpa using hj
  refine ⟨?_, World.frozen?_alloc_new _ _ _ _⟩
  rw [World.cell?_alloc_new, Lib.zeros24_at _ (by omega), getElem!_pos _ j hj]
  simp
theorem fin0 (w : World) (o : Obj) (dk : Array UInt8) (k : Nat) : ∃ os, (putRow (fun (b : UInt8) => Value.int .u8 (b.toNat : Int)) (w.alloc o) w.heap.size 0 dk).drewN k = grow (w.drewN k) os := by
  rw [alloc_eq_grow]
  obtain ⟨os', _, e⟩ := putRow_grow_new (fun (b : UInt8) => Value.int .u8 (b.toNat : Int)) w #[o] w.heap.size 0 dk (Nat.le_refl _)
  exact ⟨os', by rw [e]; rfl⟩
theorem iFormatUint_any (u : Nat) (hu : u < 18446744073709551616) (w : World) (hP : Pow10 w) :
    Calls Tryz.prog 71 #[.int .u64 (u : Int), .int .i64 10] w fun e w' => e = .returned (.string ⟨(dgt u).toArray⟩) ∧ Below w.heap.size w w' := by
  by_cases hs : u < 100
  · go_enter Tryz.func71, Tryz.ntmps71
    go_wp2_with fail
    refine (Tryz.internal_strconv_small u hs _).mono ?_
    rintro e w' ⟨rfl, rfl⟩
    go_wp2
    go_ret
    exact ⟨rfl, Below.refl _ _⟩
  · have hu1 : 1 ≤ u := by omega
    have hnd : Lib.nDigits u ≤ 20 := by have := Lib.numDigits_eq u hu1 hu; split at this <;> omega
    have hH0 := holds_zero0 w 156 (Lib.nDigits u) (by omega)
    have hfmt := Tryz.internal_strconv_formatBase10 w.heap.size 0 24 u (Array.replicate (Lib.nDigits u) 0) (w.alloc (.cells Lib.zeros24 156)) hH0 (by rw [Array.size_replicate]; exact Lib.lt_pow_nDigits u) hu (by rw [Array.size_replicate]; omega)
    rw [Array.size_replicate] at hfmt
    have HH0 := Lib.hid hH0
    have HF := Lib.hid hfmt
    have hal : Tryz.prog.arrayLen 156 = 24 := by simp [Program.arrayLen, Tryz.underlying156]
    have hsl : ∀ W, (Instr.sliceAt 156 (.pointer (some ⟨w.heap.size, 0, none⟩)) none (some (.int .i64 (Lib.nDigits u : Int))) none).run Tryz.prog W = .ok (.slice (some ⟨w.heap.size, 0, none⟩) (Lib.nDigits u) 24) W := fun W => by
      rw [run_sliceAt_array_h W 156 ⟨w.heap.size, 0, none⟩ (by simp [Program.arrayLen, Program.elem, Tryz.underlying156]) .i64 (Lib.nDigits u : Int) (by omega) (by rw [hal]; omega)]
      go_simp
    clear hH0 hfmt hal
    go_enter Tryz.func71, Tryz.ntmps71
    go_wp2_with fail
    refine (Tryz.internal_strconv_numDigits u hu1 hu _ (Lib.tabIs_alloc hP _)).mono ?_
    rintro e w' ⟨rfl, rfl⟩
    go_wp2_with fail
    refine HF.out.mono ?_
    rintro e w' ⟨rfl, k, v', dk, rfl, hF⟩
    have HFI := Lib.hid hF
    have hcv : (convert 26 9 (.slice (some ⟨w.heap.size, 0, none⟩) (Lib.nDigits u) 24)).run Tryz.prog ((putRow (fun (b : UInt8) => Value.int .u8 (b.toNat : Int)) (w.alloc (.cells Lib.zeros24 156)) w.heap.size 0 dk).drewN k) = .ok (.string ⟨(Lib.decDigits u).toArray⟩) ((putRow (fun (b : UInt8) => Value.int .u8 (b.toNat : Int)) (w.alloc (.cells Lib.zeros24 156)) w.heap.size 0 dk).drewN k) := by
      have h := run_convert_bytes_back (P := Tryz.prog) ((putRow (fun (b : UInt8) => Value.int .u8 (b.toNat : Int)) (w.alloc (.cells Lib.zeros24 156)) w.heap.size 0 dk).drewN k) 26 9 5 ⟨w.heap.size, 0, none⟩ 24 (Lib.decDigits u) Tryz.underlying26 Tryz.underlying5 Tryz.underlying9 (fun j hj => by
        rw [Lib.row_is_numeral hF j hj, Lib.add_plain, World.cell?_drewN]
        exact cell?_putRow (fun (b : UInt8) => Value.int .u8 (b.toNat : Int)) _ w.heap.size 0 _ dk HH0.out (by rw [hF.size, Array.size_replicate]) j (by rw [hF.size]; rw [Lib.decDigits_length] at hj; exact hj))
      rw [Lib.decDigits_length] at h
      exact h
    clear hF
    go_wp2
    go_ret
    obtain ⟨os, eo⟩ := fin0 w (.cells Lib.zeros24 156) dk k
    refine ⟨rfl, ?_⟩
    rw [eo]
    exact grow_below' w k os
theorem FormatUint_any (u : Nat) (hu : u < 18446744073709551616) (w : World) (hP : Pow10 w) :
    Calls Tryz.prog 42 #[.int .u64 (u : Int), .int .i64 10] w fun e w' => e = .returned (.string ⟨(dgt u).toArray⟩) ∧ Below w.heap.size w w' := by
  go_enter Tryz.func42, Tryz.ntmps42
  go_wp2_with fail
  refine (iFormatUint_any u hu _ hP).mono ?_
  rintro e w' ⟨rfl, hb⟩
  go_wp2
  go_ret
  exact ⟨rfl, hb⟩
end Go.Proofs.YtmdpfikalekmlaaGreatDoor
