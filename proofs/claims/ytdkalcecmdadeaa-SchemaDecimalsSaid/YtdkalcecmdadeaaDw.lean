/- The walk of the law's own decimal. -/
import Derived.Test.YtdkalcecmdadeaaRows
import Derived.Test.YtdkalcecmdadeaaDec
namespace Go.Proofs.Ytdkalcecmdadeaa
open Go.RowKit

theorem decimal_zero (w : World) :
    Calls Try.prog 8 #[.int .i64 0] w fun e w' => e = .returned (.string ⟨#[48]⟩) ∧ Below w.heap.size w w' := by
  go_enter Try.func8, Try.ntmps8
  go_wp2
  go_ret
  exact ⟨rfl, Below.refl _ _⟩

def Dec (v : Int) (w : World) (e : Ending) (w' : World) : Prop := ∃ s : ByteArray, e = .returned (.string s) ∧ IsDec v s ∧ Below w.heap.size w w'

set_option maxHeartbeats 400000 in
theorem decimal_some (v : Int) (w : World) (h0 : -9223372036854775808 ≤ v) (h1 : v ≤ 9223372036854775807) (hne : (v == 0) = false) :
    Calls Try.prog 8 #[.int .i64 v] w (Dec v w) := by
  have hv0 : v ≠ 0 := beq_eq_false_iff_ne.1 hne
  have hst := Lib.hid (DInv_start v hv0)
  have hva : v.natAbs ≤ 9223372036854775808 := by omega
  have HV := Lib.hid hva
  clear hva hv0
  have hcs := chr_size
  have hconv := fun (W : World) (x : Int) => conv_one (P := Try.prog) 26 5 5 Try.underlying26 Try.underlying5 9 Try.underlying9 W x
  go_enter Try.func8, Try.ntmps8
  go_wp2
  go_loopw [3, 4] (fun s x wr => ∃ (z : Int) (acc : ByteArray), DInv v z acc ∧ s = .string acc ∧ x = .int .i64 z ∧ Below w.heap.size w wr) (fun _ x _ => (intOf x).natAbs)
  case atStart => exact ⟨_, _, hst.out, rfl, rfl, Below.refl _ _⟩
  case round =>
    obtain ⟨z, acc, hI, rfl, rfl, hb⟩ := hrel
    have hsz := DInv_size hI
    obtain ⟨hz1, hz2⟩ := DInv_bd hI h0 h1
    have hz3 := tmod_bd z
    obtain ⟨hz4, hz5⟩ := hz3
    have HI := Lib.hid hI; clear hI
    by_cases hz : (z != 0) = true
    · by_cases hr : z.tmod 10 < 0
      · go_wp2
        go_roundw
        case rel => exact ⟨_, _, DInv_step HI.out HV.out (by simpa using hz) (by omega), rfl, rfl, hb.alloc hb.size _⟩
        case measure => exact natAbs_tdiv_lt z (by simpa using hz)
      · go_wp2
        go_roundw
        case rel => exact ⟨_, _, DInv_step HI.out HV.out (by simpa using hz) (by omega), rfl, rfl, hb.alloc hb.size _⟩
        case measure => exact natAbs_tdiv_lt z (by simpa using hz)
    · obtain rfl : z = 0 := by simpa using hz
      have HE := Lib.hid (DInv_end HI.out)
      go_wp2
      · go_ret
        exact ⟨_, rfl, HE.out.2 (by assumption), hb⟩
      · go_ret
        exact ⟨_, rfl, HE.out.1 (by omega), hb⟩

theorem decimal_any (v : Int) (w : World) (h0 : -9223372036854775808 ≤ v) (h1 : v ≤ 9223372036854775807) :
    Calls Try.prog 8 #[.int .i64 v] w (Dec v w) := by
  by_cases h : v = 0
  · subst h
    exact (decimal_zero w).mono fun e w' ⟨he, hb⟩ => ⟨_, he, IsDec_zero, hb⟩
  · exact decimal_some v w h0 h1 (beq_eq_false_iff_ne.2 h)
end Go.Proofs.Ytdkalcecmdadeaa
