/- The bulk of what comes in. -/
import Derived.Test.YtmdpfikalekmlaaGreatDoorRows
import Derived.Test.YtmdpfikalekmlaaGreatDoorRow
namespace Go.Proofs.YtmdpfikalekmlaaGreatDoor
open Go.RowKit

theorem bulk_pos {H : Type} (d : DataW H) : 1 ≤ Rows.uptoBulk d := by
  cases d with
  | lit l => cases l <;> (unfold Rows.uptoBulk; omega)
  | _ => unfold Rows.uptoBulk; omega
theorem bulk_mem {H : Type} {d : DataW H} : ∀ {l : List (DataW H)}, d ∈ l → Rows.uptoBulk d ≤ Rows.uptoBulkAll l
  | [], h => by cases h
  | x :: l, h => by
    unfold Rows.uptoBulkAll
    rw [List.mem_cons] at h
    rcases h with rfl | h
    · omega
    · have := bulk_mem h; omega
theorem bulk_len {H : Type} : ∀ (l : List (DataW H)), l.length ≤ Rows.uptoBulkAll l
  | [] => by simp
  | x :: l => by
    unfold Rows.uptoBulkAll
    have := bulk_len l
    have := bulk_pos x
    simp only [List.length_cons]; omega
theorem bulk_slice {H : Type} (es sp : List (DataW H)) : Rows.uptoBulkAll es + 1 ≤ Rows.uptoBulk (.slice es sp) := by
  rw [Rows.uptoBulk]; omega
theorem bulk_agg {H : Type} (es : List (DataW H)) : Rows.uptoBulk (.agg es) = Rows.uptoBulkAll es + 1 := by
  rw [Rows.uptoBulk]
theorem bulk_string {H : Type} (l : List UInt8) : Rows.uptoBulk (.lit (.string l) : DataW H) = l.length + 1 := by
  rw [Rows.uptoBulk]
end Go.Proofs.YtmdpfikalekmlaaGreatDoor
