/- Bytes that come in. -/
import Derived.Test.YtmdpfikalekmlaaGreatDoorOa
import Derived.Test.YtmdpfikalekmlaaGreatDoorBy
namespace Go.Proofs.YtmdpfikalekmlaaGreatDoor
open Go.RowKit Go.ChangeShapes Go.WideShapes Go.Deep
set_option maxRecDepth 100000

theorem sum_ones {α : Type} (l : List α) : (l.map fun _ => 1).sum = l.length := by
  induction l with
  | nil => rfl
  | cons x l ih => rw [List.map_cons, List.sum_cons, ih, List.length_cons]; omega
theorem open_bytes {H : Type} {enc : TypeId × Value → H} {W : World} {v : Value} {d : DataW H} {p : List MemPlace} (hv : Value.okWide Tryz.prog W .any 0 26 v) (h0 : DataW.Trod enc Tryz.prog W 0 (fun _ => true) true 26 v d p) :
    ∃ (l : List UInt8), RdL byteS W W.heap.size v l ∧ l.length ≤ Rows.uptoBulk d := by
  obtain ⟨l, h1, h2, _⟩ := open_cells1 (S := byteS) byteOk rfl (by kernel_rfl) (fun _ => 1) (fun _ => True) (W := W) (fun n cs D ps ht => by
    obtain ⟨m, hc, hd, hw⟩ := DataW.trod_int Tryz.underlying5 ht
    have hw2 : (0 : Int) ≤ m ∧ m < 256 := by
      have e1 : IntKind.u8.min = 0 := by rfl
      have e2 : IntKind.u8.max = 255 := by rfl
      simp only [Lit.wf] at hw
      simp at hw
      omega
    refine ⟨UInt8.ofNat m.toNat, .int .u8 m, hc, ?_, trivial, bulk_pos _⟩
    show [Value.int .u8 ((UInt8.ofNat m.toNat).toNat : Int)] = [.int .u8 m]
    have : ((UInt8.ofNat m.toNat).toNat : Int) = m := by rw [UInt8.toNat_ofNat']; omega
    rw [this]) hv h0
  rw [sum_ones] at h2
  exact ⟨l, h1, h2⟩
end Go.Proofs.YtmdpfikalekmlaaGreatDoor
