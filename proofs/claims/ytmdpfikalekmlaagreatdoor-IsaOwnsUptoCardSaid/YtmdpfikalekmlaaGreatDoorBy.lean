/- Layer 1: bytes that are read; Concat of one list. -/
import Derived.Test.YtmdpfikalekmlaaGreatDoorBlk
import Derived.Test.YtmdpfikalekmlaaGreatDoorRd
import Derived.Laws.MakeOwn
import Derived.Laws.CopyOwn
import Derived.Laws.OwnMore
import Derived.Lib.AppendStr
namespace Go.Proofs.YtmdpfikalekmlaaGreatDoor
open Go.RowKit
set_option maxRecDepth 100000
set_option maxHeartbeats 1000000
set_option linter.unusedSimpArgs false
set_option linter.unusedVariables false

def byteS : Shape UInt8 := { tS := 26, tE := 5, size := 1, bytes := 1, enc := fun x => [.int .u8 x.toNat], zero := .int .u8 0 }
theorem byteOk : byteS.Ok where
  under := Tryz.underlying26
  info := infoB
  zs := rfl
  pos := by decide
  len := fun _ => rfl
  one := fun x u hu => by
    simp only [byteS, List.mem_cons, List.not_mem_nil, or_false] at hu
    subst hu; rfl
  small := by decide
theorem cells_byte (l : List UInt8) : byteS.cells l = byteVals l := by
  induction l with
  | nil => rfl
  | cons x l ih => show _ :: byteS.cells l = _; rw [ih]; rfl
theorem ownB_iff {w : World} {B : Nat} {v : Value} {l : List UInt8} : OwnB w B v l ↔ OwnL byteS w B v l := by
  unfold OwnB OwnL
  rw [cells_byte]; exact Iff.rfl
theorem RdL.ofB {w : World} {B : Nat} {v : Value} {l : List UInt8} (h : OwnB w B v l) : RdL byteS w w.heap.size v l := RdL.of_own (ownB_iff.1 h)
theorem at_byte {w : World} {B : Nat} {A : Option Addr} {n cap : Nat} {l : List UInt8} (h : RdL byteS w B (.slice A n cap) l) {k : Nat} (hk : k < l.length) :
    ∃ a, A = some a ∧ (a.add k).block < B ∧ w.cell? (a.add k) = some (.int .u8 l[k].toNat) := by
  obtain ⟨a, rfl, hb, h0, h⟩ := h.at2 byteOk hk
  have e : k * byteS.size = k := Nat.mul_one k
  rw [e] at hb h0
  exact ⟨a, rfl, hb, h0 _ rfl⟩
theorem run_make_rowN {P : Program} (t e : TypeId) (i : TypeInfo) (z : Value) (ht : P.underlying t = some (.slice e)) (hi : P.info? e = some i) (hz : i.zero = some z)
    (kl kc : IntKind) (n c : Nat) (hnc : n ≤ c) (hbytes : i.bytes * c ≤ 281474976710656) (h63 : c ≤ 9223372036854775807) (w : World) :
    (Instr.makeSlice t (.int kl (n : Int)) (.int kc (c : Int))).run P w = .ok (.slice (some ⟨w.heap.size, 0, none⟩) n c) (w.alloc (.cells (madeCells z.cells (c * i.size)) e)) := by
  have hb : (i.bytes : Int) * (c : Int) ≤ 281474976710656 := by
    have h : ((i.bytes * c : Nat) : Int) ≤ 281474976710656 := by omega
    rwa [Int.natCast_mul] at h
  have hr := run_make (P := P) w t e i z ht hi hz kl kc n c (by omega) (by omega) hb (by omega)
  simp only [Int.toNat_natCast] at hr
  exact hr
theorem mkBytes (n : Nat) (hn : n ≤ 100000000000000) (w : World) : (Instr.makeSlice 26 (.int .i64 (n : Int)) (.int .i64 (n : Int))).run Tryz.prog w = .ok (.slice (some ⟨w.heap.size, 0, none⟩) n n) (w.alloc (.cells (List.replicate n (Value.int .u8 0)).toArray 5)) := by
  obtain ⟨i0, hi, hz0, hz1, hz2⟩ := info_parts infoB
  have h := run_make_rowN 26 5 i0 (.int .u8 0) Tryz.underlying26 hi hz0 .i64 .i64 n n (Nat.le_refl _) (by rw [hz2]; omega) (by omega) w
  rw [h, hz1, Nat.mul_one]
  have e : madeCells (Value.int .u8 0).cells n = (List.replicate n (Value.int .u8 0)).toArray := by
    rw [← toList_madeCells_one]; rfl
  rw [e]
/-- Concat's loops, for one list. -/
def Cc1 (n : Nat) (tv iv : Value) (w wr : World) : Prop := w = wr ∧ ((iv = .int .i64 0 ∧ tv = .int .i64 0) ∨ (iv = .int .i64 1 ∧ tv = .int .i64 (n : Int)))
def Cc2 (m : List UInt8) (g : Nat) (w : World) (tv iv : Value) (wr : World) : Prop :=
  Below w.heap.size w wr ∧ ((iv = .int .i64 0 ∧ tv = .int .i64 0 ∧ wr.heap[g]? = some (.cells (List.replicate m.length (Value.int .u8 0)).toArray 5 (0, 0))) ∨
    (iv = .int .i64 1 ∧ tv = .int .i64 (m.length : Int) ∧ wr.heap[g]? = some (.cells (byteVals m).toArray 5 (0, 0))))
theorem concat_any (x : Value) (m : List UInt8) (gp : Nat) (w : World) (C : Nat) (hC : C ≤ w.heap.size) (hx : RdL byteS w C x m) (hp : w.cell? ⟨gp, 0, none⟩ = some x) (hm : m.length ≤ 10000000000) :
    Calls Tryz.prog 57 #[.slice (some ⟨gp, 0, none⟩) 1 1] w fun e w' => ∃ v, e = .returned v ∧ OwnB w' w.heap.size v m ∧ Below w.heap.size w w' := by
  obtain ⟨A, cap, rfl, h1, h2⟩ := hx.open_
  have hgp : gp < w.heap.size := World.block_lt_of_cell? w ⟨gp, 0, none⟩ hp
  unfold maxLen at h2
  have HX := Lib.hid hx; clear hx
  have HSZ := Lib.hid (show (Tryz.prog.info? 5).map (·.size) = some 1 from by kernel_rfl)
  have hmk := fun (W : World) => mkBytes m.length (by omega) W
  go_enter Tryz.func57, Tryz.ntmps57
  go_wp2
  go_loopw [3, 12] (fun tv iv wr => Cc1 m.length tv iv w wr) (fun _ iv _ => 1 - (intOf iv).toNat)
  case atStart => exact ⟨rfl, .inl ⟨rfl, rfl⟩⟩
  case round =>
    obtain ⟨rfl, ⟨rfl, rfl⟩ | ⟨rfl, rfl⟩⟩ := hrel
    · go_wp2
      go_roundw
      case rel => exact ⟨rfl, .inr ⟨rfl, rfl⟩⟩
      case measure => simp [intOf]
    · go_wp2
      go_loopw [7, 25] (fun tv iv wr => Cc2 m w.heap.size w tv iv wr) (fun _ iv _ => 1 - (intOf iv).toNat)
      case atStart => exact ⟨(Below.refl _ _).alloc (Nat.le_refl _) _, .inl ⟨rfl, rfl, heap_alloc_new w _⟩⟩
      case round =>
        obtain ⟨hb, ⟨rfl, rfl, hg⟩ | ⟨rfl, rfl, hg⟩⟩ := hrel
        · have cp := (hb.cell (p := ⟨gp, 0, none⟩) hgp).trans hp
          have HB := Lib.hid hb
          have HG := Lib.hid hg
          have HXr := Lib.hid (HX.out.belowW hC hb)
          have HMIN : Hid ((byteVals m).length = Nat.min m.length m.length) := Lib.hid (by rw [byteVals_length]; exact (Nat.min_self _).symm)
          have HPOS : Hid (0 < (byteVals m).length → ∃ ad, A = some ad ∧ ∀ j v, (byteVals m)[j]? = some v → wr.cell? (ad.add j) = some v) := Lib.hid (fun h0 => by
            rw [byteVals_length] at h0
            obtain ⟨A', cap', e, _, _, h3, _⟩ := HXr.out
            injection e with e1 e2 e3
            subst e1
            obtain ⟨ad, e4, _, hc⟩ := h3 h0
            exact ⟨ad, e4, fun j v hv => hc j v (by rw [cells_byte]; exact hv)⟩)
          have HONE : Hid (∀ v ∈ byteVals m, v.oneCell' = true) := Lib.hid (fun v hv => by
            obtain ⟨b, _, rfl⟩ := List.mem_map.1 hv
            rfl)
          have HFIT : Hid (0 + (byteVals m).length ≤ (List.replicate m.length (Value.int .u8 0)).length) := Lib.hid (by rw [byteVals_length, List.length_replicate]; omega)
          clear hb hg
          have HSP : Hid (splice (List.replicate m.length (Value.int .u8 0)) 0 (byteVals m) = byteVals m) := Lib.hid (by
            unfold splice
            rw [List.take_zero, List.nil_append, Nat.zero_add, byteVals_length, List.drop_eq_nil_of_le (by rw [List.length_replicate]; exact Nat.le_refl _), List.append_nil])
          have HBL : Hid ((byteVals m).length = m.length) := Lib.hid (byteVals_length m)
          · go_wp2_with (refine wpList_copy_splice rfl _ _ 26 26 rfl 5 Tryz.underlying26 HSZ.out _ A _ _ m.length cap rfl rfl w.heap.size 0 (List.replicate m.length (Value.int .u8 0)) 5 HG.out (byteVals m) HMIN.out (fun h0 => And.intro rfl (HPOS.out h0)) HFIT.out HONE.out w.heap.size w HB.out (Nat.le_refl _) ?_; intro w' hg' hb'; rw [HBL.out]; rw [HSP.out] at hg'; have HG' := Lib.hid hg'; clear hg')
            go_roundw
            case rel => exact ⟨hb', .inr ⟨by go_num, by simp, HG'.out.out⟩⟩
            case measure => simp [intOf]
        · go_wp2
          go_ret
          refine ⟨_, rfl, ⟨by rw [byteVals_length]; simp, .inr ⟨w.heap.size, m.length, _, rfl, Nat.le_refl _, hg, Nat.le_refl _, by unfold maxLen; omega, by simp [byteVals_length], ?_⟩⟩, hb⟩
          rw [List.take_of_length_le (by simp [byteVals_length])]
end Go.Proofs.YtmdpfikalekmlaaGreatDoor
