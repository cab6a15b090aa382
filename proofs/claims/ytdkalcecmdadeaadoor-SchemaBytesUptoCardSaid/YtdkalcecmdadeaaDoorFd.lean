/- Fields of a schema; the walk of schema.Find. -/
import Derived.Test.YtdkalcecmdadeaaDoorRd
namespace Go.Proofs.YtdkalcecmdadeaaDoor
open Go.RowKit
set_option maxRecDepth 100000
set_option maxHeartbeats 1000000
set_option linter.unusedSimpArgs false

structure Fd where
  name : ByteArray
  kind : Int
  fold : Bool
  stop : Bool
  stem : Bool
def Fd.val (f : Fd) : Value := .agg #[.string f.name, .int .i64 f.kind, .bool f.fold, .bool f.stop, .bool f.stem]
def fdS : Shape Fd := { tS := 22, tE := 34, size := 5, bytes := 32, enc := fun x => [.string x.name, .int .i64 x.kind, .bool x.fold, .bool x.stop, .bool x.stem], zero := .agg #[.string ⟨#[]⟩, .int .i64 0, .bool false, .bool false, .bool false] }
theorem fdOk : fdS.Ok where
  under := Tryd.underlying22
  info := by kernel_rfl
  zs := rfl
  pos := by decide
  len := fun _ => rfl
  one := fun x u hu => by
    simp only [fdS, List.mem_cons, List.not_mem_nil, or_false] at hu
    rcases hu with rfl | rfl | rfl | rfl | rfl <;> rfl
  small := by decide
theorem at_fd {w : World} {B : Nat} {A : Option Addr} {n cap : Nat} {l : List Fd} (h : RdL fdS w B (.slice A n cap) l) {k : Nat} (hk : k < l.length) :
    ∃ a, A = some a ∧ (a.add (k * 5)).block < B ∧ w.cell? (a.add (k * 5)) = some (.string l[k].name) ∧ w.cell? ⟨(a.add (k * 5)).block, (a.add (k * 5)).off + 1, none⟩ = some (.int .i64 l[k].kind) ∧ w.cell? ⟨(a.add (k * 5)).block, (a.add (k * 5)).off + 2, none⟩ = some (.bool l[k].fold) ∧ w.cell? ⟨(a.add (k * 5)).block, (a.add (k * 5)).off + 3, none⟩ = some (.bool l[k].stop) ∧ w.cell? ⟨(a.add (k * 5)).block, (a.add (k * 5)).off + 4, none⟩ = some (.bool l[k].stem) := by
  obtain ⟨a, rfl, hb, h0, h⟩ := h.at2 fdOk hk
  exact ⟨a, rfl, hb, h0 _ rfl, h 0 _ (by decide) rfl, h 1 _ (by decide) rfl, h 2 _ (by decide) rfl, h 3 _ (by decide) rfl⟩

def nameIs (f : Fd) (nm : ByteArray) : Bool := f.name.toList == nm.toList
def findTo (l : List Fd) (nm : ByteArray) : Option Nat := l.findIdx? (fun f => nameIs f nm)
theorem findTo_at {l : List Fd} {nm : ByteArray} {k : Nat} (hk : k < l.length) (hp : ∀ i (hi : i < l.length), i < k → nameIs l[i] nm = false) (h : nameIs l[k] nm = true) : findTo l nm = some k := by
  unfold findTo
  rw [List.findIdx?_eq_some_iff_getElem]
  exact ⟨hk, h, fun j hj => by rw [hp j (by omega) hj]; decide⟩
theorem findTo_none {l : List Fd} {nm : ByteArray} (hp : ∀ i (hi : i < l.length), i < l.length → nameIs l[i] nm = false) : findTo l nm = none := by
  unfold findTo
  rw [List.findIdx?_eq_none_iff]
  intro x hx
  obtain ⟨i, hi, rfl⟩ := List.getElem_of_mem hx
  exact hp i hi hi
def FindRet (l : List Fd) (nm : ByteArray) (w : World) (e : Ending) (w' : World) : Prop :=
  e = .returned (.tuple #[.int .i64 ((findTo l nm).getD 0 : Nat), .bool (findTo l nm).isSome]) ∧ Below w.heap.size w w'
theorem findRet_some {l : List Fd} {nm : ByteArray} {w w' : World} {k : Nat} (h : findTo l nm = some k) (hb : Below w.heap.size w w') : FindRet l nm w (.returned (.tuple #[.int .i64 (k : Int), .bool true])) w' := by
  unfold FindRet; rw [h]; exact ⟨rfl, hb⟩
theorem findRet_none {l : List Fd} {nm : ByteArray} {w w' : World} (h : findTo l nm = none) (hb : Below w.heap.size w w') : FindRet l nm w (.returned (.tuple #[.int .i64 0, .bool false])) w' := by
  unfold FindRet; rw [h]; exact ⟨rfl, hb⟩
def FindRel (l : List Fd) (nm : ByteArray) (w : World) (iv : Value) (wr : World) : Prop :=
  ∃ k : Nat, k ≤ l.length ∧ iv = .int .i64 (k : Int) ∧ (∀ i (hi : i < l.length), i < k → nameIs l[i] nm = false) ∧ Below w.heap.size w wr
theorem find_any (fs : Value) (l : List Fd) (nm : ByteArray) (w : World) (B : Nat) (hB : B ≤ w.heap.size) (h : RdL fdS w B fs l) :
    Calls Tryd.prog 13 #[.agg #[fs], .string nm] w (FindRet l nm w) := by
  obtain ⟨A, cap, rfl, hc, hc2⟩ := h.open_
  unfold maxLen at hc2
  have H := Lib.hid h; clear h
  go_enter Tryd.func13, Tryd.ntmps13
  go_wp2
  go_loopw [11] (fun iv wr => FindRel l nm w iv wr) (fun iv _ => l.length - (intOf iv).toNat)
  case atStart => exact ⟨0, by omega, rfl, fun _ _ h => by omega, (Below.refl _ _).alloc (Nat.le_refl _) _⟩
  case round =>
    obtain ⟨k, hk, rfl, hp, hb⟩ := hrel
    have hsz : w.heap.size ≤ wr.heap.size := hb.size
    have HR := Lib.hid (H.out.belowW hB hb)
    have HB := Lib.hid hb
    have HP := Lib.hid hp
    clear hb hp
    by_cases hlt : k < l.length
    · obtain ⟨a, rfl, hab, c0, c1, c2, c3, c4⟩ := at_fd HR.out hlt
      have hz : (a.add (k * 5)).block < wr.heap.size := by omega
      by_cases hx : nameIs l[k] nm = true
      · have hx2 : (l[k].name.toList == nm.toList) = true := hx
        have HN := Lib.hid (findTo_at hlt HP.out hx)
        clear hx
        go_wp2
        go_ret2
        exact findRet_some HN.out (HB.out.alloc hsz _)
      · have hx1 : nameIs l[k] nm = false := by simpa using hx
        have hx2 : (l[k].name.toList == nm.toList) = false := hx1
        have HN : Hid (∀ i (hi : i < l.length), i < k + 1 → nameIs l[i] nm = false) := Lib.hid (fun i hi hik => by
          rcases Nat.lt_or_ge i k with g | g
          · exact HP.out i hi g
          · obtain rfl : i = k := by omega
            exact hx1)
        clear hx hx1
        go_wp2
        go_roundw
        case rel => exact ⟨k + 1, by omega, by go_num, HN.out, HB.out.alloc hsz _⟩
        case measure => simp [intOf]; omega
    · have HN := Lib.hid (findTo_none (l := l) (nm := nm) (fun i hi _ => HP.out i hi (by omega)))
      go_wp2
      go_ret2
      exact findRet_none HN.out HB.out
theorem rfind_any (fs : Value) (l : List Fd) (nm : ByteArray) (w : World) (B : Nat) (hB : B ≤ w.heap.size) (h : RdL fdS w B fs l) :
    Calls Tryd.prog 14 #[.agg #[fs], .string nm] w (FindRet l nm w) := by
  obtain ⟨A, cap, rfl, hc, hc2⟩ := h.open_
  unfold maxLen at hc2
  have H := Lib.hid h; clear h
  go_enter Tryd.func14, Tryd.ntmps14
  go_wp2
  go_loopw [11] (fun iv wr => FindRel l nm w iv wr) (fun iv _ => l.length - (intOf iv).toNat)
  case atStart => exact ⟨0, by omega, rfl, fun _ _ h => by omega, (Below.refl _ _).alloc (Nat.le_refl _) _⟩
  case round =>
    obtain ⟨k, hk, rfl, hp, hb⟩ := hrel
    have hsz : w.heap.size ≤ wr.heap.size := hb.size
    have HR := Lib.hid (H.out.belowW hB hb)
    have HB := Lib.hid hb
    have HP := Lib.hid hp
    clear hb hp
    by_cases hlt : k < l.length
    · obtain ⟨a, rfl, hab, c0, c1, c2, c3, c4⟩ := at_fd HR.out hlt
      have hz : (a.add (k * 5)).block < wr.heap.size := by omega
      by_cases hx : nameIs l[k] nm = true
      · have hx2 : (l[k].name.toList == nm.toList) = true := hx
        have HN := Lib.hid (findTo_at hlt HP.out hx)
        clear hx
        go_wp2
        go_ret2
        exact findRet_some HN.out (HB.out.alloc hsz _)
      · have hx1 : nameIs l[k] nm = false := by simpa using hx
        have hx2 : (l[k].name.toList == nm.toList) = false := hx1
        have HN : Hid (∀ i (hi : i < l.length), i < k + 1 → nameIs l[i] nm = false) := Lib.hid (fun i hi hik => by
          rcases Nat.lt_or_ge i k with g | g
          · exact HP.out i hi g
          · obtain rfl : i = k := by omega
            exact hx1)
        clear hx hx1
        go_wp2
        go_roundw
        case rel => exact ⟨k + 1, by omega, by go_num, HN.out, HB.out.alloc hsz _⟩
        case measure => simp [intOf]; omega
    · have HN := Lib.hid (findTo_none (l := l) (nm := nm) (fun i hi _ => HP.out i hi (by omega)))
      go_wp2
      go_ret2
      exact findRet_none HN.out HB.out
end Go.Proofs.YtdkalcecmdadeaaDoor
