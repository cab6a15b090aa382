/- Layer 20: Name, and the law of names. -/
import Derived.Test.YtmdpfikalekmlaaDoorLe
import Derived.Test.YtmdpfikalekmlaaDoorIr
namespace Go.Proofs.YtmdpfikalekmlaaDoor
open Go.RowKit
set_option maxRecDepth 100000
set_option maxHeartbeats 1000000
set_option linter.unusedSimpArgs false
set_option linter.unusedVariables false

theorem isaNames_env {W : World} (h : laidMetH Tryd.prog Rows.isaNamesUptoRow.laid W) : IsaEnvF W := by
  have h0 : laidMet Tryd.prog Rows.isaNamesUptoRow.laid W := h
  obtain ⟨ea, hE⟩ := errFew_of h0 (by rfl)
  exact ⟨ea, hE, isaTab_of h0 (by rfl), pow10_of h0 (by rfl)⟩
theorem name_any (op : Int) (w : World) (hT : TabEnv w) :
    Calls Tryd.prog 21 #[.int .i64 op] w fun e w' => w = w' ∧ e = .returned (match argsN op with | none => .tuple #[.string ⟨#[]⟩, .bool false] | some n => .tuple #[.string (str (opName op.toNat)), .bool true]) := by
  cases h : argsN op with
  | none =>
    have h2 := argsN_none h
    clear h
    by_cases hn : op < 0
    · go_enter Tryd.func21, Tryd.ntmps21
      go_wp2
      go_ret2
      exact ⟨rfl, rfl⟩
    · have h17 : 17 ≤ op := by omega
      go_enter Tryd.func21, Tryd.ntmps21
      go_wp2
      go_ret2
      exact ⟨rfl, rfl⟩
  | some n =>
    obtain ⟨h0, h1, h2, h3⟩ := argsN_some h
    obtain ⟨o, rfl⟩ : ∃ o : Nat, op = (o : Int) := ⟨op.toNat, by omega⟩
    have c1 : w.cell? ⟨16, o * 2, none⟩ = some (.string (str (opName o))) := by rw [Nat.mul_comm]; exact hT.name o (by omega)
    have hlt := hT.lt
    rw [show ((o : Int)).toNat = o from rfl]
    generalize str (opName o) = sn at *
    clear h h2 hT
    go_enter Tryd.func21, Tryd.ntmps21
    go_wp2
    go_ret2
    exact ⟨rfl, rfl⟩
theorem rname_any (op : Int) (w : World) :
    Calls Tryd.prog 22 #[.int .i64 op] w fun e w' => Below w.heap.size w w' ∧ e = .returned (match argsN op with | none => .tuple #[.string ⟨#[]⟩, .bool false] | some n => .tuple #[.string (str (opName op.toNat)), .bool true]) := by
  have hb : Below w.heap.size w (w.alloc (.cells refCells 110)) := (Below.refl _ _).alloc (Nat.le_refl _) _
  have HB := Lib.hid hb
  clear hb
  cases h : argsN op with
  | none =>
    have h2 := argsN_none h
    clear h
    by_cases hn : op < 0
    · go_enter Tryd.func22, Tryd.ntmps22
      go_wp2_with fail
      refine (rtable_any w).mono ?_
      rintro e w1 ⟨rfl, hw1⟩
      have HB1 : Hid (Below w.heap.size w w1) := Lib.hid (by rw [hw1]; exact HB.out)
      clear hw1
      go_wp2
      go_ret2
      exact ⟨HB1.out, rfl⟩
    · have h17 : 17 ≤ op := by omega
      go_enter Tryd.func22, Tryd.ntmps22
      go_wp2_with fail
      refine (rtable_any w).mono ?_
      rintro e w1 ⟨rfl, hw1⟩
      have HB1 : Hid (Below w.heap.size w w1) := Lib.hid (by rw [hw1]; exact HB.out)
      clear hw1
      go_wp2
      go_ret2
      exact ⟨HB1.out, rfl⟩
  | some n =>
    obtain ⟨h0, h1, h2, h3⟩ := argsN_some h
    obtain ⟨o, rfl⟩ : ∃ o : Nat, op = (o : Int) := ⟨op.toNat, by omega⟩
    have HN := Lib.hid (show refCells[o * 2]? = some (.string (str (opName o))) from (refCells_get o (by omega)).1)
    rw [show ((o : Int)).toNat = o from rfl]
    generalize str (opName o) = sn at *
    clear h h2
    go_enter Tryd.func22, Tryd.ntmps22
    go_wp2_with fail
    refine (rtable_any w).mono ?_
    rintro e w1 ⟨rfl, hw1⟩
    have HB1 : Hid (Below w.heap.size w w1) := Lib.hid (by rw [hw1]; exact HB.out)
    have c1 : w1.cell? ⟨w.heap.size, o * 2, none⟩ = some (.string sn) := by rw [hw1, World.cell?_alloc_new]; exact HN.out
    clear hw1
    go_wp2
    go_ret2
    exact ⟨HB1.out, rfl⟩
theorem str_ne_beq {a b : ByteArray} (h : a ≠ b) : (a.toList == b.toList) = false := by
  rw [beq_eq_false_iff_ne]
  intro e
  rw [ByteArray.toList_eq, ByteArray.toList_eq] at e
  apply h
  obtain ⟨⟨a⟩⟩ := a
  obtain ⟨⟨b⟩⟩ := b
  simpa using e
def nmCells : Array Value := #[.int .i64 0, .int .i64 1, .int .i64 2, .int .i64 3, .int .i64 4, .int .i64 5, .int .i64 6, .int .i64 7, .int .i64 8, .int .i64 9, .int .i64 10, .int .i64 11, .int .i64 12, .int .i64 13, .int .i64 14, .int .i64 15, .int .i64 16]
theorem nmCells_get (i : Nat) (h : i < 17) : nmCells[i]? = some (.int .i64 (i : Int)) := by
  match i, h with
  | 0, _ | 1, _ | 2, _ | 3, _ | 4, _ | 5, _ | 6, _ | 7, _ | 8, _ | 9, _ | 10, _ | 11, _ | 12, _ | 13, _ | 14, _ | 15, _ | 16, _ => rfl
  | n + 17, h => exact absurd h (by omega)
theorem names_core (w : World) (op : Int) (sa : ByteArray) (ba : Bool) (na : Int) (ea : List Addr) (hE : ErrFew w ea) (hT : TabEnv w) (hP : Pow10 w)
    (h1 : ∀ W, TabEnv W → Calls Tryd.prog 21 #[.int .i64 op] W fun e W' => W = W' ∧ e = .returned (.tuple #[.string sa, .bool ba]))
    (h2 : ∀ W, Calls Tryd.prog 22 #[.int .i64 op] W fun e W' => Below W.heap.size W W' ∧ e = .returned (.tuple #[.string sa, .bool ba]))
    (h3 : ∀ W, TabEnv W → Calls Tryd.prog 23 #[.int .i64 op] W fun e W' => W = W' ∧ e = .returned (.tuple #[.int .i64 na, .bool ba]))
    (h4 : ∀ W, Calls Tryd.prog 24 #[.int .i64 op] W fun e W' => Below W.heap.size W W' ∧ e = .returned (.tuple #[.int .i64 na, .bool ba]))
    (hne : ∀ i : Nat, i < 17 → (i : Int) ≠ op → str (opName i) ≠ sa) :
    Calls Tryd.prog 8 #[.int .i64 op] w fun e w' => e = .returned (.bool true) ∧ Below w.heap.size w w' := by
  have HE := Lib.hid hE; have HT := Lib.hid hT; have HP := Lib.hid hP
  have K1 := Lib.hid h1; have K2 := Lib.hid h2; have K3 := Lib.hid h3; have K4 := Lib.hid h4; have HNE := Lib.hid hne
  clear hE hT hP h1 h2 h3 h4 hne
  go_enter Tryd.func8, Tryd.ntmps8
  go_wp2_with fail
  refine (lives_any _ ea HE.out HT.out HP.out).mono ?_
  rintro e w1 ⟨rfl, hb1⟩
  have HB1 := Lib.hid hb1
  clear hb1
  go_wp2_with fail
  refine (K1.out w1 (HT.out.below HB1.out)).mono ?_
  rintro e w1a ⟨rfl, rfl⟩
  go_wp2_with fail
  refine (K2.out w1).mono ?_
  rintro e w2 ⟨hb2, rfl⟩
  have HB2 := Lib.hid (HB1.out.trans (hb2.mono HB1.out.size))
  clear hb2
  go_wp2_with fail
  refine (K3.out w2 (HT.out.below HB2.out)).mono ?_
  rintro e w2a ⟨rfl, rfl⟩
  go_wp2_with fail
  refine (K4.out w2).mono ?_
  rintro e w3 ⟨hb3, rfl⟩
  have HB3 := Lib.hid (HB2.out.trans (hb3.mono HB2.out.size))
  clear hb3
  go_wp2
  go_loopw [55] (fun iv wr => ∃ k : Nat, k ≤ 17 ∧ iv = .int .i64 (k : Int) ∧ Below w3.heap.size w3 wr ∧ (∀ j, j < 17 → wr.cell? ⟨w3.heap.size, j, none⟩ = some (.int .i64 (j : Int))) ∧ w3.heap.size < wr.heap.size) (fun iv _ => 17 - (intOf iv).toNat)
  case atStart =>
    refine ⟨0, by omega, rfl, (Below.refl _ _).alloc (Nat.le_refl _) _, fun j hj => ?_, by rw [World.size_alloc]; omega⟩
    rw [World.cell?_alloc_new]
    exact nmCells_get j hj
  case round =>
    obtain ⟨k, hk, rfl, hbl, hcs, hz⟩ := hrel
    have HBL := Lib.hid hbl; have HCS := Lib.hid hcs
    clear hbl hcs
    by_cases hlt : k < 17
    · have c0 := HCS.out k hlt
      have hnm : argsN (k : Int) = some (opArgs k).toNat := by unfold argsN; rw [if_pos ⟨by omega, by omega⟩]; rfl
      have HNM := Lib.hid hnm
      clear hnm
      by_cases hko : (k : Int) = op
      · have hkb : ((k : Int) != op) = false := by rw [hko]; simp
        clear hko
        go_wp2_with fail
        refine (name_any k wr (HT.out.below (HB3.out.trans (HBL.out.mono HB3.out.size)))).mono ?_
        rintro e w4 ⟨rfl, hx⟩
        rw [HNM.out] at hx
        subst hx
        go_wp2
        go_roundw
        case rel => exact ⟨k + 1, by omega, by go_num, HBL.out, HCS.out, hz⟩
        case measure => simp [intOf]; omega
      · have hq := str_ne_beq (HNE.out k hlt hko)
        generalize hsn : str (opName k) = sn at *
        have HSN := Lib.hid hsn
        have hkb : ((k : Int) != op) = true := by simpa using hko
        clear hsn hko
        go_wp2_with fail
        refine (name_any k wr (HT.out.below (HB3.out.trans (HBL.out.mono HB3.out.size)))).mono ?_
        rintro e w4 ⟨rfl, hx⟩
        rw [HNM.out] at hx
        simp only [Int.toNat_natCast] at hx
        rw [HSN.out] at hx
        subst hx
        go_wp2
        go_roundw
        case rel => exact ⟨k + 1, by omega, by go_num, HBL.out, HCS.out, hz⟩
        case measure => simp [intOf]; omega
    · go_wp2
      go_ret
      exact ⟨rfl, HB3.out.trans (HBL.out.mono HB3.out.size)⟩
theorem str_inj {a b : List UInt8} (e : str a = str b) : a = b := by
  have := congrArg (fun s : ByteArray => s.data.toList) e
  simpa [str] using this
theorem isaNames_walk (w : World) (op : Int) (hE : IsaEnvF w) :
    Calls Tryd.prog 8 #[.int .i64 op] w fun e w' => e = .returned (.bool true) ∧ Below w.heap.size w w' := by
  obtain ⟨ea, hE, hT, hP⟩ := hE
  have hall : ∀ i, i < 17 → ∀ j, j < 17 → opName i = opName j → i = j := by decide
  have hnn : ∀ i, i < 17 → opName i ≠ [] := by decide
  cases h : argsN op with
  | none =>
    refine names_core w op ⟨#[]⟩ false 0 ea hE hT hP (fun W hW => (name_any op W hW).mono ?_) (fun W => (rname_any op W).mono ?_) (fun W hW => (args_any op W hW).mono ?_) (fun W => (rargs_any op W).mono ?_) (fun i hi hio e => hnn i hi (str_inj (b := []) e))
    all_goals
      rintro e W' ⟨hx, he⟩
      rw [h] at he
      exact ⟨hx, he⟩
  | some n =>
    have hn := argsN_some h
    refine names_core w op (str (opName op.toNat)) true n ea hE hT hP (fun W hW => (name_any op W hW).mono ?_) (fun W => (rname_any op W).mono ?_) (fun W hW => (args_any op W hW).mono ?_) (fun W => (rargs_any op W).mono ?_) (fun i hi hio e => by have := hall i hi op.toNat (by omega) (str_inj e); omega)
    all_goals
      rintro e W' ⟨hx, he⟩
      rw [h] at he
      exact ⟨hx, he⟩
end Go.Proofs.YtmdpfikalekmlaaDoor
