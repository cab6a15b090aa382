/- Layer 4: the walk of the reference's Check. -/
import Derived.Test.YtdkalcecmdadeaaDoorChk
namespace Go.Proofs.YtdkalcecmdadeaaDoor
open Go.RowKit
set_option maxRecDepth 100000
set_option maxHeartbeats 1000000
set_option linter.unusedSimpArgs false
set_option linter.unusedVariables false

def RckRet (l : List Fd) (w : World) (e : Ending) (w' : World) : Prop := e = .returned (.int .i64 (if chkL l then 0 else 11)) ∧ Below w.heap.size w w'
theorem rckRet_bad {l : List Fd} {w w' : World} (h : chkL l = false) (hb : Below w.heap.size w w') : RckRet l w (.returned (.int .i64 11)) w' := by
  unfold RckRet; rw [h]; exact ⟨rfl, hb⟩
theorem rckRet_good {l : List Fd} {w w' : World} (h : chkL l = true) (hb : Below w.heap.size w w') : RckRet l w (.returned (.int .i64 0)) w' := by
  unfold RckRet; rw [h]; exact ⟨rfl, hb⟩
def RckRel (l : List Fd) (A : Option Addr) (cap : Nat) (w : World) (iv : Value) (wr : World) : Prop :=
  ∃ k : Nat, k ≤ l.length ∧ iv = .int .i64 (k : Int) ∧ (∀ i, i < k → okAt l i = true) ∧ wr.cell? ⟨w.heap.size, 0, none⟩ = some (.slice A l.length cap) ∧ Below w.heap.size w wr
def RdupRel (l : List Fd) (k : Nat) (f : Fd) (wr : World) (iv : Value) (wx : World) : Prop :=
  ∃ j : Nat, j ≤ k ∧ iv = .int .i64 (j : Int) ∧ (l.take j).any (sameNm f.name.data.toList) = false ∧ Below wr.heap.size wr wx ∧ wx.cell? ⟨wr.heap.size, 0, none⟩ = some (.string f.name)
theorem kind_bad {f : Fd} (h : goodKindF f = false) : f.kind < 1 ∨ 3 < f.kind ∨ ((f.kind = 2 ∨ f.kind = 3) ∧ (f.fold = true ∨ (f.fold = false ∧ f.stop = true) ∨ (f.fold = false ∧ f.stop = false ∧ f.stem = true))) := by
  obtain ⟨n, k, a, b, c⟩ := f
  by_cases g1 : k < 1
  · exact .inl g1
  · by_cases g2 : 3 < k
    · exact .inr (.inl g2)
    · have g3 : k = 1 ∨ k = 2 ∨ k = 3 := by omega
      rcases g3 with rfl | rfl | rfl <;> cases a <;> cases b <;> cases c <;> simp_all [goodKindF]
theorem toList_beq (a b : ByteArray) : (a.toList == b.toList) = decide (a.data.toList = b.data.toList) := by
  rw [ba_toList, ba_toList]
  rw [Bool.eq_iff_iff]; simp
theorem rcheck_any (fs : Value) (l : List Fd) (w : World) (B : Nat) (hB : B ≤ w.heap.size) (h : RdL fdS w B fs l) :
    Calls Tryd.prog 12 #[.agg #[fs]] w (RckRet l w) := by
  obtain ⟨A, cap, rfl, hc, hc2⟩ := h.open_
  unfold maxLen at hc2
  have H := Lib.hid h; clear h
  by_cases h1 : 1 ≤ l.length
  · by_cases h2 : l.length ≤ 16
    · go_enter Tryd.func12, Tryd.ntmps12
      go_wp2
      go_loopw [20] (fun iv wr => RckRel l A cap w iv wr) (fun iv _ => l.length - (intOf iv).toNat)
      case atStart => exact ⟨0, by omega, rfl, fun _ h => by omega, by simp, (Below.refl _ _).alloc (Nat.le_refl _) _⟩
      case round =>
        obtain ⟨wo, rfl⟩ : ∃ wo : World, wo = wr := ⟨_, rfl⟩
        obtain ⟨k, hk, rfl, hp, hbox, hb⟩ := hrel
        have hsz : w.heap.size ≤ wo.heap.size := hb.size
        have hszb : w.heap.size < wo.heap.size := World.block_lt_of_cell? wo ⟨w.heap.size, 0, none⟩ hbox
        have HR := Lib.hid (H.out.belowW hB hb)
        have HB := Lib.hid hb
        have HP := Lib.hid hp
        clear hb hp
        by_cases hlt : k < l.length
        · obtain ⟨a, rfl, hab, c0, c1, c2, c3, c4⟩ := at_fd HR.out hlt
          have hza : (a.add (k * 5)).block < wo.heap.size := by omega
          have HOK := Lib.hid (okAt_eq hlt)
          by_cases hg : goodNameL l[k].name.data.toList = true
          · by_cases hq : goodKindF l[k] = true
            · have hq2 : (l[k].kind = 1) ∨ ((l[k].kind = 2 ∨ l[k].kind = 3) ∧ l[k].fold = false ∧ l[k].stop = false ∧ l[k].stem = false) := by
                simp only [goodKindF, Bool.or_eq_true, Bool.and_eq_true, decide_eq_true_eq, Bool.not_eq_true'] at hq
                rcases hq with h | ⟨h, ⟨a, b⟩, c⟩
                · exact .inl h
                · exact .inr ⟨h, a, b, c⟩
              have HG := Lib.hid hg; have HQ := Lib.hid hq
              clear hg hq
              rcases hq2 with hq2 | ⟨hq2 | hq2, q1, q2, q3⟩
              all_goals
                try rw [q1] at c2
                try rw [q2] at c3
                try rw [q3] at c4
                rw [hq2] at c1
                try clear q1 q2 q3
                clear hq2
                go_wp2_with fail
                refine (rgoodName_any l[k].name _).mono ?_
                rintro e wg ⟨rfl, rfl⟩
                rw [HG.out]
                go_wp2
                go_loopw [6] (fun iv wr => RdupRel l k l[k] wo iv wr) (fun iv _ => k - (intOf iv).toNat)
                case atStart => exact ⟨0, by omega, rfl, by simp, (Below.refl _ _).alloc (Nat.le_refl _) _, by simp⟩
                case round =>
                  obtain ⟨j, hj, rfl, hany, hbx, cnm⟩ := hrel
                  have hszx : wo.heap.size < wr.heap.size := World.block_lt_of_cell? wr ⟨wo.heap.size, 0, none⟩ cnm
                  have HRx := Lib.hid (HR.out.belowW (by omega) hbx)
                  have HBx := Lib.hid hbx
                  have HANY := Lib.hid hany
                  have hboxx : wr.cell? ⟨w.heap.size, 0, none⟩ = some (.slice (some a) l.length cap) := (hbx.cell (p := ⟨w.heap.size, 0, none⟩) hszb).trans hbox
                  clear hbx hany
                  by_cases hjk : j < k
                  · obtain ⟨a', ea', hab', d0, -⟩ := at_fd HRx.out (k := j) (by omega)
                    cases ea'
                    have hjl : j < l.length := by omega
                    have HTB := Lib.hid (toList_beq l[j].name l[k].name)
                    by_cases hsn : sameNm l[k].name.data.toList l[j] = true
                    · have hbq : (l[j].name.toList == l[k].name.toList) = true := by rw [HTB.out]; exact hsn
                      have HN := Lib.hid (chk_bad hlt (by
                        rw [HOK.out]
                        have : dupAt l k l[k] = true := by
                          unfold dupAt
                          rw [List.any_eq_true]
                          exact ⟨l[j], List.mem_take_iff_getElem.2 ⟨j, by omega, rfl⟩, hsn⟩
                        rw [this]; rfl))
                      clear hsn
                      go_wp2
                      go_region
                      go_wp2
                      go_ret
                      exact rckRet_bad HN.out ((HB.out.trans (HBx.out.mono hsz)).drew)
                    · have hsn' : sameNm l[k].name.data.toList l[j] = false := by simpa using hsn
                      have hbq : (l[j].name.toList == l[k].name.toList) = false := by rw [HTB.out]; exact hsn'
                      have HN := Lib.hid (show (l.take (j + 1)).any (sameNm l[k].name.data.toList) = false from by rw [any_take_succ hjl, HANY.out, hsn']; rfl)
                      clear hsn hsn'
                      go_wp2
                      go_region
                      go_wp2
                      go_roundw
                      case rel => exact ⟨j + 1, by omega, by go_num, HN.out, HBx.out.drew, cnm⟩
                      case measure => simp [intOf]; omega
                  · have hjk2 : k ≤ j := by omega
                    have HN : Hid (∀ i, i < k + 1 → okAt l i = true) := Lib.hid (fun i hi => by
                      rcases Nat.lt_or_ge i k with g | g
                      · exact HP.out i g
                      · obtain rfl : i = k := by omega
                        rw [HOK.out]
                        have : dupAt l i l[i] = false := by
                          unfold dupAt
                          have h := HANY.out
                          have e : j = i := by omega
                          rw [e] at h; exact h
                        rw [this, HG.out, HQ.out]; rfl)
                    go_wp2
                    go_roundw
                    case rel => exact ⟨k + 1, by omega, by go_num, HN.out, hboxx, HB.out.trans (HBx.out.mono hsz)⟩
                    case measure => simp [intOf]; omega
            · have hq' : goodKindF l[k] = false := by simpa using hq
              have HN := Lib.hid (chk_bad hlt (by rw [HOK.out, hg, hq']; simp))
              have HG := Lib.hid hg
              have hq2 : l[k].kind < 1 ∨ 3 < l[k].kind ∨ ((l[k].kind = 2 ∨ l[k].kind = 3) ∧ (l[k].fold = true ∨ (l[k].fold = false ∧ l[k].stop = true) ∨ (l[k].fold = false ∧ l[k].stop = false ∧ l[k].stem = true))) := kind_bad hq'
              clear hg hq hq'
              rcases hq2 with hq2 | hq2 | ⟨hq2 | hq2, q | ⟨q, q2⟩ | ⟨q, q2, q3⟩⟩
              all_goals
                try rw [q] at c2
                try rw [q2] at c3
                try rw [q3] at c4
                try rw [hq2] at c1
                try clear q q2 q3
                go_wp2_with fail
                refine (rgoodName_any l[k].name _).mono ?_
                rintro e wg ⟨rfl, rfl⟩
                rw [HG.out]
                go_wp2
                go_ret
                exact rckRet_bad HN.out (HB.out.alloc hsz _)
          · have hg' : goodNameL l[k].name.data.toList = false := by simpa using hg
            have HN := Lib.hid (chk_bad hlt (by rw [HOK.out, hg']; simp))
            have HG := Lib.hid hg'
            clear hg hg'
            go_wp2_with fail
            refine (rgoodName_any l[k].name _).mono ?_
            rintro e wg ⟨rfl, rfl⟩
            rw [HG.out]
            go_wp2
            go_ret
            exact rckRet_bad HN.out (HB.out.alloc hsz _)
        · have HN := Lib.hid (chk_good h1 h2 (fun i hi => HP.out i (by omega)))
          go_wp2
          go_ret
          exact rckRet_good HN.out HB.out
    · have HN := Lib.hid (show chkL l = false from by unfold chkL; rw [decide_eq_false h2, Bool.and_false, Bool.false_and])
      have h2' : 16 < l.length := by omega
      go_enter Tryd.func12, Tryd.ntmps12
      go_wp2
      go_ret
      exact rckRet_bad HN.out ((Below.refl _ _).alloc (Nat.le_refl _) _)
  · have HN := Lib.hid (show chkL l = false from by unfold chkL; rw [decide_eq_false h1, Bool.false_and, Bool.false_and])
    have h1' : l.length < 1 := by omega
    go_enter Tryd.func12, Tryd.ntmps12
    go_wp2
    go_ret
    exact rckRet_bad HN.out ((Below.refl _ _).alloc (Nat.le_refl _) _)
end Go.Proofs.YtdkalcecmdadeaaDoor
