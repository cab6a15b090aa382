/- Layer 4: the walk of the code's Check. -/
import Derived.Test.YtdkalcecmdadeaaDoorCk
import Derived.Laws.MakeOwn
namespace Go.Proofs.YtdkalcecmdadeaaDoor
open Go.RowKit
set_option maxRecDepth 100000
set_option maxHeartbeats 1000000
set_option linter.unusedSimpArgs false
set_option linter.unusedVariables false

theorem run_makeMap_hint {P : Program} (t k e : TypeId) (kd : IntKind) (n : Int) (ht : P.underlying t = some (.map k e)) (w : World) :
    (Instr.makeMap t (some (.int kd n))).run P w = .ok (.map (some w.heap.size)) (w.alloc (.map #[] 0)) := by
  simp [Instr.makeMap, run_underlying ht]; rfl
def sameNm (z : List UInt8) (g : Fd) : Bool := decide (g.name.data.toList = z)
def dupAt (l : List Fd) (k : Nat) (f : Fd) : Bool := (l.take k).any (sameNm f.name.data.toList)
def okAt (l : List Fd) (k : Nat) : Bool := match l[k]? with | none => true | some f => !dupAt l k f && goodNameL f.name.data.toList && goodKindF f
/-- Is the schema good? -/
def chkL (l : List Fd) : Bool := decide (1 ≤ l.length) && decide (l.length ≤ 16) && (List.range l.length).all (okAt l)
theorem okAt_eq {l : List Fd} {k : Nat} (hk : k < l.length) : okAt l k = (!dupAt l k l[k] && goodNameL l[k].name.data.toList && goodKindF l[k]) := by
  unfold okAt; rw [List.getElem?_eq_getElem hk]
theorem chk_bad {l : List Fd} {k : Nat} (hk : k < l.length) (h : okAt l k = false) : chkL l = false := by
  unfold chkL
  have : (List.range l.length).all (okAt l) = false := by
    rw [List.all_eq_false]
    exact ⟨k, List.mem_range.2 hk, by rw [h]; decide⟩
  rw [this, Bool.and_false]
theorem chk_good {l : List Fd} (h1 : 1 ≤ l.length) (h2 : l.length ≤ 16) (h : ∀ i, i < l.length → okAt l i = true) : chkL l = true := by
  unfold chkL
  rw [decide_eq_true h1, decide_eq_true h2, List.all_eq_true.2 (fun x hx => h x (List.mem_range.1 hx))]; rfl
def SmallNames (l : List Fd) : Prop := ∀ f ∈ l, f.name.size ≤ maxLen
/-- The variable ErrSchema. -/
structure SchEnv (w : World) (ea : List Addr) : Prop where
  c : w.cell? ⟨0, 0, none⟩ = some (errI ea 10)
theorem ErrEnv.sch {w : World} {ea : List Addr} (h : ErrEnv w ea) : SchEnv w ea := ⟨h.cell 10 (by omega)⟩
theorem SchEnv.below {w w' : World} {ea : List Addr} (h : SchEnv w ea) (hb : Below w.heap.size w w') : SchEnv w' ea :=
  ⟨(hb.cell (p := ⟨0, 0, none⟩) (World.block_lt_of_cell? w ⟨0, 0, none⟩ h.c)).trans h.c⟩
/-- Number 10 of the errors is ErrSchema. -/
def ChkRet (ea : List Addr) (l : List Fd) (w : World) (e : Ending) (w' : World) : Prop := e = .returned (if chkL l then .nilIface else errI ea 10) ∧ Below w.heap.size w w'
theorem chkRet_bad {ea : List Addr} {l : List Fd} {w w' : World} (h : chkL l = false) (hb : Below w.heap.size w w') : ChkRet ea l w (.returned (errI ea 10)) w' := by
  unfold ChkRet; rw [h]; exact ⟨rfl, hb⟩
theorem chkRet_good {ea : List Addr} {l : List Fd} {w w' : World} (h : chkL l = true) (hb : Below w.heap.size w w') : ChkRet ea l w (.returned .nilIface) w' := by
  unfold ChkRet; rw [h]; exact ⟨rfl, hb⟩
theorem cellN {w w' : World} {xs : Array Value} {t : TypeId} (hb : Below (w.alloc (.cells xs t)).heap.size (w.alloc (.cells xs t)) w') {j : Nat} {u : Value} (h : xs[j]? = some u) : w'.cell? ⟨w.heap.size, j, none⟩ = some u :=
  (hb.cell (p := ⟨w.heap.size, j, none⟩) (by rw [World.size_alloc]; exact Nat.lt_succ_self _)).trans (by rw [World.cell?_alloc_new]; exact h)
theorem lit_small (k : Nat) (h : k ≤ 1000000) : (Lit.int .i64 (k : Int)).wf = true := by
  have e1 : IntKind.i64.min = -9223372036854775808 := by decide
  have e2 : IntKind.i64.max = 9223372036854775807 := by decide
  simp only [Lit.wf, e1, e2, Bool.and_eq_true, decide_eq_true_eq]
  omega
def CkRel (l : List Fd) (w : World) (iv : Value) (wr : World) : Prop :=
  ∃ (k : Nat) (m : List UInt8 → Option Int), k ≤ l.length ∧ iv = .int .i64 (k : Int) ∧ (∀ i, i < k → okAt l i = true) ∧ MapSI wr (w.heap.size + 1) k m ∧ (∀ z, (m z).isSome = (l.take k).any (sameNm z)) ∧ Below w.heap.size w wr
theorem any_take_succ {l : List Fd} {k : Nat} (hk : k < l.length) (p : Fd → Bool) : (l.take (k + 1)).any p = ((l.take k).any p || p l[k]) := by
  rw [List.take_succ_eq_append_getElem hk, List.any_append]; simp
theorem below_grown {w wr w' : World} {b : Nat} (hb : Below w.heap.size w wr) (hg : wr.grownBy w' (some b)) (h : w.heap.size ≤ b) : Below w.heap.size w w' := by
  refine hb.grown hg hb.size (fun g e => by cases e; exact h)
theorem check_any (fs : Value) (l : List Fd) (ea : List Addr) (w : World) (B : Nat) (hB : B ≤ w.heap.size) (h : RdL fdS w B fs l) (hn : SmallNames l) (hE : SchEnv w ea) :
    Calls Tryd.prog 11 #[.agg #[fs]] w (ChkRet ea l w) := by
  obtain ⟨A, cap, rfl, hc, hc2⟩ := h.open_
  unfold maxLen at hc2
  have H := Lib.hid h; clear h
  have HE := Lib.hid hE; clear hE
  have HNM := Lib.hid hn; clear hn
  by_cases h1 : 1 ≤ l.length
  · by_cases h2 : l.length ≤ 16
    · have cs : w.cell? ⟨0, 0, none⟩ = some (errI ea 10) := HE.out.c
      have csz : 0 < w.heap.size := World.block_lt_of_cell? w ⟨0, 0, none⟩ cs
      have hmk := fun (W : World) => run_makeMap_hint (P := Tryd.prog) 62 9 3 .i64 (l.length : Int) Tryd.underlying62 W
      go_enter Tryd.func11, Tryd.ntmps11
      go_wp2
      go_loopw [26] (fun iv wr => CkRel l w iv wr) (fun iv _ => l.length - (intOf iv).toNat)
      case atStart => exact ⟨0, fun _ => none, by omega, rfl, fun _ h => by omega, by have h := MapSI.made (w.alloc (.cells #[.slice A l.length cap] 24)); rw [World.size_alloc] at h; exact h, fun z => by simp, ((Below.refl _ _).alloc (Nat.le_refl _) _).alloc (by rw [World.size_alloc]; omega) _⟩
      case round =>
        obtain ⟨k, m, hk, rfl, hp, hm, hz, hb⟩ := hrel
        have hsz : w.heap.size ≤ wr.heap.size := hb.size
        have hbl : w.heap.size + 1 < wr.heap.size := hm.lt
        have HR := Lib.hid (H.out.belowW hB hb)
        have HB := Lib.hid hb
        have HP := Lib.hid hp
        have HM := Lib.hid hm
        have HZ := Lib.hid hz
        have cs' : wr.cell? ⟨0, 0, none⟩ = some (errI ea 10) := (HE.out.below hb).c
        have csz' : 0 < wr.heap.size := by omega
        clear hb hp hm hz cs
        by_cases hlt : k < l.length
        · obtain ⟨a, rfl, hab, c0, c1, c2, c3, c4⟩ := at_fd HR.out hlt
          have hza : (a.add (k * 5)).block < wr.heap.size := by omega
          have hns : l[k].name.size ≤ maxLen := by exact HNM.out l[k] (List.getElem_mem hlt)
          have HNS := Lib.hid hns; clear hns
          have HOK := Lib.hid (okAt_eq hlt)
          have HD := Lib.hid (show (m l[k].name.data.toList).isSome = dupAt l k l[k] from HZ.out _)
          by_cases hd : dupAt l k l[k] = true
          · have HN := Lib.hid (chk_bad hlt (by rw [HOK.out, hd]; rfl))
            rw [hd] at HD
            clear hd
            go_wp2_with (at_lookup; refine (HM.out.below ((Below.refl _ _).alloc (Nat.le_refl _) _)).look rfl _ _ rfl l[k].name rfl rfl HNS.out ?_; rw [HD.out])
            go_ret
            exact chkRet_bad HN.out (HB.out.alloc hsz _)
          · have hd' : dupAt l k l[k] = false := by simpa using hd
            rw [hd'] at HD
            have HD' := Lib.hid hd'
            clear hd hd'
            by_cases hg : goodNameL l[k].name.data.toList = true
            · by_cases hq : goodKindF l[k] = true
              · have HN : Hid (∀ i, i < k + 1 → okAt l i = true) := Lib.hid (fun i hi => by
                  rcases Nat.lt_or_ge i k with g | g
                  · exact HP.out i g
                  · obtain rfl : i = k := by omega
                    rw [HOK.out, HD'.out, hg, hq]; rfl)
                have HG := Lib.hid hg; have HQ := Lib.hid hq
                clear hg hq
                go_wp2_with (at_lookup; refine (HM.out.below ((Below.refl _ _).alloc (Nat.le_refl _) _)).look rfl _ _ rfl l[k].name rfl rfl HNS.out ?_; rw [HD.out])
                refine (goodName_any l[k].name _).mono ?_
                rintro e wg ⟨rfl, rfl⟩
                rw [HG.out]
                go_wp2_with fail
                refine (goodKind_any l[k] _).mono ?_
                rintro e wg ⟨rfl, hbg⟩
                rw [HQ.out]
                have HM2 := Lib.hid ((HM.out.below ((Below.refl _ _).alloc (Nat.le_refl _) _)).below hbg)
                have HB2 := Lib.hid ((HB.out.alloc hsz _).trans (hbg.mono (by rw [World.size_alloc]; omega)))
                have e0 := cellN hbg (j := 0) rfl
                clear hbg
                have hkw : (Lit.int .i64 (k : Int)).wf = true := lit_small k (by omega)
                have HKW := Lib.hid hkw; clear hkw
                go_wp2_with (at_mapUpdate; refine HM2.out.store rfl _ _ _ rfl l[k].name (k : Int) rfl rfl rfl HNS.out (by unfold maxLen; omega) HKW.out ?_; intro w3 hm3 hg3)
                go_roundw
                case rel => exact ⟨k + 1, _, by omega, by go_num, HN.out, hm3, fun z => by
                  show (if z = l[k].name.data.toList then some (k : Int) else m z).isSome = _
                  rw [any_take_succ hlt, ← HZ.out z]
                  unfold sameNm
                  by_cases hzz : z = l[k].name.data.toList
                  · subst hzz; simp
                  · rw [if_neg hzz, decide_eq_false (fun e => hzz e.symm), Bool.or_false], below_grown HB2.out hg3 (by omega)⟩
                case measure => simp [intOf]; omega
              · have hq' : goodKindF l[k] = false := by simpa using hq
                have HN := Lib.hid (chk_bad hlt (by rw [HOK.out, hg, hq']; simp))
                have HG := Lib.hid hg; have HQ := Lib.hid hq'
                clear hg hq hq'
                go_wp2_with (at_lookup; refine (HM.out.below ((Below.refl _ _).alloc (Nat.le_refl _) _)).look rfl _ _ rfl l[k].name rfl rfl HNS.out ?_; rw [HD.out])
                refine (goodName_any l[k].name _).mono ?_
                rintro e wg ⟨rfl, rfl⟩
                rw [HG.out]
                go_wp2_with fail
                refine (goodKind_any l[k] _).mono ?_
                rintro e wg ⟨rfl, hbg⟩
                rw [HQ.out]
                have HB2 := Lib.hid ((HB.out.alloc hsz _).trans (hbg.mono (by rw [World.size_alloc]; omega)))
                have cs2 : wg.cell? ⟨0, 0, none⟩ = some (errI ea 10) := (hbg.cell (p := ⟨0, 0, none⟩) (by rw [World.size_alloc]; exact Nat.lt_succ_of_lt csz')).trans ((World.cell?_alloc_lt wr _ _ csz').trans cs')
                clear hbg
                go_wp2
                go_ret
                exact chkRet_bad HN.out HB2.out
            · have hg' : goodNameL l[k].name.data.toList = false := by simpa using hg
              have HN := Lib.hid (chk_bad hlt (by rw [HOK.out, hg']; simp))
              have HG := Lib.hid hg'
              clear hg hg'
              go_wp2_with (at_lookup; refine (HM.out.below ((Below.refl _ _).alloc (Nat.le_refl _) _)).look rfl _ _ rfl l[k].name rfl rfl HNS.out ?_; rw [HD.out])
              refine (goodName_any l[k].name _).mono ?_
              rintro e wg ⟨rfl, rfl⟩
              rw [HG.out]
              go_wp2
              go_ret
              exact chkRet_bad HN.out (HB.out.alloc hsz _)
        · have HN := Lib.hid (chk_good h1 h2 (fun i hi => HP.out i (by omega)))
          go_wp2
          go_ret
          exact chkRet_good HN.out HB.out
    · have HN := Lib.hid (show chkL l = false from by unfold chkL; rw [decide_eq_false h2, Bool.and_false, Bool.false_and])
      have h2' : 16 < l.length := by omega
      have cs : w.cell? ⟨0, 0, none⟩ = some (errI ea 10) := HE.out.c
      have csz : 0 < w.heap.size := World.block_lt_of_cell? w ⟨0, 0, none⟩ cs
      go_enter Tryd.func11, Tryd.ntmps11
      go_wp2
      go_ret
      exact chkRet_bad HN.out ((Below.refl _ _).alloc (Nat.le_refl _) _)
  · have HN := Lib.hid (show chkL l = false from by unfold chkL; rw [decide_eq_false h1, Bool.false_and, Bool.false_and])
    have h1' : l.length < 1 := by omega
    have cs : w.cell? ⟨0, 0, none⟩ = some (errI ea 10) := HE.out.c
    have csz : 0 < w.heap.size := World.block_lt_of_cell? w ⟨0, 0, none⟩ cs
    go_enter Tryd.func11, Tryd.ntmps11
    go_wp2
    go_ret
    exact chkRet_bad HN.out ((Below.refl _ _).alloc (Nat.le_refl _) _)
end Go.Proofs.YtdkalcecmdadeaaDoor
