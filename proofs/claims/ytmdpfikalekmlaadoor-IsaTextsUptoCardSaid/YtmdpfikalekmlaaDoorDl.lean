/- Layer 20, the document: listed. -/
import Derived.Test.YtmdpfikalekmlaaDoorDn
namespace Go.Proofs.YtmdpfikalekmlaaDoor
open Go.RowKit
set_option maxRecDepth 100000
set_option maxHeartbeats 4000000
set_option linter.unusedSimpArgs false
set_option linter.unusedVariables false

theorem rbelow_any (v : Value) (l : List Int) (w : World) (B : Nat) (h : RdL intS w B v l) :
    Calls Tryd.prog 63 #[v] w fun e w' => e = .returned (.bool (neg l)) ∧ w = w' := by
  obtain ⟨A, cap, rfl, hc, hm⟩ := h.open_
  unfold maxLen at hm
  have H := Lib.hid h
  clear h
  go_enter Tryd.func63, Tryd.ntmps63
  go_wp2
  go_loop [7] (fun iv => BlRel l iv) (fun iv => l.length - (intOf iv).toNat)
  case atStart => exact ⟨0, Nat.zero_le _, rfl, rfl⟩
  case round =>
    obtain ⟨k, hk, hn, rfl⟩ := hrel
    have HN := Lib.hid hn
    clear hn
    by_cases hlt : k < l.length
    · obtain ⟨a, rfl, hb, c0⟩ := at_int H.out hlt
      by_cases hx : l[k] < 0
      · have HQ := Lib.hid (show neg l = true from by
          unfold neg
          rw [List.any_eq_true]
          exact ⟨l[k], List.getElem_mem hlt, decide_eq_true hx⟩)
        generalize l[k] = x at *
        go_wp2
        go_ret
        exact ⟨congrArg (fun b => Ending.returned (.bool b)) HQ.out.symm, rfl⟩
      · have HQ := Lib.hid (show neg (l.take (k + 1)) = false from by rw [neg_take hlt, HN.out]; simp [hx])
        generalize l[k] = x at *
        go_wp2
        go_round
        case rel => exact ⟨k + 1, by omega, HQ.out, by go_num⟩
        case measure => simp [intOf]; omega
    · have HQ := Lib.hid (show neg l = false from by have h := HN.out; rwa [List.take_of_length_le (by omega)] at h)
      go_wp2
      go_ret
      exact ⟨congrArg (fun b => Ending.returned (.bool b)) HQ.out.symm, rfl⟩

theorem rlisted_any (x : PgV) (p : Pg) (w : World) (h : PgR w w.heap.size x p) (hs : SmallPg p) :
    Calls Tryd.prog 44 #[x.val p] w fun e w' => e = .returned (.bool (okP p)) ∧ Below w.heap.size w w' := by
  obtain ⟨av, cv, nv, dv, kv, nl⟩ := x
  obtain ⟨aA, acap, rfl, -, -⟩ := h.avgs.open_
  obtain ⟨cA, ccap, rfl, -, -⟩ := h.curs.open_
  have hno : RdL nrS w w.heap.size nv nl := h.nears
  obtain ⟨nA, ncap, hnv, -, -⟩ := hno.open_
  subst hnv
  clear hno
  obtain ⟨dA, dcap, rfl, -, -⟩ := h.drive.open_
  obtain ⟨kA, kcap, rfl, -, -⟩ := h.code.open_
  have H := Lib.hid h; have HS := Lib.hid hs
  have HNM := Lib.hid h.nmap
  have hl1 := hs.curs.2
  have hl2 : nl.length ≤ 2000000 := by have e := hs.nears.2; rw [← h.nmap, List.length_map] at e; exact Nat.le_trans e (by decide)
  have hb0 : Below w.heap.size w (w.alloc (.cells #[.slice aA p.avgs.length acap, .slice cA p.curs.length ccap, .slice nA nl.length ncap, .bool p.all, .slice dA p.drive.length dcap, .slice kA p.code.length kcap] 44)) := (Below.refl _ _).alloc (Nat.le_refl _) _
  have k0 : (w.alloc (.cells #[.slice aA p.avgs.length acap, .slice cA p.curs.length ccap, .slice nA nl.length ncap, .bool p.all, .slice dA p.drive.length dcap, .slice kA p.code.length kcap] 44)).cell? ⟨w.heap.size, 0, none⟩ = some (.slice aA p.avgs.length acap) := by rw [World.cell?_alloc_new]; rfl
  have k1 : (w.alloc (.cells #[.slice aA p.avgs.length acap, .slice cA p.curs.length ccap, .slice nA nl.length ncap, .bool p.all, .slice dA p.drive.length dcap, .slice kA p.code.length kcap] 44)).cell? ⟨w.heap.size, 1, none⟩ = some (.slice cA p.curs.length ccap) := by rw [World.cell?_alloc_new]; rfl
  have k2 : (w.alloc (.cells #[.slice aA p.avgs.length acap, .slice cA p.curs.length ccap, .slice nA nl.length ncap, .bool p.all, .slice dA p.drive.length dcap, .slice kA p.code.length kcap] 44)).cell? ⟨w.heap.size, 2, none⟩ = some (.slice nA nl.length ncap) := by rw [World.cell?_alloc_new]; rfl
  have k4 : (w.alloc (.cells #[.slice aA p.avgs.length acap, .slice cA p.curs.length ccap, .slice nA nl.length ncap, .bool p.all, .slice dA p.drive.length dcap, .slice kA p.code.length kcap] 44)).cell? ⟨w.heap.size, 4, none⟩ = some (.slice dA p.drive.length dcap) := by rw [World.cell?_alloc_new]; rfl
  have kz : w.heap.size < (w.alloc (.cells #[.slice aA p.avgs.length acap, .slice cA p.curs.length ccap, .slice nA nl.length ncap, .bool p.all, .slice dA p.drive.length dcap, .slice kA p.code.length kcap] 44)).heap.size := by rw [World.size_alloc]; omega
  have HB1 := Lib.hid hb0
  clear h hs hb0
  simp only [PgV.val]
  go_enter Tryd.func44, Tryd.ntmps44
  go_wp2_with fail
  generalize w.alloc (.cells #[.slice aA p.avgs.length acap, .slice cA p.curs.length ccap, .slice nA nl.length ncap, .bool p.all, .slice dA p.drive.length dcap, .slice kA p.code.length kcap] 44) = w1 at *
  have H1 := Lib.hid (H.out.below HB1.out)
  refine (rbelow_any _ p.avgs _ w.heap.size H1.out.avgs).mono ?_
  rintro e wq ⟨rfl, rfl⟩
  cases hna : neg p.avgs with
  | true =>
    have HQ := Lib.hid (show okP p = false from okP_not (.inl hna))
    clear hna
    go_wp2
    go_ret
    exact ⟨congrArg (fun b => Ending.returned (.bool b)) HQ.out.symm, HB1.out⟩
  | false =>
    have HNA := Lib.hid hna
    clear hna
    go_wp2_with fail
    refine (rbelow_any _ p.drive _ w.heap.size H1.out.drive).mono ?_
    rintro e wq ⟨rfl, rfl⟩
    cases hnd : neg p.drive with
    | true =>
      have HQ := Lib.hid (show okP p = false from okP_not (.inr (.inl hnd)))
      clear hnd
      go_wp2
      go_ret
      exact ⟨congrArg (fun b => Ending.returned (.bool b)) HQ.out.symm, HB1.out⟩
    | false =>
      have HND := Lib.hid hnd
      clear hnd
      go_wp2
      go_loopw [18] (fun iv wr => LcRel p w1 iv wr) (fun iv _ => p.curs.length - (intOf iv).toNat)
      case atStart => exact ⟨0, Nat.zero_le _, fun j c _ hj => by omega, rfl, Below.refl _ _⟩
      case round =>
        obtain ⟨k, hk, hall, rfl, hb⟩ := hrel
        have HB := Lib.hid hb; have HA := Lib.hid hall
        have hbz := hb.size
        have m2 := (hb.cell (p := ⟨w.heap.size, 2, none⟩) kz).trans k2
        have HBW := Lib.hid (HB1.out.trans (hb.mono HB1.out.size))
        have Hr := Lib.hid (H.out.below HBW.out)
        clear hb hall
        by_cases hlt : k < p.curs.length
        · obtain ⟨a, rfl, hab, c0, c1⟩ := at_lf Hr.out.curs hlt
          by_cases hf : p.curs[k].field < 0
          · have HQ := Lib.hid (show okP p = false from okP_not (.inr (.inr (.inl ⟨_, List.getElem_mem hlt, hf⟩))))
            generalize p.curs[k] = c at *
            go_wp2
            go_ret
            exact ⟨congrArg (fun b => Ending.returned (.bool b)) HQ.out.symm, HBW.out.alloc (Nat.le_trans HB1.out.size hbz) _⟩
          · have HQ := Lib.hid (show ∀ j c, p.curs[j]? = some c → j < k + 1 → 0 ≤ c.field from fun j c hj hjk => by
              rcases Nat.lt_or_ge j k with h | h
              · exact HA.out j c hj h
              · obtain rfl : j = k := by omega
                rw [List.getElem?_eq_getElem hlt] at hj
                cases hj; omega)
            generalize p.curs[k] = c at *
            go_wp2
            go_roundw
            case rel => exact ⟨k + 1, by omega, HQ.out, by go_num, HB.out.alloc hbz _⟩
            case measure => simp [intOf]; omega
        · have HCU := Lib.hid (show ∀ c ∈ p.curs, 0 ≤ c.field from fun c hc => by
            obtain ⟨j, hj, rfl⟩ := List.getElem_of_mem hc
            exact HA.out j _ (List.getElem?_eq_getElem hj) (by omega))
          go_wp2
          obtain ⟨w2, rfl⟩ : ∃ w2, w2 = wr := ⟨_, rfl⟩
          go_loopw [29] (fun iv wr => LnRel2 ⟨.slice aA p.avgs.length acap, .slice cA p.curs.length ccap, .slice nA nl.length ncap, .slice dA p.drive.length dcap, .slice kA p.code.length kcap, nl⟩ w2 iv wr) (fun iv _ => nl.length - (intOf iv).toNat)
          case atStart => exact ⟨0, Nat.zero_le _, fun j c _ hj => by omega, rfl, Below.refl _ _⟩
          case round =>
            obtain ⟨k, hk, hall, rfl, hb⟩ := hrel
            simp only [] at hk hall
            have HB3 := Lib.hid hb; have HA := Lib.hid hall
            have hbz3 := hb.size
            have HBW3 := Lib.hid (HBW.out.trans (hb.mono HBW.out.size))
            have Hr3 := Lib.hid (H.out.below HBW3.out)
            clear hb hall
            by_cases hlt : k < nl.length
            · obtain ⟨a, rfl, hab, c0, c1, c2⟩ := at_nr Hr3.out.nears hlt
              have HI := Lib.hid (Hr3.out.inner _ (List.getElem_mem hlt))
              have HMM := Lib.hid (show nl[k].n ∈ p.nears from mem_near (x := ⟨.slice none 0 0, .slice none 0 0, .slice none 0 0, .slice none 0 0, .slice none 0 0, nl⟩) HNM.out hlt)
              have HNX := Lib.hid (show okN nl[k].n = true → ∀ j y, nl[j]? = some y → j < k + 1 → okN y.n = true from fun hok j y hj hjk => by
                rcases Nat.lt_or_ge j k with h | h
                · exact HA.out j y hj h
                · obtain rfl : j = k := by omega
                  rw [List.getElem?_eq_getElem hlt] at hj
                  cases hj; exact hok)
              generalize nl[k] = y at *
              have HBA := Lib.hid (HBW3.out.alloc (Nat.le_trans HBW.out.size hbz3) (.cells #[.slice y.ca y.n.cur.length y.cc, .slice y.oa y.n.off.length y.oc, .int .i64 y.n.slop] 96))
              have HRA := Lib.hid ((HI.out.1.belowW (Nat.le_trans HBW.out.size hbz3) ((Below.refl _ _).alloc (Nat.le_refl _) (.cells #[.slice y.ca y.n.cur.length y.cc, .slice y.oa y.n.off.length y.oc, .int .i64 y.n.slop] 96))))
              have HRB := Lib.hid ((HI.out.2.belowW (Nat.le_trans HBW.out.size hbz3) ((Below.refl _ _).alloc (Nat.le_refl _) (.cells #[.slice y.ca y.n.cur.length y.cc, .slice y.oa y.n.off.length y.oc, .int .i64 y.n.slop] 96))))
              have HBB := Lib.hid (HB3.out.alloc hbz3 (.cells #[.slice y.ca y.n.cur.length y.cc, .slice y.oa y.n.off.length y.oc, .int .i64 y.n.slop] 96))
              by_cases hsl : y.n.slop < 0
              · have HQ := Lib.hid (show okP p = false from okP_not (.inr (.inr (.inr ⟨_, HMM.out, by unfold okN; rw [decide_eq_false (by omega)]; rfl⟩))))
                go_wp2
                go_ret
                exact ⟨congrArg (fun b => Ending.returned (.bool b)) HQ.out.symm, HBA.out⟩
              · by_cases hln : y.n.cur.length = y.n.off.length
                · have hnb : ((y.n.cur.length : Int) != (y.n.off.length : Int)) = false := by rw [hln]; simp
                  have HLN := Lib.hid hln
                  clear hln
                  go_wp2_with fail
                  refine (rbelow_any _ y.n.cur _ w.heap.size HRA.out).mono ?_
                  rintro e wq ⟨rfl, rfl⟩
                  cases hn1 : neg y.n.cur with
                  | true =>
                    have HQ := Lib.hid (show okP p = false from okP_not (.inr (.inr (.inr ⟨_, HMM.out, by unfold okN; rw [hn1]; simp⟩))))
                    clear hn1
                    go_wp2
                    go_ret
                    exact ⟨congrArg (fun b => Ending.returned (.bool b)) HQ.out.symm, HBA.out⟩
                  | false =>
                    have HN1 := Lib.hid hn1
                    clear hn1
                    go_wp2_with fail
                    refine (rbelow_any _ y.n.off _ w.heap.size HRB.out).mono ?_
                    rintro e wq ⟨rfl, rfl⟩
                    cases hn2 : neg y.n.off with
                    | true =>
                      have HQ := Lib.hid (show okP p = false from okP_not (.inr (.inr (.inr ⟨_, HMM.out, by unfold okN; rw [hn2]; simp⟩))))
                      clear hn2
                      go_wp2
                      go_ret
                      exact ⟨congrArg (fun b => Ending.returned (.bool b)) HQ.out.symm, HBA.out⟩
                    | false =>
                      have HQ := Lib.hid (show okN y.n = true from by unfold okN; rw [HN1.out, hn2, decide_eq_true (by omega : 0 ≤ y.n.slop), decide_eq_true HLN.out]; rfl)
                      clear hn2
                      go_wp2
                      go_roundw
                      case rel => exact ⟨k + 1, by show k + 1 ≤ nl.length; omega, HNX.out HQ.out, by go_num, HBB.out⟩
                      case measure => simp [intOf]; omega
                · have HQ := Lib.hid (show okP p = false from okP_not (.inr (.inr (.inr ⟨_, HMM.out, by unfold okN; rw [decide_eq_false hln]; simp⟩))))
                  have hnb : ((y.n.cur.length : Int) != (y.n.off.length : Int)) = true := by simp; omega
                  clear hln
                  go_wp2
                  go_ret
                  exact ⟨congrArg (fun b => Ending.returned (.bool b)) HQ.out.symm, HBA.out⟩
            · have HQ := Lib.hid (show okP p = true from okP_yes HNA.out HND.out HCU.out (fun n hn => by
                rw [← HNM.out] at hn
                obtain ⟨y, hy, rfl⟩ := List.mem_map.1 hn
                obtain ⟨j, hj, rfl⟩ := List.getElem_of_mem hy
                exact HA.out j _ (List.getElem?_eq_getElem hj) (by omega)))
              go_wp2
              go_ret
              exact ⟨congrArg (fun b => Ending.returned (.bool b)) HQ.out.symm, HBW3.out⟩
end Go.Proofs.YtmdpfikalekmlaaDoor
