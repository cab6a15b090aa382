/- The walk of the reference's Pattern. -/
import Derived.Test.YtlgcofinmpckkaaDoorLpat
namespace Go.Proofs.YtlgcofinmpckkaaDoor
open Go.RowKit
set_option maxRecDepth 100000
set_option maxHeartbeats 1000000

theorem patTo_succ (l : List Sg) (k : Nat) (h : k < l.length) : patTo l (k + 1) = patTo l k ++ patSg (k == 0) l[k] := by
  rw [patTo, List.getElem?_eq_getElem h]
theorem patSg_length (f : Bool) (x : Sg) : (patSg f x).length ≤ 2 := by unfold patSg; split; simp; exact esc_length f x.c
theorem patTo_length (l : List Sg) (k : Nat) : (patTo l k).length ≤ 2 * k := by
  induction k with
  | zero => simp [patTo]
  | succ k ih =>
    rw [patTo, List.length_append]
    split
    · have := patSg_length (k == 0) ‹Sg›; omega
    · simp; omega
def PRel (l : List Sg) (w : World) (vs : Value) (st v i : Value) (wr : World) : Prop :=
  ∃ k : Nat, k ≤ l.length ∧ i = .int .i64 k ∧ st = .bool ((l.take k).any wildSg) ∧ OwnB wr w.heap.size v (patTo l k) ∧ Below w.heap.size w wr ∧ OwnL sgShape wr w.heap.size vs l
theorem any_take_snoc (p : Sg → Bool) (l : List Sg) (k : Nat) (h : k < l.length) : (l.take (k + 1)).any p = ((l.take k).any p || p l[k]) := by
  rw [take_snoc' l k h, List.any_append]; simp
def StrRet (s : ByteArray) (w : World) (e : Ending) (w' : World) : Prop := e = .returned (.string s) ∧ Below w.heap.size w w'

theorem refPattern_any (s : ByteArray) (w : World) (hs : s.size ≤ 10000000) :
    Calls Tryd.prog 14 #[.string s] w (StrRet (str (patternL s.data.toList)) w) := by
  have hsl : (signs s.data.toList).length ≤ 10000000 := by have := signs_length s.data.toList; rw [← ba_size] at this; omega
  by_cases hbad : (signs s.data.toList).any badSg = true
  · have HP := Lib.hid (show patternL s.data.toList = [] from by unfold patternL; rw [if_pos hbad])
    have HC := Lib.hid (fun W => canon_any s W hs)
    have HB := Lib.hid hbad
    clear hbad hsl hs
    go_enter Tryd.func14, Tryd.ntmps14
    go_wp2_with fail
    refine (HC.out _).mono ?_
    rintro e w1 hR
    obtain ⟨he, hb1⟩ := hR
    rw [if_pos HB.out] at he
    subst he
    go_wp2
    go_ret
    exact ⟨by rw [HP.out]; rfl, hb1⟩
  · have HC := Lib.hid (fun W => canon_any s W hs)
    have HB := Lib.hid hbad
    have HQ := Lib.hid (show patternL s.data.toList = (if (signs s.data.toList).any wildSg = true then patTo (signs s.data.toList) (signs s.data.toList).length else []) from by unfold patternL; rw [if_neg hbad])
    have HS := Lib.hid (fun W => signs_any s W hs)
    clear hbad hs
    go_enter Tryd.func14, Tryd.ntmps14
    go_wp2_with fail
    refine (HC.out _).mono ?_
    rintro e w1 hR
    obtain ⟨he, hb1⟩ := hR
    rw [if_neg HB.out] at he
    subst he
    go_wp2_with fail
    refine (HS.out _).mono ?_
    rintro e w2 hR
    obtain ⟨v, rfl, ho, hb2⟩ := hR
    obtain ⟨A, cap, rfl, hcap, hml, _⟩ := ho.open_
    generalize signs s.data.toList = l at *
    have hb0 : Below w.heap.size w w2 := (hb1.alloc hb1.size _).trans (hb2.mono (by simp; have := hb1.size; omega))
    have HL := Lib.hid (ho.more (B2 := w.heap.size) (by simp; have := hb1.size; omega)); clear ho
    have HB0 := Lib.hid ((OwnB.lit0 w1 hb1.size).below hb2)
    unfold maxLen at hml
    go_wp2
    go_loopw [5, 6, 20] (fun st v i wr => PRel l w (.slice A l.length cap) st v i wr) (fun _ _ i _ => l.length - (intOf i).toNat)
    case atStart => exact ⟨0, by omega, rfl, rfl, HB0.out, hb0, HL.out⟩
    case round =>
      obtain ⟨k, hk, rfl, rfl, hob, hb, how⟩ := hrel
      have HB := Lib.hid hob; clear hob
      have HW := Lib.hid how; clear how
      have hBr := hb.size
      have hlq : (patTo l k).length ≤ 20000000 := by have := patTo_length l k; omega
      by_cases hlt : k < l.length
      · obtain ⟨g, hA, hx⟩ := HW.out.at_ sgOk hlt
        subst hA
        have c0 : wr.cell? ⟨g, k * 4, none⟩ = some (.int .u8 (l[k].c.toNat : Int)) := hx 0 _ (by decide) rfl
        have c1 : wr.cell? ⟨g, k * 4 + 1, none⟩ = some (.bool l[k].letter) := hx 1 _ (by decide) rfl
        have c2 : wr.cell? ⟨g, k * 4 + 2, none⟩ = some (.int .i64 l[k].place) := hx 2 _ (by decide) rfl
        have c3 : wr.cell? ⟨g, k * 4 + 3, none⟩ = some (.int .i64 l[k].size) := hx 3 _ (by decide) rfl
        clear hx
        have HT := Lib.hid (patTo_succ l k hlt)
        have HA := Lib.hid (any_take_snoc wildSg l k hlt)
        have hkk : ((k : Int) == 0) = (k == 0) := by rw [Bool.eq_iff_iff]; simp
        have HK := Lib.hid hkk; clear hkk
        generalize l[k] = x at *
        obtain ⟨c, lt, pl, sz⟩ := x
        have hbx := u8_lt c
        have hbA := hb.alloc hb.size (.cells #[.int .u8 (c.toNat : Int), .bool lt, .int .i64 pl, .int .i64 sz] 52)
        have HBA := Lib.hid (HB.out.alloc (.cells #[.int .u8 (c.toNat : Int), .bool lt, .int .i64 pl, .int .i64 sz] 52))
        have HWA := Lib.hid (HW.out.alloc (.cells #[.int .u8 (c.toNat : Int), .bool lt, .int .i64 pl, .int .i64 sz] 52))
        by_cases hwild : lt = false ∧ cls c = 3
        · obtain ⟨rfl, h3⟩ := hwild
          have HX : Hid (patSg (k == 0) ⟨c, false, pl, sz⟩ = [c] ∧ wildSg ⟨c, false, pl, sz⟩ = true) := by
            have e : wildSg ⟨c, false, pl, sz⟩ = true := by simp [wildSg, h3]
            exact ⟨by unfold patSg; rw [if_pos e], e⟩
          go_wp2_with fail
          refine (wild_any c _).mono ?_
          rintro e w3 ⟨rfl, rfl⟩
          go_wp2_with (at_builtin; refine OwnB.appendAt HBA.out _ _ rfl _ _ rfl rfl rfl ?_ ?_ ?_ hbA.size ?_ ?_)
          all_goals first | omega | exact (World.size_alloc ..).symm | skip
          intro v' w' h2 h3 h3k
          have H2 := Lib.hid h2
          have HW2 := Lib.hid (HWA.out.keptB HBA.out (by decide) h3k)
          clear h2 h3k
          go_wp2
          go_roundw
          case rel =>
            refine ⟨k + 1, by omega, by go_num, ?_, ?_, hbA.trans h3, HW2.out⟩
            · rw [HA.out, HX.out.2]; simp
            · rw [HT.out, HX.out.1]
              simpa [ofNat_byte] using H2.out
          case measure => simp [intOf]; omega
        · have HX : Hid (patSg (k == 0) ⟨c, lt, pl, sz⟩ = esc (k == 0) c ∧ wildSg ⟨c, lt, pl, sz⟩ = false) := by
            have e : wildSg ⟨c, lt, pl, sz⟩ = false := by
              simp only [wildSg]
              cases lt
              · have : cls c ≠ 3 := fun h => hwild ⟨rfl, h⟩
                simp [this]
              · rfl
            exact ⟨by unfold patSg; rw [if_neg (by rw [e]; simp)], e⟩
          have hesc : (esc (k == 0) c).length ≤ 2 := esc_length _ _
          have hlw : lt = true ∨ (lt = false ∧ decide (cls c = 3) = false) := by
            cases lt
            · right; exact ⟨rfl, by simpa using fun h => hwild ⟨rfl, h⟩⟩
            · left; rfl
          clear hwild
          rcases hlw with rfl | ⟨rfl, h3⟩
          · go_wp2_with fail
            rw [HK.out]
            refine (escaped_any c _ _).mono ?_
            rintro e w3 hR
            obtain ⟨x, rfl, hx, hb3⟩ := hR
            have HXX := Lib.hid hx; clear hx
            have HB3 := Lib.hid (HBA.out.below hb3)
            have HW3 := Lib.hid (HWA.out.below hb3)
            have hb4 := hbA.trans (hb3.mono hbA.size)
            go_wp2_with (at_builtin; refine OwnB.appendAllK HB3.out HXX.out rfl _ _ rfl rfl rfl hb4.size ?_ ?_)
            all_goals first | omega | skip
            intro v' w' h2 h3 h3k
            have H2 := Lib.hid h2
            have HW2 := Lib.hid (HW3.out.keptB HB3.out (by decide) h3k)
            clear h2 h3k
            go_wp2
            go_roundw
            case rel =>
              refine ⟨k + 1, by omega, by go_num, ?_, ?_, hb4.trans h3, HW2.out⟩
              · rw [HA.out, HX.out.2]; simp
              · rw [HT.out, HX.out.1]; exact H2.out
            case measure => simp [intOf]; omega
          · go_wp2_with fail
            refine (wild_any c _).mono ?_
            rintro e w3 ⟨rfl, rfl⟩
            go_wp2_with fail
            rw [HK.out]
            refine (escaped_any c _ _).mono ?_
            rintro e w3 hR
            obtain ⟨x, rfl, hx, hb3⟩ := hR
            have HXX := Lib.hid hx; clear hx
            have HB3 := Lib.hid (HBA.out.below hb3)
            have HW3 := Lib.hid (HWA.out.below hb3)
            have hb4 := hbA.trans (hb3.mono hbA.size)
            go_wp2_with (at_builtin; refine OwnB.appendAllK HB3.out HXX.out rfl _ _ rfl rfl rfl hb4.size ?_ ?_)
            all_goals first | omega | skip
            intro v' w' h2 h3 h3k
            have H2 := Lib.hid h2
            have HW2 := Lib.hid (HW3.out.keptB HB3.out (by decide) h3k)
            clear h2 h3k
            go_wp2
            go_roundw
            case rel =>
              refine ⟨k + 1, by omega, by go_num, ?_, ?_, hb4.trans h3, HW2.out⟩
              · rw [HA.out, HX.out.2]; simp
              · rw [HT.out, HX.out.1]; exact H2.out
            case measure => simp [intOf]; omega
      · have e : l.take k = l := List.take_of_length_le (by omega)
        have ek : k = l.length := by omega
        have HE := Lib.hid e; have HEK := Lib.hid ek; clear e ek
        by_cases hst : l.any wildSg = true
        · have h1 : (l.take k).any wildSg = true := by rw [HE.out]; exact hst
          have HC := Lib.hid HB.out.conv
          have HR := Lib.hid (show patternL s.data.toList = patTo l k from by rw [HQ.out, if_pos hst, HEK.out])
          clear hst
          go_wp2_with fail
          simp only [HC.out, Result.andThen]
          go_wp2
          go_ret
          exact ⟨by rw [HR.out]; rfl, hb⟩
        · have h1 : (l.take k).any wildSg = false := by rw [HE.out]; simpa using hst
          have HR := Lib.hid (show patternL s.data.toList = [] from by rw [HQ.out, if_neg hst])
          clear hst
          go_wp2
          go_ret
          exact ⟨by rw [HR.out]; rfl, hb⟩
end Go.Proofs.YtlgcofinmpckkaaDoor
