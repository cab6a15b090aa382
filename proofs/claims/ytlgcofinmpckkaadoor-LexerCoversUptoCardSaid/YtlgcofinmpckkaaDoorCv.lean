/- The walk of the law LexerCovers. -/
import Derived.Test.YtlgcofinmpckkaaDoorCp
import Derived.Test.YtlgcofinmpckkaaDoorLf
import Derived.Test.YtlgcofinmpckkaaDoorSm
namespace Go.Proofs.YtlgcofinmpckkaaDoor
open Go.RowKit
set_option maxRecDepth 100000
set_option maxHeartbeats 1000000
set_option linter.unusedSimpArgs false

theorem agg_eql (k n a e : Int) (t : ByteArray) (W : World) : (binOp .eql 35 (.agg #[.int .i64 k, .string t, .int .i64 n, .int .i64 a, .int .i64 e]) (.agg #[.int .i64 k, .string t, .int .i64 n, .int .i64 a, .int .i64 e])).run Tryd.prog W = .ok (.bool true) W := by
  rw [run_eql_struct, run_equalIn_agg W 9999 35 _ _ structLex ftypeLex]
  simp only [Program.fieldsOf, Tryd.underlying35]
  simp [Op.eqFields, go_sem, Tryd.underlying3, Tryd.underlying9]
theorem agg_guard2 (xs ys : Array Value) (op : BinOp) (a b : Operand) (W : World) : (eqGuard op 35 a b (.agg xs) (.agg ys)).run Tryd.prog W = .ok () W :=
  run_eqGuard_agg W op 35 a b _ _ guardLex
theorem own_two (x y : Lx) (w : World) {B : Nat} (hB : B ≤ w.heap.size) : OwnL lexS (w.alloc (.cells #[.int .i64 x.kind, .string (str x.text), .int .i64 x.n, .int .i64 x.at_, .int .i64 x.end_, .int .i64 y.kind, .string (str y.text), .int .i64 y.n, .int .i64 y.at_, .int .i64 y.end_] 35)) B (.slice (some ⟨w.heap.size, 0, none⟩) 2 2) [x, y] :=
  World.ownsRow_lit w #[.int .i64 x.kind, .string (str x.text), .int .i64 x.n, .int .i64 x.at_, .int .i64 x.end_, .int .i64 y.kind, .string (str y.text), .int .i64 y.n, .int .i64 y.at_, .int .i64 y.end_] 2 hB (by unfold maxLen; omega) rfl
theorem cell5 {w w' : World} {xs : Array Value} {t : TypeId} (hb : Below (w.alloc (.cells xs t)).heap.size (w.alloc (.cells xs t)) w') {j : Nat} {u : Value} (h : xs[j]? = some u) : w'.cell? ⟨w.heap.size, j, none⟩ = some u :=
  (hb.cell (p := ⟨w.heap.size, j, none⟩) (by rw [World.size_alloc]; exact Nat.lt_succ_self _)).trans (by rw [World.cell?_alloc_new]; exact h)
def CvRel (w : World) (va : Value) (la : List Lx) (iv av : Value) (wr : World) : Prop :=
  ∃ k : Nat, k < la.length ∧ iv = .int .i64 (k : Int) ∧ av = .int .i64 (endOf la k : Int) ∧ OwnL lexS wr w.heap.size va la ∧ Below w.heap.size w wr

theorem covers_walk (q : ByteArray) (w : World) (v : Value) (hE : LexEnv w v) :
    Calls Tryd.prog 5 #[.string q] w fun e w' => e = .returned (.bool true) ∧ Below w.heap.size w w' := by
  have HE := Lib.hid hE; clear hE
  by_cases hq : q.size ≤ 16384
  · go_enter Tryd.func5, Tryd.ntmps5
    go_wp2_with fail
    refine (lives_any w v HE.out).mono ?_
    rintro e w1 ⟨rfl, hb1⟩
    have HE1 := Lib.hid (HE.out.below hb1)
    have HB1 := Lib.hid hb1; clear hb1
    go_wp2_with fail
    refine (Scan_any q w1 v (by omega) HE1.out.cls HE1.out.at_).mono ?_
    rintro e w2 ⟨hb2, hm⟩
    have HE2 := Lib.hid (HE1.out.below hb2)
    have HB2 := Lib.hid (HB1.out.trans (hb2.mono HB1.out.size))
    clear hb2
    rcases hr : scanL q.data.toList with ⟨la, _ | z⟩
    · rw [hr] at hm
      obtain ⟨sa, rfl, ha⟩ := hm
      obtain ⟨A, ca, rfl, hca, hca2, -⟩ := ha.open_
      have HA := Lib.hid (ha.more HB1.out.size)
      have HR := Lib.hid hr
      clear hr ha
      have hla : 0 < la.length := by
        have := scanL_cov HR.out
        cases la with
        | nil => exact this.elim
        | cons x l => simp
      unfold maxLen at hca2
      simp only []
      go_wp2
      go_loopw [42, 7] (fun iv av wr => CvRel w (.slice A la.length ca) la iv av wr) (fun iv _ _ => la.length - (intOf iv).toNat)
      case atStart => exact ⟨0, hla, rfl, rfl, HA.out, HB2.out⟩
      case round =>
        obtain ⟨k, hlt, rfl, rfl, ha, hbl⟩ := hrel
        have HAr := Lib.hid ha; have HBl := Lib.hid hbl
        have hsz : w.heap.size ≤ wr.heap.size := hbl.size
        have hsz2 : w2.heap.size ≤ w2.heap.size := Nat.le_refl _
        have HEr := Lib.hid (HE.out.below hbl)
        clear ha hbl hsz2
        obtain ⟨g, rfl, c0, c1, c2, c3, c4⟩ := at_lx HAr.out hlt
        obtain ⟨f1, f2, f3⟩ := scanL_at HR.out k hlt
        rw [← ba_size] at f1
        have hz1 := size_of_cell c0
        by_cases hk : k + 1 = la.length
        · obtain ⟨fx, fb⟩ := f2 hk
          rw [← ba_size] at fx
          rw [fx] at c0 c1 c2 c3 c4
          clear f2 f3 fx
          have HBL := Lib.hid (show (q.extract (endOf la k) q.size).data.toList.all isBl = true from by
            rw [Lib.extract_data, List.all_eq_true]
            intro c hc
            exact decide_eq_true (fb c (List.mem_of_mem_take hc)))
          clear fb
          have hz3 : (q.extract (endOf la k) q.size).size ≤ 100000000 := by rw [ByteArray.size_extract]; omega
          generalize endOf la k = a at *
          have hq1 := fun W => agg_eql 0 0 q.size q.size ⟨#[]⟩ W
          have hg1 := fun op a b W => agg_guard2 #[.int .i64 0, .string ⟨#[]⟩, .int .i64 0, .int .i64 q.size, .int .i64 q.size] #[.int .i64 0, .string ⟨#[]⟩, .int .i64 0, .int .i64 q.size, .int .i64 q.size] op a b W
          have hkk : ((k : Int) == (la.length : Int) - 1) = true := by rw [beq_iff_eq]; omega
          have hk1 : la.length ≤ k + 1 := by omega
          clear hk
          simp only [str] at c1
          go_wp2_with fail
          refine (blanks_any (q.extract a q.size) _ hz3).mono ?_
          rintro e w2' ⟨rfl, rfl⟩
          rw [HBL.out]
          go_wp2
          go_ret
          exact ⟨rfl, HBl.out.alloc hsz _⟩
        · obtain ⟨h1, h2, h3, h4, h5, h6⟩ := f3 (by omega)
          rw [← ba_size] at h3
          clear f2 f3
          have HBL := Lib.hid (show (q.extract (endOf la k) la[k].at_).data.toList.all isBl = true from by
            rw [Lib.extract_data, List.all_eq_true]
            intro c hc
            exact decide_eq_true (h4 c hc))
          have HSC := Lib.hid (show scanL (q.extract la[k].at_ la[k].end_).data.toList = ([⟨la[k].kind, la[k].text, la[k].n, 0, la[k].end_ - la[k].at_⟩, ⟨0, [], 0, la[k].end_ - la[k].at_, la[k].end_ - la[k].at_⟩], none) from by rw [Lib.extract_data]; exact h6)
          have HEN := Lib.hid (endOf_succ la k hlt)
          have h5' : (la[k].kind == 0) = false := beq_eq_false_iff_ne.2 h5
          have hz3 : (q.extract (endOf la k) la[k].at_).size ≤ 100000000 := by rw [ByteArray.size_extract]; omega
          have hz4 : (q.extract la[k].at_ la[k].end_).size ≤ 10000000 := by rw [ByteArray.size_extract]; omega
          clear h4 h5 h6
          have hkk : ((k : Int) == (la.length : Int) - 1) = false := by rw [beq_eq_false_iff_ne]; omega
          have hk1 : k + 1 < la.length := by omega
          clear hk
          generalize endOf la k = a at *
          generalize la[k] = x at *
          have hn0 : ((x.end_ : Int) - (x.at_ : Int) == 0) = false := by rw [beq_eq_false_iff_ne]; omega
          go_wp2_with fail
          refine (blanks_any (q.extract a x.at_) _ hz3).mono ?_
          rintro e w2' ⟨rfl, rfl⟩
          rw [HBL.out]
          go_wp2_with fail
          refine (Scan_any (q.extract x.at_ x.end_) _ v hz4 (HEr.out.below ((Below.refl _ _).alloc (Nat.le_refl _) _)).cls (HEr.out.below ((Below.refl _ _).alloc (Nat.le_refl _) _)).at_).mono ?_
          rintro e w3 ⟨hb3, hm⟩
          rw [HSC.out] at hm
          obtain ⟨s1, rfl, ho⟩ := hm
          have HO := Lib.hid ho
          have HB3 := Lib.hid ((HBl.out.alloc hsz _).trans (hb3.mono (by rw [World.size_alloc]; omega)))
          have HA3 := Lib.hid ((HAr.out.alloc _).below hb3)
          have e0 := cell5 hb3 (j := 0) rfl
          have e1 := cell5 hb3 (j := 1) rfl
          have e2 := cell5 hb3 (j := 2) rfl
          have e3 := cell5 hb3 (j := 3) rfl
          have e4 := cell5 hb3 (j := 4) rfl
          have hs3 : wr.heap.size < w3.heap.size := by have := hb3.size; rw [World.size_alloc] at this; omega
          have hs4 : w.heap.size ≤ w3.heap.size := by omega
          clear ho hb3
          go_wp2_with fail
          have E : ((x.end_ - x.at_ : Nat) : Int) = (x.end_ : Int) - (x.at_ : Int) := by omega
          have HE9 := Lib.hid E
          clear E
          refine (same_any _ _ [⟨x.kind, x.text, x.n, 0, x.end_ - x.at_⟩, ⟨0, [], 0, x.end_ - x.at_, x.end_ - x.at_⟩] [⟨x.kind, x.text, x.n, 0, x.end_ - x.at_⟩, ⟨0, [], 0, x.end_ - x.at_, x.end_ - x.at_⟩] _ _ w3.heap.size
            ((HO.out.alloc _).alloc _) (by
              have h := own_two ⟨x.kind, x.text, x.n, 0, x.end_ - x.at_⟩ ⟨0, [], 0, x.end_ - x.at_, x.end_ - x.at_⟩ (w3.alloc (.cells #[.int .i64 x.kind, .string (str x.text), .int .i64 x.n, .int .i64 0, .int .i64 ((x.end_ : Int) - (x.at_ : Int))] 35)) (B := w3.heap.size) (by rw [World.size_alloc]; omega)
              simp only [HE9.out] at h
              rw [World.size_alloc] at h
              exact h)).mono ?_
          rintro e w4 ⟨he, hb4⟩
          obtain rfl : e = .returned (.bool true) := he.trans (by simp)
          clear he
          have HB4 := Lib.hid (((HB3.out.alloc hs4 _).alloc (by rw [World.size_alloc]; omega) _).trans (hb4.mono (by rw [World.size_alloc, World.size_alloc]; omega)))
          have HA4 := Lib.hid (((HA3.out.alloc _).alloc _).below hb4)
          clear hb4
          go_wp2
          go_roundw
          case rel => exact ⟨k + 1, hk1, by go_num, by rw [HEN.out], HA4.out, HB4.out⟩
          case measure => simp [intOf]; omega
    · rw [hr] at hm
      subst hm
      clear hr
      have k2 := fun W => err_neq HE2.out.val W
      have k2' := fun W => err_nil' HE2.out.val W
      have k3 := fun op x y W => err_guard HE2.out.val op x y W
      have k4 := fun op x y W => err_guard0 HE2.out.val op x y W
      have k5 := fun W => err_eq HE2.out.val W
      have cv := HE2.out.at_.1
      go_wp2
      go_ret
      exact ⟨rfl, HB2.out⟩
  · go_enter Tryd.func5, Tryd.ntmps5
    go_wp2_with fail
    refine (lives_any w v HE.out).mono ?_
    rintro e w1 ⟨rfl, hb1⟩
    go_wp2
    go_ret
    exact ⟨rfl, hb1⟩
theorem lexerCovers_env {W : World} (h : laidMetH Tryd.prog Rows.lexerCoversUptoRow.laid W) : ∃ v, LexEnv W v := lexEnv_of h
theorem lexerCovers_walk (a0 : ByteArray) (_ : a0.size ≤ 1048576) (w : World) (hE : ∃ v, LexEnv w v) :
    Calls Tryd.prog 5 #[.string a0] w fun e w' => e = .returned (.bool true) ∧ Below w.heap.size w w' := by
  obtain ⟨v, hE⟩ := hE
  exact covers_walk a0 w v hE
end Go.Proofs.YtlgcofinmpckkaaDoor
