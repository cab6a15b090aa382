/- The walks of LexerBack's helpers: lone and wrapped. -/
import Derived.Test.YtlgcofinmpckkaaDoorBq
import Derived.Test.YtlgcofinmpckkaaDoorSm
import Derived.Test.YtlgcofinmpckkaaDoorLv
import Derived.Test.YtlgcofinmpckkaaDoorLb
import Derived.Laws.Slices
namespace Go.Proofs.YtlgcofinmpckkaaDoor
open Go.RowKit
set_option maxRecDepth 100000
set_option maxHeartbeats 1000000
set_option linter.unusedSimpArgs false
set_option linter.unusedVariables false

theorem own_twoB (x y : Lx) (w : World) {B : Nat} (hB : B ≤ w.heap.size) : OwnL lexS (w.alloc (.cells #[.int .i64 x.kind, .string (str x.text), .int .i64 x.n, .int .i64 x.at_, .int .i64 x.end_, .int .i64 y.kind, .string (str y.text), .int .i64 y.n, .int .i64 y.at_, .int .i64 y.end_] 35)) B (.slice (some ⟨w.heap.size, 0, none⟩) 2 2) [x, y] :=
  World.ownsRow_lit w #[.int .i64 x.kind, .string (str x.text), .int .i64 x.n, .int .i64 x.at_, .int .i64 x.end_, .int .i64 y.kind, .string (str y.text), .int .i64 y.n, .int .i64 y.at_, .int .i64 y.end_] 2 hB (by unfold maxLen; omega) rfl
theorem lone_any (q : ByteArray) (K : Nat) (t : List UInt8) (w : World) (v : Value) (hq : q.size ≤ 10000000) (hE : LexEnv w v)
    (hs : scanL q.data.toList = ([⟨(K : Int), t, 0, 0, q.size⟩, ⟨0, [], 0, q.size, q.size⟩], none)) :
    Calls Tryd.prog 21 #[.string q, .int .i64 (K : Int), .string (str t)] w fun e w' => e = .returned (.bool true) ∧ Below w.heap.size w w' := by
  have HE := Lib.hid hE
  have HS := Lib.hid hs
  clear hE hs
  go_enter Tryd.func21, Tryd.ntmps21
  go_wp2_with fail
  refine (Scan_any q w v hq HE.out.cls HE.out.at_).mono ?_
  rintro e w1 ⟨hb1, hm⟩
  rw [HS.out] at hm
  obtain ⟨sl, rfl, ho⟩ := hm
  obtain ⟨A, ca, rfl, hca, hca2, -⟩ := ho.open_
  have HO := Lib.hid ho
  have HB := Lib.hid hb1
  have hs1 : w.heap.size ≤ w1.heap.size := hb1.size
  clear ho hb1
  go_wp2_with fail
  refine (same_any _ _ [⟨(K : Int), t, 0, 0, q.size⟩, ⟨0, [], 0, q.size, q.size⟩] [⟨(K : Int), t, 0, 0, q.size⟩, ⟨0, [], 0, q.size, q.size⟩] _ _ w1.heap.size (HO.out.alloc _) (own_twoB ⟨(K : Int), t, 0, 0, q.size⟩ ⟨0, [], 0, q.size, q.size⟩ w1 (Nat.le_refl _))).mono ?_
  rintro e w2 ⟨he, hb2⟩
  obtain rfl : e = .returned (.bool true) := he.trans (by simp)
  clear he
  have HB2 := Lib.hid ((HB.out.alloc hs1 _).trans (hb2.mono (by rw [World.size_alloc]; omega)))
  clear hb2
  go_wp2
  go_ret
  exact ⟨rfl, HB2.out⟩
def someB : ByteArray := ⟨#[32, 9, 10, 13, 32, 9, 10, 13, 32, 32, 9, 10, 13, 32, 9, 10, 13, 32, 32, 9, 10, 13, 32, 9, 10, 13, 32, 32, 9, 10, 13, 32, 9, 10, 13, 32, 32, 9, 10, 13, 32, 9, 10, 13, 32]⟩
theorem someB_size : someB.size = 45 := rfl
theorem someB_bl (k : Nat) : ∀ c ∈ (someB.extract 0 k).data.toList, cls c = 1 := by
  intro c hc
  rw [Lib.extract_data] at hc
  have h1 : c ∈ someB.data.toList := List.mem_of_mem_drop (List.mem_of_mem_take hc)
  have h2 : someB.data.toList.all (fun c => decide (cls c = 1)) = true := by decide +kernel
  exact of_decide_eq_true (List.all_eq_true.1 h2 c h1)
def WrRel (w : World) (va vm : Value) (la lm : List Lx) (iv : Value) (wr : World) : Prop :=
  ∃ k : Nat, k < la.length ∧ iv = .int .i64 (k : Int) ∧ OwnL lexS wr w.heap.size va la ∧ OwnL lexS wr w.heap.size vm lm ∧ Below w.heap.size w wr
theorem up_get {la : List Lx} {d : Nat} {x : Lx} {k : Nat} (hk : k + 1 < la.length) (h : k < (la.dropLast.map (Lx.up d) ++ [x]).length) : (la.dropLast.map (Lx.up d) ++ [x])[k] = (la[k]).up d := by
  rw [List.getElem_append_left (by rw [List.length_map, List.length_dropLast]; omega), List.getElem_map, List.getElem_dropLast]
theorem wrapped_any (q : ByteArray) (la : List Lx) (a b : Int) (w : World) (v : Value) (hq : q.size ≤ 9000000) (hE : LexEnv w v) (ha : IntKind.i64.min ≤ a ∧ a ≤ IntKind.i64.max) (hb : IntKind.i64.min ≤ b ∧ b ≤ IntKind.i64.max)
    (hs : scanL q.data.toList = (la, none)) :
    Calls Tryd.prog 22 #[.string q, .int .i64 a, .int .i64 b] w fun e w' => e = .returned (.bool true) ∧ Below w.heap.size w w' := by
  have HE := Lib.hid hE
  have HS := Lib.hid hs
  clear hE hs
  go_enter Tryd.func22, Tryd.ntmps22
  go_wp2_with fail
  refine (Scan_any q w v (by omega) HE.out.cls HE.out.at_).mono ?_
  rintro e w1 ⟨hb1, hm⟩
  rw [HS.out] at hm
  obtain ⟨sl, rfl, ho⟩ := hm
  obtain ⟨A, ca, rfl, hca, hca2, -⟩ := ho.open_
  have HO := Lib.hid ho
  have HB := Lib.hid hb1
  have HE1 := Lib.hid (HE.out.below hb1)
  have hs1 : w.heap.size ≤ w1.heap.size := hb1.size
  clear ho hb1
  by_cases hout : a < 0 ∨ b < 0 ∨ 50 < a ∨ 50 < b
  · by_cases h1 : a < 0
    · go_wp2
      go_ret
      exact ⟨rfl, HB.out⟩
    · by_cases h2 : b < 0
      · go_wp2
        go_ret
        exact ⟨rfl, HB.out⟩
      · by_cases h3 : 50 < a
        · go_wp2
          go_ret
          exact ⟨rfl, HB.out⟩
        · have h4 : 50 < b := by omega
          go_wp2
          go_ret
          exact ⟨rfl, HB.out⟩
  · obtain ⟨a0, rfl⟩ : ∃ n : Nat, a = (n : Int) := ⟨a.toNat, by omega⟩
    obtain ⟨b0, rfl⟩ : ∃ n : Nat, b = (n : Int) := ⟨b.toNat, by omega⟩
    have ha50 : a0 ≤ 50 := by omega
    have hb50 : b0 ≤ 50 := by omega
    clear hout ha hb
    by_cases hka : a0 ≤ 45
    · by_cases hmb : b0 ≤ 45
      · go_wp2_with fail
        refine (Scan_any (someB.extract 0 a0 ++ q ++ someB.extract 0 b0) w1 v (by simp only [ba_append_size, ByteArray.size_extract, someB_size]; omega) HE1.out.cls HE1.out.at_).mono ?_
        rintro e w2 ⟨hb2, hm2⟩
        obtain ⟨z, hz⟩ := scanL_wrap HS.out (someB.extract 0 a0).data.toList (someB.extract 0 b0).data.toList (someB_bl a0) (someB_bl b0)
        rw [ba_append, ba_append, List.append_assoc, hz] at hm2
        obtain ⟨sm, rfl, hom⟩ := hm2
        obtain ⟨lm, hlm⟩ : ∃ lm, lm = la.dropLast.map (Lx.up (someB.extract 0 a0).data.toList.length) ++ [z] := ⟨_, rfl⟩
        have hom' : OwnL lexS w2 w1.heap.size sm lm := by rw [hlm]; exact hom
        clear hom
        have hd : (someB.extract 0 a0).data.toList.length = a0 := by rw [← ba_size, ByteArray.size_extract, someB_size]; omega
        rw [hd] at hlm
        have hne := scanF_ne _ _ _ _ HS.out
        have hlen : lm.length = la.length := by
          rw [hlm, List.length_append, List.length_map, List.length_dropLast, List.length_singleton]
          have := List.length_pos_iff.2 hne
          omega
        have hlp : 0 < la.length := List.length_pos_iff.2 hne
        obtain ⟨A', cm, rfl, hcm, hcm2, -⟩ := hom'.open_
        have HLM := Lib.hid hlm
        have HB2 := Lib.hid (HB.out.trans (hb2.mono hs1))
        have HO2 := Lib.hid (HO.out.below hb2)
        have HM2 := Lib.hid (hom'.more (B2 := w.heap.size) hs1)
        have HLEN := Lib.hid hlen
        have hcl : la.length ≤ q.size + 1 := by have := scanL_count HS.out; rw [← ba_size] at this; exact this
        have t3 : ((lm.length : Int) != (la.length : Int)) = false := by rw [hlen]; simp
        have hdz : (someB.extract 0 a0).size = a0 := by rw [ByteArray.size_extract, someB_size]; omega
        unfold maxLen at hca2 hcm2
        unfold someB at hdz
        clear hb2 hom' hlm hlen hne hd hz
        go_wp2
        go_loopw [13] (fun iv wr => WrRel w (.slice A la.length ca) (.slice A' lm.length cm) la lm iv wr) (fun iv _ => la.length - (intOf iv).toNat)
        case atStart => exact ⟨0, hlp, rfl, HO2.out, HM2.out, HB2.out⟩
        case round =>
          obtain ⟨k, hk, rfl, hal, hbm, hbl⟩ := hrel
          have HAr := Lib.hid hal; have HMr := Lib.hid hbm; have HBl := Lib.hid hbl
          have hsz : w.heap.size ≤ wr.heap.size := hbl.size
          clear hal hbm hbl t3
          by_cases hk1 : k + 1 < la.length
          · have hkm : k < lm.length := by have := HLEN.out; omega
            obtain ⟨g, rfl, c0, c1, c2, c3, c4⟩ := at_lx HMr.out hkm
            have he : lm[k] = (la[k]).up a0 := by
              have h := HLM.out
              subst h
              exact up_get hk1 _
            rw [he] at c0 c1 c2 c3 c4
            obtain ⟨g', rfl, d0, d1, d2, d3, d4⟩ := at_lx HAr.out hk
            clear he
            have hz1 := size_of_cell c0
            have hz2 := size_of_cell d0
            have hbd := scanL_bd q.data.toList la[k] (by rw [HS.out]; exact List.getElem_mem hk)
            rw [← ba_size] at hbd
            obtain ⟨hbd1, hbd2⟩ := hbd
            generalize la[k] = x at *
            simp only [Lx.up, Int.natCast_add, Int.cast_ofNat_Int] at c0 c1 c2 c3 c4
            have hq := fun W => agg_neq x.kind x.n ((x.at_ : Int) + (a0 : Int)) ((x.end_ : Int) + (a0 : Int)) (str x.text) W
            have hg := fun op a b W => agg_guard #[.int .i64 x.kind, .string (str x.text), .int .i64 x.n, .int .i64 ((x.at_ : Int) + (a0 : Int)), .int .i64 ((x.end_ : Int) + (a0 : Int))] #[.int .i64 x.kind, .string (str x.text), .int .i64 x.n, .int .i64 ((x.at_ : Int) + (a0 : Int)), .int .i64 ((x.end_ : Int) + (a0 : Int))] op a b W
            go_wp2
            go_region
            go_wp2
            go_roundw
            case rel => exact ⟨k + 1, by omega, by go_num, (HAr.out.alloc _).drew, (HMr.out.alloc _).drew, (HBl.out.alloc hsz _).drew⟩
            case measure => simp [intOf]; omega
          · go_wp2
            go_ret
            exact ⟨rfl, HBl.out⟩
      · have hmb2 : 45 < b0 := by omega
        go_wp2_with fail
        refine (Scan_any (someB.extract 0 a0 ++ q ++ someB.extract 0 45) w1 v (by simp only [ba_append_size, ByteArray.size_extract, someB_size]; omega) HE1.out.cls HE1.out.at_).mono ?_
        rintro e w2 ⟨hb2, hm2⟩
        obtain ⟨z, hz⟩ := scanL_wrap HS.out (someB.extract 0 a0).data.toList (someB.extract 0 45).data.toList (someB_bl a0) (someB_bl 45)
        rw [ba_append, ba_append, List.append_assoc, hz] at hm2
        obtain ⟨sm, rfl, hom⟩ := hm2
        obtain ⟨lm, hlm⟩ : ∃ lm, lm = la.dropLast.map (Lx.up (someB.extract 0 a0).data.toList.length) ++ [z] := ⟨_, rfl⟩
        have hom' : OwnL lexS w2 w1.heap.size sm lm := by rw [hlm]; exact hom
        clear hom
        have hd : (someB.extract 0 a0).data.toList.length = a0 := by rw [← ba_size, ByteArray.size_extract, someB_size]; omega
        rw [hd] at hlm
        have hne := scanF_ne _ _ _ _ HS.out
        have hlen : lm.length = la.length := by
          rw [hlm, List.length_append, List.length_map, List.length_dropLast, List.length_singleton]
          have := List.length_pos_iff.2 hne
          omega
        have hlp : 0 < la.length := List.length_pos_iff.2 hne
        obtain ⟨A', cm, rfl, hcm, hcm2, -⟩ := hom'.open_
        have HLM := Lib.hid hlm
        have HB2 := Lib.hid (HB.out.trans (hb2.mono hs1))
        have HO2 := Lib.hid (HO.out.below hb2)
        have HM2 := Lib.hid (hom'.more (B2 := w.heap.size) hs1)
        have HLEN := Lib.hid hlen
        have hcl : la.length ≤ q.size + 1 := by have := scanL_count HS.out; rw [← ba_size] at this; exact this
        have t3 : ((lm.length : Int) != (la.length : Int)) = false := by rw [hlen]; simp
        have hdz : (someB.extract 0 a0).size = a0 := by rw [ByteArray.size_extract, someB_size]; omega
        unfold maxLen at hca2 hcm2
        unfold someB at hdz
        clear hb2 hom' hlm hlen hne hd hz
        go_wp2
        go_loopw [13] (fun iv wr => WrRel w (.slice A la.length ca) (.slice A' lm.length cm) la lm iv wr) (fun iv _ => la.length - (intOf iv).toNat)
        case atStart => exact ⟨0, hlp, rfl, HO2.out, HM2.out, HB2.out⟩
        case round =>
          obtain ⟨k, hk, rfl, hal, hbm, hbl⟩ := hrel
          have HAr := Lib.hid hal; have HMr := Lib.hid hbm; have HBl := Lib.hid hbl
          have hsz : w.heap.size ≤ wr.heap.size := hbl.size
          clear hal hbm hbl t3
          by_cases hk1 : k + 1 < la.length
          · have hkm : k < lm.length := by have := HLEN.out; omega
            obtain ⟨g, rfl, c0, c1, c2, c3, c4⟩ := at_lx HMr.out hkm
            have he : lm[k] = (la[k]).up a0 := by
              have h := HLM.out
              subst h
              exact up_get hk1 _
            rw [he] at c0 c1 c2 c3 c4
            obtain ⟨g', rfl, d0, d1, d2, d3, d4⟩ := at_lx HAr.out hk
            clear he
            have hz1 := size_of_cell c0
            have hz2 := size_of_cell d0
            have hbd := scanL_bd q.data.toList la[k] (by rw [HS.out]; exact List.getElem_mem hk)
            rw [← ba_size] at hbd
            obtain ⟨hbd1, hbd2⟩ := hbd
            generalize la[k] = x at *
            simp only [Lx.up, Int.natCast_add, Int.cast_ofNat_Int] at c0 c1 c2 c3 c4
            have hq := fun W => agg_neq x.kind x.n ((x.at_ : Int) + (a0 : Int)) ((x.end_ : Int) + (a0 : Int)) (str x.text) W
            have hg := fun op a b W => agg_guard #[.int .i64 x.kind, .string (str x.text), .int .i64 x.n, .int .i64 ((x.at_ : Int) + (a0 : Int)), .int .i64 ((x.end_ : Int) + (a0 : Int))] #[.int .i64 x.kind, .string (str x.text), .int .i64 x.n, .int .i64 ((x.at_ : Int) + (a0 : Int)), .int .i64 ((x.end_ : Int) + (a0 : Int))] op a b W
            go_wp2
            go_region
            go_wp2
            go_roundw
            case rel => exact ⟨k + 1, by omega, by go_num, (HAr.out.alloc _).drew, (HMr.out.alloc _).drew, (HBl.out.alloc hsz _).drew⟩
            case measure => simp [intOf]; omega
          · go_wp2
            go_ret
            exact ⟨rfl, HBl.out⟩
    · have hka2 : 45 < a0 := by omega
      by_cases hmb : b0 ≤ 45
      · go_wp2_with fail
        refine (Scan_any (someB.extract 0 45 ++ q ++ someB.extract 0 b0) w1 v (by simp only [ba_append_size, ByteArray.size_extract, someB_size]; omega) HE1.out.cls HE1.out.at_).mono ?_
        rintro e w2 ⟨hb2, hm2⟩
        obtain ⟨z, hz⟩ := scanL_wrap HS.out (someB.extract 0 45).data.toList (someB.extract 0 b0).data.toList (someB_bl 45) (someB_bl b0)
        rw [ba_append, ba_append, List.append_assoc, hz] at hm2
        obtain ⟨sm, rfl, hom⟩ := hm2
        obtain ⟨lm, hlm⟩ : ∃ lm, lm = la.dropLast.map (Lx.up (someB.extract 0 45).data.toList.length) ++ [z] := ⟨_, rfl⟩
        have hom' : OwnL lexS w2 w1.heap.size sm lm := by rw [hlm]; exact hom
        clear hom
        have hd : (someB.extract 0 45).data.toList.length = 45 := by rw [← ba_size, ByteArray.size_extract, someB_size]; omega
        rw [hd] at hlm
        have hne := scanF_ne _ _ _ _ HS.out
        have hlen : lm.length = la.length := by
          rw [hlm, List.length_append, List.length_map, List.length_dropLast, List.length_singleton]
          have := List.length_pos_iff.2 hne
          omega
        have hlp : 0 < la.length := List.length_pos_iff.2 hne
        obtain ⟨A', cm, rfl, hcm, hcm2, -⟩ := hom'.open_
        have HLM := Lib.hid hlm
        have HB2 := Lib.hid (HB.out.trans (hb2.mono hs1))
        have HO2 := Lib.hid (HO.out.below hb2)
        have HM2 := Lib.hid (hom'.more (B2 := w.heap.size) hs1)
        have HLEN := Lib.hid hlen
        have hcl : la.length ≤ q.size + 1 := by have := scanL_count HS.out; rw [← ba_size] at this; exact this
        have t3 : ((lm.length : Int) != (la.length : Int)) = false := by rw [hlen]; simp
        have hdz : (someB.extract 0 45).size = 45 := by rw [ByteArray.size_extract, someB_size]; omega
        unfold maxLen at hca2 hcm2
        unfold someB at hdz
        clear hb2 hom' hlm hlen hne hd hz
        go_wp2
        go_loopw [13] (fun iv wr => WrRel w (.slice A la.length ca) (.slice A' lm.length cm) la lm iv wr) (fun iv _ => la.length - (intOf iv).toNat)
        case atStart => exact ⟨0, hlp, rfl, HO2.out, HM2.out, HB2.out⟩
        case round =>
          obtain ⟨k, hk, rfl, hal, hbm, hbl⟩ := hrel
          have HAr := Lib.hid hal; have HMr := Lib.hid hbm; have HBl := Lib.hid hbl
          have hsz : w.heap.size ≤ wr.heap.size := hbl.size
          clear hal hbm hbl t3
          by_cases hk1 : k + 1 < la.length
          · have hkm : k < lm.length := by have := HLEN.out; omega
            obtain ⟨g, rfl, c0, c1, c2, c3, c4⟩ := at_lx HMr.out hkm
            have he : lm[k] = (la[k]).up 45 := by
              have h := HLM.out
              subst h
              exact up_get hk1 _
            rw [he] at c0 c1 c2 c3 c4
            obtain ⟨g', rfl, d0, d1, d2, d3, d4⟩ := at_lx HAr.out hk
            clear he
            have hz1 := size_of_cell c0
            have hz2 := size_of_cell d0
            have hbd := scanL_bd q.data.toList la[k] (by rw [HS.out]; exact List.getElem_mem hk)
            rw [← ba_size] at hbd
            obtain ⟨hbd1, hbd2⟩ := hbd
            generalize la[k] = x at *
            simp only [Lx.up, Int.natCast_add, Int.cast_ofNat_Int] at c0 c1 c2 c3 c4
            have hq := fun W => agg_neq x.kind x.n ((x.at_ : Int) + 45) ((x.end_ : Int) + 45) (str x.text) W
            have hg := fun op a b W => agg_guard #[.int .i64 x.kind, .string (str x.text), .int .i64 x.n, .int .i64 ((x.at_ : Int) + 45), .int .i64 ((x.end_ : Int) + 45)] #[.int .i64 x.kind, .string (str x.text), .int .i64 x.n, .int .i64 ((x.at_ : Int) + 45), .int .i64 ((x.end_ : Int) + 45)] op a b W
            go_wp2
            go_region
            go_wp2
            go_roundw
            case rel => exact ⟨k + 1, by omega, by go_num, (HAr.out.alloc _).drew, (HMr.out.alloc _).drew, (HBl.out.alloc hsz _).drew⟩
            case measure => simp [intOf]; omega
          · go_wp2
            go_ret
            exact ⟨rfl, HBl.out⟩
      · have hmb2 : 45 < b0 := by omega
        go_wp2_with fail
        refine (Scan_any (someB.extract 0 45 ++ q ++ someB.extract 0 45) w1 v (by simp only [ba_append_size, ByteArray.size_extract, someB_size]; omega) HE1.out.cls HE1.out.at_).mono ?_
        rintro e w2 ⟨hb2, hm2⟩
        obtain ⟨z, hz⟩ := scanL_wrap HS.out (someB.extract 0 45).data.toList (someB.extract 0 45).data.toList (someB_bl 45) (someB_bl 45)
        rw [ba_append, ba_append, List.append_assoc, hz] at hm2
        obtain ⟨sm, rfl, hom⟩ := hm2
        obtain ⟨lm, hlm⟩ : ∃ lm, lm = la.dropLast.map (Lx.up (someB.extract 0 45).data.toList.length) ++ [z] := ⟨_, rfl⟩
        have hom' : OwnL lexS w2 w1.heap.size sm lm := by rw [hlm]; exact hom
        clear hom
        have hd : (someB.extract 0 45).data.toList.length = 45 := by rw [← ba_size, ByteArray.size_extract, someB_size]; omega
        rw [hd] at hlm
        have hne := scanF_ne _ _ _ _ HS.out
        have hlen : lm.length = la.length := by
          rw [hlm, List.length_append, List.length_map, List.length_dropLast, List.length_singleton]
          have := List.length_pos_iff.2 hne
          omega
        have hlp : 0 < la.length := List.length_pos_iff.2 hne
        obtain ⟨A', cm, rfl, hcm, hcm2, -⟩ := hom'.open_
        have HLM := Lib.hid hlm
        have HB2 := Lib.hid (HB.out.trans (hb2.mono hs1))
        have HO2 := Lib.hid (HO.out.below hb2)
        have HM2 := Lib.hid (hom'.more (B2 := w.heap.size) hs1)
        have HLEN := Lib.hid hlen
        have hcl : la.length ≤ q.size + 1 := by have := scanL_count HS.out; rw [← ba_size] at this; exact this
        have t3 : ((lm.length : Int) != (la.length : Int)) = false := by rw [hlen]; simp
        have hdz : (someB.extract 0 45).size = 45 := by rw [ByteArray.size_extract, someB_size]; omega
        unfold maxLen at hca2 hcm2
        unfold someB at hdz
        clear hb2 hom' hlm hlen hne hd hz
        go_wp2
        go_loopw [13] (fun iv wr => WrRel w (.slice A la.length ca) (.slice A' lm.length cm) la lm iv wr) (fun iv _ => la.length - (intOf iv).toNat)
        case atStart => exact ⟨0, hlp, rfl, HO2.out, HM2.out, HB2.out⟩
        case round =>
          obtain ⟨k, hk, rfl, hal, hbm, hbl⟩ := hrel
          have HAr := Lib.hid hal; have HMr := Lib.hid hbm; have HBl := Lib.hid hbl
          have hsz : w.heap.size ≤ wr.heap.size := hbl.size
          clear hal hbm hbl t3
          by_cases hk1 : k + 1 < la.length
          · have hkm : k < lm.length := by have := HLEN.out; omega
            obtain ⟨g, rfl, c0, c1, c2, c3, c4⟩ := at_lx HMr.out hkm
            have he : lm[k] = (la[k]).up 45 := by
              have h := HLM.out
              subst h
              exact up_get hk1 _
            rw [he] at c0 c1 c2 c3 c4
            obtain ⟨g', rfl, d0, d1, d2, d3, d4⟩ := at_lx HAr.out hk
            clear he
            have hz1 := size_of_cell c0
            have hz2 := size_of_cell d0
            have hbd := scanL_bd q.data.toList la[k] (by rw [HS.out]; exact List.getElem_mem hk)
            rw [← ba_size] at hbd
            obtain ⟨hbd1, hbd2⟩ := hbd
            generalize la[k] = x at *
            simp only [Lx.up, Int.natCast_add, Int.cast_ofNat_Int] at c0 c1 c2 c3 c4
            have hq := fun W => agg_neq x.kind x.n ((x.at_ : Int) + 45) ((x.end_ : Int) + 45) (str x.text) W
            have hg := fun op a b W => agg_guard #[.int .i64 x.kind, .string (str x.text), .int .i64 x.n, .int .i64 ((x.at_ : Int) + 45), .int .i64 ((x.end_ : Int) + 45)] #[.int .i64 x.kind, .string (str x.text), .int .i64 x.n, .int .i64 ((x.at_ : Int) + 45), .int .i64 ((x.end_ : Int) + 45)] op a b W
            go_wp2
            go_region
            go_wp2
            go_roundw
            case rel => exact ⟨k + 1, by omega, by go_num, (HAr.out.alloc _).drew, (HMr.out.alloc _).drew, (HBl.out.alloc hsz _).drew⟩
            case measure => simp [intOf]; omega
          · go_wp2
            go_ret
            exact ⟨rfl, HBl.out⟩
end Go.Proofs.YtlgcofinmpckkaaDoor
