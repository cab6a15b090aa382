/- The walk of the law LexerBeside. -/
import Derived.Test.YtlgcofinmpckkaaDoorBp
import Derived.Test.YtlgcofinmpckkaaDoorSm
namespace Go.Proofs.YtlgcofinmpckkaaDoor
open Go.RowKit
set_option maxRecDepth 100000
set_option maxHeartbeats 1000000
set_option linter.unusedSimpArgs false

theorem scanF_bd (f : Nat) (l : List UInt8) (i : Nat) : ∀ x ∈ (scanF f l i).1, x.at_ ≤ i + l.length ∧ x.end_ ≤ i + l.length := by
  induction f generalizing l i with
  | zero => intro x hx; cases hx
  | succ f ih =>
    cases l with
    | nil => intro x hx; rw [scanF] at hx; simp at hx; subst hx; simp
    | cons c t =>
      intro x hx
      rw [scanF] at hx
      rw [List.length_cons]
      split at hx
      · have := ih t (i + 1) x hx; omega
      · rename_i hc
        split at hx
        · cases hx
        · rename_i k ht
          have hk := tok_len ht (fun d hd => by cases hd; exact hc)
          rw [List.length_cons] at hk
          have hrec := ih ((c :: t).drop k.len) (i + k.len)
          rw [List.length_drop, List.length_cons] at hrec
          rcases hr : scanF f ((c :: t).drop k.len) (i + k.len) with ⟨u, _ | z⟩
          · rw [hr] at hx hrec
            simp only [ahead, List.singleton_append, List.mem_cons] at hx
            rcases hx with rfl | hx
            · simp only [Tk.lx]; omega
            · have := hrec x hx; omega
          · rw [hr] at hx; cases hx
theorem scanL_bd (l : List UInt8) (x : Lx) (h : x ∈ (scanL l).1) : x.at_ ≤ l.length ∧ x.end_ ≤ l.length := by
  have := scanF_bd _ l 0 x h
  omega
theorem scanF_count (f : Nat) (l : List UInt8) (i : Nat) : (scanF f l i).1.length ≤ l.length + 1 := by
  induction f generalizing l i with
  | zero => simp [scanF]
  | succ f ih =>
    cases l with
    | nil => simp [scanF]
    | cons c t =>
      rw [scanF, List.length_cons]
      split
      · have := ih t (i + 1); omega
      · rename_i hc
        split
        · simp
        · rename_i k ht
          have hk := tok_len ht (fun d hd => by cases hd; exact hc)
          rw [List.length_cons] at hk
          have hrec := ih ((c :: t).drop k.len) (i + k.len)
          rw [List.length_drop, List.length_cons] at hrec
          rcases hr : scanF f ((c :: t).drop k.len) (i + k.len) with ⟨u, _ | z⟩
          · rw [hr] at hrec
            simp only [ahead, List.singleton_append, List.length_cons] at hrec ⊢
            omega
          · simp [ahead]
theorem scanL_count {l : List UInt8} {la : List Lx} {r : Option Nat} (h : scanL l = (la, r)) : la.length ≤ l.length + 1 := by
  have := scanF_count (l.length + 1) l 0
  unfold scanL at h
  rw [h] at this; exact this
theorem agg_neq (k n a e : Int) (t : ByteArray) (W : World) : (binOp .neq 35 (.agg #[.int .i64 k, .string t, .int .i64 n, .int .i64 a, .int .i64 e]) (.agg #[.int .i64 k, .string t, .int .i64 n, .int .i64 a, .int .i64 e])).run Tryd.prog W = .ok (.bool false) W := by
  rw [run_neq_struct, run_equalIn_agg W 9999 35 _ _ structLex ftypeLex]
  simp only [Program.fieldsOf, Tryd.underlying35]
  simp [Op.eqFields, go_sem, Tryd.underlying3, Tryd.underlying9]
theorem agg_guard (xs ys : Array Value) (op : BinOp) (a b : Operand) (W : World) : (eqGuard op 35 a b (.agg xs) (.agg ys)).run Tryd.prog W = .ok () W :=
  run_eqGuard_agg W op 35 a b _ _ guardLex
theorem cat_data (p q : ByteArray) : (p ++ (⟨#[32]⟩ : ByteArray) ++ q).data.toList = p.data.toList ++ 32 :: q.data.toList := by
  rw [ByteArray.data_append, ByteArray.data_append]; simp
theorem cat_size (p q : ByteArray) : (p ++ (⟨#[32]⟩ : ByteArray) ++ q).size = p.size + 1 + q.size := by
  rw [ByteArray.size_append, ByteArray.size_append]; rfl
theorem be_left {la lb lc : List Lx} {d : Nat} (h : lc = la.dropLast ++ lb.map (Lx.up d)) {k : Nat} (hk : k + 1 < la.length) (hl : k < lc.length) : lc[k] = la[k] := by
  subst h
  rw [List.getElem_append_left (by rw [List.length_dropLast]; omega), List.getElem_dropLast]
theorem be_right {la lb lc : List Lx} {d : Nat} (h : lc = la.dropLast ++ lb.map (Lx.up d)) {k : Nat} (hk : ¬ k + 1 < la.length) (hla : 0 < la.length) (hl : k < lc.length) : ∃ (j : Nat) (hj : j < lb.length), (j : Int) = (k : Int) - la.length + 1 ∧ lc[k] = lb[j].up d := by
  subst h
  rw [List.length_append, List.length_map, List.length_dropLast] at hl
  refine ⟨k - (la.length - 1), by omega, by omega, ?_⟩
  rw [List.getElem_append_right (by rw [List.length_dropLast]; omega), List.getElem_map]
  simp only [List.length_dropLast]
def BeRel (w : World) (va vb vc : Value) (la lb lc : List Lx) (iv : Value) (wr : World) : Prop :=
  ∃ k : Nat, k ≤ lc.length ∧ iv = .int .i64 (k : Int) ∧ OwnL lexS wr w.heap.size va la ∧ OwnL lexS wr w.heap.size vb lb ∧ OwnL lexS wr w.heap.size vc lc ∧ Below w.heap.size w wr

theorem beside_walk (p q : ByteArray) (w : World) (v : Value) (hp : p.size ≤ 1048576) (hq : q.size ≤ 1048576) (hE : LexEnv w v) :
    Calls Tryd.prog 6 #[.string p, .string q] w fun e w' => e = .returned (.bool true) ∧ Below w.heap.size w w' := by
  have HE := Lib.hid hE; clear hE
  have HCD := Lib.hid (cat_data p q)
  have hz := cat_size p q
  have hz2 : (p ++ (⟨#[32]⟩ : ByteArray) ++ q).size ≤ 10000000 := by omega
  have HZ := Lib.hid hz
  clear hz
  go_enter Tryd.func6, Tryd.ntmps6
  go_wp2_with fail
  refine (lives_any w v HE.out).mono ?_
  rintro e w1 ⟨rfl, hb1⟩
  have HE1 := Lib.hid (HE.out.below hb1)
  have HB1 := Lib.hid hb1; clear hb1
  go_wp2_with fail
  refine (Scan_any p w1 v (by omega) HE1.out.cls HE1.out.at_).mono ?_
  rintro e w2 ⟨hb2, hm⟩
  have HE2 := Lib.hid (HE1.out.below hb2)
  have HB2 := Lib.hid (HB1.out.trans (hb2.mono HB1.out.size))
  clear hb2
  rcases hr : scanL p.data.toList with ⟨la, _ | z⟩
  · rw [hr] at hm
    obtain ⟨sa, rfl, ha⟩ := hm
    obtain ⟨A, ca, rfl, hca, hca2, -⟩ := ha.open_
    have HA := Lib.hid (ha.more HB1.out.size)
    have HR := Lib.hid hr
    clear hr ha
    go_wp2_with fail
    refine (Scan_any q w2 v (by omega) HE2.out.cls HE2.out.at_).mono ?_
    rintro e w3 ⟨hb3, hm⟩
    have HE3 := Lib.hid (HE2.out.below hb3)
    have HA3 := Lib.hid (HA.out.below hb3)
    have HB3 := Lib.hid (HB2.out.trans (hb3.mono HB2.out.size))
    clear hb3
    rcases hr2 : scanL q.data.toList with ⟨lb, _ | z⟩
    · rw [hr2] at hm
      obtain ⟨sb, rfl, hb⟩ := hm
      obtain ⟨A', cb, rfl, hcb, hcb2, -⟩ := hb.open_
      have HBB := Lib.hid (hb.more HB2.out.size)
      have HR2 := Lib.hid hr2
      clear hr2 hb
      have HSC := Lib.hid (show scanL (p ++ (⟨#[32]⟩ : ByteArray) ++ q).data.toList = ahead la.dropLast (upAll (p.size + 1) (lb, none)) from by
        rw [HCD.out, scanL_app HR.out, HR2.out, ba_size])
      go_wp2_with fail
      refine (Scan_any (p ++ (⟨#[32]⟩ : ByteArray) ++ q) w3 v (by omega) HE3.out.cls HE3.out.at_).mono ?_
      rintro e w4 ⟨hb4, hm⟩
      rw [HSC.out] at hm
      obtain ⟨sc, rfl, hc⟩ := hm
      have HE4 := Lib.hid (HE3.out.below hb4)
      have HA4 := Lib.hid (HA3.out.below hb4)
      have HBB4 := Lib.hid (HBB.out.below hb4)
      have HC4 := Lib.hid (hc.more HB3.out.size)
      have HB4 := Lib.hid (HB3.out.trans (hb4.mono HB3.out.size))
      clear hb4 hc
      have hla : 0 < la.length := List.length_pos_iff.2 (scanF_ne _ _ _ _ HR.out)
      have hlb : 0 < lb.length := List.length_pos_iff.2 (scanF_ne _ _ _ _ HR2.out)
      obtain ⟨lc, hlc⟩ : ∃ lc, lc = la.dropLast ++ lb.map (Lx.up (p.size + 1)) := ⟨_, rfl⟩
      have HC5 : Hid (OwnL lexS w4 w.heap.size sc lc) := Lib.hid (by have h := HC4.out; rw [hlc]; exact h)
      clear HC4
      obtain ⟨A2, cc, rfl, hcc, hcc2, -⟩ := HC5.out.open_
      have hlen : lc.length + 1 = la.length + lb.length := by rw [hlc, List.length_append, List.length_map, List.length_dropLast]; omega
      have HL := Lib.hid hlc
      clear hlc
      have hca3 : la.length ≤ p.size + 1 := by have := scanL_count HR.out; rw [← ba_size] at this; exact this
      have hcb3 : lb.length ≤ q.size + 1 := by have := scanL_count HR2.out; rw [← ba_size] at this; exact this
      have t1 : ((la.length : Int) == 0) = false := by rw [beq_eq_false_iff_ne]; omega
      have t2 : ((lb.length : Int) == 0) = false := by rw [beq_eq_false_iff_ne]; omega
      have t3 : ((lc.length : Int) != (la.length : Int) + (lb.length : Int) - 1) = false := by simp; omega
      go_wp2
      go_loopw [80] (fun iv wr => BeRel w (.slice A la.length ca) (.slice A' lb.length cb) (.slice A2 lc.length cc) la lb lc iv wr) (fun iv _ => lc.length - (intOf iv).toNat)
      case atStart => exact ⟨0, by omega, rfl, HA4.out, HBB4.out, HC5.out, HB4.out⟩
      case round =>
        obtain ⟨k, hk, rfl, ha, hb, hc, hbl⟩ := hrel
        have HAr := Lib.hid ha; have HBr := Lib.hid hb; have HCr := Lib.hid hc; have HBl := Lib.hid hbl
        have hsz : w.heap.size ≤ wr.heap.size := hbl.size
        clear ha hb hc hbl t1 t2 t3
        by_cases hlt : k < lc.length
        · obtain ⟨g, rfl, c0, c1, c2, c3, c4⟩ := at_lx HCr.out hlt
          by_cases hka : k + 1 < la.length
          · have he : lc[k] = la[k] := be_left HL.out hka hlt
            rw [he] at c0 c1 c2 c3 c4
            obtain ⟨g', rfl, d0, d1, d2, d3, d4⟩ := at_lx HAr.out (k := k) (by omega)
            clear he
            have hz1 := size_of_cell c0
            have hz2 := size_of_cell d0
            generalize la[k] = x at *
            have hq := fun W => agg_neq x.kind x.n x.at_ x.end_ (str x.text) W
            have hg := fun op a b W => agg_guard #[.int .i64 x.kind, .string (str x.text), .int .i64 x.n, .int .i64 x.at_, .int .i64 x.end_] #[.int .i64 x.kind, .string (str x.text), .int .i64 x.n, .int .i64 x.at_, .int .i64 x.end_] op a b W
            go_wp2
            go_region
            go_wp2
            go_roundw
            case rel => exact ⟨k + 1, by omega, by go_num, (HAr.out.alloc _).drew, (HBr.out.alloc _).drew, (HCr.out.alloc _).drew, (HBl.out.alloc hsz _).drew⟩
            case measure => simp [intOf]; omega
          · obtain ⟨j, hj, hjk, he⟩ := be_right HL.out hka hla hlt
            have hbd := scanL_bd q.data.toList lb[j] (by rw [HR2.out]; exact List.getElem_mem hj)
            rw [← ba_size] at hbd
            obtain ⟨hbd1, hbd2⟩ := hbd
            rw [he] at c0 c1 c2 c3 c4
            obtain ⟨g', rfl, d0, d1, d2, d3, d4⟩ := at_lx HBr.out hj
            clear he
            have hz1 := size_of_cell c0
            have hz2 := size_of_cell d0
            generalize lb[j] = x at *
            simp only [Lx.up, Int.natCast_add, Int.cast_ofNat_Int] at c0 c1 c2 c3 c4
            have hq := fun W => agg_neq x.kind x.n ((x.at_ : Int) + ((p.size : Int) + 1)) ((x.end_ : Int) + ((p.size : Int) + 1)) (str x.text) W
            have hg := fun op a b W => agg_guard #[.int .i64 x.kind, .string (str x.text), .int .i64 x.n, .int .i64 ((x.at_ : Int) + ((p.size : Int) + 1)), .int .i64 ((x.end_ : Int) + ((p.size : Int) + 1))] #[.int .i64 x.kind, .string (str x.text), .int .i64 x.n, .int .i64 ((x.at_ : Int) + ((p.size : Int) + 1)), .int .i64 ((x.end_ : Int) + ((p.size : Int) + 1))] op a b W
            have HJ := Lib.hid hjk
            have hjk2 : (k : Int) - la.length + 1 = (j : Int) := hjk.symm
            clear hjk
            go_wp2
            go_region
            go_wp2
            go_roundw
            case rel => exact ⟨k + 1, by omega, by go_num, (HAr.out.alloc _).drew, (HBr.out.alloc _).drew, (HCr.out.alloc _).drew, (HBl.out.alloc hsz _).drew⟩
            case measure => simp [intOf]; omega
        · go_wp2
          go_ret
          exact ⟨rfl, HBl.out⟩
    · rw [hr2] at hm
      subst hm
      have HSC := Lib.hid (show scanL (p ++ (⟨#[32]⟩ : ByteArray) ++ q).data.toList = ([], some (z + (p.size + 1))) from by
        rw [HCD.out, scanL_app HR.out, hr2, ba_size]; rfl)
      have hzb := (scanL_some (q := q.data.toList) (p := z) (by rw [hr2])).1
      rw [← ba_size] at hzb
      clear hr2
      have k1 := fun W => err_nil HE3.out.val W
      have k2 := fun W => err_neq HE3.out.val W
      have k3 := fun op x y W => err_guard HE3.out.val op x y W
      have k4 := fun op x y W => err_guard0 HE3.out.val op x y W
      have k5 := fun W => err_eq HE3.out.val W
      go_wp2_with fail
      refine (Scan_any (p ++ (⟨#[32]⟩ : ByteArray) ++ q) w3 v (by omega) HE3.out.cls HE3.out.at_).mono ?_
      rintro e w4 ⟨hb4, hm⟩
      rw [HSC.out] at hm
      subst hm
      have HE4 := Lib.hid (HE3.out.below hb4)
      have HB4 := Lib.hid (HB3.out.trans (hb4.mono HB3.out.size))
      clear hb4
      have cv := HE4.out.at_.1
      have hzz : (((z + (p.size + 1) : Nat) : Int) == (z : Int) + ((p.size : Int) + 1)) = true := by rw [beq_iff_eq]; omega
      go_wp2
      go_ret
      exact ⟨rfl, HB4.out⟩
  · rw [hr] at hm
    subst hm
    clear hr
    have k1 := fun W => err_nil HE2.out.val W
    have k1' := fun W => err_nil' HE2.out.val W
    have k4 := fun op x y W => err_guard0 HE2.out.val op x y W
    go_wp2_with fail
    refine (Scan_any q w2 v (by omega) HE2.out.cls HE2.out.at_).mono ?_
    rintro e w3 ⟨hb3, hm⟩
    have HE3 := Lib.hid (HE2.out.below hb3)
    have HB3 := Lib.hid (HB2.out.trans (hb3.mono HB2.out.size))
    clear hb3
    obtain ⟨s1, i1, e1, rfl⟩ : ∃ s1 i1 e1, e = .returned (.tuple #[s1, .int .i64 i1, e1]) := by
      rcases hr2 : scanL q.data.toList with ⟨lb, _ | z⟩
      · rw [hr2] at hm; obtain ⟨sb, rfl, -⟩ := hm; exact ⟨_, _, _, rfl⟩
      · rw [hr2] at hm; exact ⟨_, _, _, hm⟩
    clear hm
    go_wp2_with fail
    refine (Scan_any (p ++ (⟨#[32]⟩ : ByteArray) ++ q) w3 v (by omega) HE3.out.cls HE3.out.at_).mono ?_
    rintro e w4 ⟨hb4, hm⟩
    have HB4 := Lib.hid (HB3.out.trans (hb4.mono HB3.out.size))
    clear hb4
    obtain ⟨s2, i2, e2, rfl⟩ : ∃ s1 i1 e1, e = .returned (.tuple #[s1, .int .i64 i1, e1]) := by
      rcases hr2 : scanL (p ++ (⟨#[32]⟩ : ByteArray) ++ q).data.toList with ⟨lb, _ | z⟩
      · rw [hr2] at hm; obtain ⟨sb, rfl, -⟩ := hm; exact ⟨_, _, _, rfl⟩
      · rw [hr2] at hm; exact ⟨_, _, _, hm⟩
    clear hm
    go_wp2
    go_ret
    exact ⟨rfl, HB4.out⟩
theorem lexerBeside_env {W : World} (h : laidMetH Tryd.prog Rows.lexerBesideUptoRow.laid W) : ∃ v, LexEnv W v := lexEnv_of h
theorem lexerBeside_walk (a0 a1 : ByteArray) (w0 : a0.size ≤ 1048576) (w1 : a1.size ≤ 1048576) (w : World) (hE : ∃ v, LexEnv w v) :
    Calls Tryd.prog 6 #[.string a0, .string a1] w fun e w' => e = .returned (.bool true) ∧ Below w.heap.size w w' := by
  obtain ⟨v, hE⟩ := hE
  exact beside_walk a0 a1 w v w0 w1 hE
end Go.Proofs.YtlgcofinmpckkaaDoor
