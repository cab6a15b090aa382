/- Merged for a claim: Rr4 Rr5 -/
import Derived.Test.YtmdpfikalekmlaaGreatDoorKy4
import Derived.Test.YtmdpfikalekmlaaGreatDoorNe
section
/- Layer 20, the document's reader: cursor. -/
namespace Go.Proofs.YtmdpfikalekmlaaGreatDoor
open Go.RowKit
set_option maxRecDepth 100000
set_option maxHeartbeats 4000000
set_option linter.unusedSimpArgs false
set_option linter.unusedVariables false

/-- What a line's function hands back, of parts that read as st. -/
def PnRet (B rb : Nat) (w : World) (r : Option Rs) (e : Ending) (w' : World) : Prop :=
  RKeep B rb w w' ∧ match r with
    | some st' => e = .returned (.bool true) ∧ ∃ x', PtsAt w' B rb x' st'
    | none => e = .returned (.bool false)
theorem PnRet.bad {B rb : Nat} {w : World} {r : Option Rs} {e : Ending} {w' : World} (h : RKeep B rb w w') (hr : r = none) (he : e = .returned (.bool false)) : PnRet B rb w r e w' := by
  subst hr; exact ⟨h, he⟩
theorem PnRet.good {B rb : Nat} {w : World} {r : Option Rs} {e : Ending} {w' : World} (h : RKeep B rb w w') {st' : Rs} (hr : r = some st') (he : e = .returned (.bool true)) {x' : RdrV} (hx : PtsAt w' B rb x' st') : PnRet B rb w r e w' := by
  subst hr; exact ⟨h, he, x', hx⟩
theorem lfcell {w : World} {nb : Nat} {x : Lf} (h0 : w.cell? ⟨nb, 0, none⟩ = some (.int .i64 x.field)) (h1 : w.cell? ⟨nb, 1, none⟩ = some (.string (str x.term))) : ∀ j u, (lfS.enc x)[j]? = some u → w.cell? ⟨nb, j, none⟩ = some u := by
  intro j u hj
  match j with
  | 0 => simp only [lfS, List.getElem?_cons_zero] at hj; rw [← hj]; exact h0
  | 1 => simp only [lfS, List.getElem?_cons_succ, List.getElem?_cons_zero] at hj; rw [← hj]; exact h1
  | j + 2 => simp [lfS] at hj
theorem PtsAt.alloc {w : World} {B rb : Nat} {x : RdrV} {st : Rs} (h : PtsAt w B rb x st) (o : Obj) : PtsAt (w.alloc o) B rb x st := h.below ((Below.refl _ _).alloc (Nat.le_refl _) o)
/-- The head of a cursor's line. -/
def curH (s : List UInt8) : List UInt8 := [99, 117, 114, 115, 111, 114, 32] ++ wordL (s.drop 7) ++ [32]
theorem rCur_none1 {s : List UInt8} (h : s.length ≤ (curH s).length) : rCur s = none := by
  unfold rCur curH at *
  simp only []
  split
  · rw [if_pos h]
  · rfl
theorem rCur_none2 {s : List UInt8} (h : (numsL (curH s)).length ≠ 1) : rCur s = none := by
  unfold rCur curH at *
  simp only []
  split
  · rename_i f he
    have := congrArg List.length he
    rw [rints_length] at this
    exact absurd this h
  · rfl
theorem rCur_some {s : List UInt8} {f : Int} (h : ¬ s.length ≤ (curH s).length) (hf : rints (numsL (curH s)) = [f]) : rCur s = if s = curL ⟨f, runqF ((s.drop (curH s).length).drop 1)⟩ then some ⟨f, runqF ((s.drop (curH s).length).drop 1)⟩ else none := by
  unfold rCur
  simp only []
  unfold curH at *
  rw [hf]
  simp only []
  rw [if_neg h]
theorem runqF_len : ∀ (N : Nat) (l : List UInt8), l.length ≤ N → (runqF l).length ≤ l.length
  | 0, l, h => by
    have : l = [] := List.eq_nil_of_length_eq_zero (by omega)
    subst this; exact Nat.le_refl _
  | N + 1, [], h => Nat.le_refl _
  | N + 1, [_], h => by rw [runqF.eq_def]; simp
  | N + 1, c :: d :: r, h => by
    rw [runqF.eq_def]
    simp only []
    split
    · split
      · rename_i e r' hx
        have := runqF_len N r' (by simp at h; omega)
        simp; omega
      · simp
    · have := runqF_len N (d :: r) (by simp at h ⊢; omega)
      simp at this ⊢; omega
theorem wordL_len (l : List UInt8) : (wordL l).length ≤ l.length := by
  unfold wordL
  exact (List.takeWhile_sublist _).length_le
/-- A cursor that has been read, in a box. -/
def CuBox (w : World) (c : Lf) (v : Value) (wx : World) : Prop := ∃ g, v = .pointer (some ⟨g, 0, none⟩) ∧ w.heap.size ≤ g ∧ Below w.heap.size w wx ∧ Blk wx g 66 #[.int .i64 c.field, .string (str c.term)]
theorem PtsAt.cursKept {w w' : World} {B rb : Nat} {x : RdrV} {st : Rs} (h : PtsAt w B rb x st) (hk : KeptBut w w' x.cv) : w'.cell? ⟨rb, 1, none⟩ = some x.cv ∧ w'.frozen? ⟨rb, 1, none⟩ = false :=
  ⟨(h.blk.keptL h.curs (by decide) hk).cell 1, (h.blk.keptL h.curs (by decide) hk).frozen 1⟩
theorem OwnL.ownLt {α : Type} {S : Shape α} {w : World} {B : Nat} {v : Value} {l : List α} (h : OwnL S w B v l) {g : Nat} (e : v.ownBlock = some g) : g < w.heap.size := by
  rcases h.2 with ⟨rfl, _⟩ | ⟨g', cap, cur, rfl, hg, hh, r⟩
  · cases e
  · injection e with e
    subst e
    rcases Nat.lt_or_ge g' w.heap.size with h | h
    · exact h
    · rw [Array.getElem?_eq_none h] at hh; cases hh
theorem Blk.drewI {w : World} {g : Nat} {t : TypeId} {cs : Array Value} (h : Blk w g t cs) : Blk w.drew g t cs := h
theorem Blk.keptB {w w' : World} {g : Nat} {t : TypeId} {cs : Array Value} {v : Value} (h : Blk w g t cs) (hk : KeptBut w w' v) (hv : v.ownBlock ≠ some g) : Blk w' g t cs := (hk g h.lt hv).trans h
theorem first_box {X w' : World} (hb : Below (X.drew.alloc (.cells #[.int .i64 0, .string ⟨#[]⟩] 66)).heap.size (X.drew.alloc (.cells #[.int .i64 0, .string ⟨#[]⟩] 66)) w') : Blk w' X.heap.size 66 #[.int .i64 0, .string ⟨#[]⟩] := (Blk.new X.drew 66 #[.int .i64 0, .string ⟨#[]⟩]).belowW hb
theorem rcursor_any (s : ByteArray) (w : World) (B rb : Nat) (x : RdrV) (st : Rs) (h : PtsAt w B rb x st) (hn : st.curs.length ≤ 1000000000) (hs : s.size ≤ 2000000) :
    Calls Tryz.prog 53 #[.pointer (some ⟨rb, 0, none⟩), .string s] w (PnRet B rb w ((rCur s.data.toList).map fun c => { st with curs := st.curs ++ [c] })) := by
  have H := Lib.hid h
  clear h
  have hls : s.data.toList.length = s.size := (ba_size s).symm
  obtain ⟨m, hm⟩ : ∃ m : Nat, min 7 s.size = m := ⟨_, rfl⟩
  have hmn : min (7 : Int) (s.size : Int) = (m : Int) := by omega
  have hms : m ≤ s.size := by omega
  have HD := Lib.hid (show (s.extract m s.size).data.toList = s.data.toList.drop 7 from by
    rw [Lib.extract_data, List.take_of_length_le (by rw [List.length_drop, hls]; exact Nat.le_refl _)]
    rcases Nat.lt_or_ge 7 s.size with h | h
    · rw [← hm, Nat.min_eq_left (by omega)]
    · rw [List.drop_eq_nil_of_le (by rw [hls]; omega), List.drop_eq_nil_of_le (by rw [hls]; omega)])
  have hwl := wordL_len (s.data.toList.drop 7)
  rw [List.length_drop, hls] at hwl
  have hsx : (s.extract m s.size).size ≤ 1000000000 := by rw [ba_size, HD.out, List.length_drop, hls]; omega
  have HF := Lib.hid (first_any (s.extract m s.size) w hsx)
  rw [HD.out] at HF
  have hcl : (curH s.data.toList).length = (wordL (s.data.toList.drop 7)).length + 8 := by unfold curH; simp
  have q1 := fun W => str_add (P := Tryz.prog) ⟨#[99, 117, 114, 115, 111, 114, 32]⟩ (str (wordL (s.data.toList.drop 7))) (by rw [str_size, show (⟨#[99, 117, 114, 115, 111, 114, 32]⟩ : ByteArray).size = 7 from rfl]; omega) W
  have q2 := fun W => str_add (P := Tryz.prog) (⟨#[99, 117, 114, 115, 111, 114, 32]⟩ ++ str (wordL (s.data.toList.drop 7))) ⟨#[32]⟩ (by rw [ba_append_size, str_size, show (⟨#[99, 117, 114, 115, 111, 114, 32]⟩ : ByteArray).size = 7 from rfl, show (⟨#[32]⟩ : ByteArray).size = 1 from rfl]; omega) W
  have HS2 := Lib.hid (show (⟨#[99, 117, 114, 115, 111, 114, 32]⟩ ++ str (wordL (s.data.toList.drop 7)) ++ ⟨#[32]⟩ : ByteArray).data.toList = curH s.data.toList from by
    rw [ba_append, ba_append, str_data]; rfl)
  generalize hs1 : (⟨#[99, 117, 114, 115, 111, 114, 32]⟩ ++ str (wordL (s.data.toList.drop 7)) : ByteArray) = s1 at *
  generalize hs2 : (s1 ++ ⟨#[32]⟩ : ByteArray) = s2 at *
  clear hs1 hs2
  have hsz2 : s2.size = (wordL (s.data.toList.drop 7)).length + 8 := by rw [ba_size, HS2.out, hcl]
  have hss2 : s2.size ≤ 3000000 := by omega
  have HSZ2 := Lib.hid (show s2.size = (curH s.data.toList).length from by rw [hsz2, hcl])
  have HLS := Lib.hid hls
  have HHM := Lib.hid hm
  clear hcl hwl hls hm hsz2
  generalize wordL (s.data.toList.drop 7) = wl at *
  have hNU := fun W => rnumbers_any s2 W (by omega)
  simp only [HS2.out] at hNU
  have HNU := Lib.hid hNU
  clear hNU
  go_enter Tryz.func53, Tryz.ntmps53
  go_wp2_with fail
  refine HF.out.mono ?_
  rintro e w' ⟨rfl, rfl⟩
  go_wp2_with fail
  refine (HNU.out _).mono ?_
  rintro e w1 ⟨v1, rfl, ho1, hlt1, hle1, hb1⟩
  have HO1 := Lib.hid ho1; have HB1 := Lib.hid hb1; have HL1 := Lib.hid hlt1
  have hBs1 := hb1.size
  clear ho1 hb1 hlt1
  have HI := Lib.hid (rints_any v1 _ w1 w1.heap.size (Nat.le_refl _) (RdL.of_own HO1.out) (by omega) HL1.out)
  go_wp2_with fail
  refine HI.out.mono ?_
  rintro e w2 ⟨v2, rfl, ho2, hb2⟩
  have HO2 := Lib.hid ho2; have HB2 := Lib.hid (HB1.out.trans (hb2.mono hBs1))
  clear ho2 hb2 HI HO1 HL1 HB1
  have HK2 := Lib.hid (RKeep.ofW (rb := rb) H.out.hB HB2.out)
  obtain ⟨A2, c2, rfl, hcp, hcm, hcc⟩ := HO2.out.open_
  have hrl : (rints (numsL (curH s.data.toList))).length = (numsL (curH s.data.toList)).length := rints_length _
  have HRL := Lib.hid hrl
  clear hrl
  generalize hrr : rints (numsL (curH s.data.toList)) = rl at *
  have HRR := Lib.hid hrr
  clear hrr
  by_cases hA : s.size ≤ s2.size
  · have HN := Lib.hid (rCur_none1 (s := s.data.toList) (by rw [← HSZ2.out, HLS.out]; exact hA))
    go_wp2
    go_ret
    exact PnRet.bad HK2.out (by rw [HN.out]; rfl) rfl
  by_cases hB : rl.length = 1
  case neg =>
    have HN := Lib.hid (rCur_none2 (s := s.data.toList) (by rw [← HRL.out]; exact hB))
    have hBi : ((rl.length : Int) == 1) = false := by rw [beq_eq_false_iff_ne]; omega
    go_wp2
    go_ret
    exact PnRet.bad HK2.out (by rw [HN.out]; rfl) rfl
  obtain ⟨f, rfl⟩ : ∃ f, rl = [f] := by
    rcases rl with _ | ⟨f, _ | ⟨g, r⟩⟩
    · simp at hB
    · exact ⟨f, rfl⟩
    · simp at hB
  have HN := Lib.hid (rCur_some (s := s.data.toList) (by rw [← HSZ2.out, HLS.out]; exact hA) HRR.out)
  have hfb := rints_small (numsL (curH s.data.toList)) f (by rw [HRR.out]; exact List.mem_singleton.2 rfl)
  obtain ⟨g2, rfl, hg1, hg2, hcell⟩ := hcc 0 0 (by simp) (by decide)
  have r0 : w2.cell? ⟨g2, 0, none⟩ = some (.int .i64 f) := hcell _ rfl
  have HX := Lib.hid (show (s.extract s2.size s.size).data.toList = s.data.toList.drop (curH s.data.toList).length from by
    rw [Lib.extract_data, List.take_of_length_le (by rw [List.length_drop, HLS.out]; exact Nat.le_refl _), HSZ2.out])
  have hlx : (s.extract s2.size s.size).size ≤ 2000000 := by rw [ba_size, HX.out, List.length_drop, HLS.out]; omega
  have hTl : (runqF ((s.data.toList.drop (curH s.data.toList).length).drop 1)).length ≤ 2000000 := by
    have h1 := runqF_len _ ((s.data.toList.drop (curH s.data.toList).length).drop 1) (Nat.le_refl _)
    have h2 := HLS.out
    rw [List.length_drop, List.length_drop] at h1
    omega
  have HU := Lib.hid (fun (W : World) (hW : Below w2.heap.size w2 W) => (show Calls Tryz.prog 81 #[.string (s.extract s2.size s.size)] W fun e w' => e = .returned (.string (str (runqF ((s.data.toList.drop (curH s.data.toList).length).drop 1)))) ∧ Below w2.heap.size w2 w' ∧ Below W.heap.size W w' from (runq_any (s.extract s2.size s.size) W (by omega)).mono (fun e w' h => ⟨by rw [← HX.out]; exact h.1, hW.trans (h.2.mono hW.size), h.2⟩)))
  generalize runqF ((s.data.toList.drop (curH s.data.toList).length).drop 1) = T at *
  have HSF := Lib.hid (fun (W : World) (hW : Below w2.heap.size w2 W) => (show W.cell? ⟨g2, 0, none⟩ = some (.int .i64 f) ∧ Below w2.heap.size w2 W from ⟨(World.cell?_of_block (hW.block g2 hg2)).trans r0, hW⟩))
  have HTL := Lib.hid hTl
  obtain ⟨hf0, hf1⟩ := hfb
  clear hcc hcell hTl hlx
  have f2 := fun W => slice_from (P := Tryz.prog) 9 Tryz.underlying9 s s2.size (by omega) W
  have h01 : (0 : Int) ≤ 0 ∧ (0 : Int) < 1 := by decide
  go_upto_region 5 with (fail)
  go_cut [7] (fun v7 wx => CuBox w2 ⟨f, T⟩ v7 wx)
  case first =>
    go_region_held3 (fun W => W.cell? ⟨g2, 0, none⟩ = some (.int .i64 f) ∧ Below w2.heap.size w2 W) (exact HSF.out _ (by repeat (first | assumption | exact Below.refl _ _ | with_reducible refine Below.drew ?_ | (with_reducible refine Below.setCell ?_ (by first | exact Nat.le_refl _ | (with_reducible exact Below.size (by assumption))) _) | (with_reducible refine Below.alloc ?_ (by first | exact Nat.le_refl _ | (with_reducible exact Below.size (by assumption))) _)))) (first | ((with_reducible refine (HU.out _ ?_).mono ?_); (repeat (first | assumption | exact Below.refl _ _ | with_reducible refine Below.drew ?_ | (with_reducible refine Below.alloc ?_ (Nat.le_refl _) _))); rintro e w5 ⟨rfl, hb5, hq5⟩; (try (have hzA := (first_box hq5); have z0 := hzA.cell 0; have z1 := hzA.cell 1; have fz0 := hzA.frozen 0; have fz1 := hzA.frozen 1; have lz := hzA.lt; simp only [List.getElem?_toArray, List.getElem?_cons_zero, List.getElem?_cons_succ] at z0 z1))))
    · rename_i hHeld
      go_wp2
      go_meet
      exact ⟨_, rfl, hb5.size, hHeld.2, Blk.new w5 _ _⟩
    · rename_i hHeld
      go_wp2
      go_meet
      exact ⟨_, rfl, Nat.le_refl _, hHeld.2, (hzA.set_ 0 _).set_ 1 _⟩
  case rest =>
    obtain ⟨gb, rfl, hgb, hbx, hbk⟩ := hcut
    clear HU HSF f2
    generalize wc = w3 at *
    have hwsz := HB2.out.size
    have HB3 := Lib.hid (HB2.out.trans (hbx.mono hwsz))
    have HR3 := Lib.hid (H.out.below HB3.out)
    have HKB := Lib.hid (RKeep.ofW (rb := rb) H.out.hB HB3.out)
    have HBK := Lib.hid hbk
    have q0 := hbk.cell 0
    have q1' := hbk.cell 1
    simp only [List.getElem?_toArray, List.getElem?_cons_zero, List.getElem?_cons_succ] at q0 q1'
    have hbl := hbk.lt
    have r1 : w3.cell? ⟨rb, 1, none⟩ = some x.cv := HR3.out.blk.cell 1
    have hrl := HR3.out.blk.lt
    have HL := Lib.hid (show st.curs.length + 1 ≤ 970000000000 by omega)
    have hgw : w.heap.size ≤ gb := Nat.le_trans hwsz hgb
    have HGW := Lib.hid hgw
    have HNO := Lib.hid (show x.cv.ownBlock ≠ some gb from fun e => by have := H.out.curs.ownLt e; omega)
    have HRB := Lib.hid (show gb ≠ rb from by have := H.out.hrb; have := H.out.hB; omega)
    clear hbk hbx hgw
    go_wp2
    go_region_law (first
      | ((with_reducible refine OwnL.stepAppendG lfSOk (B := B) (v := x.cv) (l := st.curs) (PtsAt.curs (B := B) (rb := rb) (x := x) (st := st) (by (repeat (first | exact HR3.out | with_reducible refine PtsAt.drew ?_ | with_reducible refine PtsAt.alloc ?_ _)); done)) (Lf.mk f T) _ rfl _ _ rfl rfl rfl (by refine lfcell ?_ ?_ <;> simp [World.cell?_alloc_new]) (PtsAt.hB (B := B) (rb := rb) (x := x) (st := st) (by (repeat (first | exact HR3.out | with_reducible refine PtsAt.drew ?_ | with_reducible refine PtsAt.alloc ?_ _)); done)) HL.out (fun g6 c6 w6 h2 h3 h3k h4 h5 => ?_)); (have hR6 := (PtsAt.pushCur (B := B) (rb := rb) (x := x) (st := st) (by (repeat (first | exact HR3.out | with_reducible refine PtsAt.drew ?_ | with_reducible refine PtsAt.alloc ?_ _)); done) (Lf.mk f T) h2 h3 h3k)); (have hK6 := HKB.out.grow1 HR3.out.hB h3); (have hX6 := Blk.keptB (g := gb) (t := 66) (cs := #[.int .i64 f, .string (str T)]) (by (repeat (first | exact HBK.out | with_reducible refine Blk.drewI ?_ | with_reducible refine Blk.alloc ?_ _)); done) h3k HNO.out); (obtain ⟨m6, m7⟩ := (PtsAt.cursKept (B := B) (rb := rb) (x := x) (st := st) (by (repeat (first | exact HR3.out | with_reducible refine PtsAt.drew ?_ | with_reducible refine PtsAt.alloc ?_ _)); done) h3k)); clear h2 h3 h3k h4))
    all_goals
      have HR7 := Lib.hid hR6
      have HK7 := Lib.hid (hK6.trans (RKeep.set_ B rb 1 _ (.slice (some ⟨g6, 0, none⟩) (st.curs.length + 1) c6)))
      have HX7 := Lib.hid (hX6.far (p := ⟨rb, 1, none⟩) HRB.out (.slice (some ⟨g6, 0, none⟩) (st.curs.length + 1) c6))
      clear hR6 hK6 hX6 m6 m7 h5 q0 q1' hbl r1 hrl
      generalize (w6.setCell ⟨rb, 1, none⟩ (.slice (some ⟨g6, 0, none⟩) (st.curs.length + 1) c6)) = w7 at *
      have HSF := Lib.hid (fun (W : World) (hW : Below w7.heap.size w7 W) => (show W.cell? ⟨gb, 0, none⟩ = some (.int .i64 f) ∧ W.cell? ⟨gb, 1, none⟩ = some (.string (str T)) ∧ Below w7.heap.size w7 W from ⟨(HX7.out.belowW hW).cell 0, (HX7.out.belowW hW).cell 1, hW⟩))
      obtain ⟨n, hn7⟩ : ∃ n : Nat, f = (n : Int) := ⟨f.toNat, by omega⟩
      subst hn7
      have hw64 := wrap_u64n n (by omega)
      have hdl := dgt_len n (by omega)
      have hql := quoL_len T
      have HAR1 := Lib.hid (fun (W : World) (hW : Below w7.heap.size w7 W) => (show Calls Tryz.prog 64 #[.int .u64 (n : Int)] W fun e w' => e = .returned (.string (str (dgt n))) ∧ Below w7.heap.size w7 w' from (decimal_any n (by omega) W).mono (fun e w' h => ⟨h.1, hW.trans (h.2.mono hW.size)⟩)))
      have HAR2 := Lib.hid (fun (W : World) (hW : Below w7.heap.size w7 W) => (show Calls Tryz.prog 65 #[.string (str T)] W fun e w' => e = .returned (.string (str (quoL T))) ∧ Below w7.heap.size w7 w' from (rquoted_any (str T) W (by rw [str_size]; have := HTL.out; omega)).mono (fun e w' h => ⟨by rw [h.1, str_data], hW.trans (h.2.mono hW.size)⟩)))
      have q3 := fun W => str_add (P := Tryz.prog) ⟨#[99, 117, 114, 115, 111, 114, 32]⟩ (str (dgt n)) (by rw [str_size, show (⟨#[99, 117, 114, 115, 111, 114, 32]⟩ : ByteArray).size = 7 from rfl]; omega) W
      have q4 := fun W => str_add (P := Tryz.prog) (⟨#[99, 117, 114, 115, 111, 114, 32]⟩ ++ str (dgt n)) ⟨#[32]⟩ (by rw [ba_append_size, str_size, show (⟨#[99, 117, 114, 115, 111, 114, 32]⟩ : ByteArray).size = 7 from rfl, show (⟨#[32]⟩ : ByteArray).size = 1 from rfl]; omega) W
      have q5 := fun W => str_add (P := Tryz.prog) (⟨#[99, 117, 114, 115, 111, 114, 32]⟩ ++ str (dgt n) ++ ⟨#[32]⟩) (str (quoL T)) (by rw [ba_append_size, ba_append_size, str_size, str_size, show (⟨#[99, 117, 114, 115, 111, 114, 32]⟩ : ByteArray).size = 7 from rfl, show (⟨#[32]⟩ : ByteArray).size = 1 from rfl]; have := HTL.out; omega) W
      have HS5 := Lib.hid (show (⟨#[99, 117, 114, 115, 111, 114, 32]⟩ ++ str (dgt n) ++ ⟨#[32]⟩ ++ str (quoL T) : ByteArray).data.toList = curL ⟨(n : Int), T⟩ from by
        rw [ba_append, ba_append, ba_append, str_data, str_data, curL_form]; simp [numC])
      generalize hs3 : (⟨#[99, 117, 114, 115, 111, 114, 32]⟩ ++ str (dgt n) : ByteArray) = s3 at *
      generalize hs4 : (s3 ++ ⟨#[32]⟩ : ByteArray) = s4 at *
      generalize hs5 : (s4 ++ str (quoL T) : ByteArray) = s5 at *
      clear hs3 hs4 hs5 hdl hql
      generalize str (dgt n) = sd at *
      generalize str (quoL T) = sq at *
      have HEQ := Lib.hid (show (s.toList == s5.toList) = decide (s.data.toList = curL ⟨(n : Int), T⟩) from by
        rw [← HS5.out, Bool.eq_iff_iff, beq_iff_eq, decide_eq_true_iff, ByteArray.toList_eq, ByteArray.toList_eq])
      by_cases hcmp : s.data.toList = curL ⟨(n : Int), T⟩
      · have heq : (s.toList == s5.toList) = true := by rw [HEQ.out]; exact decide_eq_true hcmp
        rw [if_pos hcmp] at HN
        clear hcmp HEQ
        go_wp2
        go_region_held3 (fun W => W.cell? ⟨gb, 0, none⟩ = some (.int .i64 (n : Int)) ∧ W.cell? ⟨gb, 1, none⟩ = some (.string (str T)) ∧ Below w7.heap.size w7 W) (exact HSF.out _ (by repeat (first | assumption | exact Below.refl _ _ | with_reducible refine Below.drew ?_))) (first | ((with_reducible refine (HAR1.out _ ?_).mono ?_); (repeat (first | assumption | exact Below.refl _ _ | with_reducible refine Below.drew ?_)); (rintro e w8 ⟨rfl, hk1⟩)) | ((with_reducible refine (HAR2.out _ ?_).mono ?_); (repeat (first | assumption | exact Below.refl _ _ | with_reducible refine Below.drew ?_)); (rintro e w8 ⟨rfl, hk2⟩)))
        all_goals
          rename_i hHeld
          go_wp2
          go_ret
          exact PnRet.good (HK7.out.trans (RKeep.ofW HR7.out.hB hHeld.2.2)) (by rw [HN.out]; rfl) rfl (HR7.out.below hHeld.2.2)
      · have heq : (s.toList == s5.toList) = false := by rw [HEQ.out]; exact decide_eq_false hcmp
        rw [if_neg hcmp] at HN
        clear hcmp HEQ
        go_wp2
        go_region_held3 (fun W => W.cell? ⟨gb, 0, none⟩ = some (.int .i64 (n : Int)) ∧ W.cell? ⟨gb, 1, none⟩ = some (.string (str T)) ∧ Below w7.heap.size w7 W) (exact HSF.out _ (by repeat (first | assumption | exact Below.refl _ _ | with_reducible refine Below.drew ?_))) (first | ((with_reducible refine (HAR1.out _ ?_).mono ?_); (repeat (first | assumption | exact Below.refl _ _ | with_reducible refine Below.drew ?_)); (rintro e w8 ⟨rfl, hk1⟩)) | ((with_reducible refine (HAR2.out _ ?_).mono ?_); (repeat (first | assumption | exact Below.refl _ _ | with_reducible refine Below.drew ?_)); (rintro e w8 ⟨rfl, hk2⟩)))
        all_goals
          rename_i hHeld
          go_wp2
          go_ret
          exact PnRet.bad (HK7.out.trans (RKeep.ofW HR7.out.hB hHeld.2.2)) (by rw [HN.out]; rfl) rfl
end Go.Proofs.YtmdpfikalekmlaaGreatDoor
end
section
/- Layer 20, the document's reader: near. -/
namespace Go.Proofs.YtmdpfikalekmlaaGreatDoor
open Go.RowKit
set_option maxRecDepth 100000
set_option maxHeartbeats 8000000
set_option linter.unusedSimpArgs false
set_option linter.unusedVariables false

/-- A phrase under way, its lists of any length. -/
structure Nr2 (W : World) (E nb : Nat) (vc vo : Value) (c o : List Int) (sl : Int) : Prop where
  blk : Blk W nb 68 #[vc, vo, .int .i64 sl]
  oc : OwnL intS W E vc c
  oo : OwnL intS W E vo o
  ne : ∀ g, vc.ownBlock = some g → vo.ownBlock ≠ some g
  hE : E ≤ W.heap.size
section
variable {W W' : World} {E nb : Nat} {vc vo : Value} {c o : List Int} {sl : Int}
theorem Nr2.below (h : Nr2 W E nb vc vo c o sl) (hb : Below W.heap.size W W') : Nr2 W' E nb vc vo c o sl :=
  ⟨h.blk.belowW hb, h.oc.below hb, h.oo.below hb, h.ne, Nat.le_trans h.hE hb.size⟩
theorem Nr2.drew (h : Nr2 W E nb vc vo c o sl) : Nr2 W.drew E nb vc vo c o sl := ⟨h.blk, h.oc, h.oo, h.ne, h.hE⟩
theorem Nr2.alloc (h : Nr2 W E nb vc vo c o sl) (x : Obj) : Nr2 (W.alloc x) E nb vc vo c o sl := h.below ((Below.refl _ _).alloc (Nat.le_refl _) x)
theorem Nr2.cKept (h : Nr2 W E nb vc vo c o sl) (hk : KeptBut W W' vc) : W'.cell? ⟨nb, 0, none⟩ = some vc ∧ W'.frozen? ⟨nb, 0, none⟩ = false :=
  ⟨(h.blk.keptL h.oc (by decide) hk).cell 0, (h.blk.keptL h.oc (by decide) hk).frozen 0⟩
theorem Nr2.oKept (h : Nr2 W E nb vc vo c o sl) (hk : KeptBut W W' vo) : W'.cell? ⟨nb, 1, none⟩ = some vo ∧ W'.frozen? ⟨nb, 1, none⟩ = false :=
  ⟨(h.blk.keptL h.oo (by decide) hk).cell 1, (h.blk.keptL h.oo (by decide) hk).frozen 1⟩
theorem Nr2.pushC (h : Nr2 W E nb vc vo c o sl) {g n k : Nat} {x : Int} (ho : OwnL intS W' E (.slice (some ⟨g, 0, none⟩) n k) (c ++ [x])) (hb : Below E W W') (hk : KeptBut W W' vc) (hg : vc.ownBlock = some g ∨ g = W.heap.size) :
    Nr2 (W'.setCell ⟨nb, 0, none⟩ (.slice (some ⟨g, 0, none⟩) n k)) E nb (.slice (some ⟨g, 0, none⟩) n k) vo (c ++ [x]) o sl := by
  have hbk := h.blk.keptL h.oc (by decide) hk
  have hoo := h.oo.keptNe hk (fun z hz e => h.ne z e hz)
  refine ⟨hbk.set_ 0 _, ho.farNe (ho.offBlk hbk (by decide)) _, hoo.farNe (hoo.offBlk hbk (by decide)) _, ?_, by rw [set_size]; exact Nat.le_trans h.hE hb.size⟩
  intro z hz e
  rw [own_some] at hz
  injection hz with hz
  subst hz
  rcases hg with hg | hg
  · exact h.ne _ hg e
  · have := (h.oo.lt _ e).2; omega
theorem Nr2.pushO (h : Nr2 W E nb vc vo c o sl) {g n k : Nat} {x : Int} (ho : OwnL intS W' E (.slice (some ⟨g, 0, none⟩) n k) (o ++ [x])) (hb : Below E W W') (hk : KeptBut W W' vo) (hg : vo.ownBlock = some g ∨ g = W.heap.size) :
    Nr2 (W'.setCell ⟨nb, 1, none⟩ (.slice (some ⟨g, 0, none⟩) n k)) E nb vc (.slice (some ⟨g, 0, none⟩) n k) c (o ++ [x]) sl := by
  have hbk := h.blk.keptL h.oo (by decide) hk
  have hoc := h.oc.keptNe hk (fun z hz => h.ne z hz)
  refine ⟨hbk.set_ 1 _, hoc.farNe (hoc.offBlk hbk (by decide)) _, ho.farNe (ho.offBlk hbk (by decide)) _, ?_, by rw [set_size]; exact Nat.le_trans h.hE hb.size⟩
  intro z hz e
  rw [own_some] at e
  injection e with e
  subst e
  rcases hg with hg | hg
  · exact h.ne _ hz hg
  · have := (h.oc.lt _ hz).2; omega
end
theorem Below.grow1 {E : Nat} {w wr w6 : World} {o : Obj} (h : Below E w wr) (hs : E ≤ wr.heap.size) (h3 : Below E (wr.alloc o).drew w6) : Below E w w6 :=
  h.trans (Below.trans ((Below.refl E wr).alloc hs o).drew h3)
theorem PtsAt.nearsKept {w w' : World} {B rb : Nat} {x : RdrV} {st : Rs} (h : PtsAt w B rb x st) (hk : KeptBut w w' x.nv) : w'.cell? ⟨rb, 2, none⟩ = some x.nv ∧ w'.frozen? ⟨rb, 2, none⟩ = false :=
  ⟨(h.blk.keptL h.nears (by decide) hk).cell 2, (h.blk.keptL h.nears (by decide) hk).frozen 2⟩
theorem pairUp_len : ∀ (l : List Int), 2 * (pairUp l).length ≤ l.length
  | [] => by simp [pairUp]
  | [_] => by simp [pairUp]
  | a :: b :: r => by have := pairUp_len r; simp [pairUp]; omega
theorem pairUp_lenE : ∀ (l : List Int), l.length % 2 = 0 → 2 * (pairUp l).length = l.length
  | [], _ => by simp [pairUp]
  | [_], h => by simp at h
  | a :: b :: r, h => by have := pairUp_lenE r (by simp at h; omega); simp [pairUp]; omega
theorem pairUp_get : ∀ (l : List Int) (k : Nat) (h : 2 * k + 1 < l.length), ∃ hk : k < (pairUp l).length, (pairUp l)[k] = (l[2 * k], l[2 * k + 1])
  | [], k, h => by simp at h
  | [_], k, h => by simp at h
  | a :: b :: r, 0, h => ⟨by simp [pairUp], rfl⟩
  | a :: b :: r, k + 1, h => by
    obtain ⟨h1, h2⟩ := pairUp_get r k (by simp at h; omega)
    refine ⟨by simp [pairUp]; exact h1, ?_⟩
    simp only [pairUp, List.getElem_cons_succ]
    rw [h2]
    rfl
/-- The phrase's loop: so many pairs are taken. -/
def RnRel (w0 : World) (nb : Nat) (sl : Int) (r : List Int) (iv : Value) (wr : World) : Prop :=
  ∃ (k i : Nat) (vc vo : Value), k ≤ (pairUp r).length ∧ i = 2 * k + 1 ∧ iv = .int .i64 (i : Int) ∧ Nr2 wr w0.heap.size nb vc vo (((pairUp r).take k).map (·.1)) (((pairUp r).take k).map (·.2)) sl ∧ Below w0.heap.size w0 wr
theorem rNear_no0 {s : List UInt8} (h : (rints (numsL s)).length % 2 ≠ 1) : rNear s = none := by
  unfold rNear
  split
  · rfl
  · rename_i k l he
    rw [he, List.length_cons] at h
    rw [if_neg (by omega)]
theorem rNear_of {s : List UInt8} {sl : Int} {r : List Int} (h : rints (numsL s) = sl :: r) (he : r.length % 2 = 0) : rNear s = if s = nearL ⟨sl, (pairUp r).map (·.1), (pairUp r).map (·.2)⟩ then some ⟨sl, (pairUp r).map (·.1), (pairUp r).map (·.2)⟩ else none := by
  unfold rNear
  rw [h]
  simp only []
  rw [if_pos he]
theorem rnear_any (s : ByteArray) (w : World) (B rb : Nat) (x : RdrV) (st : Rs) (h : PtsAt w B rb x st) (hn : st.nears.length ≤ 1000000000) (hs : s.size ≤ 1048576) :
    Calls Tryz.prog 54 #[.pointer (some ⟨rb, 0, none⟩), .string s] w (PnRet B rb w ((rNear s.data.toList).map fun c => { st with nears := st.nears ++ [c] })) := by
  have H := Lib.hid h
  have HNU := Lib.hid (rnumbers_any s w (by omega))
  have hls : s.data.toList.length = s.size := (ba_size s).symm
  have HLS := Lib.hid hls
  clear h hls
  go_enter Tryz.func54, Tryz.ntmps54
  go_wp2_with fail
  refine HNU.out.mono ?_
  rintro e w1 ⟨v1, rfl, ho1, hlt1, hle1, hb1⟩
  have HO1 := Lib.hid ho1; have HB1 := Lib.hid hb1; have HL1 := Lib.hid hlt1
  have hBs1 := hb1.size
  clear ho1 hb1 hlt1 HNU
  have HI := Lib.hid (rints_any v1 _ w1 w1.heap.size (Nat.le_refl _) (RdL.of_own HO1.out) (by omega) HL1.out)
  go_wp2_with fail
  refine HI.out.mono ?_
  rintro e w0 ⟨v2, rfl, ho2, hb2⟩
  have HO2 := Lib.hid (RdL.of_own ho2); have HB2 := Lib.hid (HB1.out.trans (hb2.mono hBs1))
  clear ho2 hb2 HI HO1 HL1 HB1
  have HK2 := Lib.hid (RKeep.ofW (rb := rb) H.out.hB HB2.out)
  obtain ⟨A2, c2, rfl, hcp, hcm⟩ := HO2.out.open_
  unfold maxLen at hcm
  have hrl : (rints (numsL s.data.toList)).length = (numsL s.data.toList).length := rints_length _
  have hrs := rints_small (numsL s.data.toList)
  generalize hrr : rints (numsL s.data.toList) = rl at *
  have HRR := Lib.hid hrr
  have HRS := Lib.hid hrs
  have hrn : rl.length ≤ 1048576 := by omega
  clear hrr hrs hrl hle1
  by_cases hodd : rl.length % 2 = 1
  case neg =>
    have HN := Lib.hid (rNear_no0 (s := s.data.toList) (by rw [HRR.out]; exact hodd))
    have hro : ((rl.length : Int)).tmod 2 = 0 := by rw [Int.tmod_eq_emod_of_nonneg (by omega)]; omega
    go_wp2
    go_ret
    exact PnRet.bad HK2.out (by rw [HN.out]; rfl) rfl
  obtain ⟨sl, r, rfl⟩ : ∃ sl r, rl = sl :: r := by
    rcases rl with _ | ⟨sl, r⟩
    · simp at hodd
    · exact ⟨sl, r, rfl⟩
  have hre : r.length % 2 = 0 := by rw [List.length_cons] at hodd; omega
  have HN := Lib.hid (rNear_of HRR.out hre)
  have hpl := pairUp_lenE r hre
  have hro : (((sl :: r).length : Nat) : Int).tmod 2 = 1 := by rw [Int.tmod_eq_emod_of_nonneg (by omega)]; omega
  obtain ⟨a2, rfl, hab, c0⟩ := at_int HO2.out (k := 0) (by simp)
  rw [addr_zero] at c0
  simp only [List.getElem_cons_zero] at c0
  have hsl := HRS.out sl List.mem_cons_self
  have hlen : ((sl :: r).length : Int) = 2 * ((pairUp r).length : Int) + 1 := by rw [List.length_cons]; omega
  have HLEN := Lib.hid hlen
  have h0l : (0 : Int) ≤ 0 ∧ (0 : Int) < (((sl :: r).length : Nat) : Int) := by rw [hlen]; omega
  have hro2 : ((r.length : Int) + 1) % 2 = 1 := by omega
  clear hlen hro2
  go_upto_region 4 with (fail)
  go_cut [6] (fun v6 wx => v6 = .pointer (some ⟨w0.heap.size, 0, none⟩) ∧ wx = w0.alloc (.cells #[.slice none 0 0, .slice none 0 0, .int .i64 sl] 68))
  case first =>
    go_wp2
    go_meet
    exact ⟨rfl, rfl⟩
  obtain ⟨rfl, rfl⟩ := hcut
  clear hro hodd h0l c0
  go_wp2
  go_loopw [7] (fun iv wr => RnRel w0 w0.heap.size sl r iv wr) (fun iv _ => r.length + 2 - (intOf iv).toNat)
  case atStart => exact ⟨0, 1, .slice none 0 0, .slice none 0 0, Nat.zero_le _, rfl, rfl, ⟨Blk.new _ _ _, OwnL.nil _ _ _, OwnL.nil _ _ _, (fun g hg => by cases hg), by rw [World.size_alloc]; omega⟩, (Below.refl _ _).alloc (Nat.le_refl _) _⟩
  case round =>
    obtain ⟨k, i, vc, vo, hk, hi, rfl, hn2, hb⟩ := hrel
    have HN2 := Lib.hid hn2; have HB := Lib.hid hb
    have hBr := hb.size
    by_cases hlt : k < (pairUp r).length
    · obtain ⟨hgk, hget⟩ := pairUp_get r k (by omega)
      have HT := Lib.hid (show (pairUp r).take (k + 1) = (pairUp r).take k ++ [(r[2 * k]'(by omega), r[2 * k + 1]'(by omega))] from by rw [List.take_succ_eq_append_getElem hgk, hget])
      have hO := HO2.out.below hb
      obtain ⟨aa, haa, hab1, c1⟩ := at_int hO (k := i) (by rw [List.length_cons]; omega)
      injection haa with haa
      subst haa
      obtain ⟨j, hj⟩ : ∃ j, i + 1 = j := ⟨_, rfl⟩
      obtain ⟨ab, hab2, hab3, c20⟩ := at_int HO2.out (k := j) (by rw [List.length_cons]; omega)
      injection hab2 with hab2
      subst hab2
      have e1 : (sl :: r)[i]'(by rw [List.length_cons]; omega) = r[2 * k]'(by omega) := by simp only [hi]; rfl
      have e2 : (sl :: r)[j]'(by rw [List.length_cons]; omega) = r[2 * k + 1]'(by omega) := by simp only [← hj, hi]; rfl
      rw [e1] at c1
      rw [e2] at c20
      clear e1 e2 hO hget
      generalize r[2 * k]'(by omega) = p at *
      generalize r[2 * k + 1]'(by omega) = q at *
      have C20 := Lib.hid c20
      clear c20
      have hil : (i : Int) < (r.length : Int) + 1 := by omega
      have hil2 : (0 : Int) ≤ (i : Int) ∧ (i : Int) < (((sl :: r).length : Nat) : Int) := by rw [List.length_cons]; omega
      have hil3 : (0 : Int) ≤ (i : Int) ∧ (i : Int) < (r.length : Int) + 1 := by omega
      have hjl3 : (0 : Int) ≤ (j : Int) ∧ (j : Int) < (r.length : Int) + 1 := by omega
      have hij : (i : Int) + 1 = (j : Int) := by omega
      have hwj : IntKind.i64.wrap (j : Int) = (j : Int) := wrap_i64 _ (by omega) (by omega)
      have hll : (((pairUp r).take k).map (·.1)).length + 1 ≤ 970000000000 := by rw [List.length_map, List.length_take]; omega
      have hll2 : (((pairUp r).take k).map (·.2)).length + 1 ≤ 970000000000 := by rw [List.length_map, List.length_take]; omega
      have HLL := Lib.hid hll; have HLL2 := Lib.hid hll2
      have HI2 := Lib.hid hi; have HJ2 := Lib.hid hj; have HAB := Lib.hid hab1; have HAB3 := Lib.hid hab3
      have f0 := hn2.blk.cell 0
      have f1 := hn2.blk.cell 1
      simp only [List.getElem?_toArray, List.getElem?_cons_zero, List.getElem?_cons_succ] at f0 f1
      have hnl := hn2.blk.lt
      have HT1 := Lib.hid (show ((pairUp r).take (k + 1)).map (·.1) = ((pairUp r).take k).map (·.1) ++ [p] from by rw [HT.out]; simp)
      have HT2 := Lib.hid (show ((pairUp r).take (k + 1)).map (·.2) = ((pairUp r).take k).map (·.2) ++ [q] from by rw [HT.out]; simp)
      generalize ((pairUp r).take k).map (·.1) = cl at *
      generalize ((pairUp r).take k).map (·.2) = ol at *
      have hax : (a2.add i).block < wr.heap.size := Nat.lt_of_lt_of_le hab1 hBr
      clear hn2 hb hi hj hll hll2 hgk hab1 hab3
      go_wp2
      go_region_law (first
        | ((with_reducible refine OwnL.stepAppendG intSOk (B := w0.heap.size) (v := vc) (l := cl) (Nr2.oc (E := w0.heap.size) (nb := w0.heap.size) (vc := vc) (vo := vo) (c := cl) (o := ol) (sl := sl) (by (repeat (first | exact HN2.out | with_reducible refine Nr2.drew ?_ | with_reducible refine Nr2.alloc ?_ _)); done)) (p) _ rfl _ _ rfl rfl rfl (by refine intcell ?_ <;> simp [World.cell?_alloc_new]) (Nr2.hE (E := w0.heap.size) (nb := w0.heap.size) (vc := vc) (vo := vo) (c := cl) (o := ol) (sl := sl) (by (repeat (first | exact HN2.out | with_reducible refine Nr2.drew ?_ | with_reducible refine Nr2.alloc ?_ _)); done)) HLL.out (fun g6 c6 w6 h2 h3 h3k h4 h5 => ?_)); (have hN6 := Nr2.pushC (E := w0.heap.size) (nb := w0.heap.size) (vc := vc) (vo := vo) (c := cl) (o := ol) (sl := sl) (by (repeat (first | exact HN2.out | with_reducible refine Nr2.drew ?_ | with_reducible refine Nr2.alloc ?_ _)); done) h2 h3 h3k h4); (have hB6 := Below.grow1 HB.out (Nr2.hE (E := w0.heap.size) (nb := w0.heap.size) (vc := vc) (vo := vo) (c := cl) (o := ol) (sl := sl) HN2.out) h3); (obtain ⟨m6, m7⟩ := Nr2.cKept (E := w0.heap.size) (nb := w0.heap.size) (vc := vc) (vo := vo) (c := cl) (o := ol) (sl := sl) (by (repeat (first | exact HN2.out | with_reducible refine Nr2.drew ?_ | with_reducible refine Nr2.alloc ?_ _)); done) h3k); clear h2 h3 h3k h4))
      all_goals
        have HN7 := Lib.hid hN6
        have HB7 := Lib.hid (hB6.setCell (p := ⟨w0.heap.size, 0, none⟩) (Nat.le_refl _) (.slice (some ⟨g6, 0, none⟩) (cl.length + 1) c6))
        clear hN6 hB6 m6 m7 h5 f0 f1 hnl c1 hax hBr
        generalize (w6.setCell ⟨w0.heap.size, 0, none⟩ (.slice (some ⟨g6, 0, none⟩) (cl.length + 1) c6)) = w7 at *
        have c2 : w7.cell? (a2.add j) = some (.int .i64 q) := (World.cell?_of_block (HB7.out.block _ HAB3.out)).trans C20.out
        have f0 := HN7.out.blk.cell 0
        have f1 := HN7.out.blk.cell 1
        simp only [List.getElem?_toArray, List.getElem?_cons_zero, List.getElem?_cons_succ] at f0 f1
        have hnl := HN7.out.blk.lt
        have hBr := HB7.out.size
        have hax : (a2.add j).block < w7.heap.size := Nat.lt_of_lt_of_le HAB3.out hBr
        go_wp2
        go_region_law (first
          | ((with_reducible refine OwnL.stepAppendG intSOk (B := w0.heap.size) (v := vo) (l := ol) (Nr2.oo (E := w0.heap.size) (nb := w0.heap.size) (vc := (.slice (some ⟨g6, 0, none⟩) (cl.length + 1) c6)) (vo := vo) (c := (cl ++ [p])) (o := ol) (sl := sl) (by (repeat (first | exact HN7.out | with_reducible refine Nr2.drew ?_ | with_reducible refine Nr2.alloc ?_ _)); done)) (q) _ rfl _ _ rfl rfl rfl (by refine intcell ?_ <;> simp [World.cell?_alloc_new]) (Nr2.hE (E := w0.heap.size) (nb := w0.heap.size) (vc := (.slice (some ⟨g6, 0, none⟩) (cl.length + 1) c6)) (vo := vo) (c := (cl ++ [p])) (o := ol) (sl := sl) (by (repeat (first | exact HN7.out | with_reducible refine Nr2.drew ?_ | with_reducible refine Nr2.alloc ?_ _)); done)) HLL2.out (fun g8 c8 w8 h2 h3 h3k h4 h5 => ?_)); (have hN6 := Nr2.pushO (E := w0.heap.size) (nb := w0.heap.size) (vc := (.slice (some ⟨g6, 0, none⟩) (cl.length + 1) c6)) (vo := vo) (c := (cl ++ [p])) (o := ol) (sl := sl) (by (repeat (first | exact HN7.out | with_reducible refine Nr2.drew ?_ | with_reducible refine Nr2.alloc ?_ _)); done) h2 h3 h3k h4); (have hB6 := Below.grow1 HB7.out (Nr2.hE (E := w0.heap.size) (nb := w0.heap.size) (vc := (.slice (some ⟨g6, 0, none⟩) (cl.length + 1) c6)) (vo := vo) (c := (cl ++ [p])) (o := ol) (sl := sl) HN7.out) h3); (obtain ⟨m6, m7⟩ := Nr2.oKept (E := w0.heap.size) (nb := w0.heap.size) (vc := (.slice (some ⟨g6, 0, none⟩) (cl.length + 1) c6)) (vo := vo) (c := (cl ++ [p])) (o := ol) (sl := sl) (by (repeat (first | exact HN7.out | with_reducible refine Nr2.drew ?_ | with_reducible refine Nr2.alloc ?_ _)); done) h3k); clear h2 h3 h3k h4))
        all_goals
          have HN9 := Lib.hid hN6
          have HB9 := Lib.hid (hB6.setCell (p := ⟨w0.heap.size, 1, none⟩) (Nat.le_refl _) (.slice (some ⟨g8, 0, none⟩) (ol.length + 1) c8))
          clear hN6 hB6 m6 m7 h5 f0 f1 hnl c2 hax hBr
          go_wp2
          go_roundw
          case rel => exact ⟨k + 1, i + 2, _, _, by omega, by have := HI2.out; omega, by go_num, by rw [HT1.out, HT2.out]; exact HN9.out, HB9.out⟩
          case measure => simp [intOf]; omega
    · have hke : k = (pairUp r).length := by omega
      rw [hke, List.take_length] at hn2
      obtain ⟨cA, cc, hvc, -, -, -⟩ := hn2.oc.open_
      obtain ⟨oA, oc, hvo, -, -, -⟩ := hn2.oo.open_
      subst hvc hvo
      have HN3 := Lib.hid hn2
      have hil : ¬ (i : Int) < (r.length : Int) + 1 := by omega
      have q0 := hn2.blk.cell 0
      have q1 := hn2.blk.cell 1
      have q2 := hn2.blk.cell 2
      simp only [List.getElem?_toArray, List.getElem?_cons_zero, List.getElem?_cons_succ] at q0 q1 q2
      have hib := hn2.blk.lt
      have HB3 := Lib.hid (HB2.out.trans (hb.mono HB2.out.size))
      have HRr := Lib.hid (H.out.below HB3.out)
      have r2 : wr.cell? ⟨rb, 2, none⟩ = some x.nv := HRr.out.blk.cell 2
      have hrl := HRr.out.blk.lt
      have hxl : x.nl.length = st.nears.length := by rw [← H.out.nmap, List.length_map]
      have HL := Lib.hid (show x.nl.length + 1 ≤ 970000000000 by omega)
      have HKB := Lib.hid (RKeep.ofW (rb := rb) H.out.hB HB3.out)
      have hw0 := HB2.out.size
      have HNO := Lib.hid (show x.nv.ownBlock ≠ some w0.heap.size from fun e => by have := H.out.nears.ownLt e; omega)
      have HRB := Lib.hid (show w0.heap.size ≠ rb from by have := H.out.hrb; have := H.out.hB; omega)
      have hEB : B ≤ w0.heap.size := Nat.le_trans H.out.hB hw0
      have HO1 := Lib.hid (OwnL.more hn2.oc hEB)
      have HO2' := Lib.hid (OwnL.more hn2.oo hEB)
      have hml := HRS.out
      have HPM := Lib.hid (show ∀ x ∈ r, 0 ≤ x ∧ x < 9223372036854775808 from fun x hx => HRS.out x (List.mem_cons_of_mem _ hx))
      have hlc : ((pairUp r).map (·.1)).length ≤ 2000000 := by rw [List.length_map]; rw [List.length_cons] at hrn; omega
      have HLC := Lib.hid hlc
      have HC1 := Lib.hid (show ∀ x ∈ (pairUp r).map (·.1), 0 ≤ x ∧ x < 9223372036854775808 from by
        intro y hy
        obtain ⟨z, hz, rfl⟩ := List.mem_map.1 hy
        exact HPM.out _ (pairUp_mem r z hz).1)
      have HC2 := Lib.hid (show ∀ x ∈ (pairUp r).map (·.2), 0 ≤ x ∧ x < 9223372036854775808 from by
        intro y hy
        obtain ⟨z, hz, rfl⟩ := List.mem_map.1 hy
        exact HPM.out _ (pairUp_mem r z hz).2)
      have HLE := Lib.hid (show ((pairUp r).map (·.1)).length = ((pairUp r).map (·.2)).length from by rw [List.length_map, List.length_map])
      clear hn2 hb hlc hml hxl hke
      generalize (pairUp r).map (·.1) = cl at *
      generalize (pairUp r).map (·.2) = ol at *
      have HBX := Lib.hid (show Blk wr w0.heap.size 68 #[.slice cA cl.length cc, .slice oA ol.length oc, .int .i64 sl] from HN3.out.blk)
      go_wp2
      go_region_law (first
        | ((with_reducible refine OwnL.stepAppendG nrSOk (B := B) (v := x.nv) (l := x.nl) (PtsAt.nears (B := B) (rb := rb) (x := x) (st := st) (by (repeat (first | exact HRr.out | with_reducible refine PtsAt.drew ?_ | with_reducible refine PtsAt.alloc ?_ _)); done)) (NrV.mk cA cc oA oc ⟨sl, cl, ol⟩) _ rfl _ _ rfl rfl rfl (by refine nrcell ?_ ?_ ?_ <;> simp [World.cell?_alloc_new]) (PtsAt.hB (B := B) (rb := rb) (x := x) (st := st) (by (repeat (first | exact HRr.out | with_reducible refine PtsAt.drew ?_ | with_reducible refine PtsAt.alloc ?_ _)); done)) HL.out (fun g6 c6 w6 h2 h3 h3k h4 h5 => ?_)); (have hR6 := (PtsAt.pushNear (B := B) (rb := rb) (x := x) (st := st) (by (repeat (first | exact HRr.out | with_reducible refine PtsAt.drew ?_ | with_reducible refine PtsAt.alloc ?_ _)); done) (NrV.mk cA cc oA oc ⟨sl, cl, ol⟩) (by (repeat (first | exact HO1.out | with_reducible refine OwnL.drew ?_ | with_reducible refine OwnL.alloc ?_ _)); done) (by (repeat (first | exact HO2'.out | with_reducible refine OwnL.drew ?_ | with_reducible refine OwnL.alloc ?_ _)); done) h2 h3 h3k)); (have hK6 := HKB.out.grow1 HRr.out.hB h3); (have hX6 := Blk.keptB (g := w0.heap.size) (t := 68) (cs := #[.slice cA cl.length cc, .slice oA ol.length oc, .int .i64 sl]) (by (repeat (first | exact HBX.out | with_reducible refine Blk.drewI ?_ | with_reducible refine Blk.alloc ?_ _)); done) h3k HNO.out); (obtain ⟨m6, m7⟩ := PtsAt.nearsKept (B := B) (rb := rb) (x := x) (st := st) (by (repeat (first | exact HRr.out | with_reducible refine PtsAt.drew ?_ | with_reducible refine PtsAt.alloc ?_ _)); done) h3k); clear h2 h3 h3k h4))
      all_goals
        have HR7 := Lib.hid hR6
        have HK7 := Lib.hid (hK6.trans (RKeep.set_ B rb 2 _ (.slice (some ⟨g6, 0, none⟩) (x.nl.length + 1) c6)))
        have HX7 := Lib.hid (hX6.far (p := ⟨rb, 2, none⟩) HRB.out (.slice (some ⟨g6, 0, none⟩) (x.nl.length + 1) c6))
        clear hR6 hK6 hX6 m6 m7 h5 q0 q1 q2 hib r2 hrl
        generalize (w6.setCell ⟨rb, 2, none⟩ (.slice (some ⟨g6, 0, none⟩) (x.nl.length + 1) c6)) = w7 at *
        have hin := HR7.out.inner (NrV.mk cA cc oA oc ⟨sl, cl, ol⟩) (List.mem_append_right _ (List.mem_singleton.2 rfl))
        have HNL := Lib.hid (nearLine_any (NrV.mk cA cc oA oc ⟨sl, cl, ol⟩) w7 w7.heap.size (Nat.le_refl _) (RdL.of_own hin.1) (RdL.of_own hin.2) (by
            unfold okN
            simp only [Bool.and_eq_true, decide_eq_true_eq, Bool.not_eq_true']
            exact ⟨⟨⟨hsl.1, neg_of fun y hy => (HC1.out y hy).1⟩, neg_of fun y hy => (HC2.out y hy).1⟩, HLE.out⟩)
          (show -9223372036854775808 ≤ sl ∧ sl ≤ 9223372036854775807 by omega) (fun y hy => by have := HC1.out y hy; omega) (fun y hy => by have := HC2.out y hy; omega) HLC.out)
        simp only [] at HNL
        have q0 := HX7.out.cell 0
        have q1 := HX7.out.cell 1
        have q2 := HX7.out.cell 2
        simp only [List.getElem?_toArray, List.getElem?_cons_zero, List.getElem?_cons_succ] at q0 q1 q2
        have HEQ := Lib.hid (show (s.toList == (str (nearL ⟨sl, cl, ol⟩)).toList) = decide (s.data.toList = nearL ⟨sl, cl, ol⟩) from by
          rw [Bool.eq_iff_iff, beq_iff_eq, decide_eq_true_iff, ByteArray.toList_eq, ByteArray.toList_eq, str_data])
        by_cases hcmp : s.data.toList = nearL ⟨sl, cl, ol⟩
        · have heq : (s.toList == (str (nearL ⟨sl, cl, ol⟩)).toList) = true := by rw [HEQ.out]; exact decide_eq_true hcmp
          rw [if_pos hcmp] at HN
          clear hcmp HEQ
          generalize str (nearL ⟨sl, cl, ol⟩) = sn at *
          go_wp2_with fail
          refine HNL.out.mono ?_
          rintro e w8 ⟨rfl, hb8⟩
          go_wp2
          go_ret
          exact PnRet.good (HK7.out.trans (RKeep.ofW HR7.out.hB hb8)) (by rw [HN.out]; rfl) rfl (HR7.out.below hb8)
        · have heq : (s.toList == (str (nearL ⟨sl, cl, ol⟩)).toList) = false := by rw [HEQ.out]; exact decide_eq_false hcmp
          rw [if_neg hcmp] at HN
          clear hcmp HEQ
          generalize str (nearL ⟨sl, cl, ol⟩) = sn at *
          go_wp2_with fail
          refine HNL.out.mono ?_
          rintro e w8 ⟨rfl, hb8⟩
          go_wp2
          go_ret
          exact PnRet.bad (HK7.out.trans (RKeep.ofW HR7.out.hB hb8)) (by rw [HN.out]; rfl) rfl
end Go.Proofs.YtmdpfikalekmlaaGreatDoor
end
