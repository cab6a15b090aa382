/- Layer 20: what a whole reading hands back; small laws for it. -/
import Derived.Test.YtmdpfikalekmlaaDoorKl
import Derived.Test.YtmdpfikalekmlaaDoorBn
import Derived.Test.YtmdpfikalekmlaaDoorIf
import Derived.Test.YtmdpfikalekmlaaDoorRq
import Derived.Test.YtmdpfikalekmlaaDoorPa
namespace Go.Proofs.YtmdpfikalekmlaaDoor
open Go.RowKit
set_option maxRecDepth 100000
set_option maxHeartbeats 1000000
set_option linter.unusedSimpArgs false
set_option linter.unusedVariables false

/-- A program whose lists are the call's own. -/
structure PgO (w : World) (B : Nat) (x : PgV) (p : Pg) : Prop where
  avgs : OwnL intS w B x.av p.avgs
  curs : OwnL lfS w B x.cv p.curs
  nears : OwnL nrS w B x.nv x.nl
  nmap : x.nl.map (·.n) = p.nears
  inner : ∀ y ∈ x.nl, OwnL intS w B y.cv y.n.cur ∧ OwnL intS w B y.ov y.n.off
  drive : OwnL intS w B x.dv p.drive
  code : OwnB w B x.kv p.code
theorem PgO.read {w : World} {B : Nat} {x : PgV} {p : Pg} (h : PgO w B x p) : PgR w w.heap.size x p :=
  ⟨.of_own h.avgs, .of_own h.curs, .of_own h.nears, h.nmap, fun y hy => ⟨.of_own (h.inner y hy).1, .of_own (h.inner y hy).2⟩, .of_own h.drive, .ofB h.code⟩
theorem PgO.form {w : World} {B : Nat} {x : PgV} {p : Pg} (h : PgO w B x p) : ∃ a b c d e f g i j k, x = ⟨.slice a p.avgs.length b, .slice c p.curs.length d, .slice e x.nl.length f, .slice g p.drive.length i, .slice j p.code.length k, x.nl⟩ := by
  obtain ⟨av, cv, nv, dv, kv, nl⟩ := x
  obtain ⟨a, b, e1, -, -, -⟩ := h.avgs.open_
  obtain ⟨c, d, e2, -, -, -⟩ := h.curs.open_
  obtain ⟨e, f, e3, -, -, -⟩ := h.nears.open_
  obtain ⟨g, i, e4, -, -, -⟩ := h.drive.open_
  obtain ⟨j, k, e5, -, -⟩ := (RdL.ofB h.code).open_
  simp only at e1 e2 e3 e4 e5
  subst e1 e2 e3 e4 e5
  exact ⟨_, _, _, _, _, _, _, _, _, _, rfl⟩
def pgZero : Value := .agg #[.slice none 0 0, .slice none 0 0, .slice none 0 0, .bool false, .slice none 0 0, .slice none 0 0]
/-- What Read hands back. -/
def ReadRet (r : Sum Pg Nat) (bad : Value) (w : World) (e : Ending) (w' : World) : Prop :=
  Below w.heap.size w w' ∧ match r with
    | .inl p => ∃ x, e = .returned (.tuple #[x.val p, .int .i64 0, .nilIface]) ∧ PgO w' w.heap.size x p
    | .inr n => e = .returned (.tuple #[pgZero, .int .i64 (n : Int), bad])
theorem readRet_ok {r : Sum Pg Nat} {bad : Value} {w : World} {e : Ending} {w' : World} (hb : Below w.heap.size w w') {p : Pg} (hr : r = .inl p) (x : PgV) (he : e = .returned (.tuple #[x.val p, .int .i64 0, .nilIface])) (ho : PgO w' w.heap.size x p) : ReadRet r bad w e w' := by
  subst hr; exact ⟨hb, x, he, ho⟩
theorem readRet_bad {r : Sum Pg Nat} {bad : Value} {w : World} {e : Ending} {w' : World} (hb : Below w.heap.size w w') {n : Nat} (hr : r = .inr n) (he : e = .returned (.tuple #[pgZero, .int .i64 (n : Int), bad])) : ReadRet r bad w e w' := by
  subst hr; exact ⟨hb, he⟩
theorem lineR_grows {st st' : Rs} {s : List UInt8} (h : lineR st s = some st') : st'.curs.length ≤ st.curs.length + 1 ∧ st'.nears.length ≤ st.nears.length + 1 ∧ st'.code.length ≤ st.code.length + 1 := by
  unfold lineR at h
  split at h
  · cases hp : pNums wdA s with
    | none => rw [hp] at h; cases h
    | some l => rw [hp] at h; cases h; simp
  · split at h
    · cases h; simp
    split at h
    · cases h; simp
    split at h
    · cases h; simp
    split at h
    · cases h; simp
    · cases hp : pIns s with
      | none => rw [hp] at h; cases h
      | some l => rw [hp] at h; cases h; simp
/-- The reading of the lines from k on, st being that of those ahead. -/
theorem linesR_next {ls : List (List UInt8)} {k : Nat} {st : Rs} (hk : k < ls.length) (h : linesR rs0 0 (ls.take k) = .inl st) : linesR rs0 0 (ls.take (k + 1)) = match lineR st ls[k] with
    | some st' => .inl st'
    | none => .inr (k + 1) := by
  rw [← List.take_append_getElem hk, linesR_append, h]
  show linesR st (0 + (ls.take k).length) [ls[k]] = _
  rw [List.length_take, Nat.min_eq_left (by omega), Nat.zero_add, linesR]
  cases lineR st ls[k] with
  | none => rfl
  | some st' => rfl
theorem linesR_bad {ls : List (List UInt8)} {k n : Nat} (h : linesR rs0 0 (ls.take k) = .inr n) : linesR rs0 0 ls = .inr n := by
  rw [← List.take_append_drop k ls, linesR_append, h]
/-- The relation of Read's loop. -/
def RlRel (ls : List (List UInt8)) (W0 : World) (B rb mb : Nat) (iv : Value) (wr : World) : Prop :=
  ∃ (k : Nat) (x : RdrV) (st : Rs), k ≤ ls.length ∧ iv = .int .i64 (k : Int) ∧ linesR rs0 0 (ls.take k) = .inl st ∧ RdrAt wr B rb mb x st ∧ RKeep B rb W0 wr ∧ (st.curs.length ≤ k ∧ st.nears.length ≤ k ∧ st.code.length ≤ k)
def rdr0 : RdrV := ⟨.slice none 0 0, .slice none 0 0, .slice none 0 0, .slice none 0 0, .slice none 0 0, []⟩
theorem rdr_start {w1 W2 : World} {mb : Nat} (hb : Below (w1.heap.size + 1) (w1.alloc (.cells #[.slice none 0 0, .slice none 0 0, .slice none 0 0, .bool false, .slice none 0 0, .slice none 0 0, .slice none 0 0, .int .i64 0, .map (some mb)] 115)) W2) (hm : MapSI w1 mb 17 opsM) (hmb : mb < w1.heap.size) : RdrAt W2 W2.heap.size w1.heap.size mb rdr0 rs0 := by
  have hs : w1.heap.size + 1 ≤ W2.heap.size := by have := hb.size; rw [World.size_alloc] at this; exact this
  refine ⟨?_, OwnL.nil _ _ _, OwnL.nil _ _ _, OwnL.nil _ _ _, rfl, fun y hy => (by cases hy), OwnL.nil _ _ _, OwnL.nil _ _ _, Nat.le_refl _, by omega, ⟨by omega, by omega⟩, ?_⟩
  · exact (Blk.new w1 _ _).below hb (by omega)
  · refine hm.same ?_
    rw [hb.block mb (by omega)]
    exact Below.heap_alloc w1 _ mb hmb
/-- A block of a program's cells, whatever they hold. -/
def PgBlk (w : World) (b : Nat) : Prop := ∃ cs, Blk w b 44 cs
theorem PgBlk.set_ {w : World} {b : Nat} (h : PgBlk w b) (g o : Nat) (u : Value) : PgBlk (w.setCell ⟨g, o, none⟩ u) b := by
  obtain ⟨cs, h⟩ := h
  by_cases e : b = g
  · subst e; exact ⟨_, h.set_ o u⟩
  · exact ⟨_, h.far (p := ⟨g, o, none⟩) e u⟩
theorem PgO.set_ {w : World} {B b : Nat} {x : PgV} {p : Pg} (h : PgO w B x p) (hb : PgBlk w b) (o : Nat) (u : Value) : PgO (w.setCell ⟨b, o, none⟩ u) B x p := by
  obtain ⟨cs, hb⟩ := hb
  have hc := ownB_iff.1 h.code
  exact ⟨h.avgs.farNe (h.avgs.offBlk hb (by decide)) _, h.curs.farNe (h.curs.offBlk hb (by decide)) _, h.nears.farNe (h.nears.offBlk hb (by decide)) _, h.nmap,
    fun y hy => ⟨(h.inner y hy).1.farNe ((h.inner y hy).1.offBlk hb (by decide)) _, (h.inner y hy).2.farNe ((h.inner y hy).2.offBlk hb (by decide)) _⟩, h.drive.farNe (h.drive.offBlk hb (by decide)) _, ownB_iff.2 (hc.farNe (hc.offBlk hb (by decide)) _)⟩
end Go.Proofs.YtmdpfikalekmlaaDoor
/- Layer 20: Read. -/
namespace Go.Proofs.YtmdpfikalekmlaaDoor
open Go.RowKit
set_option maxRecDepth 100000
set_option maxHeartbeats 40000000
set_option linter.unusedSimpArgs false
set_option linter.unusedVariables false

theorem linesR_code {ls : List (List UInt8)} {st : Rs} (h : linesR rs0 0 ls = .inl st) : SmallIns st.code := by
  cases ls with
  | nil => cases h; intro x hx; cases hx
  | cons s r =>
    rw [linesR] at h
    cases h1 : lineR rs0 s with
    | none => rw [h1] at h; cases h
    | some st1 =>
      rw [h1] at h
      have hi := (linesR_back (lineR_first h1).1 h).1
      intro x hx
      exact (hi.gco x hx).2
theorem readP_bad1 {s : List UInt8} {k : Nat} (hk : k + 1 ≤ (splitS 10 s).dropLast.length) (h : linesR rs0 0 ((splitS 10 s).dropLast.take (k + 1)) = .inr (k + 1)) : readP s = .inr (k + 1) := by
  unfold readP
  simp only []
  rw [linesR_bad h]
theorem readP_bad2 {s : List UInt8} {st : Rs} (h : linesR rs0 0 (splitS 10 s).dropLast = .inl st) (h2 : (splitS 10 s).getLast? ≠ some [] ∨ (splitS 10 s).length = 1) : readP s = .inr (splitS 10 s).length := by
  unfold readP
  simp only []
  rw [h]
  simp only []
  rw [if_pos h2]
theorem readP_ok {s : List UInt8} {st : Rs} (h : linesR rs0 0 (splitS 10 s).dropLast = .inl st) (h2 : ¬ ((splitS 10 s).getLast? ≠ some [] ∨ (splitS 10 s).length = 1)) : readP s = .inl ⟨st.avgs, st.curs, st.nears, st.all, st.drive, if st.code.all insOk = true then encI st.code else []⟩ := by
  unfold readP
  simp only []
  rw [h]
  simp only []
  rw [if_neg h2]
theorem str_empty (l : List UInt8) : (str l).toList = l := by rw [ba_toList, str_data]
theorem splitS_le (c : UInt8) : ∀ (l : List UInt8), ∀ x ∈ splitS c l, x.length ≤ l.length
  | [], x, hx => by
    rw [splitS] at hx
    rw [List.mem_singleton.1 hx]; exact Nat.le_refl _
  | b :: l, x, hx => by
    have ih := splitS_le c l
    by_cases h : b = c
    · rw [splitS, if_pos h] at hx
      rcases List.mem_cons.1 hx with rfl | hx
      · exact Nat.zero_le _
      · exact Nat.le_trans (ih x hx) (Nat.le_succ _)
    · obtain ⟨w, ws, h1, h2⟩ := splitS_head c b l h
      rw [h2] at hx
      rw [h1] at ih
      rcases List.mem_cons.1 hx with rfl | hx
      · have := ih w List.mem_cons_self
        simp only [List.length_cons]; omega
      · exact Nat.le_trans (ih x (List.mem_cons_of_mem _ hx)) (Nat.le_succ _)
theorem read_any (s : List UInt8) (w : World) (ea : List Addr) (hs : s.length ≤ 1000000000) (hln : (splitS 10 s).length ≤ 20000000) (hE : ErrEnv w ea) (hT : TabEnv w) (hP : PuEnv w) :
    Calls Tryd.prog 25 #[.string (str s)] w (ReadRet (readP s) (errI ea 15) w) := by
  have HE := Lib.hid hE; have HT := Lib.hid hT; have HP := Lib.hid hP
  have hg0 : 16 < w.heap.size := hT.lt
  have hg1 : 32 < w.heap.size := hP.lt
  have hg2 : 17 < w.heap.size := World.block_lt_of_cell? w ⟨17, 0, none⟩ (hE.cell 15 (by decide))
  obtain ⟨ls, hls⟩ : ∃ ls, ls = splitS 10 s := ⟨_, rfl⟩
  have hne : ls ≠ [] := by rw [hls]; exact splitS_ne _ _
  have hlen : 1 ≤ ls.length := List.length_pos_iff.2 hne
  have HSZ := Lib.hid (show ∀ x ∈ ls, x.length ≤ 1000000000 from fun x hx => Nat.le_trans (splitS_le 10 s x (hls ▸ hx)) hs)
  have HLS := Lib.hid hls
  have hspl := fun W => split1_any (str s) 10 W (by rw [str_size]; omega)
  have hsrd := fun W => spRd 10 (str s) W (by rw [str_size]; omega)
  unfold SpRet at hspl
  simp only [str_data] at hspl hsrd
  rw [← hls] at hspl hsrd hln
  have HSPL := Lib.hid hspl; have HSRD := Lib.hid hsrd; have HNE := Lib.hid hne
  have hbn := byName_any (w.alloc (.cells #[.slice none 0 0, .slice none 0 0, .slice none 0 0, .bool false, .slice none 0 0, .slice none 0 0] 44)) (hT.below ((Below.refl w.heap.size w).alloc (Nat.le_refl _) _))
  clear hE hT hP hspl hsrd hls hne
  go_enter Tryd.func25, Tryd.ntmps25
  go_wp2_with fail
  refine hbn.mono ?_
  rintro e w1 ⟨rfl, hm1, hb1⟩
  have hz1 := hb1.size
  rw [World.size_alloc] at hz1
  have hb1w : Below w.heap.size w w1 := ((Below.refl w.heap.size w).alloc (Nat.le_refl _) _).trans (hb1.mono (by rw [World.size_alloc]; omega))
  have hblk1 : Blk w1 w.heap.size 44 #[.slice none 0 0, .slice none 0 0, .slice none 0 0, .bool false, .slice none 0 0, .slice none 0 0] := (Blk.new w _ _).below hb1 (by rw [World.size_alloc]; omega)
  rw [World.size_alloc] at hm1
  have hmlt := hm1.lt
  have HM1 := Lib.hid hm1; have HB1 := Lib.hid hb1w; have HK1 := Lib.hid hblk1
  clear hbn hm1 hb1 hb1w hblk1
  go_wp2_with fail
  refine (HSPL.out _).mono ?_
  rintro e w2 ⟨rfl, rfl⟩
  have HRD := HSRD.out (w1.alloc (.cells #[.slice none 0 0, .slice none 0 0, .slice none 0 0, .bool false, .slice none 0 0, .slice none 0 0, .slice none 0 0, .int .i64 0, .map (some (w.heap.size + 1))] 115))
  have hbA : Below w1.heap.size w1 (w1.alloc (.cells #[.slice none 0 0, .slice none 0 0, .slice none 0 0, .bool false, .slice none 0 0, .slice none 0 0, .slice none 0 0, .int .i64 0, .map (some (w.heap.size + 1))] 115)) := (Below.refl _ _).alloc (Nat.le_refl _) _
  have hbB : Below (w1.heap.size + 1) (w1.alloc (.cells #[.slice none 0 0, .slice none 0 0, .slice none 0 0, .bool false, .slice none 0 0, .slice none 0 0, .slice none 0 0, .int .i64 0, .map (some (w.heap.size + 1))] 115)) ((w1.alloc (.cells #[.slice none 0 0, .slice none 0 0, .slice none 0 0, .bool false, .slice none 0 0, .slice none 0 0, .slice none 0 0, .int .i64 0, .map (some (w.heap.size + 1))] 115)).alloc (.cells (spRow 10 (str s)) 9)) := (Below.refl _ _).alloc (by rw [World.size_alloc]; omega) _
  have hR0 := rdr_start hbB HM1.out (by omega)
  have hz2 : ((w1.alloc (.cells #[.slice none 0 0, .slice none 0 0, .slice none 0 0, .bool false, .slice none 0 0, .slice none 0 0, .slice none 0 0, .int .i64 0, .map (some (w.heap.size + 1))] 115)).alloc (.cells (spRow 10 (str s)) 9)).heap.size = w1.heap.size + 2 := by rw [World.size_alloc, World.size_alloc]
  have hblk2 := (HK1.out.alloc (.cells #[.slice none 0 0, .slice none 0 0, .slice none 0 0, .bool false, .slice none 0 0, .slice none 0 0, .slice none 0 0, .int .i64 0, .map (some (w.heap.size + 1))] 115)).alloc (.cells (spRow 10 (str s)) 9)
  have hbW : Below w.heap.size w ((w1.alloc (.cells #[.slice none 0 0, .slice none 0 0, .slice none 0 0, .bool false, .slice none 0 0, .slice none 0 0, .slice none 0 0, .int .i64 0, .map (some (w.heap.size + 1))] 115)).alloc (.cells (spRow 10 (str s)) 9)) := HB1.out.trans ((hbA.mono (by omega)).trans (hbB.mono (by omega)))
  rw [World.size_alloc] at HRD
  clear hbA hbB
  generalize (w1.alloc (.cells #[.slice none 0 0, .slice none 0 0, .slice none 0 0, .bool false, .slice none 0 0, .slice none 0 0, .slice none 0 0, .int .i64 0, .map (some (w.heap.size + 1))] 115)).alloc (.cells (spRow 10 (str s)) 9) = W2 at *
  have HR0 := Lib.hid hR0; have HRW := Lib.hid HRD; have HBW := Lib.hid hbW; have HBK := Lib.hid hblk2
  clear HRD hR0 hbW hblk2
  have hb1z := HB1.out.size
  have hcap := HRW.out.open_
  go_wp2
  go_loopw [21] (fun iv wr => RlRel ls.dropLast W2 W2.heap.size w1.heap.size (w.heap.size + 1) iv wr) (fun iv _ => ls.length - (intOf iv).toNat)
  case atStart => exact ⟨0, rdr0, rs0, Nat.zero_le _, rfl, rfl, HR0.out, RKeep.refl _ _ _, Nat.zero_le _, Nat.zero_le _, Nat.zero_le _⟩
  case round =>
    obtain ⟨k, x, st, hk, rfl, hst, hr, hkp, hcn⟩ := hrel
    have HR := Lib.hid hr; have HK := Lib.hid hkp; have HST := Lib.hid hst
    have hkz := hkp.size
    obtain ⟨hn1, hn2, hn3⟩ := hcn
    clear hr hkp hst
    rw [List.length_dropLast] at hk
    have hrbW : w1.heap.size < W2.heap.size := by omega
    have hbr : Below w.heap.size w wr := HBW.out.trans (HK.out.below (by omega) (by omega))
    have HBR := Lib.hid hbr
    have gE : wr.cell? ⟨17, 0, none⟩ = some (errI ea 15) := (HE.out.below hbr).cell 15 (by decide)
    have hb2 : wr.heap[w.heap.size]? = some (.cells #[.slice none 0 0, .slice none 0 0, .slice none 0 0, .bool false, .slice none 0 0, .slice none 0 0] 44 (0, 0)) := (HK.out.kept w.heap.size (by omega) (by omega)).trans HBK.out
    have HB2 := Lib.hid (show Blk wr w.heap.size 44 #[.slice none 0 0, .slice none 0 0, .slice none 0 0, .bool false, .slice none 0 0, .slice none 0 0] from hb2)
    clear hbr hb2
    by_cases hlt : k < ls.length - 1
    · have hll : k < ls.length := by omega
      obtain ⟨a, he, hab, c0⟩ := at_word (HK.out.rd HRW.out (by omega) (fun a n c e => by injection e with e; injection e with e; subst e; show w1.heap.size + 1 ≠ w1.heap.size; omega)) hll
      injection he with he
      subst he
      rw [Addr.add_lit, Nat.zero_add] at c0
      have hgd : ls.dropLast[k]'(by rw [List.length_dropLast]; exact hlt) = ls[k] := List.getElem_dropLast _
      have HNX := Lib.hid (linesR_next (k := k) (by rw [List.length_dropLast]; exact hlt) HST.out)
      rw [hgd] at HNX
      have hxs := HSZ.out _ (List.getElem_mem hll)
      clear hgd hab
      generalize ls[k] = y at *
      have hcall := rline_any y wr W2.heap.size w1.heap.size (w.heap.size + 1) x st HR.out (by omega) (by omega) (by omega) hxs (HP.out.belowW HBR.out) (HT.out.below HBR.out) (by omega) (by omega)
      have HCA := Lib.hid hcall
      clear hcall
      cases hlr : lineR st y with
      | none =>
        have HBAD := Lib.hid (readP_bad1 (s := s) (k := k) (by rw [← HLS.out, List.length_dropLast]; omega) (by rw [← HLS.out]; have h := HNX.out; rw [hlr] at h; exact h))
        have HLR := Lib.hid hlr
        clear hlr
        go_wp2_with fail
        refine HCA.out.mono ?_
        intro e w4 h4
        unfold LnRet at h4
        rw [HLR.out] at h4
        obtain ⟨hk4, rfl⟩ := h4
        have HB4 := Lib.hid (HBR.out.trans (hk4.below (by omega) (by omega)))
        have hb4 : w4.heap[w.heap.size]? = some (.cells #[.slice none 0 0, .slice none 0 0, .slice none 0 0, .bool false, .slice none 0 0, .slice none 0 0] 44 (0, 0)) := (hk4.kept w.heap.size (by omega) (by omega)).trans HB2.out
        have hBl : Blk w4 w.heap.size 44 #[.slice none 0 0, .slice none 0 0, .slice none 0 0, .bool false, .slice none 0 0, .slice none 0 0] := hb4
        have hsy : w4.cell? ⟨17, 0, none⟩ = some (errI ea 15) := (HE.out.below HB4.out).cell 15 (by decide)
        have p0 := hBl.cell 0; have p1 := hBl.cell 1; have p2 := hBl.cell 2; have p3 := hBl.cell 3; have p4 := hBl.cell 4; have p5 := hBl.cell 5
        have q0 := hBl.frozen 0; have q1 := hBl.frozen 1; have q2 := hBl.frozen 2; have q3 := hBl.frozen 3; have q4 := hBl.frozen 4; have q5 := hBl.frozen 5
        simp only [List.getElem?_toArray, List.getElem?_cons_zero, List.getElem?_cons_succ] at p0 p1 p2 p3 p4 p5
        clear hk4 hb4 hBl
        have hgn : ¬ 17 = w.heap.size := by omega
        have hgn2 : ¬ w.heap.size = 17 := by omega
        have hw1 : IntKind.i64.wrap ((k : Int) + 1) = (k : Int) + 1 := IntWalk.i64_in _ (by omega)
        go_wp2
        go_region
        go_wp2
        have HB5 := (((((((HB4.out.setCell (p := ⟨w.heap.size, 0, none⟩) (Nat.le_refl _) (.slice none 0 0)).setCell (p := ⟨w.heap.size, 1, none⟩) (Nat.le_refl _) (.slice none 0 0)).setCell (p := ⟨w.heap.size, 2, none⟩) (Nat.le_refl _) (.slice none 0 0)).setCell (p := ⟨w.heap.size, 3, none⟩) (Nat.le_refl _) (.bool false)).setCell (p := ⟨w.heap.size, 4, none⟩) (Nat.le_refl _) (.slice none 0 0)).setCell (p := ⟨w.heap.size, 5, none⟩) (Nat.le_refl _) (.slice none 0 0)).drew)
        refine bodyPost_ret (v := .tuple #[pgZero, .int .i64 ((k : Int) + 1), errI ea 15]) ?_ rfl ?_
        · simp [results, Tryd.results25, go_sem, pgZero, p0, p1, p2, p3, p4, p5]
        · exact readRet_bad HB5 HBAD.out rfl
      | some st' =>
        have HGO := Lib.hid (show linesR rs0 0 (ls.dropLast.take (k + 1)) = .inl st' from by have h := HNX.out; rw [hlr] at h; exact h)
        obtain ⟨g1, g2, g3⟩ := lineR_grows hlr
        have HLR := Lib.hid hlr
        clear hlr
        go_wp2_with fail
        refine HCA.out.mono ?_
        intro e w4 h4
        unfold LnRet at h4
        rw [HLR.out] at h4
        obtain ⟨hk4, rfl, x', hx'⟩ := h4
        have HK4 := Lib.hid (HK.out.trans hk4); have HX4 := Lib.hid hx'
        clear hk4 hx'
        go_wp2
        go_roundw
        case rel => exact ⟨k + 1, x', st', by rw [List.length_dropLast]; omega, by go_num, HGO.out, HX4.out, HK4.out, by omega, by omega, by omega⟩
        case measure => simp [intOf]; omega
    · obtain rfl : k = ls.length - 1 := by omega
      have HFIN := Lib.hid (show linesR rs0 0 (splitS 10 s).dropLast = .inl st from by
        have h := HST.out
        rw [List.take_of_length_le (by rw [List.length_dropLast]; exact Nat.le_refl _), HLS.out] at h
        exact h)
      obtain ⟨a, he, hab, c0⟩ := at_word (k := ls.length - 1) (HK.out.rd HRW.out (by omega) (fun a n c e => by injection e with e; injection e with e; subst e; show w1.heap.size + 1 ≠ w1.heap.size; omega)) (by omega)
      injection he with he
      subst he
      rw [Addr.add_lit, Nat.zero_add] at c0
      have HLA := Lib.hid (show (splitS 10 s).getLast? = some (ls[ls.length - 1]'(by omega)) from by
        rw [← HLS.out, List.getLast?_eq_getElem?, List.getElem?_eq_getElem (by omega)])
      clear hab
      generalize ls[ls.length - 1]'(by omega) = y at *
      have hys : (str y).toList = y := str_empty y
      by_cases hy : y = []
      · have y1 : (str y).toList = [] := hys.trans hy
        have y2 : (str y).toList.isEmpty = true := by rw [y1]; rfl
        by_cases hl1 : ls.length = 1
        · have HBAD := Lib.hid (show readP s = .inr ls.length from (readP_bad2 HFIN.out (by rw [← HLS.out]; exact .inr hl1)).trans (by rw [← HLS.out]))
          have l1 : ((ls.length : Int) == 1) = true := by simp; omega
          clear hys hy hl1
          have hBl := HB2.out
          have hsy : wr.cell? ⟨17, 0, none⟩ = some (errI ea 15) := gE
          have p0 := hBl.cell 0; have p1 := hBl.cell 1; have p2 := hBl.cell 2; have p3 := hBl.cell 3; have p4 := hBl.cell 4; have p5 := hBl.cell 5
          have q0 := hBl.frozen 0; have q1 := hBl.frozen 1; have q2 := hBl.frozen 2; have q3 := hBl.frozen 3; have q4 := hBl.frozen 4; have q5 := hBl.frozen 5
          simp only [List.getElem?_toArray, List.getElem?_cons_zero, List.getElem?_cons_succ] at p0 p1 p2 p3 p4 p5
          clear hBl
          have hgn : ¬ 17 = w.heap.size := by omega
          have hgn2 : ¬ w.heap.size = 17 := by omega
          go_wp2
          go_region
          go_wp2
          have HB5 := (((((((HBR.out.setCell (p := ⟨w.heap.size, 0, none⟩) (Nat.le_refl _) (.slice none 0 0)).setCell (p := ⟨w.heap.size, 1, none⟩) (Nat.le_refl _) (.slice none 0 0)).setCell (p := ⟨w.heap.size, 2, none⟩) (Nat.le_refl _) (.slice none 0 0)).setCell (p := ⟨w.heap.size, 3, none⟩) (Nat.le_refl _) (.bool false)).setCell (p := ⟨w.heap.size, 4, none⟩) (Nat.le_refl _) (.slice none 0 0)).setCell (p := ⟨w.heap.size, 5, none⟩) (Nat.le_refl _) (.slice none 0 0)).drew)
          refine bodyPost_ret (v := .tuple #[pgZero, .int .i64 (ls.length : Int), errI ea 15]) ?_ rfl ?_
          · simp [results, Tryd.results25, go_sem, pgZero, p0, p1, p2, p3, p4, p5]
          · exact readRet_bad HB5 HBAD.out rfl
        · have HOK := Lib.hid (readP_ok HFIN.out (by rw [HLA.out, hy, ← HLS.out]; simp [hl1]))
          have l1 : ((ls.length : Int) == 1) = false := by simp; omega
          clear hys hy hl1
          obtain ⟨av, cv, nv, dv, kv, nl⟩ := x
          have hR := HR.out
          obtain ⟨aA, ac, rfl, -, -, -⟩ := hR.avgs.open_
          obtain ⟨cA, cc, rfl, -, -, -⟩ := hR.curs.open_
          obtain ⟨nA, nc, hnv, -, -, -⟩ := hR.nears.open_
          simp only at hnv
          subst hnv
          obtain ⟨dA, dc, rfl, -, -, -⟩ := hR.drive.open_
          obtain ⟨kA, kc, rfl, -, -, -⟩ := hR.code.open_
          have r0 := hR.blk.cell 0; have r1 := hR.blk.cell 1; have r2 := hR.blk.cell 2; have r3 := hR.blk.cell 3; have r4 := hR.blk.cell 4; have r5 := hR.blk.cell 5; have r6 := hR.blk.cell 6
          simp only [List.getElem?_toArray, List.getElem?_cons_zero, List.getElem?_cons_succ] at r0 r1 r2 r3 r4 r5 r6
          have hrl := hR.blk.lt
          have hbA : Below wr.heap.size wr (wr.alloc (.cells #[.slice aA st.avgs.length ac, .slice cA st.curs.length cc, .slice nA nl.length nc, .bool st.all, .slice dA st.drive.length dc, .slice none 0 0] 44)) := (Below.refl _ _).alloc (Nat.le_refl _) _
          have hcode := RdL.of_own (hR.code.below hbA)
          have henc := iencode_any _ st.code ea _ _ (Nat.le_refl _) hcode (by omega) (linesR_code HFIN.out) ((HE.out.below (HBR.out.trans (hbA.mono HBR.out.size))).few) (HT.out.below (HBR.out.trans (hbA.mono HBR.out.size)))
          have HENC := Lib.hid henc; have HBA := Lib.hid hbA
          clear hR hcode henc hbA
          go_wp2_with fail
          refine HENC.out.mono ?_
          rintro e w6 ⟨v, rfl, ho, hb6⟩
          generalize (if st.code.all insOk = true then encI st.code else []) = m at *
          generalize (if st.code.all insOk = true then Value.nilIface else errI ea 20) = er at *
          obtain ⟨vA, vc, rfl⟩ := ownB_form ho
          have HO := Lib.hid ho; have HB6 := Lib.hid hb6
          have hBl := (Blk.new wr 44 #[.slice aA st.avgs.length ac, .slice cA st.curs.length cc, .slice nA nl.length nc, .bool st.all, .slice dA st.drive.length dc, .slice none 0 0]).belowW hb6
          have HBL := Lib.hid hBl
          have p0 := hBl.cell 0; have p1 := hBl.cell 1; have p2 := hBl.cell 2; have p3 := hBl.cell 3; have p4 := hBl.cell 4; have p5 := hBl.cell 5
          have q5 := hBl.frozen 5
          simp only [List.getElem?_toArray, List.getElem?_cons_zero, List.getElem?_cons_succ] at p0 p1 p2 p3 p4 p5
          have hz6 := hb6.size
          rw [World.size_alloc] at hz6
          have hBz := (HB2.out.alloc (.cells #[.slice aA st.avgs.length ac, .slice cA st.curs.length cc, .slice nA nl.length nc, .bool st.all, .slice dA st.drive.length dc, .slice none 0 0] 44)).belowW hb6
          have HBZ := Lib.hid hBz
          have s0 := hBz.cell 0; have s1 := hBz.cell 1; have s2 := hBz.cell 2; have s3 := hBz.cell 3; have s4 := hBz.cell 4; have s5 := hBz.cell 5
          have f0 := hBz.frozen 0; have f1 := hBz.frozen 1; have f2 := hBz.frozen 2; have f3 := hBz.frozen 3; have f4 := hBz.frozen 4; have f5 := hBz.frozen 5
          simp only [List.getElem?_toArray, List.getElem?_cons_zero, List.getElem?_cons_succ] at s0 s1 s2 s3 s4 s5
          have hgz : ¬ w.heap.size = wr.heap.size := by omega
          have hgz2 : ¬ wr.heap.size = w.heap.size := by omega
          clear ho hb6 hBl hBz r0 r1 r2 r3 r4 r5 r6
          go_wp2_with fail
          have hP0 : PgO w6 w.heap.size ⟨.slice aA st.avgs.length ac, .slice cA st.curs.length cc, .slice nA nl.length nc, .slice dA st.drive.length dc, .slice vA m.length vc, nl⟩ ⟨st.avgs, st.curs, st.nears, st.all, st.drive, m⟩ := by
            have hR := HR.out
            have hle : w.heap.size ≤ W2.heap.size := by omega
            have hba := HBA.out
            have hb6 := HB6.out
            exact ⟨((hR.avgs.below hba).below hb6).more hle, ((hR.curs.below hba).below hb6).more hle, ((hR.nears.below hba).below hb6).more hle, hR.nmap, fun z hz => ⟨((((hR.inner z hz).1).below hba).below hb6).more hle, ((((hR.inner z hz).2).below hba).below hb6).more hle⟩, ((hR.drive.below hba).below hb6).more hle, ownB_iff.2 ((ownB_iff.1 HO.out).more (by rw [World.size_alloc]; omega))⟩
          have hq1 : PgBlk w6 wr.heap.size := ⟨_, HBL.out⟩
          have hq2 : PgBlk w6 w.heap.size := ⟨_, HBZ.out⟩
          have hP1 := hP0.set_ hq1 5 (.slice vA m.length vc)
          have hq3 := hq2.set_ wr.heap.size 5 (.slice vA m.length vc)
          have hP2 := hP1.set_ hq3 0 (.slice aA st.avgs.length ac)
          have hq4 := hq3.set_ w.heap.size 0 (.slice aA st.avgs.length ac)
          have hP3 := hP2.set_ hq4 1 (.slice cA st.curs.length cc)
          have hq5 := hq4.set_ w.heap.size 1 (.slice cA st.curs.length cc)
          have hP4 := hP3.set_ hq5 2 (.slice nA nl.length nc)
          have hq6 := hq5.set_ w.heap.size 2 (.slice nA nl.length nc)
          have hP5 := hP4.set_ hq6 3 (.bool st.all)
          have hq7 := hq6.set_ w.heap.size 3 (.bool st.all)
          have hP6 := hP5.set_ hq7 4 (.slice dA st.drive.length dc)
          have hq8 := hq7.set_ w.heap.size 4 (.slice dA st.drive.length dc)
          have hP7 := hP6.set_ hq8 5 (.slice vA m.length vc)
          have hbx : Below w.heap.size w w6 := HBR.out.trans ((HBA.out.trans (HB6.out.mono HBA.out.size)).mono HBR.out.size)
          have HB7 := (((((((hbx.setCell (p := ⟨wr.heap.size, 5, none⟩) HBR.out.size (.slice vA m.length vc)).setCell (p := ⟨w.heap.size, 0, none⟩) (Nat.le_refl _) (.slice aA st.avgs.length ac)).setCell (p := ⟨w.heap.size, 1, none⟩) (Nat.le_refl _) (.slice cA st.curs.length cc)).setCell (p := ⟨w.heap.size, 2, none⟩) (Nat.le_refl _) (.slice nA nl.length nc)).setCell (p := ⟨w.heap.size, 3, none⟩) (Nat.le_refl _) (.bool st.all)).setCell (p := ⟨w.heap.size, 4, none⟩) (Nat.le_refl _) (.slice dA st.drive.length dc)).setCell (p := ⟨w.heap.size, 5, none⟩) (Nat.le_refl _) (.slice vA m.length vc))
          refine bodyPost_ret (v := .tuple #[PgV.val ⟨.slice aA st.avgs.length ac, .slice cA st.curs.length cc, .slice nA nl.length nc, .slice dA st.drive.length dc, .slice vA m.length vc, nl⟩ ⟨st.avgs, st.curs, st.nears, st.all, st.drive, m⟩, .int .i64 0, .nilIface]) ?_ rfl ?_
          · simp [results, Tryd.results25, go_sem, PgV.val, s0, s1, s2, s3, s4, s5, hgz, hgz2]
          · exact readRet_ok HB7 HOK.out _ rfl hP7
      · have y1 : ¬ (str y).toList = [] := fun h => hy (hys.symm.trans h)
        have y2 : (str y).toList.isEmpty = false := by rw [List.isEmpty_eq_false_iff]; exact y1
        have HBAD := Lib.hid (show readP s = .inr ls.length from (readP_bad2 HFIN.out (by rw [HLA.out]; exact .inl (fun h => hy (Option.some.inj h)))).trans (by rw [← HLS.out]))
        clear hys hy
        have hBl := HB2.out
        have hsy : wr.cell? ⟨17, 0, none⟩ = some (errI ea 15) := gE
        have p0 := hBl.cell 0; have p1 := hBl.cell 1; have p2 := hBl.cell 2; have p3 := hBl.cell 3; have p4 := hBl.cell 4; have p5 := hBl.cell 5
        have q0 := hBl.frozen 0; have q1 := hBl.frozen 1; have q2 := hBl.frozen 2; have q3 := hBl.frozen 3; have q4 := hBl.frozen 4; have q5 := hBl.frozen 5
        simp only [List.getElem?_toArray, List.getElem?_cons_zero, List.getElem?_cons_succ] at p0 p1 p2 p3 p4 p5
        clear hBl
        have hgn : ¬ 17 = w.heap.size := by omega
        have hgn2 : ¬ w.heap.size = 17 := by omega
        go_wp2
        go_region
        go_wp2
        have HB5 := (((((((HBR.out.setCell (p := ⟨w.heap.size, 0, none⟩) (Nat.le_refl _) (.slice none 0 0)).setCell (p := ⟨w.heap.size, 1, none⟩) (Nat.le_refl _) (.slice none 0 0)).setCell (p := ⟨w.heap.size, 2, none⟩) (Nat.le_refl _) (.slice none 0 0)).setCell (p := ⟨w.heap.size, 3, none⟩) (Nat.le_refl _) (.bool false)).setCell (p := ⟨w.heap.size, 4, none⟩) (Nat.le_refl _) (.slice none 0 0)).setCell (p := ⟨w.heap.size, 5, none⟩) (Nat.le_refl _) (.slice none 0 0)).drew)
        refine bodyPost_ret (v := .tuple #[pgZero, .int .i64 (ls.length : Int), errI ea 15]) ?_ rfl ?_
        · simp [results, Tryd.results25, go_sem, pgZero, p0, p1, p2, p3, p4, p5]
        · exact readRet_bad HB5 HBAD.out rfl
end Go.Proofs.YtmdpfikalekmlaaDoor
