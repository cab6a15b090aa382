/- Merged for a claim: Kr Dp -/
import Derived.Test.YtmdpfikalekmlaaGreatDoorKo5
import Derived.Test.YtmdpfikalekmlaaGreatDoorBn
import Derived.Test.YtmdpfikalekmlaaGreatDoorIf
import Derived.Test.YtmdpfikalekmlaaGreatDoorRq
import Derived.Test.YtmdpfikalekmlaaGreatDoorKo7
import Derived.Test.YtmdpfikalekmlaaGreatDoorKo2
import Derived.Deep.QuietTactic
section
/- Layer 20: what a whole reading hands back; small laws for it. -/
namespace Go.Proofs.YtmdpfikalekmlaaGreatDoor
open Go.RowKit
set_option maxRecDepth 100000
set_option maxHeartbeats 1000000
set_option linter.unusedSimpArgs false
set_option linter.unusedVariables false

/-- A program whose lists are the call's own. -/
structure PgO (w : World) (B : Nat) (x : PgV) (p : Pg) : Prop where
  avgs : OwnL intS w B x.av p.avgs
  curs : OwnL lfS w B x.cv p.curs
  nears : OwnL nrS w B x.nv x.nl
  nmap : x.nl.map (·.n) = p.nears
  inner : ∀ y ∈ x.nl, OwnL intS w B y.cv y.n.cur ∧ OwnL intS w B y.ov y.n.off
  drive : OwnL intS w B x.dv p.drive
  code : OwnB w B x.kv p.code
theorem PgO.read {w : World} {B : Nat} {x : PgV} {p : Pg} (h : PgO w B x p) : PgR w w.heap.size x p :=
  ⟨.of_own h.avgs, .of_own h.curs, .of_own h.nears, h.nmap, fun y hy => ⟨.of_own (h.inner y hy).1, .of_own (h.inner y hy).2⟩, .of_own h.drive, .ofB h.code⟩
theorem PgO.form {w : World} {B : Nat} {x : PgV} {p : Pg} (h : PgO w B x p) : ∃ a b c d e f g i j k, x = ⟨.slice a p.avgs.length b, .slice c p.curs.length d, .slice e x.nl.length f, .slice g p.drive.length i, .slice j p.code.length k, x.nl⟩ := by
  obtain ⟨av, cv, nv, dv, kv, nl⟩ := x
  obtain ⟨a, b, e1, -, -, -⟩ := h.avgs.open_
  obtain ⟨c, d, e2, -, -, -⟩ := h.curs.open_
  obtain ⟨e, f, e3, -, -, -⟩ := h.nears.open_
  obtain ⟨g, i, e4, -, -, -⟩ := h.drive.open_
  obtain ⟨j, k, e5, -, -⟩ := (RdL.ofB h.code).open_
  simp only at e1 e2 e3 e4 e5
  subst e1 e2 e3 e4 e5
  exact ⟨_, _, _, _, _, _, _, _, _, _, rfl⟩
def pgZero : Value := .agg #[.slice none 0 0, .slice none 0 0, .slice none 0 0, .bool false, .slice none 0 0, .slice none 0 0]
/-- What Read hands back. -/
def ReadRet (r : Sum Pg Nat) (bad : Value) (w : World) (e : Ending) (w' : World) : Prop :=
  Below w.heap.size w w' ∧ match r with
    | .inl p => ∃ x, e = .returned (.tuple #[x.val p, .int .i64 0, .nilIface]) ∧ PgO w' w.heap.size x p
    | .inr n => e = .returned (.tuple #[pgZero, .int .i64 (n : Int), bad])
theorem readRet_ok {r : Sum Pg Nat} {bad : Value} {w : World} {e : Ending} {w' : World} (hb : Below w.heap.size w w') {p : Pg} (hr : r = .inl p) (x : PgV) (he : e = .returned (.tuple #[x.val p, .int .i64 0, .nilIface])) (ho : PgO w' w.heap.size x p) : ReadRet r bad w e w' := by
  subst hr; exact ⟨hb, x, he, ho⟩
theorem readRet_bad {r : Sum Pg Nat} {bad : Value} {w : World} {e : Ending} {w' : World} (hb : Below w.heap.size w w') {n : Nat} (hr : r = .inr n) (he : e = .returned (.tuple #[pgZero, .int .i64 (n : Int), bad])) : ReadRet r bad w e w' := by
  subst hr; exact ⟨hb, he⟩
/-- The same, and its lists of ints lie each in a row of its own. -/
def ReadRetA (r : Sum Pg Nat) (bad : Value) (w : World) (e : Ending) (w' : World) : Prop :=
  Below w.heap.size w w' ∧ match r with
    | .inl p => ∃ x, e = .returned (.tuple #[x.val p, .int .i64 0, .nilIface]) ∧ PgO w' w.heap.size x p ∧ Apart x.av x.dv x.nl
    | .inr n => e = .returned (.tuple #[pgZero, .int .i64 (n : Int), bad])
theorem ReadRetA.ret {r : Sum Pg Nat} {bad : Value} {w : World} {e : Ending} {w' : World} (h : ReadRetA r bad w e w') : ReadRet r bad w e w' := by
  obtain ⟨hb, h⟩ := h
  refine ⟨hb, ?_⟩
  cases r with
  | inl p => obtain ⟨x, h1, h2, _⟩ := h; exact ⟨x, h1, h2⟩
  | inr n => exact h
theorem readRetA_ok {r : Sum Pg Nat} {bad : Value} {w : World} {e : Ending} {w' : World} (hb : Below w.heap.size w w') {p : Pg} (hr : r = .inl p) (x : PgV) (he : e = .returned (.tuple #[x.val p, .int .i64 0, .nilIface])) (ho : PgO w' w.heap.size x p) (ha : Apart x.av x.dv x.nl) : ReadRetA r bad w e w' := by
  subst hr; exact ⟨hb, x, he, ho, ha⟩
theorem readRetA_bad {r : Sum Pg Nat} {bad : Value} {w : World} {e : Ending} {w' : World} (hb : Below w.heap.size w w') {n : Nat} (hr : r = .inr n) (he : e = .returned (.tuple #[pgZero, .int .i64 (n : Int), bad])) : ReadRetA r bad w e w' := by
  subst hr; exact ⟨hb, he⟩
theorem lineR_grows {st st' : Rs} {s : List UInt8} (h : lineR st s = some st') : st'.curs.length ≤ st.curs.length + 1 ∧ st'.nears.length ≤ st.nears.length + 1 ∧ st'.code.length ≤ st.code.length + 1 := by
  unfold lineR at h
  split at h
  · cases hp : pNums wdA s with
    | none => rw [hp] at h; cases h
    | some l => rw [hp] at h; cases h; simp
  · split at h
    · cases h; simp
    split at h
    · cases h; simp
    split at h
    · cases h; simp
    split at h
    · cases h; simp
    · cases hp : pIns s with
      | none => rw [hp] at h; cases h
      | some l => rw [hp] at h; cases h; simp
/-- The reading of the lines from k on, st being that of those ahead. -/
theorem linesR_next {ls : List (List UInt8)} {k : Nat} {st : Rs} (hk : k < ls.length) (h : linesR rs0 0 (ls.take k) = .inl st) : linesR rs0 0 (ls.take (k + 1)) = match lineR st ls[k] with
    | some st' => .inl st'
    | none => .inr (k + 1) := by
  rw [← List.take_append_getElem hk, linesR_append, h]
  show linesR st (0 + (ls.take k).length) [ls[k]] = _
  rw [List.length_take, Nat.min_eq_left (by omega), Nat.zero_add, linesR]
  cases lineR st ls[k] with
  | none => rfl
  | some st' => rfl
theorem linesR_bad {ls : List (List UInt8)} {k n : Nat} (h : linesR rs0 0 (ls.take k) = .inr n) : linesR rs0 0 ls = .inr n := by
  rw [← List.take_append_drop k ls, linesR_append, h]
/-- The relation of Read's loop. -/
def RlRel (ls : List (List UInt8)) (W0 : World) (B rb mb : Nat) (iv : Value) (wr : World) : Prop :=
  ∃ (k : Nat) (x : RdrV) (st : Rs), k ≤ ls.length ∧ iv = .int .i64 (k : Int) ∧ linesR rs0 0 (ls.take k) = .inl st ∧ RdrAt wr B rb mb x st ∧ RKeep B rb W0 wr ∧ (st.curs.length ≤ k ∧ st.nears.length ≤ k ∧ st.code.length ≤ k)
def rdr0 : RdrV := ⟨.slice none 0 0, .slice none 0 0, .slice none 0 0, .slice none 0 0, .slice none 0 0, []⟩
theorem rdr_start {w1 W2 : World} {mb : Nat} (hb : Below (w1.heap.size + 1) (w1.alloc (.cells #[.slice none 0 0, .slice none 0 0, .slice none 0 0, .bool false, .slice none 0 0, .slice none 0 0, .slice none 0 0, .int .i64 0, .map (some mb)] 58)) W2) (hm : MapSI w1 mb 17 opsM) (hmb : mb < w1.heap.size) : RdrAt W2 W2.heap.size w1.heap.size mb rdr0 rs0 := by
  have hs : w1.heap.size + 1 ≤ W2.heap.size := by have := hb.size; rw [World.size_alloc] at this; exact this
  refine ⟨?_, OwnL.nil _ _ _, OwnL.nil _ _ _, OwnL.nil _ _ _, rfl, fun y hy => (by cases hy), OwnL.nil _ _ _, OwnL.nil _ _ _, Nat.le_refl _, by omega, ⟨by omega, by omega⟩, ?_, Apart.nil⟩
  · exact (Blk.new w1 _ _).below hb (by omega)
  · refine hm.same ?_
    rw [hb.block mb (by omega)]
    exact Below.heap_alloc w1 _ mb hmb
/-- A block of a program's cells, whatever they hold. -/
def PgBlk (w : World) (b : Nat) : Prop := ∃ cs, Blk w b 28 cs
theorem PgBlk.set_ {w : World} {b : Nat} (h : PgBlk w b) (g o : Nat) (u : Value) : PgBlk (w.setCell ⟨g, o, none⟩ u) b := by
  obtain ⟨cs, h⟩ := h
  by_cases e : b = g
  · subst e; exact ⟨_, h.set_ o u⟩
  · exact ⟨_, h.far (p := ⟨g, o, none⟩) e u⟩
theorem PgO.set_ {w : World} {B b : Nat} {x : PgV} {p : Pg} (h : PgO w B x p) (hb : PgBlk w b) (o : Nat) (u : Value) : PgO (w.setCell ⟨b, o, none⟩ u) B x p := by
  obtain ⟨cs, hb⟩ := hb
  have hc := ownB_iff.1 h.code
  exact ⟨h.avgs.farNe (h.avgs.offBlk hb (by decide)) _, h.curs.farNe (h.curs.offBlk hb (by decide)) _, h.nears.farNe (h.nears.offBlk hb (by decide)) _, h.nmap,
    fun y hy => ⟨(h.inner y hy).1.farNe ((h.inner y hy).1.offBlk hb (by decide)) _, (h.inner y hy).2.farNe ((h.inner y hy).2.offBlk hb (by decide)) _⟩, h.drive.farNe (h.drive.offBlk hb (by decide)) _, ownB_iff.2 (hc.farNe (hc.offBlk hb (by decide)) _)⟩
end Go.Proofs.YtmdpfikalekmlaaGreatDoor
/- Layer 20: Read. -/
namespace Go.Proofs.YtmdpfikalekmlaaGreatDoor
open Go.RowKit
set_option maxRecDepth 100000
set_option maxHeartbeats 40000000
set_option linter.unusedSimpArgs false
set_option linter.unusedVariables false

theorem linesR_code {ls : List (List UInt8)} {st : Rs} (h : linesR rs0 0 ls = .inl st) : SmallIns st.code := by
  cases ls with
  | nil => cases h; intro x hx; cases hx
  | cons s r =>
    rw [linesR] at h
    cases h1 : lineR rs0 s with
    | none => rw [h1] at h; cases h
    | some st1 =>
      rw [h1] at h
      have hi := (linesR_back (lineR_first h1).1 h).1
      intro x hx
      exact (hi.gco x hx).2
theorem readP_bad1 {s : List UInt8} {k : Nat} (hk : k + 1 ≤ (splitS 10 s).dropLast.length) (h : linesR rs0 0 ((splitS 10 s).dropLast.take (k + 1)) = .inr (k + 1)) : readP s = .inr (k + 1) := by
  unfold readP
  simp only []
  rw [linesR_bad h]
theorem readP_bad2 {s : List UInt8} {st : Rs} (h : linesR rs0 0 (splitS 10 s).dropLast = .inl st) (h2 : (splitS 10 s).getLast? ≠ some [] ∨ (splitS 10 s).length = 1) : readP s = .inr (splitS 10 s).length := by
  unfold readP
  simp only []
  rw [h]
  simp only []
  rw [if_pos h2]
theorem readP_ok {s : List UInt8} {st : Rs} (h : linesR rs0 0 (splitS 10 s).dropLast = .inl st) (h2 : ¬ ((splitS 10 s).getLast? ≠ some [] ∨ (splitS 10 s).length = 1)) : readP s = .inl ⟨st.avgs, st.curs, st.nears, st.all, st.drive, if st.code.all insOk = true then encI st.code else []⟩ := by
  unfold readP
  simp only []
  rw [h]
  simp only []
  rw [if_neg h2]
theorem str_empty (l : List UInt8) : (str l).toList = l := by rw [ba_toList, str_data]
theorem splitS_le (c : UInt8) : ∀ (l : List UInt8), ∀ x ∈ splitS c l, x.length ≤ l.length
  | [], x, hx => by
    rw [splitS] at hx
    rw [List.mem_singleton.1 hx]; exact Nat.le_refl _
  | b :: l, x, hx => by
    have ih := splitS_le c l
    by_cases h : b = c
    · rw [splitS, if_pos h] at hx
      rcases List.mem_cons.1 hx with rfl | hx
      · exact Nat.zero_le _
      · exact Nat.le_trans (ih x hx) (Nat.le_succ _)
    · obtain ⟨w, ws, h1, h2⟩ := splitS_head c b l h
      rw [h2] at hx
      rw [h1] at ih
      rcases List.mem_cons.1 hx with rfl | hx
      · have := ih w List.mem_cons_self
        simp only [List.length_cons]; omega
      · exact Nat.le_trans (ih x (List.mem_cons_of_mem _ hx)) (Nat.le_succ _)
theorem readA_any (s : List UInt8) (w : World) (ea : List Addr) (hs : s.length ≤ 1000000000) (hln : (splitS 10 s).length ≤ 20000000) (hE : ErrEnv w ea) (hT : TabEnv w) (hP : PuEnv w) :
    Calls Tryz.prog 6 #[.string (str s)] w (ReadRetA (readP s) (errI ea 15) w) := by
  have HE := Lib.hid hE; have HT := Lib.hid hT; have HP := Lib.hid hP
  have hg0 : 17 < w.heap.size := hT.lt
  have hg1 : 32 < w.heap.size := hP.lt
  have hg2 : 0 < w.heap.size := World.block_lt_of_cell? w ⟨0, 0, none⟩ (hE.cell 15 (by decide))
  obtain ⟨ls, hls⟩ : ∃ ls, ls = splitS 10 s := ⟨_, rfl⟩
  have hne : ls ≠ [] := by rw [hls]; exact splitS_ne _ _
  have hlen : 1 ≤ ls.length := List.length_pos_iff.2 hne
  have HSZ := Lib.hid (show ∀ x ∈ ls, x.length ≤ 1000000000 from fun x hx => Nat.le_trans (splitS_le 10 s x (hls ▸ hx)) hs)
  have HLS := Lib.hid hls
  have hspl := fun W => split1_any (str s) 10 W (by rw [str_size]; omega)
  have hsrd := fun W => spRd 10 (str s) W (by rw [str_size]; omega)
  unfold SpRet at hspl
  simp only [str_data] at hspl hsrd
  rw [← hls] at hspl hsrd hln
  have HSPL := Lib.hid hspl; have HSRD := Lib.hid hsrd; have HNE := Lib.hid hne
  have hbn := byName_any (w.alloc (.cells #[.slice none 0 0, .slice none 0 0, .slice none 0 0, .bool false, .slice none 0 0, .slice none 0 0] 28)) (hT.below ((Below.refl w.heap.size w).alloc (Nat.le_refl _) _))
  clear hE hT hP hspl hsrd hls hne
  go_enter Tryz.func6, Tryz.ntmps6
  go_wp2_with fail
  refine hbn.mono ?_
  rintro e w1 ⟨rfl, hm1, hb1⟩
  have hz1 := hb1.size
  rw [World.size_alloc] at hz1
  have hb1w : Below w.heap.size w w1 := ((Below.refl w.heap.size w).alloc (Nat.le_refl _) _).trans (hb1.mono (by rw [World.size_alloc]; omega))
  have hblk1 : Blk w1 w.heap.size 28 #[.slice none 0 0, .slice none 0 0, .slice none 0 0, .bool false, .slice none 0 0, .slice none 0 0] := (Blk.new w _ _).below hb1 (by rw [World.size_alloc]; omega)
  rw [World.size_alloc] at hm1
  have hmlt := hm1.lt
  have HM1 := Lib.hid hm1; have HB1 := Lib.hid hb1w; have HK1 := Lib.hid hblk1
  clear hbn hm1 hb1 hb1w hblk1
  go_wp2_with fail
  refine (HSPL.out _).mono ?_
  rintro e w2 ⟨rfl, rfl⟩
  have HRD := HSRD.out (w1.alloc (.cells #[.slice none 0 0, .slice none 0 0, .slice none 0 0, .bool false, .slice none 0 0, .slice none 0 0, .slice none 0 0, .int .i64 0, .map (some (w.heap.size + 1))] 58))
  have hbA : Below w1.heap.size w1 (w1.alloc (.cells #[.slice none 0 0, .slice none 0 0, .slice none 0 0, .bool false, .slice none 0 0, .slice none 0 0, .slice none 0 0, .int .i64 0, .map (some (w.heap.size + 1))] 58)) := (Below.refl _ _).alloc (Nat.le_refl _) _
  have hbB : Below (w1.heap.size + 1) (w1.alloc (.cells #[.slice none 0 0, .slice none 0 0, .slice none 0 0, .bool false, .slice none 0 0, .slice none 0 0, .slice none 0 0, .int .i64 0, .map (some (w.heap.size + 1))] 58)) ((w1.alloc (.cells #[.slice none 0 0, .slice none 0 0, .slice none 0 0, .bool false, .slice none 0 0, .slice none 0 0, .slice none 0 0, .int .i64 0, .map (some (w.heap.size + 1))] 58)).alloc (.cells (spRow 10 (str s)) 9)) := (Below.refl _ _).alloc (by rw [World.size_alloc]; omega) _
  have hR0 := rdr_start hbB HM1.out (by omega)
  have hz2 : ((w1.alloc (.cells #[.slice none 0 0, .slice none 0 0, .slice none 0 0, .bool false, .slice none 0 0, .slice none 0 0, .slice none 0 0, .int .i64 0, .map (some (w.heap.size + 1))] 58)).alloc (.cells (spRow 10 (str s)) 9)).heap.size = w1.heap.size + 2 := by rw [World.size_alloc, World.size_alloc]
  have hblk2 := (HK1.out.alloc (.cells #[.slice none 0 0, .slice none 0 0, .slice none 0 0, .bool false, .slice none 0 0, .slice none 0 0, .slice none 0 0, .int .i64 0, .map (some (w.heap.size + 1))] 58)).alloc (.cells (spRow 10 (str s)) 9)
  have hbW : Below w.heap.size w ((w1.alloc (.cells #[.slice none 0 0, .slice none 0 0, .slice none 0 0, .bool false, .slice none 0 0, .slice none 0 0, .slice none 0 0, .int .i64 0, .map (some (w.heap.size + 1))] 58)).alloc (.cells (spRow 10 (str s)) 9)) := HB1.out.trans ((hbA.mono (by omega)).trans (hbB.mono (by omega)))
  rw [World.size_alloc] at HRD
  clear hbA hbB
  generalize (w1.alloc (.cells #[.slice none 0 0, .slice none 0 0, .slice none 0 0, .bool false, .slice none 0 0, .slice none 0 0, .slice none 0 0, .int .i64 0, .map (some (w.heap.size + 1))] 58)).alloc (.cells (spRow 10 (str s)) 9) = W2 at *
  have HR0 := Lib.hid hR0; have HRW := Lib.hid HRD; have HBW := Lib.hid hbW; have HBK := Lib.hid hblk2
  clear HRD hR0 hbW hblk2
  have hb1z := HB1.out.size
  have hcap := HRW.out.open_
  go_wp2
  go_loopw [21] (fun iv wr => RlRel ls.dropLast W2 W2.heap.size w1.heap.size (w.heap.size + 1) iv wr) (fun iv _ => ls.length - (intOf iv).toNat)
  case atStart => exact ⟨0, rdr0, rs0, Nat.zero_le _, rfl, rfl, HR0.out, RKeep.refl _ _ _, Nat.zero_le _, Nat.zero_le _, Nat.zero_le _⟩
  case round =>
    obtain ⟨k, x, st, hk, rfl, hst, hr, hkp, hcn⟩ := hrel
    have HR := Lib.hid hr; have HK := Lib.hid hkp; have HST := Lib.hid hst
    have hkz := hkp.size
    obtain ⟨hn1, hn2, hn3⟩ := hcn
    clear hr hkp hst
    rw [List.length_dropLast] at hk
    have hrbW : w1.heap.size < W2.heap.size := by omega
    have hbr : Below w.heap.size w wr := HBW.out.trans (HK.out.below (by omega) (by omega))
    have HBR := Lib.hid hbr
    have gE : wr.cell? ⟨0, 0, none⟩ = some (errI ea 15) := (HE.out.below hbr).cell 15 (by decide)
    have hb2 : wr.heap[w.heap.size]? = some (.cells #[.slice none 0 0, .slice none 0 0, .slice none 0 0, .bool false, .slice none 0 0, .slice none 0 0] 28 (0, 0)) := (HK.out.kept w.heap.size (by omega) (by omega)).trans HBK.out
    have HB2 := Lib.hid (show Blk wr w.heap.size 28 #[.slice none 0 0, .slice none 0 0, .slice none 0 0, .bool false, .slice none 0 0, .slice none 0 0] from hb2)
    clear hbr hb2
    by_cases hlt : k < ls.length - 1
    · have hll : k < ls.length := by omega
      obtain ⟨a, he, hab, c0⟩ := at_word (HK.out.rd HRW.out (by omega) (fun a n c e => by injection e with e; injection e with e; subst e; show w1.heap.size + 1 ≠ w1.heap.size; omega)) hll
      injection he with he
      subst he
      rw [Addr.add_lit, Nat.zero_add] at c0
      have hgd : ls.dropLast[k]'(by rw [List.length_dropLast]; exact hlt) = ls[k] := List.getElem_dropLast _
      have HNX := Lib.hid (linesR_next (k := k) (by rw [List.length_dropLast]; exact hlt) HST.out)
      rw [hgd] at HNX
      have hxs := HSZ.out _ (List.getElem_mem hll)
      clear hgd hab
      generalize ls[k] = y at *
      have hcall := rline_any y wr W2.heap.size w1.heap.size (w.heap.size + 1) x st HR.out (by omega) (by omega) (by omega) hxs (HP.out.belowW HBR.out) (HT.out.below HBR.out) (by omega) (by omega)
      have HCA := Lib.hid hcall
      clear hcall
      cases hlr : lineR st y with
      | none =>
        have HBAD := Lib.hid (readP_bad1 (s := s) (k := k) (by rw [← HLS.out, List.length_dropLast]; omega) (by rw [← HLS.out]; have h := HNX.out; rw [hlr] at h; exact h))
        have HLR := Lib.hid hlr
        clear hlr
        go_wp2_with fail
        refine HCA.out.mono ?_
        intro e w4 h4
        unfold LnRet at h4
        rw [HLR.out] at h4
        obtain ⟨hk4, rfl⟩ := h4
        have HB4 := Lib.hid (HBR.out.trans (hk4.below (by omega) (by omega)))
        have hb4 : w4.heap[w.heap.size]? = some (.cells #[.slice none 0 0, .slice none 0 0, .slice none 0 0, .bool false, .slice none 0 0, .slice none 0 0] 28 (0, 0)) := (hk4.kept w.heap.size (by omega) (by omega)).trans HB2.out
        have hBl : Blk w4 w.heap.size 28 #[.slice none 0 0, .slice none 0 0, .slice none 0 0, .bool false, .slice none 0 0, .slice none 0 0] := hb4
        have hsy : w4.cell? ⟨0, 0, none⟩ = some (errI ea 15) := (HE.out.below HB4.out).cell 15 (by decide)
        have p0 := hBl.cell 0; have p1 := hBl.cell 1; have p2 := hBl.cell 2; have p3 := hBl.cell 3; have p4 := hBl.cell 4; have p5 := hBl.cell 5
        have q0 := hBl.frozen 0; have q1 := hBl.frozen 1; have q2 := hBl.frozen 2; have q3 := hBl.frozen 3; have q4 := hBl.frozen 4; have q5 := hBl.frozen 5
        simp only [List.getElem?_toArray, List.getElem?_cons_zero, List.getElem?_cons_succ] at p0 p1 p2 p3 p4 p5
        clear hk4 hb4 hBl
        have hgn : ¬ 0 = w.heap.size := by omega
        have hgn2 : ¬ w.heap.size = 0 := by omega
        have hw1 : IntKind.i64.wrap ((k : Int) + 1) = (k : Int) + 1 := IntWalk.i64_in _ (by omega)
        go_wp2
        go_region
        go_wp2
        have HB5 := (((((((HB4.out.setCell (p := ⟨w.heap.size, 0, none⟩) (Nat.le_refl _) (.slice none 0 0)).setCell (p := ⟨w.heap.size, 1, none⟩) (Nat.le_refl _) (.slice none 0 0)).setCell (p := ⟨w.heap.size, 2, none⟩) (Nat.le_refl _) (.slice none 0 0)).setCell (p := ⟨w.heap.size, 3, none⟩) (Nat.le_refl _) (.bool false)).setCell (p := ⟨w.heap.size, 4, none⟩) (Nat.le_refl _) (.slice none 0 0)).setCell (p := ⟨w.heap.size, 5, none⟩) (Nat.le_refl _) (.slice none 0 0)).drew)
        refine bodyPost_ret (v := .tuple #[pgZero, .int .i64 ((k : Int) + 1), errI ea 15]) ?_ rfl ?_
        · simp [results, Tryz.results6, go_sem, pgZero, p0, p1, p2, p3, p4, p5]
        · exact readRetA_bad HB5 HBAD.out rfl
      | some st' =>
        have HGO := Lib.hid (show linesR rs0 0 (ls.dropLast.take (k + 1)) = .inl st' from by have h := HNX.out; rw [hlr] at h; exact h)
        obtain ⟨g1, g2, g3⟩ := lineR_grows hlr
        have HLR := Lib.hid hlr
        clear hlr
        go_wp2_with fail
        refine HCA.out.mono ?_
        intro e w4 h4
        unfold LnRet at h4
        rw [HLR.out] at h4
        obtain ⟨hk4, rfl, x', hx'⟩ := h4
        have HK4 := Lib.hid (HK.out.trans hk4); have HX4 := Lib.hid hx'
        clear hk4 hx'
        go_wp2
        go_roundw
        case rel => exact ⟨k + 1, x', st', by rw [List.length_dropLast]; omega, by go_num, HGO.out, HX4.out, HK4.out, by omega, by omega, by omega⟩
        case measure => simp [intOf]; omega
    · obtain rfl : k = ls.length - 1 := by omega
      have HFIN := Lib.hid (show linesR rs0 0 (splitS 10 s).dropLast = .inl st from by
        have h := HST.out
        rw [List.take_of_length_le (by rw [List.length_dropLast]; exact Nat.le_refl _), HLS.out] at h
        exact h)
      obtain ⟨a, he, hab, c0⟩ := at_word (k := ls.length - 1) (HK.out.rd HRW.out (by omega) (fun a n c e => by injection e with e; injection e with e; subst e; show w1.heap.size + 1 ≠ w1.heap.size; omega)) (by omega)
      injection he with he
      subst he
      rw [Addr.add_lit, Nat.zero_add] at c0
      have HLA := Lib.hid (show (splitS 10 s).getLast? = some (ls[ls.length - 1]'(by omega)) from by
        rw [← HLS.out, List.getLast?_eq_getElem?, List.getElem?_eq_getElem (by omega)])
      clear hab
      generalize ls[ls.length - 1]'(by omega) = y at *
      have hys : (str y).toList = y := str_empty y
      by_cases hy : y = []
      · have y1 : (str y).toList = [] := hys.trans hy
        have y2 : (str y).toList.isEmpty = true := by rw [y1]; rfl
        by_cases hl1 : ls.length = 1
        · have HBAD := Lib.hid (show readP s = .inr ls.length from (readP_bad2 HFIN.out (by rw [← HLS.out]; exact .inr hl1)).trans (by rw [← HLS.out]))
          have l1 : ((ls.length : Int) == 1) = true := by simp; omega
          clear hys hy hl1
          have hBl := HB2.out
          have hsy : wr.cell? ⟨0, 0, none⟩ = some (errI ea 15) := gE
          have p0 := hBl.cell 0; have p1 := hBl.cell 1; have p2 := hBl.cell 2; have p3 := hBl.cell 3; have p4 := hBl.cell 4; have p5 := hBl.cell 5
          have q0 := hBl.frozen 0; have q1 := hBl.frozen 1; have q2 := hBl.frozen 2; have q3 := hBl.frozen 3; have q4 := hBl.frozen 4; have q5 := hBl.frozen 5
          simp only [List.getElem?_toArray, List.getElem?_cons_zero, List.getElem?_cons_succ] at p0 p1 p2 p3 p4 p5
          clear hBl
          have hgn : ¬ 0 = w.heap.size := by omega
          have hgn2 : ¬ w.heap.size = 0 := by omega
          go_wp2
          go_region
          go_wp2
          have HB5 := (((((((HBR.out.setCell (p := ⟨w.heap.size, 0, none⟩) (Nat.le_refl _) (.slice none 0 0)).setCell (p := ⟨w.heap.size, 1, none⟩) (Nat.le_refl _) (.slice none 0 0)).setCell (p := ⟨w.heap.size, 2, none⟩) (Nat.le_refl _) (.slice none 0 0)).setCell (p := ⟨w.heap.size, 3, none⟩) (Nat.le_refl _) (.bool false)).setCell (p := ⟨w.heap.size, 4, none⟩) (Nat.le_refl _) (.slice none 0 0)).setCell (p := ⟨w.heap.size, 5, none⟩) (Nat.le_refl _) (.slice none 0 0)).drew)
          refine bodyPost_ret (v := .tuple #[pgZero, .int .i64 (ls.length : Int), errI ea 15]) ?_ rfl ?_
          · simp [results, Tryz.results6, go_sem, pgZero, p0, p1, p2, p3, p4, p5]
          · exact readRetA_bad HB5 HBAD.out rfl
        · have HOK := Lib.hid (readP_ok HFIN.out (by rw [HLA.out, hy, ← HLS.out]; simp [hl1]))
          have l1 : ((ls.length : Int) == 1) = false := by simp; omega
          clear hys hy hl1
          obtain ⟨av, cv, nv, dv, kv, nl⟩ := x
          have hR := HR.out
          obtain ⟨aA, ac, rfl, -, -, -⟩ := hR.avgs.open_
          obtain ⟨cA, cc, rfl, -, -, -⟩ := hR.curs.open_
          obtain ⟨nA, nc, hnv, -, -, -⟩ := hR.nears.open_
          simp only at hnv
          subst hnv
          obtain ⟨dA, dc, rfl, -, -, -⟩ := hR.drive.open_
          obtain ⟨kA, kc, rfl, -, -, -⟩ := hR.code.open_
          have r0 := hR.blk.cell 0; have r1 := hR.blk.cell 1; have r2 := hR.blk.cell 2; have r3 := hR.blk.cell 3; have r4 := hR.blk.cell 4; have r5 := hR.blk.cell 5; have r6 := hR.blk.cell 6
          simp only [List.getElem?_toArray, List.getElem?_cons_zero, List.getElem?_cons_succ] at r0 r1 r2 r3 r4 r5 r6
          have hrl := hR.blk.lt
          have hbA : Below wr.heap.size wr (wr.alloc (.cells #[.slice aA st.avgs.length ac, .slice cA st.curs.length cc, .slice nA nl.length nc, .bool st.all, .slice dA st.drive.length dc, .slice none 0 0] 28)) := (Below.refl _ _).alloc (Nat.le_refl _) _
          have hcode := RdL.of_own (hR.code.below hbA)
          have henc := iencode_any _ st.code ea _ _ (Nat.le_refl _) hcode (by omega) (linesR_code HFIN.out) ((HE.out.below (HBR.out.trans (hbA.mono HBR.out.size))).few) (HT.out.below (HBR.out.trans (hbA.mono HBR.out.size)))
          have HENC := Lib.hid henc; have HBA := Lib.hid hbA
          clear hR hcode henc hbA
          go_wp2_with fail
          refine HENC.out.mono ?_
          rintro e w6 ⟨v, rfl, ho, hb6⟩
          generalize (if st.code.all insOk = true then encI st.code else []) = m at *
          generalize (if st.code.all insOk = true then Value.nilIface else errI ea 20) = er at *
          obtain ⟨vA, vc, rfl⟩ := ownB_form ho
          have HO := Lib.hid ho; have HB6 := Lib.hid hb6
          have hBl := (Blk.new wr 28 #[.slice aA st.avgs.length ac, .slice cA st.curs.length cc, .slice nA nl.length nc, .bool st.all, .slice dA st.drive.length dc, .slice none 0 0]).belowW hb6
          have HBL := Lib.hid hBl
          have p0 := hBl.cell 0; have p1 := hBl.cell 1; have p2 := hBl.cell 2; have p3 := hBl.cell 3; have p4 := hBl.cell 4; have p5 := hBl.cell 5
          have q5 := hBl.frozen 5
          simp only [List.getElem?_toArray, List.getElem?_cons_zero, List.getElem?_cons_succ] at p0 p1 p2 p3 p4 p5
          have hz6 := hb6.size
          rw [World.size_alloc] at hz6
          have hBz := (HB2.out.alloc (.cells #[.slice aA st.avgs.length ac, .slice cA st.curs.length cc, .slice nA nl.length nc, .bool st.all, .slice dA st.drive.length dc, .slice none 0 0] 28)).belowW hb6
          have HBZ := Lib.hid hBz
          have s0 := hBz.cell 0; have s1 := hBz.cell 1; have s2 := hBz.cell 2; have s3 := hBz.cell 3; have s4 := hBz.cell 4; have s5 := hBz.cell 5
          have f0 := hBz.frozen 0; have f1 := hBz.frozen 1; have f2 := hBz.frozen 2; have f3 := hBz.frozen 3; have f4 := hBz.frozen 4; have f5 := hBz.frozen 5
          simp only [List.getElem?_toArray, List.getElem?_cons_zero, List.getElem?_cons_succ] at s0 s1 s2 s3 s4 s5
          have hgz : ¬ w.heap.size = wr.heap.size := by omega
          have hgz2 : ¬ wr.heap.size = w.heap.size := by omega
          clear ho hb6 hBl hBz r0 r1 r2 r3 r4 r5 r6
          go_wp2_with fail
          have hP0 : PgO w6 w.heap.size ⟨.slice aA st.avgs.length ac, .slice cA st.curs.length cc, .slice nA nl.length nc, .slice dA st.drive.length dc, .slice vA m.length vc, nl⟩ ⟨st.avgs, st.curs, st.nears, st.all, st.drive, m⟩ := by
            have hR := HR.out
            have hle : w.heap.size ≤ W2.heap.size := by omega
            have hba := HBA.out
            have hb6 := HB6.out
            exact ⟨((hR.avgs.below hba).below hb6).more hle, ((hR.curs.below hba).below hb6).more hle, ((hR.nears.below hba).below hb6).more hle, hR.nmap, fun z hz => ⟨((((hR.inner z hz).1).below hba).below hb6).more hle, ((((hR.inner z hz).2).below hba).below hb6).more hle⟩, ((hR.drive.below hba).below hb6).more hle, ownB_iff.2 ((ownB_iff.1 HO.out).more (by rw [World.size_alloc]; omega))⟩
          have hq1 : PgBlk w6 wr.heap.size := ⟨_, HBL.out⟩
          have hq2 : PgBlk w6 w.heap.size := ⟨_, HBZ.out⟩
          have hP1 := hP0.set_ hq1 5 (.slice vA m.length vc)
          have hq3 := hq2.set_ wr.heap.size 5 (.slice vA m.length vc)
          have hP2 := hP1.set_ hq3 0 (.slice aA st.avgs.length ac)
          have hq4 := hq3.set_ w.heap.size 0 (.slice aA st.avgs.length ac)
          have hP3 := hP2.set_ hq4 1 (.slice cA st.curs.length cc)
          have hq5 := hq4.set_ w.heap.size 1 (.slice cA st.curs.length cc)
          have hP4 := hP3.set_ hq5 2 (.slice nA nl.length nc)
          have hq6 := hq5.set_ w.heap.size 2 (.slice nA nl.length nc)
          have hP5 := hP4.set_ hq6 3 (.bool st.all)
          have hq7 := hq6.set_ w.heap.size 3 (.bool st.all)
          have hP6 := hP5.set_ hq7 4 (.slice dA st.drive.length dc)
          have hq8 := hq7.set_ w.heap.size 4 (.slice dA st.drive.length dc)
          have hP7 := hP6.set_ hq8 5 (.slice vA m.length vc)
          have hbx : Below w.heap.size w w6 := HBR.out.trans ((HBA.out.trans (HB6.out.mono HBA.out.size)).mono HBR.out.size)
          have HB7 := (((((((hbx.setCell (p := ⟨wr.heap.size, 5, none⟩) HBR.out.size (.slice vA m.length vc)).setCell (p := ⟨w.heap.size, 0, none⟩) (Nat.le_refl _) (.slice aA st.avgs.length ac)).setCell (p := ⟨w.heap.size, 1, none⟩) (Nat.le_refl _) (.slice cA st.curs.length cc)).setCell (p := ⟨w.heap.size, 2, none⟩) (Nat.le_refl _) (.slice nA nl.length nc)).setCell (p := ⟨w.heap.size, 3, none⟩) (Nat.le_refl _) (.bool st.all)).setCell (p := ⟨w.heap.size, 4, none⟩) (Nat.le_refl _) (.slice dA st.drive.length dc)).setCell (p := ⟨w.heap.size, 5, none⟩) (Nat.le_refl _) (.slice vA m.length vc))
          refine bodyPost_ret (v := .tuple #[PgV.val ⟨.slice aA st.avgs.length ac, .slice cA st.curs.length cc, .slice nA nl.length nc, .slice dA st.drive.length dc, .slice vA m.length vc, nl⟩ ⟨st.avgs, st.curs, st.nears, st.all, st.drive, m⟩, .int .i64 0, .nilIface]) ?_ rfl ?_
          · simp [results, Tryz.results6, go_sem, PgV.val, s0, s1, s2, s3, s4, s5, hgz, hgz2]
          · exact readRetA_ok HB7 HOK.out _ rfl hP7 HR.out.apart
      · have y1 : ¬ (str y).toList = [] := fun h => hy (hys.symm.trans h)
        have y2 : (str y).toList.isEmpty = false := by rw [List.isEmpty_eq_false_iff]; exact y1
        have HBAD := Lib.hid (show readP s = .inr ls.length from (readP_bad2 HFIN.out (by rw [HLA.out]; exact .inl (fun h => hy (Option.some.inj h)))).trans (by rw [← HLS.out]))
        clear hys hy
        have hBl := HB2.out
        have hsy : wr.cell? ⟨0, 0, none⟩ = some (errI ea 15) := gE
        have p0 := hBl.cell 0; have p1 := hBl.cell 1; have p2 := hBl.cell 2; have p3 := hBl.cell 3; have p4 := hBl.cell 4; have p5 := hBl.cell 5
        have q0 := hBl.frozen 0; have q1 := hBl.frozen 1; have q2 := hBl.frozen 2; have q3 := hBl.frozen 3; have q4 := hBl.frozen 4; have q5 := hBl.frozen 5
        simp only [List.getElem?_toArray, List.getElem?_cons_zero, List.getElem?_cons_succ] at p0 p1 p2 p3 p4 p5
        clear hBl
        have hgn : ¬ 0 = w.heap.size := by omega
        have hgn2 : ¬ w.heap.size = 0 := by omega
        go_wp2
        go_region
        go_wp2
        have HB5 := (((((((HBR.out.setCell (p := ⟨w.heap.size, 0, none⟩) (Nat.le_refl _) (.slice none 0 0)).setCell (p := ⟨w.heap.size, 1, none⟩) (Nat.le_refl _) (.slice none 0 0)).setCell (p := ⟨w.heap.size, 2, none⟩) (Nat.le_refl _) (.slice none 0 0)).setCell (p := ⟨w.heap.size, 3, none⟩) (Nat.le_refl _) (.bool false)).setCell (p := ⟨w.heap.size, 4, none⟩) (Nat.le_refl _) (.slice none 0 0)).setCell (p := ⟨w.heap.size, 5, none⟩) (Nat.le_refl _) (.slice none 0 0)).drew)
        refine bodyPost_ret (v := .tuple #[pgZero, .int .i64 (ls.length : Int), errI ea 15]) ?_ rfl ?_
        · simp [results, Tryz.results6, go_sem, pgZero, p0, p1, p2, p3, p4, p5]
        · exact readRetA_bad HB5 HBAD.out rfl
theorem read_any (s : List UInt8) (w : World) (ea : List Addr) (hs : s.length ≤ 1000000000) (hln : (splitS 10 s).length ≤ 20000000) (hE : ErrEnv w ea) (hT : TabEnv w) (hP : PuEnv w) :
    Calls Tryz.prog 6 #[.string (str s)] w (ReadRet (readP s) (errI ea 15) w) :=
  (readA_any s w ea hs hln hE hT hP).mono fun _ _ h => h.ret
end Go.Proofs.YtmdpfikalekmlaaGreatDoor
end
section
/- Layer 20: deep: a program with lists of its own. -/
namespace Go.Proofs.YtmdpfikalekmlaaGreatDoor
open Go.RowKit
set_option maxRecDepth 100000
set_option maxHeartbeats 4000000
set_option linter.unusedSimpArgs false
set_option linter.unusedVariables false

theorem byteS_iff {w : World} {B : Nat} {v : Value} {l : List UInt8} : OwnB w B v l ↔ OwnL byteS w B v l := ownB_iff

def dpads : List Nat := [6, 7, 8, 9, 10, 11, 12, 13, 14, 15, 16, 17, 18, 19, 20, 21, 22, 23, 24, 3]
def dpao0 : Oper := { dst := some 6, op := Go.Op.fieldAddr 28 (Go.Operand.tmp 1) 3, type := 0, pos := "law.go:294", after := #[], guard := none }
def dpao1 : Oper := { dst := some 7, op := Go.Op.load 4 (Go.Operand.tmp 6), type := 4, pos := "law.go:294", after := #[{ on := 0, ground := Go.Ground.data }], guard := none }
def dpao2 : Oper := { dst := some 8, op := Go.Op.buildSlice 23 0 #[], type := 23, pos := "law.go:294", after := #[], guard := none }
def dpao3 : Oper := { dst := some 9, op := Go.Op.fieldAddr 28 (Go.Operand.tmp 1) 0, type := 0, pos := "law.go:294", after := #[], guard := none }
def dpao4 : Oper := { dst := some 10, op := Go.Op.load 23 (Go.Operand.tmp 9), type := 23, pos := "law.go:294", after := #[{ on := 3, ground := Go.Ground.data }], guard := none }
def dpao5 : Oper := { dst := some 11, op := Go.Op.call { callee := Go.Callee.builtin Go.Builtin.append, args := #[Go.Operand.tmp 8, Go.Operand.tmp 10], argTypes := #[23, 23] }, type := 23, pos := "law.go:294", after := #[{ on := 2, ground := Go.Ground.data }, { on := 4, ground := Go.Ground.data }], guard := none }
def dpao6 : Oper := { dst := some 12, op := Go.Op.buildSlice 23 0 #[], type := 23, pos := "law.go:294", after := #[], guard := none }
def dpao7 : Oper := { dst := some 13, op := Go.Op.fieldAddr 28 (Go.Operand.tmp 1) 4, type := 0, pos := "law.go:294", after := #[], guard := none }
def dpao8 : Oper := { dst := some 14, op := Go.Op.load 23 (Go.Operand.tmp 13), type := 23, pos := "law.go:294", after := #[{ on := 7, ground := Go.Ground.data }], guard := none }
def dpao9 : Oper := { dst := some 15, op := Go.Op.call { callee := Go.Callee.builtin Go.Builtin.append, args := #[Go.Operand.tmp 12, Go.Operand.tmp 14], argTypes := #[23, 23] }, type := 23, pos := "law.go:294", after := #[{ on := 6, ground := Go.Ground.data }, { on := 8, ground := Go.Ground.data }, { on := 5, ground := Go.Ground.chain }], guard := none }
def dpao10 : Oper := { dst := some 16, op := Go.Op.buildSlice 24 0 #[], type := 24, pos := "law.go:294", after := #[], guard := none }
def dpao11 : Oper := { dst := some 17, op := Go.Op.fieldAddr 28 (Go.Operand.tmp 1) 1, type := 0, pos := "law.go:294", after := #[], guard := none }
def dpao12 : Oper := { dst := some 18, op := Go.Op.load 24 (Go.Operand.tmp 17), type := 24, pos := "law.go:294", after := #[{ on := 11, ground := Go.Ground.data }], guard := none }
def dpao13 : Oper := { dst := some 19, op := Go.Op.call { callee := Go.Callee.builtin Go.Builtin.append, args := #[Go.Operand.tmp 16, Go.Operand.tmp 18], argTypes := #[24, 24] }, type := 24, pos := "law.go:294", after := #[{ on := 10, ground := Go.Ground.data }, { on := 12, ground := Go.Ground.data }, { on := 9, ground := Go.Ground.chain }], guard := none }
def dpao14 : Oper := { dst := some 20, op := Go.Op.buildSlice 26 0 #[], type := 26, pos := "law.go:294", after := #[], guard := none }
def dpao15 : Oper := { dst := some 21, op := Go.Op.fieldAddr 28 (Go.Operand.tmp 1) 5, type := 0, pos := "law.go:294", after := #[], guard := none }
def dpao16 : Oper := { dst := some 22, op := Go.Op.load 26 (Go.Operand.tmp 21), type := 26, pos := "law.go:294", after := #[{ on := 15, ground := Go.Ground.data }], guard := none }
def dpao17 : Oper := { dst := some 23, op := Go.Op.call { callee := Go.Callee.builtin Go.Builtin.append, args := #[Go.Operand.tmp 20, Go.Operand.tmp 22], argTypes := #[26, 26] }, type := 26, pos := "law.go:294", after := #[{ on := 14, ground := Go.Ground.data }, { on := 16, ground := Go.Ground.data }, { on := 13, ground := Go.Ground.chain }], guard := none }
def dpao18 : Oper := { dst := some 24, op := Go.Op.build 28 #[(3, Go.Operand.tmp 7), (0, Go.Operand.tmp 11), (4, Go.Operand.tmp 15), (1, Go.Operand.tmp 19), (5, Go.Operand.tmp 23)], type := 28, pos := "law.go:294", after := #[{ on := 1, ground := Go.Ground.data }, { on := 5, ground := Go.Ground.data }, { on := 9, ground := Go.Ground.data }, { on := 13, ground := Go.Ground.data }, { on := 17, ground := Go.Ground.data }], guard := none }
def dpao19 : Oper := { dst := some 3, op := Go.Op.alloc 28, type := 0, pos := "law.go:294", after := #[], guard := none }
def dpao20 : Oper := { dst := none, op := Go.Op.store 28 (Go.Operand.tmp 3) (Go.Operand.tmp 24), type := 0, pos := "law.go:294", after := #[{ on := 19, ground := Go.Ground.data }, { on := 18, ground := Go.Ground.data }, { on := 17, ground := Go.Ground.chain }, { on := 0, ground := Go.Ground.phase }, { on := 1, ground := Go.Ground.phase }, { on := 2, ground := Go.Ground.phase }, { on := 3, ground := Go.Ground.phase }, { on := 4, ground := Go.Ground.phase }, { on := 5, ground := Go.Ground.phase }, { on := 6, ground := Go.Ground.phase }, { on := 7, ground := Go.Ground.phase }, { on := 8, ground := Go.Ground.phase }, { on := 9, ground := Go.Ground.phase }, { on := 10, ground := Go.Ground.phase }, { on := 11, ground := Go.Ground.phase }, { on := 12, ground := Go.Ground.phase }, { on := 13, ground := Go.Ground.phase }, { on := 14, ground := Go.Ground.phase }, { on := 15, ground := Go.Ground.phase }, { on := 16, ground := Go.Ground.phase }, { on := 17, ground := Go.Ground.phase }, { on := 18, ground := Go.Ground.phase }, { on := 19, ground := Go.Ground.phase }], guard := none }
def dpar : Array Oper := #[dpao0, dpao1, dpao2, dpao3, dpao4, dpao5, dpao6, dpao7, dpao8, dpao9, dpao10, dpao11, dpao12, dpao13, dpao14, dpao15, dpao16, dpao17, dpao18, dpao19, dpao20]
theorem dpa_o0 : dpar[0]? = some dpao0 := rfl
theorem dpa_o1 : dpar[1]? = some dpao1 := rfl
theorem dpa_o2 : dpar[2]? = some dpao2 := rfl
theorem dpa_o3 : dpar[3]? = some dpao3 := rfl
theorem dpa_o4 : dpar[4]? = some dpao4 := rfl
theorem dpa_o5 : dpar[5]? = some dpao5 := rfl
theorem dpa_o6 : dpar[6]? = some dpao6 := rfl
theorem dpa_o7 : dpar[7]? = some dpao7 := rfl
theorem dpa_o8 : dpar[8]? = some dpao8 := rfl
theorem dpa_o9 : dpar[9]? = some dpao9 := rfl
theorem dpa_o10 : dpar[10]? = some dpao10 := rfl
theorem dpa_o11 : dpar[11]? = some dpao11 := rfl
theorem dpa_o12 : dpar[12]? = some dpao12 := rfl
theorem dpa_o13 : dpar[13]? = some dpao13 := rfl
theorem dpa_o14 : dpar[14]? = some dpao14 := rfl
theorem dpa_o15 : dpar[15]? = some dpao15 := rfl
theorem dpa_o16 : dpar[16]? = some dpao16 := rfl
theorem dpa_o17 : dpar[17]? = some dpao17 := rfl
theorem dpa_o18 : dpar[18]? = some dpao18 := rfl
theorem dpa_o19 : dpar[19]? = some dpao19 := rfl
theorem dpa_o20 : dpar[20]? = some dpao20 := rfl
theorem dpa_rg : (Tryz.f35.body.bind (regAt 1)).getD .skip = .region 1 dpar true := by kernel_rfl
theorem dpa_seq : Region.seqB .any dpar 1 20 (upTo dpar.size 20) = true := by kernel_rfl
theorem dpa_edge : (List.range 20).all (fun i => ((dpar[i]?).map fun o => o.after.all fun e => decide (e.on < i)).getD true) = true := by kernel_rfl
theorem dpa_dst (i d : Nat) (hi : i < 20) (h : dstAt dpar i = some d) : d ∈ dpads := by
  have h1 := List.all_eq_true.1 (show (List.range 20).all (fun i => match dstAt dpar i with | some d => decide (d ∈ dpads) | none => true) = true by kernel_rfl) i (List.mem_range.2 hi)
  rw [h] at h1
  simpa using h1
theorem dpa_one (i j d : Nat) (hi : i < 20) (hj : j < dpar.size) (h : dstAt dpar i = some d) (k : dstAt dpar j = some d) : i = j := by
  have h1 := List.all_eq_true.1 (show (List.range 20).all (fun i => (List.range dpar.size).all fun j => match dstAt dpar i, dstAt dpar j with | some d, some e => decide (d = e → i = j) | _, _ => true) = true by kernel_rfl) i (List.mem_range.2 hi)
  have h2 := List.all_eq_true.1 h1 j (List.mem_range.2 hj)
  rw [h, k] at h2
  simpa using h2
def dpaG (x : PgV) (p : Pg) (bx B : Nat) : Nat → Value → (Nat → Value) → (Nat → Nat → Prop) → World → Prop
  | 0, v, f, t, w => v = .pointer (some ⟨bx, 3, none⟩)
  | 1, v, f, t, w => v = .bool p.all
  | 2, v, f, t, w => LitS intS B 2 v t w
  | 3, v, f, t, w => v = .pointer (some ⟨bx, 0, none⟩)
  | 4, v, f, t, w => v = x.av
  | 5, v, f, t, w => AppS intS B 2 5 p.avgs v t w
  | 6, v, f, t, w => LitS intS B 6 v t w
  | 7, v, f, t, w => v = .pointer (some ⟨bx, 4, none⟩)
  | 8, v, f, t, w => v = x.dv
  | 9, v, f, t, w => AppS intS B 6 9 p.drive v t w
  | 10, v, f, t, w => LitS lfS B 10 v t w
  | 11, v, f, t, w => v = .pointer (some ⟨bx, 1, none⟩)
  | 12, v, f, t, w => v = x.cv
  | 13, v, f, t, w => AppS lfS B 10 13 p.curs v t w
  | 14, v, f, t, w => LitS byteS B 14 v t w
  | 15, v, f, t, w => v = .pointer (some ⟨bx, 5, none⟩)
  | 16, v, f, t, w => v = x.kv
  | 17, v, f, t, w => AppS byteS B 14 17 p.code v t w
  | 18, v, f, t, w => v = .agg #[f 5, f 13, .slice none 0 0, .bool p.all, f 9, f 17]
  | 19, v, f, t, w => ∃ b, v = .pointer (some ⟨b, 0, none⟩) ∧ Blk w b 28 #[.slice none 0 0, .slice none 0 0, .slice none 0 0, .bool false, .slice none 0 0, .slice none 0 0] ∧ t 19 b
  | _, _, _, _, _ => True
theorem dpa_st (x : PgV) (p : Pg) (bx B : Nat) (i : Nat) (v : Value) (f : Nat → Value) (t : Nat → Nat → Prop) (w w' : World) (h : dpaG x p bx B i v f t w) (hb : Below w.heap.size w w') : dpaG x p bx B i v f t w' :=
  match i, h with
  | 0, h => h
  | 1, h => h
  | 2, h => h.below hb
  | 3, h => h
  | 4, h => h
  | 5, h => h.below hb
  | 6, h => h.below hb
  | 7, h => h
  | 8, h => h
  | 9, h => h.below hb
  | 10, h => h.below hb
  | 11, h => h
  | 12, h => h
  | 13, h => h.below hb
  | 14, h => h.below hb
  | 15, h => h
  | 16, h => h
  | 17, h => h.below hb
  | 18, h => h
  | 19, h => by obtain ⟨b, h1, h2, h3⟩ := h; exact ⟨b, h1, h2.belowW hb, h3⟩
  | _ + 20, _ => trivial
section
variable {Q : Exit → Act → World → Prop} {a0 : Act} {w0 : World}
theorem dpa_s0 (x : PgV) (p : Pg) (bx B : Nat) (h1 : a0.tmps.getD 1 undef = .pointer (some ⟨bx, 0, none⟩)) (hblk : Blk w0 bx 28 #[x.av, x.cv, x.nv, .bool p.all, x.dv, x.kv]) (hx : PgR w0 B x p) (hs : SmallPg p) (hB : B = w0.heap.size) {listed : Array Bool} {T : Nat → Nat → Prop} {a : Act} {w : World} {K : Act → World → Prop} (hI : GrI .any dpar 20 (dpaG x p bx B) a0 w0.drew listed T a w) (hw : ∀ j, Region.waitsFor .any dpar 0 j = true → listed.getD j false = true) (hcl : ∀ i j, i < 20 → listed.getD i false = true → Region.waitsFor .any dpar i j = true → listed.getD j false = true)
    (hK : ∀ v w', (dpao0.dst = none → v = undef) → Below w.heap.size w w' → dpaG x p bx B 0 v (maskV .any dpar 0 (valOf dpar a)) (maskT .any dpar 0 (updT T 0 w.heap.size w'.heap.size)) w' → K (a.put dpao0.dst v) w') : wpOp Tryz.prog dpar Q 0 K a w := by
  refine wpOp_step dpa_o0 fun K2 hK2 => ?_
  unfold dpao0
  have hbw : Below w0.heap.size w0 w := ((Below.refl _ _).drew).trans hI.bel
  have hBw : B ≤ w.heap.size := by rw [hB]; exact hbw.size
  have e1 := (hI.slot 1 (by kernel_rfl)).trans h1
  have HK := Lib.hid (hK2 _ _ (hK (.pointer (some ⟨bx, 3, none⟩)) w (fun h => by cases h) (Below.refl _ _) rfl))
  clear hK hK2 hI hw hblk hx hs
  go_simp
  exact HK.out
theorem dpa_s1 (x : PgV) (p : Pg) (bx B : Nat) (h1 : a0.tmps.getD 1 undef = .pointer (some ⟨bx, 0, none⟩)) (hblk : Blk w0 bx 28 #[x.av, x.cv, x.nv, .bool p.all, x.dv, x.kv]) (hx : PgR w0 B x p) (hs : SmallPg p) (hB : B = w0.heap.size) {listed : Array Bool} {T : Nat → Nat → Prop} {a : Act} {w : World} {K : Act → World → Prop} (hI : GrI .any dpar 20 (dpaG x p bx B) a0 w0.drew listed T a w) (hw : ∀ j, Region.waitsFor .any dpar 1 j = true → listed.getD j false = true) (hcl : ∀ i j, i < 20 → listed.getD i false = true → Region.waitsFor .any dpar i j = true → listed.getD j false = true)
    (hK : ∀ v w', (dpao1.dst = none → v = undef) → Below w.heap.size w w' → dpaG x p bx B 1 v (maskV .any dpar 1 (valOf dpar a)) (maskT .any dpar 1 (updT T 1 w.heap.size w'.heap.size)) w' → K (a.put dpao1.dst v) w') : wpOp Tryz.prog dpar Q 1 K a w := by
  refine wpOp_step dpa_o1 fun K2 hK2 => ?_
  unfold dpao1
  have hbw : Below w0.heap.size w0 w := ((Below.refl _ _).drew).trans hI.bel
  have hBw : B ≤ w.heap.size := by rw [hB]; exact hbw.size
  have e6 : a.tmps.getD 6 undef = .pointer (some ⟨bx, 3, none⟩) := hI.made 0 (by decide) (hw 0 (by kernel_rfl))
  have cb : w.cell? ⟨bx, 3, none⟩ = some (.bool p.all) := (hblk.belowW hbw).cell 3
  have HK := Lib.hid (hK2 _ _ (hK (.bool p.all) w (fun h => by cases h) (Below.refl _ _) rfl))
  clear hK hK2 hI hw hblk hx hs
  go_simp
  exact HK.out
theorem dpa_s2 (x : PgV) (p : Pg) (bx B : Nat) (h1 : a0.tmps.getD 1 undef = .pointer (some ⟨bx, 0, none⟩)) (hblk : Blk w0 bx 28 #[x.av, x.cv, x.nv, .bool p.all, x.dv, x.kv]) (hx : PgR w0 B x p) (hs : SmallPg p) (hB : B = w0.heap.size) {listed : Array Bool} {T : Nat → Nat → Prop} {a : Act} {w : World} {K : Act → World → Prop} (hI : GrI .any dpar 20 (dpaG x p bx B) a0 w0.drew listed T a w) (hw : ∀ j, Region.waitsFor .any dpar 2 j = true → listed.getD j false = true) (hcl : ∀ i j, i < 20 → listed.getD i false = true → Region.waitsFor .any dpar i j = true → listed.getD j false = true)
    (hK : ∀ v w', (dpao2.dst = none → v = undef) → Below w.heap.size w w' → dpaG x p bx B 2 v (maskV .any dpar 2 (valOf dpar a)) (maskT .any dpar 2 (updT T 2 w.heap.size w'.heap.size)) w' → K (a.put dpao2.dst v) w') : wpOp Tryz.prog dpar Q 2 K a w := by
  refine wpOp_step dpa_o2 fun K2 hK2 => ?_
  unfold dpao2
  have hbw : Below w0.heap.size w0 w := ((Below.refl _ _).drew).trans hI.bel
  have hBw : B ≤ w.heap.size := by rw [hB]; exact hbw.size
  have HK := Lib.hid (hK2 _ _ (hK (.slice (some ⟨w.heap.size, 0, none⟩) 0 0) (w.alloc (.cells #[] 3)) (fun h => by cases h) ((Below.refl _ _).alloc (Nat.le_refl _) _) ⟨w.heap.size, rfl, OwnL.lit0 intS w hBw, maskT_new (Nat.le_refl _) (by rw [World.size_alloc]; exact Nat.lt_succ_self _)⟩))
  clear hK hK2 hI hw hblk hx hs
  go_simp
  exact HK.out
theorem dpa_s3 (x : PgV) (p : Pg) (bx B : Nat) (h1 : a0.tmps.getD 1 undef = .pointer (some ⟨bx, 0, none⟩)) (hblk : Blk w0 bx 28 #[x.av, x.cv, x.nv, .bool p.all, x.dv, x.kv]) (hx : PgR w0 B x p) (hs : SmallPg p) (hB : B = w0.heap.size) {listed : Array Bool} {T : Nat → Nat → Prop} {a : Act} {w : World} {K : Act → World → Prop} (hI : GrI .any dpar 20 (dpaG x p bx B) a0 w0.drew listed T a w) (hw : ∀ j, Region.waitsFor .any dpar 3 j = true → listed.getD j false = true) (hcl : ∀ i j, i < 20 → listed.getD i false = true → Region.waitsFor .any dpar i j = true → listed.getD j false = true)
    (hK : ∀ v w', (dpao3.dst = none → v = undef) → Below w.heap.size w w' → dpaG x p bx B 3 v (maskV .any dpar 3 (valOf dpar a)) (maskT .any dpar 3 (updT T 3 w.heap.size w'.heap.size)) w' → K (a.put dpao3.dst v) w') : wpOp Tryz.prog dpar Q 3 K a w := by
  refine wpOp_step dpa_o3 fun K2 hK2 => ?_
  unfold dpao3
  have hbw : Below w0.heap.size w0 w := ((Below.refl _ _).drew).trans hI.bel
  have hBw : B ≤ w.heap.size := by rw [hB]; exact hbw.size
  have e1 := (hI.slot 1 (by kernel_rfl)).trans h1
  have HK := Lib.hid (hK2 _ _ (hK (.pointer (some ⟨bx, 0, none⟩)) w (fun h => by cases h) (Below.refl _ _) rfl))
  clear hK hK2 hI hw hblk hx hs
  go_simp
  exact HK.out
theorem dpa_s4 (x : PgV) (p : Pg) (bx B : Nat) (h1 : a0.tmps.getD 1 undef = .pointer (some ⟨bx, 0, none⟩)) (hblk : Blk w0 bx 28 #[x.av, x.cv, x.nv, .bool p.all, x.dv, x.kv]) (hx : PgR w0 B x p) (hs : SmallPg p) (hB : B = w0.heap.size) {listed : Array Bool} {T : Nat → Nat → Prop} {a : Act} {w : World} {K : Act → World → Prop} (hI : GrI .any dpar 20 (dpaG x p bx B) a0 w0.drew listed T a w) (hw : ∀ j, Region.waitsFor .any dpar 4 j = true → listed.getD j false = true) (hcl : ∀ i j, i < 20 → listed.getD i false = true → Region.waitsFor .any dpar i j = true → listed.getD j false = true)
    (hK : ∀ v w', (dpao4.dst = none → v = undef) → Below w.heap.size w w' → dpaG x p bx B 4 v (maskV .any dpar 4 (valOf dpar a)) (maskT .any dpar 4 (updT T 4 w.heap.size w'.heap.size)) w' → K (a.put dpao4.dst v) w') : wpOp Tryz.prog dpar Q 4 K a w := by
  refine wpOp_step dpa_o4 fun K2 hK2 => ?_
  unfold dpao4
  have hbw : Below w0.heap.size w0 w := ((Below.refl _ _).drew).trans hI.bel
  have hBw : B ≤ w.heap.size := by rw [hB]; exact hbw.size
  have e9 : a.tmps.getD 9 undef = .pointer (some ⟨bx, 0, none⟩) := hI.made 3 (by decide) (hw 3 (by kernel_rfl))
  have cb : w.cell? ⟨bx, 0, none⟩ = some (x.av) := (hblk.belowW hbw).cell 0
  have HK := Lib.hid (hK2 _ _ (hK (x.av) w (fun h => by cases h) (Below.refl _ _) rfl))
  clear hK hK2 hI hw hblk hx hs
  go_simp
  exact HK.out
theorem dpa_s5 (x : PgV) (p : Pg) (bx B : Nat) (h1 : a0.tmps.getD 1 undef = .pointer (some ⟨bx, 0, none⟩)) (hblk : Blk w0 bx 28 #[x.av, x.cv, x.nv, .bool p.all, x.dv, x.kv]) (hx : PgR w0 B x p) (hs : SmallPg p) (hB : B = w0.heap.size) {listed : Array Bool} {T : Nat → Nat → Prop} {a : Act} {w : World} {K : Act → World → Prop} (hI : GrI .any dpar 20 (dpaG x p bx B) a0 w0.drew listed T a w) (hw : ∀ j, Region.waitsFor .any dpar 5 j = true → listed.getD j false = true) (hcl : ∀ i j, i < 20 → listed.getD i false = true → Region.waitsFor .any dpar i j = true → listed.getD j false = true)
    (hK : ∀ v w', (dpao5.dst = none → v = undef) → Below w.heap.size w w' → dpaG x p bx B 5 v (maskV .any dpar 5 (valOf dpar a)) (maskT .any dpar 5 (updT T 5 w.heap.size w'.heap.size)) w' → K (a.put dpao5.dst v) w') : wpOp Tryz.prog dpar Q 5 K a w := by
  have hbw : Below w0.heap.size w0 w := ((Below.refl _ _).drew).trans hI.bel
  have hBw : B ≤ w.heap.size := by rw [hB]; exact hbw.size
  obtain ⟨b, e8, ho, ht⟩ : LitS intS B 2 (a.tmps.getD 8 undef) (maskT .any dpar 2 T) w := hI.made 2 (by decide) (hw 2 (by kernel_rfl))
  have e10 : a.tmps.getD 10 undef = x.av := hI.made 4 (by decide) (hw 4 (by kernel_rfl))
  rw [e8] at ho
  refine OwnL.opLit intSOk ho ((hx.belowW (by rw [hB]; exact Nat.le_refl _) hbw).avgs) hBw dpa_o5 rfl (.tmp 8) (.tmp 10) rfl e8 e10 (Nat.le_trans hs.avgs.2 (by decide)) fun v' w' h1 h2 h3 => hK v' w' (fun h => by cases h) h2 ⟨h1, fun z hz => ?_⟩
  rcases h3 with rfl | ⟨h3, h4⟩
  · injection hz with hz
    subst hz
    exact Or.inl (maskT_old (by kernel_rfl) (by decide) ht.2)
  · rw [h3] at hz
    injection hz with hz
    subst hz
    exact Or.inr (maskT_new (Nat.le_refl _) h4)
theorem dpa_s6 (x : PgV) (p : Pg) (bx B : Nat) (h1 : a0.tmps.getD 1 undef = .pointer (some ⟨bx, 0, none⟩)) (hblk : Blk w0 bx 28 #[x.av, x.cv, x.nv, .bool p.all, x.dv, x.kv]) (hx : PgR w0 B x p) (hs : SmallPg p) (hB : B = w0.heap.size) {listed : Array Bool} {T : Nat → Nat → Prop} {a : Act} {w : World} {K : Act → World → Prop} (hI : GrI .any dpar 20 (dpaG x p bx B) a0 w0.drew listed T a w) (hw : ∀ j, Region.waitsFor .any dpar 6 j = true → listed.getD j false = true) (hcl : ∀ i j, i < 20 → listed.getD i false = true → Region.waitsFor .any dpar i j = true → listed.getD j false = true)
    (hK : ∀ v w', (dpao6.dst = none → v = undef) → Below w.heap.size w w' → dpaG x p bx B 6 v (maskV .any dpar 6 (valOf dpar a)) (maskT .any dpar 6 (updT T 6 w.heap.size w'.heap.size)) w' → K (a.put dpao6.dst v) w') : wpOp Tryz.prog dpar Q 6 K a w := by
  refine wpOp_step dpa_o6 fun K2 hK2 => ?_
  unfold dpao6
  have hbw : Below w0.heap.size w0 w := ((Below.refl _ _).drew).trans hI.bel
  have hBw : B ≤ w.heap.size := by rw [hB]; exact hbw.size
  have HK := Lib.hid (hK2 _ _ (hK (.slice (some ⟨w.heap.size, 0, none⟩) 0 0) (w.alloc (.cells #[] 3)) (fun h => by cases h) ((Below.refl _ _).alloc (Nat.le_refl _) _) ⟨w.heap.size, rfl, OwnL.lit0 intS w hBw, maskT_new (Nat.le_refl _) (by rw [World.size_alloc]; exact Nat.lt_succ_self _)⟩))
  clear hK hK2 hI hw hblk hx hs
  go_simp
  exact HK.out
theorem dpa_s7 (x : PgV) (p : Pg) (bx B : Nat) (h1 : a0.tmps.getD 1 undef = .pointer (some ⟨bx, 0, none⟩)) (hblk : Blk w0 bx 28 #[x.av, x.cv, x.nv, .bool p.all, x.dv, x.kv]) (hx : PgR w0 B x p) (hs : SmallPg p) (hB : B = w0.heap.size) {listed : Array Bool} {T : Nat → Nat → Prop} {a : Act} {w : World} {K : Act → World → Prop} (hI : GrI .any dpar 20 (dpaG x p bx B) a0 w0.drew listed T a w) (hw : ∀ j, Region.waitsFor .any dpar 7 j = true → listed.getD j false = true) (hcl : ∀ i j, i < 20 → listed.getD i false = true → Region.waitsFor .any dpar i j = true → listed.getD j false = true)
    (hK : ∀ v w', (dpao7.dst = none → v = undef) → Below w.heap.size w w' → dpaG x p bx B 7 v (maskV .any dpar 7 (valOf dpar a)) (maskT .any dpar 7 (updT T 7 w.heap.size w'.heap.size)) w' → K (a.put dpao7.dst v) w') : wpOp Tryz.prog dpar Q 7 K a w := by
  refine wpOp_step dpa_o7 fun K2 hK2 => ?_
  unfold dpao7
  have hbw : Below w0.heap.size w0 w := ((Below.refl _ _).drew).trans hI.bel
  have hBw : B ≤ w.heap.size := by rw [hB]; exact hbw.size
  have e1 := (hI.slot 1 (by kernel_rfl)).trans h1
  have HK := Lib.hid (hK2 _ _ (hK (.pointer (some ⟨bx, 4, none⟩)) w (fun h => by cases h) (Below.refl _ _) rfl))
  clear hK hK2 hI hw hblk hx hs
  go_simp
  exact HK.out
theorem dpa_s8 (x : PgV) (p : Pg) (bx B : Nat) (h1 : a0.tmps.getD 1 undef = .pointer (some ⟨bx, 0, none⟩)) (hblk : Blk w0 bx 28 #[x.av, x.cv, x.nv, .bool p.all, x.dv, x.kv]) (hx : PgR w0 B x p) (hs : SmallPg p) (hB : B = w0.heap.size) {listed : Array Bool} {T : Nat → Nat → Prop} {a : Act} {w : World} {K : Act → World → Prop} (hI : GrI .any dpar 20 (dpaG x p bx B) a0 w0.drew listed T a w) (hw : ∀ j, Region.waitsFor .any dpar 8 j = true → listed.getD j false = true) (hcl : ∀ i j, i < 20 → listed.getD i false = true → Region.waitsFor .any dpar i j = true → listed.getD j false = true)
    (hK : ∀ v w', (dpao8.dst = none → v = undef) → Below w.heap.size w w' → dpaG x p bx B 8 v (maskV .any dpar 8 (valOf dpar a)) (maskT .any dpar 8 (updT T 8 w.heap.size w'.heap.size)) w' → K (a.put dpao8.dst v) w') : wpOp Tryz.prog dpar Q 8 K a w := by
  refine wpOp_step dpa_o8 fun K2 hK2 => ?_
  unfold dpao8
  have hbw : Below w0.heap.size w0 w := ((Below.refl _ _).drew).trans hI.bel
  have hBw : B ≤ w.heap.size := by rw [hB]; exact hbw.size
  have e13 : a.tmps.getD 13 undef = .pointer (some ⟨bx, 4, none⟩) := hI.made 7 (by decide) (hw 7 (by kernel_rfl))
  have cb : w.cell? ⟨bx, 4, none⟩ = some (x.dv) := (hblk.belowW hbw).cell 4
  have HK := Lib.hid (hK2 _ _ (hK (x.dv) w (fun h => by cases h) (Below.refl _ _) rfl))
  clear hK hK2 hI hw hblk hx hs
  go_simp
  exact HK.out
theorem dpa_s9 (x : PgV) (p : Pg) (bx B : Nat) (h1 : a0.tmps.getD 1 undef = .pointer (some ⟨bx, 0, none⟩)) (hblk : Blk w0 bx 28 #[x.av, x.cv, x.nv, .bool p.all, x.dv, x.kv]) (hx : PgR w0 B x p) (hs : SmallPg p) (hB : B = w0.heap.size) {listed : Array Bool} {T : Nat → Nat → Prop} {a : Act} {w : World} {K : Act → World → Prop} (hI : GrI .any dpar 20 (dpaG x p bx B) a0 w0.drew listed T a w) (hw : ∀ j, Region.waitsFor .any dpar 9 j = true → listed.getD j false = true) (hcl : ∀ i j, i < 20 → listed.getD i false = true → Region.waitsFor .any dpar i j = true → listed.getD j false = true)
    (hK : ∀ v w', (dpao9.dst = none → v = undef) → Below w.heap.size w w' → dpaG x p bx B 9 v (maskV .any dpar 9 (valOf dpar a)) (maskT .any dpar 9 (updT T 9 w.heap.size w'.heap.size)) w' → K (a.put dpao9.dst v) w') : wpOp Tryz.prog dpar Q 9 K a w := by
  have hbw : Below w0.heap.size w0 w := ((Below.refl _ _).drew).trans hI.bel
  have hBw : B ≤ w.heap.size := by rw [hB]; exact hbw.size
  obtain ⟨b, e12, ho, ht⟩ : LitS intS B 6 (a.tmps.getD 12 undef) (maskT .any dpar 6 T) w := hI.made 6 (by decide) (hw 6 (by kernel_rfl))
  have e14 : a.tmps.getD 14 undef = x.dv := hI.made 8 (by decide) (hw 8 (by kernel_rfl))
  rw [e12] at ho
  refine OwnL.opLit intSOk ho ((hx.belowW (by rw [hB]; exact Nat.le_refl _) hbw).drive) hBw dpa_o9 rfl (.tmp 12) (.tmp 14) rfl e12 e14 (Nat.le_trans hs.drive.2 (by decide)) fun v' w' h1 h2 h3 => hK v' w' (fun h => by cases h) h2 ⟨h1, fun z hz => ?_⟩
  rcases h3 with rfl | ⟨h3, h4⟩
  · injection hz with hz
    subst hz
    exact Or.inl (maskT_old (by kernel_rfl) (by decide) ht.2)
  · rw [h3] at hz
    injection hz with hz
    subst hz
    exact Or.inr (maskT_new (Nat.le_refl _) h4)
theorem dpa_s10 (x : PgV) (p : Pg) (bx B : Nat) (h1 : a0.tmps.getD 1 undef = .pointer (some ⟨bx, 0, none⟩)) (hblk : Blk w0 bx 28 #[x.av, x.cv, x.nv, .bool p.all, x.dv, x.kv]) (hx : PgR w0 B x p) (hs : SmallPg p) (hB : B = w0.heap.size) {listed : Array Bool} {T : Nat → Nat → Prop} {a : Act} {w : World} {K : Act → World → Prop} (hI : GrI .any dpar 20 (dpaG x p bx B) a0 w0.drew listed T a w) (hw : ∀ j, Region.waitsFor .any dpar 10 j = true → listed.getD j false = true) (hcl : ∀ i j, i < 20 → listed.getD i false = true → Region.waitsFor .any dpar i j = true → listed.getD j false = true)
    (hK : ∀ v w', (dpao10.dst = none → v = undef) → Below w.heap.size w w' → dpaG x p bx B 10 v (maskV .any dpar 10 (valOf dpar a)) (maskT .any dpar 10 (updT T 10 w.heap.size w'.heap.size)) w' → K (a.put dpao10.dst v) w') : wpOp Tryz.prog dpar Q 10 K a w := by
  refine wpOp_step dpa_o10 fun K2 hK2 => ?_
  unfold dpao10
  have hbw : Below w0.heap.size w0 w := ((Below.refl _ _).drew).trans hI.bel
  have hBw : B ≤ w.heap.size := by rw [hB]; exact hbw.size
  have HK := Lib.hid (hK2 _ _ (hK (.slice (some ⟨w.heap.size, 0, none⟩) 0 0) (w.alloc (.cells #[] 66)) (fun h => by cases h) ((Below.refl _ _).alloc (Nat.le_refl _) _) ⟨w.heap.size, rfl, OwnL.lit0 lfS w hBw, maskT_new (Nat.le_refl _) (by rw [World.size_alloc]; exact Nat.lt_succ_self _)⟩))
  clear hK hK2 hI hw hblk hx hs
  go_simp
  exact HK.out
theorem dpa_s11 (x : PgV) (p : Pg) (bx B : Nat) (h1 : a0.tmps.getD 1 undef = .pointer (some ⟨bx, 0, none⟩)) (hblk : Blk w0 bx 28 #[x.av, x.cv, x.nv, .bool p.all, x.dv, x.kv]) (hx : PgR w0 B x p) (hs : SmallPg p) (hB : B = w0.heap.size) {listed : Array Bool} {T : Nat → Nat → Prop} {a : Act} {w : World} {K : Act → World → Prop} (hI : GrI .any dpar 20 (dpaG x p bx B) a0 w0.drew listed T a w) (hw : ∀ j, Region.waitsFor .any dpar 11 j = true → listed.getD j false = true) (hcl : ∀ i j, i < 20 → listed.getD i false = true → Region.waitsFor .any dpar i j = true → listed.getD j false = true)
    (hK : ∀ v w', (dpao11.dst = none → v = undef) → Below w.heap.size w w' → dpaG x p bx B 11 v (maskV .any dpar 11 (valOf dpar a)) (maskT .any dpar 11 (updT T 11 w.heap.size w'.heap.size)) w' → K (a.put dpao11.dst v) w') : wpOp Tryz.prog dpar Q 11 K a w := by
  refine wpOp_step dpa_o11 fun K2 hK2 => ?_
  unfold dpao11
  have hbw : Below w0.heap.size w0 w := ((Below.refl _ _).drew).trans hI.bel
  have hBw : B ≤ w.heap.size := by rw [hB]; exact hbw.size
  have e1 := (hI.slot 1 (by kernel_rfl)).trans h1
  have HK := Lib.hid (hK2 _ _ (hK (.pointer (some ⟨bx, 1, none⟩)) w (fun h => by cases h) (Below.refl _ _) rfl))
  clear hK hK2 hI hw hblk hx hs
  go_simp
  exact HK.out
theorem dpa_s12 (x : PgV) (p : Pg) (bx B : Nat) (h1 : a0.tmps.getD 1 undef = .pointer (some ⟨bx, 0, none⟩)) (hblk : Blk w0 bx 28 #[x.av, x.cv, x.nv, .bool p.all, x.dv, x.kv]) (hx : PgR w0 B x p) (hs : SmallPg p) (hB : B = w0.heap.size) {listed : Array Bool} {T : Nat → Nat → Prop} {a : Act} {w : World} {K : Act → World → Prop} (hI : GrI .any dpar 20 (dpaG x p bx B) a0 w0.drew listed T a w) (hw : ∀ j, Region.waitsFor .any dpar 12 j = true → listed.getD j false = true) (hcl : ∀ i j, i < 20 → listed.getD i false = true → Region.waitsFor .any dpar i j = true → listed.getD j false = true)
    (hK : ∀ v w', (dpao12.dst = none → v = undef) → Below w.heap.size w w' → dpaG x p bx B 12 v (maskV .any dpar 12 (valOf dpar a)) (maskT .any dpar 12 (updT T 12 w.heap.size w'.heap.size)) w' → K (a.put dpao12.dst v) w') : wpOp Tryz.prog dpar Q 12 K a w := by
  refine wpOp_step dpa_o12 fun K2 hK2 => ?_
  unfold dpao12
  have hbw : Below w0.heap.size w0 w := ((Below.refl _ _).drew).trans hI.bel
  have hBw : B ≤ w.heap.size := by rw [hB]; exact hbw.size
  have e17 : a.tmps.getD 17 undef = .pointer (some ⟨bx, 1, none⟩) := hI.made 11 (by decide) (hw 11 (by kernel_rfl))
  have cb : w.cell? ⟨bx, 1, none⟩ = some (x.cv) := (hblk.belowW hbw).cell 1
  have HK := Lib.hid (hK2 _ _ (hK (x.cv) w (fun h => by cases h) (Below.refl _ _) rfl))
  clear hK hK2 hI hw hblk hx hs
  go_simp
  exact HK.out
theorem dpa_s13 (x : PgV) (p : Pg) (bx B : Nat) (h1 : a0.tmps.getD 1 undef = .pointer (some ⟨bx, 0, none⟩)) (hblk : Blk w0 bx 28 #[x.av, x.cv, x.nv, .bool p.all, x.dv, x.kv]) (hx : PgR w0 B x p) (hs : SmallPg p) (hB : B = w0.heap.size) {listed : Array Bool} {T : Nat → Nat → Prop} {a : Act} {w : World} {K : Act → World → Prop} (hI : GrI .any dpar 20 (dpaG x p bx B) a0 w0.drew listed T a w) (hw : ∀ j, Region.waitsFor .any dpar 13 j = true → listed.getD j false = true) (hcl : ∀ i j, i < 20 → listed.getD i false = true → Region.waitsFor .any dpar i j = true → listed.getD j false = true)
    (hK : ∀ v w', (dpao13.dst = none → v = undef) → Below w.heap.size w w' → dpaG x p bx B 13 v (maskV .any dpar 13 (valOf dpar a)) (maskT .any dpar 13 (updT T 13 w.heap.size w'.heap.size)) w' → K (a.put dpao13.dst v) w') : wpOp Tryz.prog dpar Q 13 K a w := by
  have hbw : Below w0.heap.size w0 w := ((Below.refl _ _).drew).trans hI.bel
  have hBw : B ≤ w.heap.size := by rw [hB]; exact hbw.size
  obtain ⟨b, e16, ho, ht⟩ : LitS lfS B 10 (a.tmps.getD 16 undef) (maskT .any dpar 10 T) w := hI.made 10 (by decide) (hw 10 (by kernel_rfl))
  have e18 : a.tmps.getD 18 undef = x.cv := hI.made 12 (by decide) (hw 12 (by kernel_rfl))
  rw [e16] at ho
  refine OwnL.opLit lfSOk ho ((hx.belowW (by rw [hB]; exact Nat.le_refl _) hbw).curs) hBw dpa_o13 rfl (.tmp 16) (.tmp 18) rfl e16 e18 (Nat.le_trans hs.curs.2 (by decide)) fun v' w' h1 h2 h3 => hK v' w' (fun h => by cases h) h2 ⟨h1, fun z hz => ?_⟩
  rcases h3 with rfl | ⟨h3, h4⟩
  · injection hz with hz
    subst hz
    exact Or.inl (maskT_old (by kernel_rfl) (by decide) ht.2)
  · rw [h3] at hz
    injection hz with hz
    subst hz
    exact Or.inr (maskT_new (Nat.le_refl _) h4)
theorem dpa_s14 (x : PgV) (p : Pg) (bx B : Nat) (h1 : a0.tmps.getD 1 undef = .pointer (some ⟨bx, 0, none⟩)) (hblk : Blk w0 bx 28 #[x.av, x.cv, x.nv, .bool p.all, x.dv, x.kv]) (hx : PgR w0 B x p) (hs : SmallPg p) (hB : B = w0.heap.size) {listed : Array Bool} {T : Nat → Nat → Prop} {a : Act} {w : World} {K : Act → World → Prop} (hI : GrI .any dpar 20 (dpaG x p bx B) a0 w0.drew listed T a w) (hw : ∀ j, Region.waitsFor .any dpar 14 j = true → listed.getD j false = true) (hcl : ∀ i j, i < 20 → listed.getD i false = true → Region.waitsFor .any dpar i j = true → listed.getD j false = true)
    (hK : ∀ v w', (dpao14.dst = none → v = undef) → Below w.heap.size w w' → dpaG x p bx B 14 v (maskV .any dpar 14 (valOf dpar a)) (maskT .any dpar 14 (updT T 14 w.heap.size w'.heap.size)) w' → K (a.put dpao14.dst v) w') : wpOp Tryz.prog dpar Q 14 K a w := by
  refine wpOp_step dpa_o14 fun K2 hK2 => ?_
  unfold dpao14
  have hbw : Below w0.heap.size w0 w := ((Below.refl _ _).drew).trans hI.bel
  have hBw : B ≤ w.heap.size := by rw [hB]; exact hbw.size
  have HK := Lib.hid (hK2 _ _ (hK (.slice (some ⟨w.heap.size, 0, none⟩) 0 0) (w.alloc (.cells #[] 5)) (fun h => by cases h) ((Below.refl _ _).alloc (Nat.le_refl _) _) ⟨w.heap.size, rfl, OwnL.lit0 byteS w hBw, maskT_new (Nat.le_refl _) (by rw [World.size_alloc]; exact Nat.lt_succ_self _)⟩))
  clear hK hK2 hI hw hblk hx hs
  go_simp
  exact HK.out
theorem dpa_s15 (x : PgV) (p : Pg) (bx B : Nat) (h1 : a0.tmps.getD 1 undef = .pointer (some ⟨bx, 0, none⟩)) (hblk : Blk w0 bx 28 #[x.av, x.cv, x.nv, .bool p.all, x.dv, x.kv]) (hx : PgR w0 B x p) (hs : SmallPg p) (hB : B = w0.heap.size) {listed : Array Bool} {T : Nat → Nat → Prop} {a : Act} {w : World} {K : Act → World → Prop} (hI : GrI .any dpar 20 (dpaG x p bx B) a0 w0.drew listed T a w) (hw : ∀ j, Region.waitsFor .any dpar 15 j = true → listed.getD j false = true) (hcl : ∀ i j, i < 20 → listed.getD i false = true → Region.waitsFor .any dpar i j = true → listed.getD j false = true)
    (hK : ∀ v w', (dpao15.dst = none → v = undef) → Below w.heap.size w w' → dpaG x p bx B 15 v (maskV .any dpar 15 (valOf dpar a)) (maskT .any dpar 15 (updT T 15 w.heap.size w'.heap.size)) w' → K (a.put dpao15.dst v) w') : wpOp Tryz.prog dpar Q 15 K a w := by
  refine wpOp_step dpa_o15 fun K2 hK2 => ?_
  unfold dpao15
  have hbw : Below w0.heap.size w0 w := ((Below.refl _ _).drew).trans hI.bel
  have hBw : B ≤ w.heap.size := by rw [hB]; exact hbw.size
  have e1 := (hI.slot 1 (by kernel_rfl)).trans h1
  have HK := Lib.hid (hK2 _ _ (hK (.pointer (some ⟨bx, 5, none⟩)) w (fun h => by cases h) (Below.refl _ _) rfl))
  clear hK hK2 hI hw hblk hx hs
  go_simp
  exact HK.out
theorem dpa_s16 (x : PgV) (p : Pg) (bx B : Nat) (h1 : a0.tmps.getD 1 undef = .pointer (some ⟨bx, 0, none⟩)) (hblk : Blk w0 bx 28 #[x.av, x.cv, x.nv, .bool p.all, x.dv, x.kv]) (hx : PgR w0 B x p) (hs : SmallPg p) (hB : B = w0.heap.size) {listed : Array Bool} {T : Nat → Nat → Prop} {a : Act} {w : World} {K : Act → World → Prop} (hI : GrI .any dpar 20 (dpaG x p bx B) a0 w0.drew listed T a w) (hw : ∀ j, Region.waitsFor .any dpar 16 j = true → listed.getD j false = true) (hcl : ∀ i j, i < 20 → listed.getD i false = true → Region.waitsFor .any dpar i j = true → listed.getD j false = true)
    (hK : ∀ v w', (dpao16.dst = none → v = undef) → Below w.heap.size w w' → dpaG x p bx B 16 v (maskV .any dpar 16 (valOf dpar a)) (maskT .any dpar 16 (updT T 16 w.heap.size w'.heap.size)) w' → K (a.put dpao16.dst v) w') : wpOp Tryz.prog dpar Q 16 K a w := by
  refine wpOp_step dpa_o16 fun K2 hK2 => ?_
  unfold dpao16
  have hbw : Below w0.heap.size w0 w := ((Below.refl _ _).drew).trans hI.bel
  have hBw : B ≤ w.heap.size := by rw [hB]; exact hbw.size
  have e21 : a.tmps.getD 21 undef = .pointer (some ⟨bx, 5, none⟩) := hI.made 15 (by decide) (hw 15 (by kernel_rfl))
  have cb : w.cell? ⟨bx, 5, none⟩ = some (x.kv) := (hblk.belowW hbw).cell 5
  have HK := Lib.hid (hK2 _ _ (hK (x.kv) w (fun h => by cases h) (Below.refl _ _) rfl))
  clear hK hK2 hI hw hblk hx hs
  go_simp
  exact HK.out
theorem dpa_s17 (x : PgV) (p : Pg) (bx B : Nat) (h1 : a0.tmps.getD 1 undef = .pointer (some ⟨bx, 0, none⟩)) (hblk : Blk w0 bx 28 #[x.av, x.cv, x.nv, .bool p.all, x.dv, x.kv]) (hx : PgR w0 B x p) (hs : SmallPg p) (hB : B = w0.heap.size) {listed : Array Bool} {T : Nat → Nat → Prop} {a : Act} {w : World} {K : Act → World → Prop} (hI : GrI .any dpar 20 (dpaG x p bx B) a0 w0.drew listed T a w) (hw : ∀ j, Region.waitsFor .any dpar 17 j = true → listed.getD j false = true) (hcl : ∀ i j, i < 20 → listed.getD i false = true → Region.waitsFor .any dpar i j = true → listed.getD j false = true)
    (hK : ∀ v w', (dpao17.dst = none → v = undef) → Below w.heap.size w w' → dpaG x p bx B 17 v (maskV .any dpar 17 (valOf dpar a)) (maskT .any dpar 17 (updT T 17 w.heap.size w'.heap.size)) w' → K (a.put dpao17.dst v) w') : wpOp Tryz.prog dpar Q 17 K a w := by
  have hbw : Below w0.heap.size w0 w := ((Below.refl _ _).drew).trans hI.bel
  have hBw : B ≤ w.heap.size := by rw [hB]; exact hbw.size
  obtain ⟨b, e20, ho, ht⟩ : LitS byteS B 14 (a.tmps.getD 20 undef) (maskT .any dpar 14 T) w := hI.made 14 (by decide) (hw 14 (by kernel_rfl))
  have e22 : a.tmps.getD 22 undef = x.kv := hI.made 16 (by decide) (hw 16 (by kernel_rfl))
  rw [e20] at ho
  refine OwnL.opLit byteOk ho ((hx.belowW (by rw [hB]; exact Nat.le_refl _) hbw).code) hBw dpa_o17 rfl (.tmp 20) (.tmp 22) rfl e20 e22 (Nat.le_trans hs.code (by decide)) fun v' w' h1 h2 h3 => hK v' w' (fun h => by cases h) h2 ⟨h1, fun z hz => ?_⟩
  rcases h3 with rfl | ⟨h3, h4⟩
  · injection hz with hz
    subst hz
    exact Or.inl (maskT_old (by kernel_rfl) (by decide) ht.2)
  · rw [h3] at hz
    injection hz with hz
    subst hz
    exact Or.inr (maskT_new (Nat.le_refl _) h4)
theorem dpa_s18 (x : PgV) (p : Pg) (bx B : Nat) (h1 : a0.tmps.getD 1 undef = .pointer (some ⟨bx, 0, none⟩)) (hblk : Blk w0 bx 28 #[x.av, x.cv, x.nv, .bool p.all, x.dv, x.kv]) (hx : PgR w0 B x p) (hs : SmallPg p) (hB : B = w0.heap.size) {listed : Array Bool} {T : Nat → Nat → Prop} {a : Act} {w : World} {K : Act → World → Prop} (hI : GrI .any dpar 20 (dpaG x p bx B) a0 w0.drew listed T a w) (hw : ∀ j, Region.waitsFor .any dpar 18 j = true → listed.getD j false = true) (hcl : ∀ i j, i < 20 → listed.getD i false = true → Region.waitsFor .any dpar i j = true → listed.getD j false = true)
    (hK : ∀ v w', (dpao18.dst = none → v = undef) → Below w.heap.size w w' → dpaG x p bx B 18 v (maskV .any dpar 18 (valOf dpar a)) (maskT .any dpar 18 (updT T 18 w.heap.size w'.heap.size)) w' → K (a.put dpao18.dst v) w') : wpOp Tryz.prog dpar Q 18 K a w := by
  refine wpOp_step dpa_o18 fun K2 hK2 => ?_
  unfold dpao18
  have g5 : AppS intS B 2 5 p.avgs (a.tmps.getD 11 undef) (maskT .any dpar 5 T) w := hI.made 5 (by decide) (hw 5 (by kernel_rfl))
  obtain ⟨A5, c5, e11, -, -, -⟩ := g5.1.open_
  have g9 : AppS intS B 6 9 p.drive (a.tmps.getD 15 undef) (maskT .any dpar 9 T) w := hI.made 9 (by decide) (hw 9 (by kernel_rfl))
  obtain ⟨A9, c9, e15, -, -, -⟩ := g9.1.open_
  have g13 : AppS lfS B 10 13 p.curs (a.tmps.getD 19 undef) (maskT .any dpar 13 T) w := hI.made 13 (by decide) (hw 13 (by kernel_rfl))
  obtain ⟨A13, c13, e19, -, -, -⟩ := g13.1.open_
  have g17 : AppS byteS B 14 17 p.code (a.tmps.getD 23 undef) (maskT .any dpar 17 T) w := hI.made 17 (by decide) (hw 17 (by kernel_rfl))
  obtain ⟨A17, c17, e23, -, -, -⟩ := g17.1.open_
  have e7 : a.tmps.getD 7 undef = .bool p.all := hI.made 1 (by decide) (hw 1 (by kernel_rfl))
  have HK := Lib.hid (hK2 _ _ (hK (.agg #[a.tmps.getD 11 undef, a.tmps.getD 19 undef, .slice none 0 0, .bool p.all, a.tmps.getD 15 undef, a.tmps.getD 23 undef]) w (fun h => by cases h) (Below.refl _ _) (by
    have m5 : maskV .any dpar 18 (valOf dpar a) 5 = a.tmps.getD 11 undef := maskV_of (by kernel_rfl)
    have m9 : maskV .any dpar 18 (valOf dpar a) 9 = a.tmps.getD 15 undef := maskV_of (by kernel_rfl)
    have m13 : maskV .any dpar 18 (valOf dpar a) 13 = a.tmps.getD 19 undef := maskV_of (by kernel_rfl)
    have m17 : maskV .any dpar 18 (valOf dpar a) 17 = a.tmps.getD 23 undef := maskV_of (by kernel_rfl)
    show Value.agg _ = Value.agg #[maskV .any dpar 18 (valOf dpar a) 5, maskV .any dpar 18 (valOf dpar a) 13, .slice none 0 0, .bool p.all, maskV .any dpar 18 (valOf dpar a) 9, maskV .any dpar 18 (valOf dpar a) 17]
    rw [m5, m9, m13, m17])))
  rw [e11, e15, e19, e23] at HK
  have d7 := tmpQ e7; have d11 := tmpQ e11; have d15 := tmpQ e15; have d19 := tmpQ e19; have d23 := tmpQ e23
  clear hK hK2 hI hw hblk hx hs g5 g9 g13 g17
  go_simp
  exact HK.out
theorem dpa_s19 (x : PgV) (p : Pg) (bx B : Nat) (h1 : a0.tmps.getD 1 undef = .pointer (some ⟨bx, 0, none⟩)) (hblk : Blk w0 bx 28 #[x.av, x.cv, x.nv, .bool p.all, x.dv, x.kv]) (hx : PgR w0 B x p) (hs : SmallPg p) (hB : B = w0.heap.size) {listed : Array Bool} {T : Nat → Nat → Prop} {a : Act} {w : World} {K : Act → World → Prop} (hI : GrI .any dpar 20 (dpaG x p bx B) a0 w0.drew listed T a w) (hw : ∀ j, Region.waitsFor .any dpar 19 j = true → listed.getD j false = true) (hcl : ∀ i j, i < 20 → listed.getD i false = true → Region.waitsFor .any dpar i j = true → listed.getD j false = true)
    (hK : ∀ v w', (dpao19.dst = none → v = undef) → Below w.heap.size w w' → dpaG x p bx B 19 v (maskV .any dpar 19 (valOf dpar a)) (maskT .any dpar 19 (updT T 19 w.heap.size w'.heap.size)) w' → K (a.put dpao19.dst v) w') : wpOp Tryz.prog dpar Q 19 K a w := by
  refine wpOp_step dpa_o19 fun K2 hK2 => ?_
  unfold dpao19
  have HK := Lib.hid (hK2 _ _ (hK (.pointer (some ⟨w.heap.size, 0, none⟩)) (w.alloc (.cells #[.slice none 0 0, .slice none 0 0, .slice none 0 0, .bool false, .slice none 0 0, .slice none 0 0] 28)) (fun h => by cases h) ((Below.refl _ _).alloc (Nat.le_refl _) _) ⟨w.heap.size, rfl, Blk.new w _ _, maskT_new (Nat.le_refl _) (by rw [World.size_alloc]; exact Nat.lt_succ_self _)⟩))
  clear hK hK2 hI hw hblk hx hs
  go_simp
  exact HK.out
theorem dpa_any (x : PgV) (p : Pg) (bx B : Nat) (h1 : a0.tmps.getD 1 undef = .pointer (some ⟨bx, 0, none⟩)) (hblk : Blk w0 bx 28 #[x.av, x.cv, x.nv, .bool p.all, x.dv, x.kv]) (hx : PgR w0 B x p) (hs : SmallPg p) (hB : B = w0.heap.size) (hsz : a0.tmps.size = 50)
    (hQ : ∀ (f : Nat → Value) (b3 : Nat) (v5 v9 v13 v17 : Value) (wx : World), f 3 = .pointer (some ⟨b3, 0, none⟩) → Blk wx b3 28 #[v5, v13, .slice none 0 0, .bool p.all, v9, v17] → PgO wx B ⟨v5, v13, .slice none 0 0, v9, v17, []⟩ ⟨p.avgs, p.curs, [], p.all, p.drive, p.code⟩ → FarV v5 v9 → B ≤ b3 → Below w0.heap.size w0 wx → Q .normal (putAll a0 dpads f) wx) : (Code.region 1 dpar true).wp Tryz.prog Q a0 w0 := by
  refine wp_region_any (by kernel_rfl) ?_
  refine wpAny_grow (G := dpaG x p bx B) (w0 := w0.drew) 20 1 rfl (dpa_st x p bx B) (fun i d hi h => ?_) dpa_one dpa_seq dpa_edge ?_ ?_ ?_
  · rw [hsz]
    have := dpa_dst i d hi h
    exact List.all_eq_true.1 (show dpads.all (fun d => decide (d < 50)) = true by decide) d this |> of_decide_eq_true
  · exact Or.inr ⟨by kernel_rfl, by kernel_rfl⟩
  · intro listed T i o a w hi ho hI hw hcl K hK
    match i, hi, ho, hw, hK with
    | 0, _, ho, hw, hK => cases ho; exact dpa_s0 x p bx B h1 hblk hx hs hB hI hw hcl hK
    | 1, _, ho, hw, hK => cases ho; exact dpa_s1 x p bx B h1 hblk hx hs hB hI hw hcl hK
    | 2, _, ho, hw, hK => cases ho; exact dpa_s2 x p bx B h1 hblk hx hs hB hI hw hcl hK
    | 3, _, ho, hw, hK => cases ho; exact dpa_s3 x p bx B h1 hblk hx hs hB hI hw hcl hK
    | 4, _, ho, hw, hK => cases ho; exact dpa_s4 x p bx B h1 hblk hx hs hB hI hw hcl hK
    | 5, _, ho, hw, hK => cases ho; exact dpa_s5 x p bx B h1 hblk hx hs hB hI hw hcl hK
    | 6, _, ho, hw, hK => cases ho; exact dpa_s6 x p bx B h1 hblk hx hs hB hI hw hcl hK
    | 7, _, ho, hw, hK => cases ho; exact dpa_s7 x p bx B h1 hblk hx hs hB hI hw hcl hK
    | 8, _, ho, hw, hK => cases ho; exact dpa_s8 x p bx B h1 hblk hx hs hB hI hw hcl hK
    | 9, _, ho, hw, hK => cases ho; exact dpa_s9 x p bx B h1 hblk hx hs hB hI hw hcl hK
    | 10, _, ho, hw, hK => cases ho; exact dpa_s10 x p bx B h1 hblk hx hs hB hI hw hcl hK
    | 11, _, ho, hw, hK => cases ho; exact dpa_s11 x p bx B h1 hblk hx hs hB hI hw hcl hK
    | 12, _, ho, hw, hK => cases ho; exact dpa_s12 x p bx B h1 hblk hx hs hB hI hw hcl hK
    | 13, _, ho, hw, hK => cases ho; exact dpa_s13 x p bx B h1 hblk hx hs hB hI hw hcl hK
    | 14, _, ho, hw, hK => cases ho; exact dpa_s14 x p bx B h1 hblk hx hs hB hI hw hcl hK
    | 15, _, ho, hw, hK => cases ho; exact dpa_s15 x p bx B h1 hblk hx hs hB hI hw hcl hK
    | 16, _, ho, hw, hK => cases ho; exact dpa_s16 x p bx B h1 hblk hx hs hB hI hw hcl hK
    | 17, _, ho, hw, hK => cases ho; exact dpa_s17 x p bx B h1 hblk hx hs hB hI hw hcl hK
    | 18, _, ho, hw, hK => cases ho; exact dpa_s18 x p bx B h1 hblk hx hs hB hI hw hcl hK
    | 19, _, ho, hw, hK => cases ho; exact dpa_s19 x p bx B h1 hblk hx hs hB hI hw hcl hK
    | n + 20, hi, _, _, _ => exact absurd hi (by omega)
  · intro listed T a w hall hI
    have hds : a = putAll a0 dpads fun d => a.tmps.getD d undef := hI.lit dpads dpa_dst
    have hbw : Below w0.heap.size w0 w := ((Below.refl _ _).drew).trans hI.bel
    have hBw : B ≤ w.heap.size := by rw [hB]; exact hbw.size
    have g5 : AppS intS B 2 5 p.avgs (a.tmps.getD 11 undef) (maskT .any dpar 5 T) w := hI.made 5 (by decide) (hall 5 (by decide))
    obtain ⟨A5, c5, e11, -, -, -⟩ := g5.1.open_
    have g9 : AppS intS B 6 9 p.drive (a.tmps.getD 15 undef) (maskT .any dpar 9 T) w := hI.made 9 (by decide) (hall 9 (by decide))
    obtain ⟨A9, c9, e15, -, -, -⟩ := g9.1.open_
    have g13 : AppS lfS B 10 13 p.curs (a.tmps.getD 19 undef) (maskT .any dpar 13 T) w := hI.made 13 (by decide) (hall 13 (by decide))
    obtain ⟨A13, c13, e19, -, -, -⟩ := g13.1.open_
    have g17 : AppS byteS B 14 17 p.code (a.tmps.getD 23 undef) (maskT .any dpar 17 T) w := hI.made 17 (by decide) (hall 17 (by decide))
    obtain ⟨A17, c17, e23, -, -, -⟩ := g17.1.open_
    have e24 : a.tmps.getD 24 undef = .agg #[a.tmps.getD 11 undef, a.tmps.getD 19 undef, .slice none 0 0, .bool p.all, a.tmps.getD 15 undef, a.tmps.getD 23 undef] := by
      have m5 : maskV .any dpar 18 (valOf dpar a) 5 = a.tmps.getD 11 undef := maskV_of (by kernel_rfl)
      have m9 : maskV .any dpar 18 (valOf dpar a) 9 = a.tmps.getD 15 undef := maskV_of (by kernel_rfl)
      have m13 : maskV .any dpar 18 (valOf dpar a) 13 = a.tmps.getD 19 undef := maskV_of (by kernel_rfl)
      have m17 : maskV .any dpar 18 (valOf dpar a) 17 = a.tmps.getD 23 undef := maskV_of (by kernel_rfl)
      have h18 : a.tmps.getD 24 undef = Value.agg #[maskV .any dpar 18 (valOf dpar a) 5, maskV .any dpar 18 (valOf dpar a) 13, .slice none 0 0, .bool p.all, maskV .any dpar 18 (valOf dpar a) 9, maskV .any dpar 18 (valOf dpar a) 17] := hI.made 18 (by decide) (hall 18 (by decide))
      rw [m5, m9, m13, m17] at h18
      exact h18
    obtain ⟨b3, e3, hz, ht3⟩ : ∃ b, a.tmps.getD 3 undef = .pointer (some ⟨b, 0, none⟩) ∧ Blk w b 28 #[.slice none 0 0, .slice none 0 0, .slice none 0 0, .bool false, .slice none 0 0, .slice none 0 0] ∧ maskT .any dpar 19 T 19 b := hI.made 19 (by decide) (hall 19 (by decide))
    have hfar : FarV (a.tmps.getD 11 undef) (a.tmps.getD 15 undef) := fun b h1 h2 => by
      rcases g5.2 b h1 with h1 | h1 <;> rcases g9.2 b h2 with h2 | h2 <;> exact absurd (hI.tdis _ _ b h1.2 h2.2) (by decide)
    have hb3 := (hI.tlt _ b3 ht3.2).2
    have hP : PgO w B ⟨a.tmps.getD 11 undef, a.tmps.getD 19 undef, .slice none 0 0, a.tmps.getD 15 undef, a.tmps.getD 23 undef, []⟩ ⟨p.avgs, p.curs, [], p.all, p.drive, p.code⟩ := ⟨g5.1, g13.1, OwnL.nil _ _ _, rfl, fun y hy => (by cases hy), g9.1, ownB_iff.2 g17.1⟩
    rw [e11, e15, e19, e23] at e24
    have hP0 : PgO w B ⟨.slice A5 p.avgs.length c5, .slice A13 p.curs.length c13, .slice none 0 0, .slice A9 p.drive.length c9, .slice A17 p.code.length c17, []⟩ ⟨p.avgs, p.curs, [], p.all, p.drive, p.code⟩ := by rw [← e11, ← e15, ← e19, ← e23]; exact hP
    have hfar0 : FarV (.slice A5 p.avgs.length c5) (.slice A9 p.drive.length c9) := by rw [← e11, ← e15]; exact hfar
    have hq0 : PgBlk w b3 := ⟨_, hz⟩
    have hP1 := hP0.set_ hq0 0 (.slice A5 p.avgs.length c5)
    have hq1 := hq0.set_ b3 0 (.slice A5 p.avgs.length c5)
    have hP2 := hP1.set_ hq1 1 (.slice A13 p.curs.length c13)
    have hq2 := hq1.set_ b3 1 (.slice A13 p.curs.length c13)
    have hP3 := hP2.set_ hq2 2 (.slice none 0 0)
    have hq3 := hq2.set_ b3 2 (.slice none 0 0)
    have hP4 := hP3.set_ hq3 3 (.bool p.all)
    have hq4 := hq3.set_ b3 3 (.bool p.all)
    have hP5 := hP4.set_ hq4 4 (.slice A9 p.drive.length c9)
    have hq5 := hq4.set_ b3 4 (.slice A9 p.drive.length c9)
    have hP6 := hP5.set_ hq5 5 (.slice A17 p.code.length c17)
    have hZ6 := (((((hz.set_ 0 (.slice A5 p.avgs.length c5)).set_ 1 (.slice A13 p.curs.length c13)).set_ 2 (.slice none 0 0)).set_ 3 (.bool p.all)).set_ 4 (.slice A9 p.drive.length c9)).set_ 5 (.slice A17 p.code.length c17)
    have hwb : w0.heap.size ≤ b3 := by have := hb3.1; exact this
    have hB6 := (((((hbw.setCell (p := ⟨b3, 0, none⟩) hwb (.slice A5 p.avgs.length c5)).setCell (p := ⟨b3, 1, none⟩) hwb (.slice A13 p.curs.length c13)).setCell (p := ⟨b3, 2, none⟩) hwb (.slice none 0 0)).setCell (p := ⟨b3, 3, none⟩) hwb (.bool p.all)).setCell (p := ⟨b3, 4, none⟩) hwb (.slice A9 p.drive.length c9)).setCell (p := ⟨b3, 5, none⟩) hwb (.slice A17 p.code.length c17)
    have hfin := hQ (fun d => a.tmps.getD d undef) b3 _ _ _ _ _ e3 hZ6 hP6 hfar0 (by rw [hB]; exact hwb) hB6
    rw [← hds] at hfin
    have hfin : Q .normal a _ := hfin
    clear hQ hP hP0 hP1 hP2 hP3 hP4 hP5 hP6 hq0 hq1 hq2 hq3 hq4 hq5 hB6 hZ6 hall hx hblk hs g5 g9 g13 g17 hI hds
    show wpList Tryz.prog dpar Q [dpao20] a w
    refine wpList_plain rfl fun K2 hK2 => ?_
    have HK := Lib.hid (hK2 _ _ (show wpList Tryz.prog dpar Q [] a _ from hfin))
    clear hfin hK2
    unfold dpao20
    have q0 := hz.cell 0; have q1 := hz.cell 1; have q2 := hz.cell 2; have q3 := hz.cell 3; have q4 := hz.cell 4; have q5 := hz.cell 5
    have f0 := hz.frozen 0; have f1 := hz.frozen 1; have f2 := hz.frozen 2; have f3 := hz.frozen 3; have f4 := hz.frozen 4; have f5 := hz.frozen 5
    have lz := hz.lt
    simp only [List.getElem?_toArray, List.getElem?_cons_zero, List.getElem?_cons_succ] at q0 q1 q2 q3 q4 q5
    clear hz
    go_simp
    exact HK.out
end

end Go.Proofs.YtmdpfikalekmlaaGreatDoor
end
