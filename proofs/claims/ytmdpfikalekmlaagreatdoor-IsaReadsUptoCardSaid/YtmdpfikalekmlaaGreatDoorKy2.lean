/- Merged for a claim: Kr Be Rr1 Rg Rw Ir -/
import Derived.Test.YtmdpfikalekmlaaGreatDoorKl
import Derived.Test.YtmdpfikalekmlaaGreatDoorBn
import Derived.Test.YtmdpfikalekmlaaGreatDoorIf
import Derived.Test.YtmdpfikalekmlaaGreatDoorRq
import Derived.Test.YtmdpfikalekmlaaGreatDoorKy1
import Derived.Test.YtmdpfikalekmlaaGreatDoorTw
import Derived.Test.YtmdpfikalekmlaaGreatDoorEv
import Derived.Test.YtmdpfikalekmlaaGreatDoorMr
import Derived.Test.YtmdpfikalekmlaaGreatDoorBy
import Derived.Test.YtmdpfikalekmlaaGreatDoorRu
import Derived.Test.YtmdpfikalekmlaaGreatDoorWr
section
/- Layer 20: what a whole reading hands back; small laws for it. -/
namespace Go.Proofs.YtmdpfikalekmlaaGreatDoor
open Go.RowKit
set_option maxRecDepth 100000
set_option maxHeartbeats 1000000
set_option linter.unusedSimpArgs false
set_option linter.unusedVariables false

/-- A program whose lists are the call's own. -/
structure PgO (w : World) (B : Nat) (x : PgV) (p : Pg) : Prop where
  avgs : OwnL intS w B x.av p.avgs
  curs : OwnL lfS w B x.cv p.curs
  nears : OwnL nrS w B x.nv x.nl
  nmap : x.nl.map (·.n) = p.nears
  inner : ∀ y ∈ x.nl, OwnL intS w B y.cv y.n.cur ∧ OwnL intS w B y.ov y.n.off
  drive : OwnL intS w B x.dv p.drive
  code : OwnB w B x.kv p.code
theorem PgO.read {w : World} {B : Nat} {x : PgV} {p : Pg} (h : PgO w B x p) : PgR w w.heap.size x p :=
  ⟨.of_own h.avgs, .of_own h.curs, .of_own h.nears, h.nmap, fun y hy => ⟨.of_own (h.inner y hy).1, .of_own (h.inner y hy).2⟩, .of_own h.drive, .ofB h.code⟩
theorem PgO.form {w : World} {B : Nat} {x : PgV} {p : Pg} (h : PgO w B x p) : ∃ a b c d e f g i j k, x = ⟨.slice a p.avgs.length b, .slice c p.curs.length d, .slice e x.nl.length f, .slice g p.drive.length i, .slice j p.code.length k, x.nl⟩ := by
  obtain ⟨av, cv, nv, dv, kv, nl⟩ := x
  obtain ⟨a, b, e1, -, -, -⟩ := h.avgs.open_
  obtain ⟨c, d, e2, -, -, -⟩ := h.curs.open_
  obtain ⟨e, f, e3, -, -, -⟩ := h.nears.open_
  obtain ⟨g, i, e4, -, -, -⟩ := h.drive.open_
  obtain ⟨j, k, e5, -, -⟩ := (RdL.ofB h.code).open_
  simp only at e1 e2 e3 e4 e5
  subst e1 e2 e3 e4 e5
  exact ⟨_, _, _, _, _, _, _, _, _, _, rfl⟩
def pgZero : Value := .agg #[.slice none 0 0, .slice none 0 0, .slice none 0 0, .bool false, .slice none 0 0, .slice none 0 0]
/-- What Read hands back. -/
def ReadRet (r : Sum Pg Nat) (bad : Value) (w : World) (e : Ending) (w' : World) : Prop :=
  Below w.heap.size w w' ∧ match r with
    | .inl p => ∃ x, e = .returned (.tuple #[x.val p, .int .i64 0, .nilIface]) ∧ PgO w' w.heap.size x p
    | .inr n => e = .returned (.tuple #[pgZero, .int .i64 (n : Int), bad])
theorem readRet_ok {r : Sum Pg Nat} {bad : Value} {w : World} {e : Ending} {w' : World} (hb : Below w.heap.size w w') {p : Pg} (hr : r = .inl p) (x : PgV) (he : e = .returned (.tuple #[x.val p, .int .i64 0, .nilIface])) (ho : PgO w' w.heap.size x p) : ReadRet r bad w e w' := by
  subst hr; exact ⟨hb, x, he, ho⟩
theorem readRet_bad {r : Sum Pg Nat} {bad : Value} {w : World} {e : Ending} {w' : World} (hb : Below w.heap.size w w') {n : Nat} (hr : r = .inr n) (he : e = .returned (.tuple #[pgZero, .int .i64 (n : Int), bad])) : ReadRet r bad w e w' := by
  subst hr; exact ⟨hb, he⟩
theorem lineR_grows {st st' : Rs} {s : List UInt8} (h : lineR st s = some st') : st'.curs.length ≤ st.curs.length + 1 ∧ st'.nears.length ≤ st.nears.length + 1 ∧ st'.code.length ≤ st.code.length + 1 := by
  unfold lineR at h
  split at h
  · cases hp : pNums wdA s with
    | none => rw [hp] at h; cases h
    | some l => rw [hp] at h; cases h; simp
  · split at h
    · cases h; simp
    split at h
    · cases h; simp
    split at h
    · cases h; simp
    split at h
    · cases h; simp
    · cases hp : pIns s with
      | none => rw [hp] at h; cases h
      | some l => rw [hp] at h; cases h; simp
/-- The reading of the lines from k on, st being that of those ahead. -/
theorem linesR_next {ls : List (List UInt8)} {k : Nat} {st : Rs} (hk : k < ls.length) (h : linesR rs0 0 (ls.take k) = .inl st) : linesR rs0 0 (ls.take (k + 1)) = match lineR st ls[k] with
    | some st' => .inl st'
    | none => .inr (k + 1) := by
  rw [← List.take_append_getElem hk, linesR_append, h]
  show linesR st (0 + (ls.take k).length) [ls[k]] = _
  rw [List.length_take, Nat.min_eq_left (by omega), Nat.zero_add, linesR]
  cases lineR st ls[k] with
  | none => rfl
  | some st' => rfl
theorem linesR_bad {ls : List (List UInt8)} {k n : Nat} (h : linesR rs0 0 (ls.take k) = .inr n) : linesR rs0 0 ls = .inr n := by
  rw [← List.take_append_drop k ls, linesR_append, h]
/-- The relation of Read's loop. -/
def RlRel (ls : List (List UInt8)) (W0 : World) (B rb mb : Nat) (iv : Value) (wr : World) : Prop :=
  ∃ (k : Nat) (x : RdrV) (st : Rs), k ≤ ls.length ∧ iv = .int .i64 (k : Int) ∧ linesR rs0 0 (ls.take k) = .inl st ∧ RdrAt wr B rb mb x st ∧ RKeep B rb W0 wr ∧ (st.curs.length ≤ k ∧ st.nears.length ≤ k ∧ st.code.length ≤ k)
def rdr0 : RdrV := ⟨.slice none 0 0, .slice none 0 0, .slice none 0 0, .slice none 0 0, .slice none 0 0, []⟩
theorem rdr_start {w1 W2 : World} {mb : Nat} (hb : Below (w1.heap.size + 1) (w1.alloc (.cells #[.slice none 0 0, .slice none 0 0, .slice none 0 0, .bool false, .slice none 0 0, .slice none 0 0, .slice none 0 0, .int .i64 0, .map (some mb)] 58)) W2) (hm : MapSI w1 mb 17 opsM) (hmb : mb < w1.heap.size) : RdrAt W2 W2.heap.size w1.heap.size mb rdr0 rs0 := by
  have hs : w1.heap.size + 1 ≤ W2.heap.size := by have := hb.size; rw [World.size_alloc] at this; exact this
  refine ⟨?_, OwnL.nil _ _ _, OwnL.nil _ _ _, OwnL.nil _ _ _, rfl, fun y hy => (by cases hy), OwnL.nil _ _ _, OwnL.nil _ _ _, Nat.le_refl _, by omega, ⟨by omega, by omega⟩, ?_⟩
  · exact (Blk.new w1 _ _).below hb (by omega)
  · refine hm.same ?_
    rw [hb.block mb (by omega)]
    exact Below.heap_alloc w1 _ mb hmb
/-- A block of a program's cells, whatever they hold. -/
def PgBlk (w : World) (b : Nat) : Prop := ∃ cs, Blk w b 28 cs
theorem PgBlk.set_ {w : World} {b : Nat} (h : PgBlk w b) (g o : Nat) (u : Value) : PgBlk (w.setCell ⟨g, o, none⟩ u) b := by
  obtain ⟨cs, h⟩ := h
  by_cases e : b = g
  · subst e; exact ⟨_, h.set_ o u⟩
  · exact ⟨_, h.far (p := ⟨g, o, none⟩) e u⟩
theorem PgO.set_ {w : World} {B b : Nat} {x : PgV} {p : Pg} (h : PgO w B x p) (hb : PgBlk w b) (o : Nat) (u : Value) : PgO (w.setCell ⟨b, o, none⟩ u) B x p := by
  obtain ⟨cs, hb⟩ := hb
  have hc := ownB_iff.1 h.code
  exact ⟨h.avgs.farNe (h.avgs.offBlk hb (by decide)) _, h.curs.farNe (h.curs.offBlk hb (by decide)) _, h.nears.farNe (h.nears.offBlk hb (by decide)) _, h.nmap,
    fun y hy => ⟨(h.inner y hy).1.farNe ((h.inner y hy).1.offBlk hb (by decide)) _, (h.inner y hy).2.farNe ((h.inner y hy).2.offBlk hb (by decide)) _⟩, h.drive.farNe (h.drive.offBlk hb (by decide)) _, ownB_iff.2 (hc.farNe (hc.offBlk hb (by decide)) _)⟩
end Go.Proofs.YtmdpfikalekmlaaGreatDoor
/- Layer 20: Read. -/
namespace Go.Proofs.YtmdpfikalekmlaaGreatDoor
open Go.RowKit
set_option maxRecDepth 100000
set_option maxHeartbeats 40000000
set_option linter.unusedSimpArgs false
set_option linter.unusedVariables false

theorem linesR_code {ls : List (List UInt8)} {st : Rs} (h : linesR rs0 0 ls = .inl st) : SmallIns st.code := by
  cases ls with
  | nil => cases h; intro x hx; cases hx
  | cons s r =>
    rw [linesR] at h
    cases h1 : lineR rs0 s with
    | none => rw [h1] at h; cases h
    | some st1 =>
      rw [h1] at h
      have hi := (linesR_back (lineR_first h1).1 h).1
      intro x hx
      exact (hi.gco x hx).2
theorem readP_bad1 {s : List UInt8} {k : Nat} (hk : k + 1 ≤ (splitS 10 s).dropLast.length) (h : linesR rs0 0 ((splitS 10 s).dropLast.take (k + 1)) = .inr (k + 1)) : readP s = .inr (k + 1) := by
  unfold readP
  simp only []
  rw [linesR_bad h]
theorem readP_bad2 {s : List UInt8} {st : Rs} (h : linesR rs0 0 (splitS 10 s).dropLast = .inl st) (h2 : (splitS 10 s).getLast? ≠ some [] ∨ (splitS 10 s).length = 1) : readP s = .inr (splitS 10 s).length := by
  unfold readP
  simp only []
  rw [h]
  simp only []
  rw [if_pos h2]
theorem readP_ok {s : List UInt8} {st : Rs} (h : linesR rs0 0 (splitS 10 s).dropLast = .inl st) (h2 : ¬ ((splitS 10 s).getLast? ≠ some [] ∨ (splitS 10 s).length = 1)) : readP s = .inl ⟨st.avgs, st.curs, st.nears, st.all, st.drive, if st.code.all insOk = true then encI st.code else []⟩ := by
  unfold readP
  simp only []
  rw [h]
  simp only []
  rw [if_neg h2]
theorem str_empty (l : List UInt8) : (str l).toList = l := by rw [ba_toList, str_data]
theorem splitS_le (c : UInt8) : ∀ (l : List UInt8), ∀ x ∈ splitS c l, x.length ≤ l.length
  | [], x, hx => by
    rw [splitS] at hx
    rw [List.mem_singleton.1 hx]; exact Nat.le_refl _
  | b :: l, x, hx => by
    have ih := splitS_le c l
    by_cases h : b = c
    · rw [splitS, if_pos h] at hx
      rcases List.mem_cons.1 hx with rfl | hx
      · exact Nat.zero_le _
      · exact Nat.le_trans (ih x hx) (Nat.le_succ _)
    · obtain ⟨w, ws, h1, h2⟩ := splitS_head c b l h
      rw [h2] at hx
      rw [h1] at ih
      rcases List.mem_cons.1 hx with rfl | hx
      · have := ih w List.mem_cons_self
        simp only [List.length_cons]; omega
      · exact Nat.le_trans (ih x (List.mem_cons_of_mem _ hx)) (Nat.le_succ _)
theorem read_any (s : List UInt8) (w : World) (ea : List Addr) (hs : s.length ≤ 1000000000) (hln : (splitS 10 s).length ≤ 20000000) (hE : ErrEnv w ea) (hT : TabEnv w) (hP : PuEnv w) :
    Calls Tryz.prog 6 #[.string (str s)] w (ReadRet (readP s) (errI ea 15) w) := by
  have HE := Lib.hid hE; have HT := Lib.hid hT; have HP := Lib.hid hP
  have hg0 : 17 < w.heap.size := hT.lt
  have hg1 : 32 < w.heap.size := hP.lt
  have hg2 : 0 < w.heap.size := World.block_lt_of_cell? w ⟨0, 0, none⟩ (hE.cell 15 (by decide))
  obtain ⟨ls, hls⟩ : ∃ ls, ls = splitS 10 s := ⟨_, rfl⟩
  have hne : ls ≠ [] := by rw [hls]; exact splitS_ne _ _
  have hlen : 1 ≤ ls.length := List.length_pos_iff.2 hne
  have HSZ := Lib.hid (show ∀ x ∈ ls, x.length ≤ 1000000000 from fun x hx => Nat.le_trans (splitS_le 10 s x (hls ▸ hx)) hs)
  have HLS := Lib.hid hls
  have hspl := fun W => split1_any (str s) 10 W (by rw [str_size]; omega)
  have hsrd := fun W => spRd 10 (str s) W (by rw [str_size]; omega)
  unfold SpRet at hspl
  simp only [str_data] at hspl hsrd
  rw [← hls] at hspl hsrd hln
  have HSPL := Lib.hid hspl; have HSRD := Lib.hid hsrd; have HNE := Lib.hid hne
  have hbn := byName_any (w.alloc (.cells #[.slice none 0 0, .slice none 0 0, .slice none 0 0, .bool false, .slice none 0 0, .slice none 0 0] 28)) (hT.below ((Below.refl w.heap.size w).alloc (Nat.le_refl _) _))
  clear hE hT hP hspl hsrd hls hne
  go_enter Tryz.func6, Tryz.ntmps6
  go_wp2_with fail
  refine hbn.mono ?_
  rintro e w1 ⟨rfl, hm1, hb1⟩
  have hz1 := hb1.size
  rw [World.size_alloc] at hz1
  have hb1w : Below w.heap.size w w1 := ((Below.refl w.heap.size w).alloc (Nat.le_refl _) _).trans (hb1.mono (by rw [World.size_alloc]; omega))
  have hblk1 : Blk w1 w.heap.size 28 #[.slice none 0 0, .slice none 0 0, .slice none 0 0, .bool false, .slice none 0 0, .slice none 0 0] := (Blk.new w _ _).below hb1 (by rw [World.size_alloc]; omega)
  rw [World.size_alloc] at hm1
  have hmlt := hm1.lt
  have HM1 := Lib.hid hm1; have HB1 := Lib.hid hb1w; have HK1 := Lib.hid hblk1
  clear hbn hm1 hb1 hb1w hblk1
  go_wp2_with fail
  refine (HSPL.out _).mono ?_
  rintro e w2 ⟨rfl, rfl⟩
  have HRD := HSRD.out (w1.alloc (.cells #[.slice none 0 0, .slice none 0 0, .slice none 0 0, .bool false, .slice none 0 0, .slice none 0 0, .slice none 0 0, .int .i64 0, .map (some (w.heap.size + 1))] 58))
  have hbA : Below w1.heap.size w1 (w1.alloc (.cells #[.slice none 0 0, .slice none 0 0, .slice none 0 0, .bool false, .slice none 0 0, .slice none 0 0, .slice none 0 0, .int .i64 0, .map (some (w.heap.size + 1))] 58)) := (Below.refl _ _).alloc (Nat.le_refl _) _
  have hbB : Below (w1.heap.size + 1) (w1.alloc (.cells #[.slice none 0 0, .slice none 0 0, .slice none 0 0, .bool false, .slice none 0 0, .slice none 0 0, .slice none 0 0, .int .i64 0, .map (some (w.heap.size + 1))] 58)) ((w1.alloc (.cells #[.slice none 0 0, .slice none 0 0, .slice none 0 0, .bool false, .slice none 0 0, .slice none 0 0, .slice none 0 0, .int .i64 0, .map (some (w.heap.size + 1))] 58)).alloc (.cells (spRow 10 (str s)) 9)) := (Below.refl _ _).alloc (by rw [World.size_alloc]; omega) _
  have hR0 := rdr_start hbB HM1.out (by omega)
  have hz2 : ((w1.alloc (.cells #[.slice none 0 0, .slice none 0 0, .slice none 0 0, .bool false, .slice none 0 0, .slice none 0 0, .slice none 0 0, .int .i64 0, .map (some (w.heap.size + 1))] 58)).alloc (.cells (spRow 10 (str s)) 9)).heap.size = w1.heap.size + 2 := by rw [World.size_alloc, World.size_alloc]
  have hblk2 := (HK1.out.alloc (.cells #[.slice none 0 0, .slice none 0 0, .slice none 0 0, .bool false, .slice none 0 0, .slice none 0 0, .slice none 0 0, .int .i64 0, .map (some (w.heap.size + 1))] 58)).alloc (.cells (spRow 10 (str s)) 9)
  have hbW : Below w.heap.size w ((w1.alloc (.cells #[.slice none 0 0, .slice none 0 0, .slice none 0 0, .bool false, .slice none 0 0, .slice none 0 0, .slice none 0 0, .int .i64 0, .map (some (w.heap.size + 1))] 58)).alloc (.cells (spRow 10 (str s)) 9)) := HB1.out.trans ((hbA.mono (by omega)).trans (hbB.mono (by omega)))
  rw [World.size_alloc] at HRD
  clear hbA hbB
  generalize (w1.alloc (.cells #[.slice none 0 0, .slice none 0 0, .slice none 0 0, .bool false, .slice none 0 0, .slice none 0 0, .slice none 0 0, .int .i64 0, .map (some (w.heap.size + 1))] 58)).alloc (.cells (spRow 10 (str s)) 9) = W2 at *
  have HR0 := Lib.hid hR0; have HRW := Lib.hid HRD; have HBW := Lib.hid hbW; have HBK := Lib.hid hblk2
  clear HRD hR0 hbW hblk2
  have hb1z := HB1.out.size
  have hcap := HRW.out.open_
  go_wp2
  go_loopw [21] (fun iv wr => RlRel ls.dropLast W2 W2.heap.size w1.heap.size (w.heap.size + 1) iv wr) (fun iv _ => ls.length - (intOf iv).toNat)
  case atStart => exact ⟨0, rdr0, rs0, Nat.zero_le _, rfl, rfl, HR0.out, RKeep.refl _ _ _, Nat.zero_le _, Nat.zero_le _, Nat.zero_le _⟩
  case round =>
    obtain ⟨k, x, st, hk, rfl, hst, hr, hkp, hcn⟩ := hrel
    have HR := Lib.hid hr; have HK := Lib.hid hkp; have HST := Lib.hid hst
    have hkz := hkp.size
    obtain ⟨hn1, hn2, hn3⟩ := hcn
    clear hr hkp hst
    rw [List.length_dropLast] at hk
    have hrbW : w1.heap.size < W2.heap.size := by omega
    have hbr : Below w.heap.size w wr := HBW.out.trans (HK.out.below (by omega) (by omega))
    have HBR := Lib.hid hbr
    have gE : wr.cell? ⟨0, 0, none⟩ = some (errI ea 15) := (HE.out.below hbr).cell 15 (by decide)
    have hb2 : wr.heap[w.heap.size]? = some (.cells #[.slice none 0 0, .slice none 0 0, .slice none 0 0, .bool false, .slice none 0 0, .slice none 0 0] 28 (0, 0)) := (HK.out.kept w.heap.size (by omega) (by omega)).trans HBK.out
    have HB2 := Lib.hid (show Blk wr w.heap.size 28 #[.slice none 0 0, .slice none 0 0, .slice none 0 0, .bool false, .slice none 0 0, .slice none 0 0] from hb2)
    clear hbr hb2
    by_cases hlt : k < ls.length - 1
    · have hll : k < ls.length := by omega
      obtain ⟨a, he, hab, c0⟩ := at_word (HK.out.rd HRW.out (by omega) (fun a n c e => by injection e with e; injection e with e; subst e; show w1.heap.size + 1 ≠ w1.heap.size; omega)) hll
      injection he with he
      subst he
      rw [Addr.add_lit, Nat.zero_add] at c0
      have hgd : ls.dropLast[k]'(by rw [List.length_dropLast]; exact hlt) = ls[k] := List.getElem_dropLast _
      have HNX := Lib.hid (linesR_next (k := k) (by rw [List.length_dropLast]; exact hlt) HST.out)
      rw [hgd] at HNX
      have hxs := HSZ.out _ (List.getElem_mem hll)
      clear hgd hab
      generalize ls[k] = y at *
      have hcall := rline_any y wr W2.heap.size w1.heap.size (w.heap.size + 1) x st HR.out (by omega) (by omega) (by omega) hxs (HP.out.belowW HBR.out) (HT.out.below HBR.out) (by omega) (by omega)
      have HCA := Lib.hid hcall
      clear hcall
      cases hlr : lineR st y with
      | none =>
        have HBAD := Lib.hid (readP_bad1 (s := s) (k := k) (by rw [← HLS.out, List.length_dropLast]; omega) (by rw [← HLS.out]; have h := HNX.out; rw [hlr] at h; exact h))
        have HLR := Lib.hid hlr
        clear hlr
        go_wp2_with fail
        refine HCA.out.mono ?_
        intro e w4 h4
        unfold LnRet at h4
        rw [HLR.out] at h4
        obtain ⟨hk4, rfl⟩ := h4
        have HB4 := Lib.hid (HBR.out.trans (hk4.below (by omega) (by omega)))
        have hb4 : w4.heap[w.heap.size]? = some (.cells #[.slice none 0 0, .slice none 0 0, .slice none 0 0, .bool false, .slice none 0 0, .slice none 0 0] 28 (0, 0)) := (hk4.kept w.heap.size (by omega) (by omega)).trans HB2.out
        have hBl : Blk w4 w.heap.size 28 #[.slice none 0 0, .slice none 0 0, .slice none 0 0, .bool false, .slice none 0 0, .slice none 0 0] := hb4
        have hsy : w4.cell? ⟨0, 0, none⟩ = some (errI ea 15) := (HE.out.below HB4.out).cell 15 (by decide)
        have p0 := hBl.cell 0; have p1 := hBl.cell 1; have p2 := hBl.cell 2; have p3 := hBl.cell 3; have p4 := hBl.cell 4; have p5 := hBl.cell 5
        have q0 := hBl.frozen 0; have q1 := hBl.frozen 1; have q2 := hBl.frozen 2; have q3 := hBl.frozen 3; have q4 := hBl.frozen 4; have q5 := hBl.frozen 5
        simp only [List.getElem?_toArray, List.getElem?_cons_zero, List.getElem?_cons_succ] at p0 p1 p2 p3 p4 p5
        clear hk4 hb4 hBl
        have hgn : ¬ 0 = w.heap.size := by omega
        have hgn2 : ¬ w.heap.size = 0 := by omega
        have hw1 : IntKind.i64.wrap ((k : Int) + 1) = (k : Int) + 1 := IntWalk.i64_in _ (by omega)
        go_wp2
        go_region
        go_wp2
        have HB5 := (((((((HB4.out.setCell (p := ⟨w.heap.size, 0, none⟩) (Nat.le_refl _) (.slice none 0 0)).setCell (p := ⟨w.heap.size, 1, none⟩) (Nat.le_refl _) (.slice none 0 0)).setCell (p := ⟨w.heap.size, 2, none⟩) (Nat.le_refl _) (.slice none 0 0)).setCell (p := ⟨w.heap.size, 3, none⟩) (Nat.le_refl _) (.bool false)).setCell (p := ⟨w.heap.size, 4, none⟩) (Nat.le_refl _) (.slice none 0 0)).setCell (p := ⟨w.heap.size, 5, none⟩) (Nat.le_refl _) (.slice none 0 0)).drew)
        refine bodyPost_ret (v := .tuple #[pgZero, .int .i64 ((k : Int) + 1), errI ea 15]) ?_ rfl ?_
        · simp [results, Tryz.results6, go_sem, pgZero, p0, p1, p2, p3, p4, p5]
        · exact readRet_bad HB5 HBAD.out rfl
      | some st' =>
        have HGO := Lib.hid (show linesR rs0 0 (ls.dropLast.take (k + 1)) = .inl st' from by have h := HNX.out; rw [hlr] at h; exact h)
        obtain ⟨g1, g2, g3⟩ := lineR_grows hlr
        have HLR := Lib.hid hlr
        clear hlr
        go_wp2_with fail
        refine HCA.out.mono ?_
        intro e w4 h4
        unfold LnRet at h4
        rw [HLR.out] at h4
        obtain ⟨hk4, rfl, x', hx'⟩ := h4
        have HK4 := Lib.hid (HK.out.trans hk4); have HX4 := Lib.hid hx'
        clear hk4 hx'
        go_wp2
        go_roundw
        case rel => exact ⟨k + 1, x', st', by rw [List.length_dropLast]; omega, by go_num, HGO.out, HX4.out, HK4.out, by omega, by omega, by omega⟩
        case measure => simp [intOf]; omega
    · obtain rfl : k = ls.length - 1 := by omega
      have HFIN := Lib.hid (show linesR rs0 0 (splitS 10 s).dropLast = .inl st from by
        have h := HST.out
        rw [List.take_of_length_le (by rw [List.length_dropLast]; exact Nat.le_refl _), HLS.out] at h
        exact h)
      obtain ⟨a, he, hab, c0⟩ := at_word (k := ls.length - 1) (HK.out.rd HRW.out (by omega) (fun a n c e => by injection e with e; injection e with e; subst e; show w1.heap.size + 1 ≠ w1.heap.size; omega)) (by omega)
      injection he with he
      subst he
      rw [Addr.add_lit, Nat.zero_add] at c0
      have HLA := Lib.hid (show (splitS 10 s).getLast? = some (ls[ls.length - 1]'(by omega)) from by
        rw [← HLS.out, List.getLast?_eq_getElem?, List.getElem?_eq_getElem (by omega)])
      clear hab
      generalize ls[ls.length - 1]'(by omega) = y at *
      have hys : (str y).toList = y := str_empty y
      by_cases hy : y = []
      · have y1 : (str y).toList = [] := hys.trans hy
        have y2 : (str y).toList.isEmpty = true := by rw [y1]; rfl
        by_cases hl1 : ls.length = 1
        · have HBAD := Lib.hid (show readP s = .inr ls.length from (readP_bad2 HFIN.out (by rw [← HLS.out]; exact .inr hl1)).trans (by rw [← HLS.out]))
          have l1 : ((ls.length : Int) == 1) = true := by simp; omega
          clear hys hy hl1
          have hBl := HB2.out
          have hsy : wr.cell? ⟨0, 0, none⟩ = some (errI ea 15) := gE
          have p0 := hBl.cell 0; have p1 := hBl.cell 1; have p2 := hBl.cell 2; have p3 := hBl.cell 3; have p4 := hBl.cell 4; have p5 := hBl.cell 5
          have q0 := hBl.frozen 0; have q1 := hBl.frozen 1; have q2 := hBl.frozen 2; have q3 := hBl.frozen 3; have q4 := hBl.frozen 4; have q5 := hBl.frozen 5
          simp only [List.getElem?_toArray, List.getElem?_cons_zero, List.getElem?_cons_succ] at p0 p1 p2 p3 p4 p5
          clear hBl
          have hgn : ¬ 0 = w.heap.size := by omega
          have hgn2 : ¬ w.heap.size = 0 := by omega
          go_wp2
          go_region
          go_wp2
          have HB5 := (((((((HBR.out.setCell (p := ⟨w.heap.size, 0, none⟩) (Nat.le_refl _) (.slice none 0 0)).setCell (p := ⟨w.heap.size, 1, none⟩) (Nat.le_refl _) (.slice none 0 0)).setCell (p := ⟨w.heap.size, 2, none⟩) (Nat.le_refl _) (.slice none 0 0)).setCell (p := ⟨w.heap.size, 3, none⟩) (Nat.le_refl _) (.bool false)).setCell (p := ⟨w.heap.size, 4, none⟩) (Nat.le_refl _) (.slice none 0 0)).setCell (p := ⟨w.heap.size, 5, none⟩) (Nat.le_refl _) (.slice none 0 0)).drew)
          refine bodyPost_ret (v := .tuple #[pgZero, .int .i64 (ls.length : Int), errI ea 15]) ?_ rfl ?_
          · simp [results, Tryz.results6, go_sem, pgZero, p0, p1, p2, p3, p4, p5]
          · exact readRet_bad HB5 HBAD.out rfl
        · have HOK := Lib.hid (readP_ok HFIN.out (by rw [HLA.out, hy, ← HLS.out]; simp [hl1]))
          have l1 : ((ls.length : Int) == 1) = false := by simp; omega
          clear hys hy hl1
          obtain ⟨av, cv, nv, dv, kv, nl⟩ := x
          have hR := HR.out
          obtain ⟨aA, ac, rfl, -, -, -⟩ := hR.avgs.open_
          obtain ⟨cA, cc, rfl, -, -, -⟩ := hR.curs.open_
          obtain ⟨nA, nc, hnv, -, -, -⟩ := hR.nears.open_
          simp only at hnv
          subst hnv
          obtain ⟨dA, dc, rfl, -, -, -⟩ := hR.drive.open_
          obtain ⟨kA, kc, rfl, -, -, -⟩ := hR.code.open_
          have r0 := hR.blk.cell 0; have r1 := hR.blk.cell 1; have r2 := hR.blk.cell 2; have r3 := hR.blk.cell 3; have r4 := hR.blk.cell 4; have r5 := hR.blk.cell 5; have r6 := hR.blk.cell 6
          simp only [List.getElem?_toArray, List.getElem?_cons_zero, List.getElem?_cons_succ] at r0 r1 r2 r3 r4 r5 r6
          have hrl := hR.blk.lt
          have hbA : Below wr.heap.size wr (wr.alloc (.cells #[.slice aA st.avgs.length ac, .slice cA st.curs.length cc, .slice nA nl.length nc, .bool st.all, .slice dA st.drive.length dc, .slice none 0 0] 28)) := (Below.refl _ _).alloc (Nat.le_refl _) _
          have hcode := RdL.of_own (hR.code.below hbA)
          have henc := iencode_any _ st.code ea _ _ (Nat.le_refl _) hcode (by omega) (linesR_code HFIN.out) ((HE.out.below (HBR.out.trans (hbA.mono HBR.out.size))).few) (HT.out.below (HBR.out.trans (hbA.mono HBR.out.size)))
          have HENC := Lib.hid henc; have HBA := Lib.hid hbA
          clear hR hcode henc hbA
          go_wp2_with fail
          refine HENC.out.mono ?_
          rintro e w6 ⟨v, rfl, ho, hb6⟩
          generalize (if st.code.all insOk = true then encI st.code else []) = m at *
          generalize (if st.code.all insOk = true then Value.nilIface else errI ea 20) = er at *
          obtain ⟨vA, vc, rfl⟩ := ownB_form ho
          have HO := Lib.hid ho; have HB6 := Lib.hid hb6
          have hBl := (Blk.new wr 28 #[.slice aA st.avgs.length ac, .slice cA st.curs.length cc, .slice nA nl.length nc, .bool st.all, .slice dA st.drive.length dc, .slice none 0 0]).belowW hb6
          have HBL := Lib.hid hBl
          have p0 := hBl.cell 0; have p1 := hBl.cell 1; have p2 := hBl.cell 2; have p3 := hBl.cell 3; have p4 := hBl.cell 4; have p5 := hBl.cell 5
          have q5 := hBl.frozen 5
          simp only [List.getElem?_toArray, List.getElem?_cons_zero, List.getElem?_cons_succ] at p0 p1 p2 p3 p4 p5
          have hz6 := hb6.size
          rw [World.size_alloc] at hz6
          have hBz := (HB2.out.alloc (.cells #[.slice aA st.avgs.length ac, .slice cA st.curs.length cc, .slice nA nl.length nc, .bool st.all, .slice dA st.drive.length dc, .slice none 0 0] 28)).belowW hb6
          have HBZ := Lib.hid hBz
          have s0 := hBz.cell 0; have s1 := hBz.cell 1; have s2 := hBz.cell 2; have s3 := hBz.cell 3; have s4 := hBz.cell 4; have s5 := hBz.cell 5
          have f0 := hBz.frozen 0; have f1 := hBz.frozen 1; have f2 := hBz.frozen 2; have f3 := hBz.frozen 3; have f4 := hBz.frozen 4; have f5 := hBz.frozen 5
          simp only [List.getElem?_toArray, List.getElem?_cons_zero, List.getElem?_cons_succ] at s0 s1 s2 s3 s4 s5
          have hgz : ¬ w.heap.size = wr.heap.size := by omega
          have hgz2 : ¬ wr.heap.size = w.heap.size := by omega
          clear ho hb6 hBl hBz r0 r1 r2 r3 r4 r5 r6
          go_wp2_with fail
          have hP0 : PgO w6 w.heap.size ⟨.slice aA st.avgs.length ac, .slice cA st.curs.length cc, .slice nA nl.length nc, .slice dA st.drive.length dc, .slice vA m.length vc, nl⟩ ⟨st.avgs, st.curs, st.nears, st.all, st.drive, m⟩ := by
            have hR := HR.out
            have hle : w.heap.size ≤ W2.heap.size := by omega
            have hba := HBA.out
            have hb6 := HB6.out
            exact ⟨((hR.avgs.below hba).below hb6).more hle, ((hR.curs.below hba).below hb6).more hle, ((hR.nears.below hba).below hb6).more hle, hR.nmap, fun z hz => ⟨((((hR.inner z hz).1).below hba).below hb6).more hle, ((((hR.inner z hz).2).below hba).below hb6).more hle⟩, ((hR.drive.below hba).below hb6).more hle, ownB_iff.2 ((ownB_iff.1 HO.out).more (by rw [World.size_alloc]; omega))⟩
          have hq1 : PgBlk w6 wr.heap.size := ⟨_, HBL.out⟩
          have hq2 : PgBlk w6 w.heap.size := ⟨_, HBZ.out⟩
          have hP1 := hP0.set_ hq1 5 (.slice vA m.length vc)
          have hq3 := hq2.set_ wr.heap.size 5 (.slice vA m.length vc)
          have hP2 := hP1.set_ hq3 0 (.slice aA st.avgs.length ac)
          have hq4 := hq3.set_ w.heap.size 0 (.slice aA st.avgs.length ac)
          have hP3 := hP2.set_ hq4 1 (.slice cA st.curs.length cc)
          have hq5 := hq4.set_ w.heap.size 1 (.slice cA st.curs.length cc)
          have hP4 := hP3.set_ hq5 2 (.slice nA nl.length nc)
          have hq6 := hq5.set_ w.heap.size 2 (.slice nA nl.length nc)
          have hP5 := hP4.set_ hq6 3 (.bool st.all)
          have hq7 := hq6.set_ w.heap.size 3 (.bool st.all)
          have hP6 := hP5.set_ hq7 4 (.slice dA st.drive.length dc)
          have hq8 := hq7.set_ w.heap.size 4 (.slice dA st.drive.length dc)
          have hP7 := hP6.set_ hq8 5 (.slice vA m.length vc)
          have hbx : Below w.heap.size w w6 := HBR.out.trans ((HBA.out.trans (HB6.out.mono HBA.out.size)).mono HBR.out.size)
          have HB7 := (((((((hbx.setCell (p := ⟨wr.heap.size, 5, none⟩) HBR.out.size (.slice vA m.length vc)).setCell (p := ⟨w.heap.size, 0, none⟩) (Nat.le_refl _) (.slice aA st.avgs.length ac)).setCell (p := ⟨w.heap.size, 1, none⟩) (Nat.le_refl _) (.slice cA st.curs.length cc)).setCell (p := ⟨w.heap.size, 2, none⟩) (Nat.le_refl _) (.slice nA nl.length nc)).setCell (p := ⟨w.heap.size, 3, none⟩) (Nat.le_refl _) (.bool st.all)).setCell (p := ⟨w.heap.size, 4, none⟩) (Nat.le_refl _) (.slice dA st.drive.length dc)).setCell (p := ⟨w.heap.size, 5, none⟩) (Nat.le_refl _) (.slice vA m.length vc))
          refine bodyPost_ret (v := .tuple #[PgV.val ⟨.slice aA st.avgs.length ac, .slice cA st.curs.length cc, .slice nA nl.length nc, .slice dA st.drive.length dc, .slice vA m.length vc, nl⟩ ⟨st.avgs, st.curs, st.nears, st.all, st.drive, m⟩, .int .i64 0, .nilIface]) ?_ rfl ?_
          · simp [results, Tryz.results6, go_sem, PgV.val, s0, s1, s2, s3, s4, s5, hgz, hgz2]
          · exact readRet_ok HB7 HOK.out _ rfl hP7
      · have y1 : ¬ (str y).toList = [] := fun h => hy (hys.symm.trans h)
        have y2 : (str y).toList.isEmpty = false := by rw [List.isEmpty_eq_false_iff]; exact y1
        have HBAD := Lib.hid (show readP s = .inr ls.length from (readP_bad2 HFIN.out (by rw [HLA.out]; exact .inl (fun h => hy (Option.some.inj h)))).trans (by rw [← HLS.out]))
        clear hys hy
        have hBl := HB2.out
        have hsy : wr.cell? ⟨0, 0, none⟩ = some (errI ea 15) := gE
        have p0 := hBl.cell 0; have p1 := hBl.cell 1; have p2 := hBl.cell 2; have p3 := hBl.cell 3; have p4 := hBl.cell 4; have p5 := hBl.cell 5
        have q0 := hBl.frozen 0; have q1 := hBl.frozen 1; have q2 := hBl.frozen 2; have q3 := hBl.frozen 3; have q4 := hBl.frozen 4; have q5 := hBl.frozen 5
        simp only [List.getElem?_toArray, List.getElem?_cons_zero, List.getElem?_cons_succ] at p0 p1 p2 p3 p4 p5
        clear hBl
        have hgn : ¬ 0 = w.heap.size := by omega
        have hgn2 : ¬ w.heap.size = 0 := by omega
        go_wp2
        go_region
        go_wp2
        have HB5 := (((((((HBR.out.setCell (p := ⟨w.heap.size, 0, none⟩) (Nat.le_refl _) (.slice none 0 0)).setCell (p := ⟨w.heap.size, 1, none⟩) (Nat.le_refl _) (.slice none 0 0)).setCell (p := ⟨w.heap.size, 2, none⟩) (Nat.le_refl _) (.slice none 0 0)).setCell (p := ⟨w.heap.size, 3, none⟩) (Nat.le_refl _) (.bool false)).setCell (p := ⟨w.heap.size, 4, none⟩) (Nat.le_refl _) (.slice none 0 0)).setCell (p := ⟨w.heap.size, 5, none⟩) (Nat.le_refl _) (.slice none 0 0)).drew)
        refine bodyPost_ret (v := .tuple #[pgZero, .int .i64 (ls.length : Int), errI ea 15]) ?_ rfl ?_
        · simp [results, Tryz.results6, go_sem, pgZero, p0, p1, p2, p3, p4, p5]
        · exact readRet_bad HB5 HBAD.out rfl
end Go.Proofs.YtmdpfikalekmlaaGreatDoor
end
section
/- Layer 20: what the laws of reading stand on. -/
namespace Go.Proofs.YtmdpfikalekmlaaGreatDoor
open Go.RowKit
set_option maxRecDepth 100000
set_option maxHeartbeats 40000000
set_option linter.unusedSimpArgs false
set_option linter.unusedVariables false

/-- The variables that reading looks at. -/
def IsaEnvB (w : World) (ea : List Addr) : Prop := ErrEnv w ea ∧ TabEnv w ∧ Pow10 w ∧ PuEnv w
theorem IsaEnvB.below {w w' : World} {ea : List Addr} (h : IsaEnvB w ea) (hb : Below w.heap.size w w') : IsaEnvB w' ea :=
  ⟨h.1.below hb, h.2.1.below hb, h.2.2.1.below hb, h.2.2.2.belowW hb⟩
theorem puEnv_of {W : World} {l : List (String × DataW Unit)} (h : laidMet Tryz.prog l W) (e : l.filter (fun x => x.1 == "strconv.ErrRange") = [("strconv.ErrRange", errRow [118, 97, 108, 117, 101, 32, 111, 117, 116, 32, 111, 102, 32, 114, 97, 110, 103, 101])]) : PuEnv W := by
  have := h.filter (fun x => x.1 == "strconv.ErrRange")
  rw [e] at this
  obtain ⟨ps, h1, h2, h3⟩ := this
  obtain ⟨ea, g1, -, -, -⟩ := errsAt_of [("strconv.ErrRange", [118, 97, 108, 117, 101, 32, 111, 117, 116, 32, 111, 102, 32, 114, 97, 110, 103, 101])] [32] ps (by kernel_rfl) (by
    intro g hg
    rw [List.mem_singleton.1 hg]; kernel_rfl) h1 h2 h3
  match ea, g1 with
  | [a], g1 => exact ⟨_, g1.1, .inr ⟨_, _, rfl⟩⟩
theorem isaB_env {W : World} {l : List (String × DataW Unit)} (h : laidMet Tryz.prog l W) (e1 : l.filter (fun x => (errRows.map (·.1)).contains x.1) = errRows.map fun x => (x.1, errRow x.2))
    (e2 : l.filter (fun x => x.1 == "concord/isa.table") = [("concord/isa.table", Rows.laid_concord_isa_table)]) (e3 : l.filter (fun x => x.1 == "internal/strconv.uint64pow10") = [("internal/strconv.uint64pow10", Lib.tabData .u64 Lib.pow10Tab)])
    (e4 : l.filter (fun x => x.1 == "strconv.ErrRange") = [("strconv.ErrRange", errRow [118, 97, 108, 117, 101, 32, 111, 117, 116, 32, 111, 102, 32, 114, 97, 110, 103, 101])]) : ∃ ea, IsaEnvB W ea := by
  obtain ⟨ea, hE⟩ := errEnv_of h e1
  exact ⟨ea, hE, isaTab_of h e2, pow10_of h e3, puEnv_of h e4⟩
def pgNone : Pg := ⟨[], [], [], false, [], []⟩
def pgvNone : PgV := ⟨.slice none 0 0, .slice none 0 0, .slice none 0 0, .slice none 0 0, .slice none 0 0, []⟩
theorem pgr_none (w : World) (B : Nat) : PgR w B pgvNone pgNone := ⟨RdL.nil _ _ _, RdL.nil _ _ _, RdL.nil _ _ _, rfl, fun y hy => (by cases hy), RdL.nil _ _ _, RdL.nil _ _ _⟩
theorem small_none : SmallPg pgNone := by
  refine ⟨⟨fun x hx => (by cases hx), Nat.zero_le _⟩, ⟨fun c hc => (by cases hc), Nat.zero_le _⟩, ⟨fun n hn => (by cases hn), Nat.zero_le _⟩, ⟨fun x hx => (by cases hx), Nat.zero_le _⟩, Nat.zero_le _⟩
theorem int_eq {a b : Int} (h : a = b) : Value.int .i64 a = Value.int .i64 b := by rw [h]
end Go.Proofs.YtmdpfikalekmlaaGreatDoor
end
section
/- Layer 20, the document's reader: hexed, first, ints, numbers, unquoted. -/
namespace Go.Proofs.YtmdpfikalekmlaaGreatDoor
open Go.RowKit
set_option maxRecDepth 100000
set_option maxHeartbeats 4000000
set_option linter.unusedSimpArgs false
set_option linter.unusedVariables false

theorem hexed_lt (b : UInt8) : hexed b < 16 := by
  unfold hexed hexV
  have := b.toNat_lt
  split
  · simp; omega
  · split
    · simp; omega
    · simp
theorem hexed_any (b : UInt8) (w : World) :
    Calls Tryz.prog 100 #[.int .u8 (b.toNat : Int)] w fun e w' => e = .returned (.int .u8 (hexed b : Int)) ∧ w = w' := by
  have hb := u8_lt b
  by_cases h1 : 97 ≤ b.toNat
  · by_cases h2 : b.toNat ≤ 102
    · have HH := Lib.hid (show hexed b = b.toNat - 87 from by unfold hexed hexV; rw [if_neg (by omega), if_pos (by omega)]; rfl)
      have e1 : (b.toNat : Int) - 97 = ((b.toNat - 97 : Nat) : Int) := by omega
      have w1 := wrap_u8n (b.toNat - 97) (by omega)
      have e2 : ((b.toNat - 97 : Nat) : Int) + 10 = ((b.toNat - 87 : Nat) : Int) := by omega
      have w2 := wrap_u8n (b.toNat - 87) (by omega)
      go_enter Tryz.func100, Tryz.ntmps100
      go_wp2
      go_ret
      exact ⟨by rw [HH.out]; rfl, rfl⟩
    · have HH := Lib.hid (show hexed b = 0 from by unfold hexed hexV; rw [if_neg (by omega), if_neg (by omega)]; rfl)
      go_enter Tryz.func100, Tryz.ntmps100
      go_wp2
      go_ret
      exact ⟨by rw [HH.out]; rfl, rfl⟩
  · by_cases h2 : 48 ≤ b.toNat ∧ b.toNat ≤ 57
    · have HH := Lib.hid (show hexed b = b.toNat - 48 from by unfold hexed hexV; rw [if_pos (by omega)]; rfl)
      have e1 : (b.toNat : Int) - 48 = ((b.toNat - 48 : Nat) : Int) := by omega
      have w1 := wrap_u8n (b.toNat - 48) (by omega)
      obtain ⟨h3, h4⟩ := h2
      go_enter Tryz.func100, Tryz.ntmps100
      go_wp2
      go_ret
      exact ⟨by rw [HH.out]; rfl, rfl⟩
    · have HH := Lib.hid (show hexed b = 0 from by unfold hexed hexV; rw [if_neg (by omega), if_neg (by omega)]; rfl)
      by_cases h3 : 48 ≤ b.toNat
      · have h4 : 57 < b.toNat := by omega
        go_enter Tryz.func100, Tryz.ntmps100
        go_wp2
        go_ret
        exact ⟨by rw [HH.out]; rfl, rfl⟩
      · go_enter Tryz.func100, Tryz.ntmps100
        go_wp2
        go_ret
        exact ⟨by rw [HH.out]; rfl, rfl⟩
theorem take_no {l : List UInt8} {k : Nat} (h : ∀ c ∈ l.take k, c ≠ 32) (hk : k ≤ l.length) (hx : k = l.length ∨ ∃ (hl : k < l.length), l[k] = 32) : wordL l = l.take k := by
  unfold wordL
  conv => lhs; rw [← List.take_append_drop k l]
  rw [List.takeWhile_append_of_pos (by intro c hc; simpa using h c hc)]
  have : (l.drop k).takeWhile (fun c => decide (c ≠ 32)) = [] := by
    rcases hx with rfl | ⟨hl, hx⟩
    · simp
    · rw [List.drop_eq_getElem_cons hl, List.takeWhile_cons, hx]; simp
  rw [this, List.append_nil]
def FiRel (s : ByteArray) (iv : Value) : Prop := ∃ k : Nat, k ≤ s.size ∧ iv = .int .i64 (k : Int) ∧ ∀ c ∈ s.data.toList.take k, c ≠ 32
theorem first_any (s : ByteArray) (w : World) (hs : s.size ≤ 1000000000) :
    Calls Tryz.prog 52 #[.string s] w fun e w' => e = .returned (.string (str (wordL s.data.toList))) ∧ w = w' := by
  have hsz : s.data.toList.length = s.size := (ba_size s).symm
  have HSZ := Lib.hid hsz
  clear hsz
  go_enter Tryz.func52, Tryz.ntmps52
  go_wp2
  go_loop [3] (fun iv => FiRel s iv) (fun iv => s.size - (intOf iv).toNat)
  case atStart => exact ⟨0, Nat.zero_le _, rfl, by simp⟩
  case round =>
    obtain ⟨k, hk, rfl, hn⟩ := hrel
    have HN := Lib.hid hn
    clear hn
    by_cases hlt : k < s.size
    · have hl : k < s.data.toList.length := by rw [HSZ.out]; exact hlt
      by_cases hx : s[k] = 32
      · have hx2 : (s[k].toNat : Int) = 32 := by rw [hx]; rfl
        have HQ := Lib.hid (show s.extract 0 k = str (wordL s.data.toList) from by
          rw [take_no HN.out (by omega) (Or.inr ⟨hl, hx⟩)]
          exact ba_ext (by rw [str_data, Lib.extract_data]; simp))
        clear hx
        go_wp2
        go_ret
        exact ⟨by rw [HQ.out]; rfl, rfl⟩
      · have hx2 : ((s[k].toNat : Int) == 32) = false := by
          rw [beq_eq_false_iff_ne]
          intro h
          exact hx (UInt8.toNat_inj.1 (by show s[k].toNat = 32; omega))
        have HQ := Lib.hid (show ∀ c ∈ s.data.toList.take (k + 1), c ≠ 32 from by
          rw [List.take_succ_eq_append_getElem hl]
          intro c hc
          rcases List.mem_append.1 hc with h | h
          · exact HN.out c h
          · rw [List.mem_singleton] at h; rw [h]; exact hx)
        clear hx
        go_wp2
        go_round
        case rel => exact ⟨k + 1, by omega, by go_num, HQ.out⟩
        case measure => simp [intOf]; omega
    · have HQ := Lib.hid (show s = str (wordL s.data.toList) from by
        have hkk : k = s.data.toList.length := by rw [HSZ.out]; omega
        rw [take_no HN.out (by omega) (Or.inl hkk), hkk, List.take_length]
        exact ba_ext (by rw [str_data]))
      go_wp2
      go_ret
      exact ⟨by rw [← HQ.out]; rfl, rfl⟩
def natS : Shape Nat := { tS := 69, tE := 41, size := 1, bytes := 8, enc := fun x => [.int .u64 (x : Int)], zero := .int .u64 0 }
theorem natSOk : natS.Ok where
  under := Tryz.underlying69
  info := by kernel_rfl
  zs := rfl
  pos := by decide
  len := fun _ => rfl
  one := fun x u hu => by
    simp only [natS, List.mem_cons, List.not_mem_nil, or_false] at hu
    subst hu; rfl
  small := by decide
theorem at_nat {w : World} {B : Nat} {A : Option Addr} {n cap : Nat} {l : List Nat} (h : RdL natS w B (.slice A n cap) l) {k : Nat} (hk : k < l.length) :
    ∃ a, A = some a ∧ (a.add k).block < B ∧ w.cell? (a.add k) = some (.int .u64 (l[k] : Int)) := by
  obtain ⟨a, rfl, hb, h0, h⟩ := h.at2 natSOk hk
  have e : k * natS.size = k := Nat.mul_one k
  rw [e] at hb h0
  exact ⟨a, rfl, hb, h0 _ rfl⟩
def RiRel (l : List Nat) (w : World) (ov iv : Value) (wr : World) : Prop := ∃ k : Nat, k ≤ l.length ∧ iv = .int .i64 (k : Int) ∧ OwnL intS wr w.heap.size ov (rints (l.take k)) ∧ Below w.heap.size w wr
theorem rints_take {l : List Nat} {k : Nat} (h : k < l.length) : rints (l.take (k + 1)) = rints (l.take k) ++ [if 9223372036854775807 < l[k] then (0 : Int) else (l[k] : Int)] := by
  unfold rints
  rw [List.take_succ_eq_append_getElem h, List.map_append]; rfl
theorem rints_length (l : List Nat) : (rints l).length = l.length := by simp [rints]
theorem rints_any (v : Value) (l : List Nat) (w : World) (B : Nat) (hB : B ≤ w.heap.size) (h : RdL natS w B v l) (hl : l.length ≤ 1000000000) (hs : ∀ x ∈ l, x < top64) :
    Calls Tryz.prog 49 #[v] w fun e w' => ∃ v', e = .returned v' ∧ OwnL intS w' w.heap.size v' (rints l) ∧ Below w.heap.size w w' := by
  obtain ⟨A, cap, rfl, hc, hm⟩ := h.open_
  unfold maxLen at hm
  have H := Lib.hid h
  have HS := Lib.hid hs
  clear h hs
  have HO0 := Lib.hid (OwnL.lit0 intS w (Nat.le_refl _))
  go_enter Tryz.func49, Tryz.ntmps49
  go_wp2
  go_loopw [3, 9] (fun ov iv wr => RiRel l w ov iv wr) (fun _ iv _ => l.length - (intOf iv).toNat)
  case atStart => exact ⟨0, Nat.zero_le _, rfl, HO0.out, (Below.refl _ _).alloc (Nat.le_refl _) _⟩
  case round =>
    obtain ⟨k, hk, rfl, ho, hb⟩ := hrel
    have HO := Lib.hid ho; have HB := Lib.hid hb
    have hBr : w.heap.size ≤ wr.heap.size := hb.size
    clear ho hb
    by_cases hlt : k < l.length
    · obtain ⟨a, rfl, hab, c0⟩ := at_nat (H.out.below (HB.out.mono hB)) hlt
      have HT := Lib.hid (rints_take hlt)
      have hx2 : l[k] < 18446744073709551616 := HS.out _ (List.getElem_mem hlt)
      have hal1 : (rints (l.take k)).length + 1 ≤ 970000000000 := by rw [rints_length, List.length_take]; omega
      generalize l[k] = x at *
      generalize hr : rints (l.take k) = acc at *
      have HR := Lib.hid hr
      clear hr
      by_cases hx : 9223372036854775807 < x
      · rw [if_pos hx] at HT
        go_wp2_with (at_builtin; refine OwnL.append intSOk HO.out (0 : Int) rfl _ _ rfl rfl rfl _ rfl hBr hal1 ?_; intro v1 w1 ho1 hb1; have HO1 := Lib.hid ho1; have HB1 := Lib.hid (HB.out.trans hb1); clear ho1 hb1)
        go_roundw
        case rel => exact ⟨k + 1, by omega, by go_num, by rw [HT.out]; exact HO1.out, HB1.out⟩
        case measure => simp [intOf]; omega
      · rw [if_neg hx] at HT
        have hw1 : IntKind.i64.wrap (x : Int) = (x : Int) := IntWalk.i64_in _ (by omega)
        go_wp2_with (at_builtin; refine OwnL.append intSOk HO.out (x : Int) rfl _ _ rfl rfl rfl _ rfl hBr hal1 ?_; intro v1 w1 ho1 hb1; have HO1 := Lib.hid ho1; have HB1 := Lib.hid (HB.out.trans hb1); clear ho1 hb1)
        go_roundw
        case rel => exact ⟨k + 1, by omega, by go_num, by rw [HT.out]; exact HO1.out, HB1.out⟩
        case measure => simp [intOf]; omega
    · have HE := Lib.hid (show rints (l.take k) = rints l from by rw [List.take_of_length_le (by omega)])
      go_wp2
      go_ret
      exact ⟨_, rfl, by rw [← HE.out]; exact HO.out, HB.out⟩
end Go.Proofs.YtmdpfikalekmlaaGreatDoor
end
section
/- Layer 1, the reference: GetUvarint. -/
namespace Go.Proofs.YtmdpfikalekmlaaGreatDoor
open Go.RowKit
set_option maxRecDepth 100000
set_option maxHeartbeats 1000000
set_option linter.unusedSimpArgs false
set_option linter.unusedVariables false

theorem at_byteG {w : World} {B : Nat} {A : Option Addr} {n cap : Nat} {l : List UInt8} (h : RdL byteS w B (.slice A n cap) l) {k : Nat} (hk : k < l.length) :
    ∃ a x, A = some a ∧ (a.add k).block < B ∧ l[k]? = some x ∧ w.cell? (a.add k) = some (.int .u8 x.toNat) := by
  obtain ⟨a, h1, h2, h3⟩ := at_byte h hk
  exact ⟨a, l[k], h1, h2, List.getElem?_eq_getElem hk, h3⟩
theorem uvScan_getG {m : List UInt8} {j : Nat} {x : UInt8} (i : Nat) (h : m[j]? = some x) : uvScan i (m.drop j) = if i = 9 ∧ 1 < x.toNat then .bad else if 128 ≤ x.toNat then uvScan (i + 1) (m.drop (j + 1)) else if x.toNat = 0 ∧ 0 < i then .bad else .ok (i + 1) := by
  obtain ⟨h1, rfl⟩ := List.getElem?_eq_some_iff.1 h
  exact uvScan_at i h1
/-- What a reading function of the reference answers. -/
def GtRet {α : Type} (k : Nat) (val : α → Value) (zero : Value) (r : Rr α) (w : World) (e : Ending) (w' : World) : Prop :=
  w = w' ∧ match r with
    | .ok v j => e = .returned (.tuple #[val v, .int .i64 (j : Int), .int .i64 0])
    | .no i => e = .returned (.tuple #[zero, .int .i64 (k : Int), .int .i64 ((i : Int) + 1)])
theorem gtRet_ok {α : Type} {k : Nat} {val : α → Value} {zero : Value} {r : Rr α} {w : World} {v : α} {j : Nat} (hr : r = .ok v j) : GtRet k val zero r w (.returned (.tuple #[val v, .int .i64 (j : Int), .int .i64 0])) w := by
  subst hr; exact ⟨rfl, rfl⟩
theorem gtRet_no {α : Type} {k : Nat} {val : α → Value} {zero : Value} {r : Rr α} {w : World} {i : Nat} (hr : r = .no i) : GtRet k val zero r w (.returned (.tuple #[zero, .int .i64 (k : Int), .int .i64 ((i : Int) + 1)])) w := by
  subst hr; exact ⟨rfl, rfl⟩
def GvRel (m : List UInt8) (k : Nat) (nv : Value) : Prop :=
  ∃ i : Nat, i ≤ 9 ∧ k + i ≤ m.length ∧ nv = .int .i64 (i : Int) ∧ uvScan 0 (m.drop k) = uvScan i (m.drop (k + i))
/-- The value, from the last byte on. -/
def GwRel (m : List UInt8) (k n : Nat) (vv iv : Value) : Prop :=
  ∃ i : Nat, i ≤ n ∧ iv = .int .i64 ((i : Int) - 1) ∧ vv = .int .u64 (uvVal (((m.drop k).take n).drop i) : Int)
theorem uvVal_back {m : List UInt8} {k n i : Nat} {x : UInt8} (hi : i < n) (h : m[k + i]? = some x) : uvVal (((m.drop k).take n).drop i) = 128 * uvVal (((m.drop k).take n).drop (i + 1)) + x.toNat % 128 := by
  obtain ⟨h1, rfl⟩ := List.getElem?_eq_some_iff.1 h
  have hl : i < ((m.drop k).take n).length := by rw [List.length_take, List.length_drop]; omega
  rw [List.drop_eq_getElem_cons hl, uvVal_cons, List.getElem_take, List.getElem_drop]
theorem uvVal_mono (l : List UInt8) (i : Nat) : uvVal (l.drop i) ≤ uvVal l := by
  induction i generalizing l with
  | zero => exact Nat.le_refl _
  | succ i ih =>
    cases l with
    | nil => exact Nat.le_refl _
    | cons a l =>
      rw [List.drop_succ_cons, uvVal_cons]
      have := ih l
      omega
theorem guvarint_any (x : Value) (m : List UInt8) (k : Nat) (w : World) (B : Nat) (hx : RdL byteS w B x m) (hk : k ≤ m.length) (hm : m.length ≤ 10000000000) :
    Calls Tryz.prog 83 #[x, .int .i64 (k : Int)] w (GtRet k (fun v : Nat => .int .u64 (v : Int)) (.int .u64 0) (uvR m k) w) := by
  obtain ⟨A, cap, rfl, h1, h2⟩ := hx.open_
  have HX := Lib.hid hx
  clear hx
  go_enter Tryz.func83, Tryz.ntmps83
  go_wp2
  go_loop [7] (fun nv => GvRel m k nv) (fun nv => 10 - (intOf nv).toNat)
  case atStart => exact ⟨0, by omega, by omega, rfl, rfl⟩
  case round =>
    obtain ⟨i, hi, hki, rfl, hs⟩ := hrel
    have HS := Lib.hid hs
    clear hs
    by_cases hlt : k + i < m.length
    · obtain ⟨a, x, rfl, hab, hg, hc⟩ := at_byteG HX.out hlt
      have HU := Lib.hid (HS.out.trans (uvScan_getG i hg))
      have HG := Lib.hid hg
      have hxl := x.toNat_lt
      clear hg
      by_cases hbad : i = 9 ∧ 1 < x.toNat
      · have HR9 : Hid (uvR m k = .no 1) := Lib.hid (uvR_bad (by rw [HU.out, if_pos hbad]))
        obtain ⟨h9, hb1⟩ := hbad
        have h9b : ((i : Int) + 1 == 10) = true := by rw [beq_iff_eq]; omega
        have hb1' : 1 < (x.toNat : Int) := by omega
        clear h9 hb1
        go_wp2
        go_ret3
        exact gtRet_no HR9.out
      · have hnb : i = 9 → (x.toNat : Int) ≤ 1 := fun h => by
          rcases Nat.lt_or_ge 1 x.toNat with h5 | h5
          · exact absurd ⟨h, h5⟩ hbad
          · omega
        have HUn := Lib.hid (HU.out.trans (if_neg hbad))
        clear hbad
        by_cases hc128 : 128 ≤ x.toNat
        · have hc' : 128 ≤ (x.toNat : Int) := by omega
          have hi8 : i ≤ 8 := by
            rcases Nat.lt_or_ge i 9 with h | h
            · omega
            · have := hnb (by omega); omega
          have h9b : ((i : Int) + 1 == 10) = false := by rw [beq_eq_false_iff_ne]; omega
          have HC := Lib.hid hc128
          clear hnb hc128
          go_wp2
          go_round
          case rel => exact ⟨i + 1, by omega, by omega, by go_num, by rw [HUn.out, if_pos HC.out]; rfl⟩
          case measure => simp [intOf]; omega
        · have hc' : (x.toNat : Int) < 128 := by omega
          have HC := Lib.hid hc128
          clear hc128
          by_cases hz : x.toNat = 0 ∧ 0 < i
          · have HR9 : Hid (uvR m k = .no 1) := Lib.hid (uvR_bad (by rw [HUn.out, if_neg HC.out, if_pos hz]))
            obtain ⟨hz0, hz1⟩ := hz
            have hz0b : ((x.toNat : Int) == 0) = true := by rw [beq_iff_eq]; omega
            have hx1 : (x.toNat : Int) ≤ 1 := by omega
            clear hz0 hnb
            by_cases h9 : i = 9
            · have h9b : ((i : Int) + 1 == 10) = true := by rw [beq_iff_eq]; omega
              clear h9
              go_wp2
              go_ret3
              exact gtRet_no HR9.out
            · have h9b : ((i : Int) + 1 == 10) = false := by rw [beq_eq_false_iff_ne]; omega
              clear h9
              go_wp2
              go_ret3
              exact gtRet_no HR9.out
          · have HOK : Hid (uvScan 0 (m.drop k) = .ok (i + 1)) := Lib.hid (by rw [HUn.out, if_neg HC.out, if_neg hz])
            have hfit := uvVal_fits _ _ HOK.out
            have HFIT := Lib.hid hfit
            have hzz : (((x.toNat : Int) == 0) = false) ∨ (((x.toNat : Int) == 0) = true ∧ (i : Int) + 1 ≤ 1) := by
              by_cases h0 : x.toNat = 0
              · exact .inr ⟨by rw [beq_iff_eq]; omega, by
                  rcases Nat.eq_zero_or_pos i with h | h
                  · omega
                  · exact absurd ⟨h0, h⟩ hz⟩
              · exact .inl (by rw [beq_eq_false_iff_ne]; omega)
            have hb10 : (((i : Int) + 1 == 10) = false) ∨ (((i : Int) + 1 == 10) = true ∧ (x.toNat : Int) ≤ 1) := by
              by_cases h9 : i = 9
              · exact .inr ⟨by rw [beq_iff_eq]; omega, hnb h9⟩
              · exact .inl (by rw [beq_eq_false_iff_ne]; omega)
            clear hz hnb hfit
            have HR9 := Lib.hid (uvR_ok HOK.out)
            have hki1 : k + i < m.length := hlt
            rcases hzz with h0 | ⟨h0, hi0⟩ <;> rcases hb10 with hb | ⟨hb, hx1⟩
            all_goals try (exfalso; have hbb := beq_iff_eq.1 hb; omega)
            all_goals
              go_wp2
              go_loop [9, 10] (fun vv jv => GwRel m k (i + 1) vv jv) (fun _ jv => (intOf jv + 1).toNat)
              case atStart => exact ⟨i + 1, Nat.le_refl _, by go_num, by rw [List.drop_eq_nil_of_le (by rw [List.length_take]; omega)]; rfl⟩
              case round =>
                obtain ⟨j, hj, rfl, rfl⟩ := hrel
                cases j with
                | zero =>
                  go_wp2
                  go_ret3
                  rw [show (k : Int) + ((i : Int) + 1) = ((k + (i + 1) : Nat) : Int) from by omega]
                  exact gtRet_ok (val := fun v : Nat => Value.int .u64 (v : Int)) HR9.out
                | succ j =>
                  obtain ⟨a2, y, e2, hab2, hg2, hc2⟩ := at_byteG HX.out (k := k + j) (by omega)
                  cases e2
                  have hb2 := uvVal_back (n := i + 1) (by omega : j < i + 1) hg2
                  have hb3 := uvVal_mono ((m.drop k).take (i + 1)) j
                  have hb4 := HFIT.out
                  have hyl := y.toNat_lt
                  have HB2 := Lib.hid hb2
                  obtain ⟨V, hV⟩ : ∃ V, V = uvVal (((m.drop k).take (i + 1)).drop (j + 1)) := ⟨_, rfl⟩
                  rw [← hV] at hb2 ⊢
                  have hv1 : 128 * V + y.toNat % 128 < 18446744073709551616 := by omega
                  have HV := Lib.hid hV
                  rw [show (((j + 1 : Nat)) : Int) - 1 = (j : Int) from by omega]
                  clear hb2 hb3 hb4 hV hg2
                  go_wp2
                  go_round
                  case rel => exact ⟨j, by omega, by go_num, by rw [HB2.out, ← HV.out]; go_num⟩
                  case measure => simp [intOf]
    · have HR9 : Hid (uvR m k = .no 0) := Lib.hid (uvR_short (by rw [HS.out, uvScan_end i (by omega)]))
      go_wp2
      go_ret3
      exact gtRet_no HR9.out
end Go.Proofs.YtmdpfikalekmlaaGreatDoor
end
section
/- Layer 1, the reference: Uvarint and Text. -/
namespace Go.Proofs.YtmdpfikalekmlaaGreatDoor
open Go.RowKit
set_option maxRecDepth 100000
set_option maxHeartbeats 1000000
set_option linter.unusedSimpArgs false
set_option linter.unusedVariables false

def RuvRel (n : Nat) (w : World) (bv xv : Value) (wr : World) : Prop :=
  ∃ (m : Nat) (pre : List UInt8), xv = .int .u64 (m : Int) ∧ m ≤ n ∧ pre ++ uvL m = uvL n ∧ OwnB wr w.heap.size bv pre ∧ Below w.heap.size w wr
theorem rfuvarint_any (n : Nat) (w : World) (hn : n < 18446744073709551616) :
    Calls Tryz.prog 24 #[.int .u64 (n : Int)] w fun e w' => ∃ v, e = .returned v ∧ OwnB w' w.heap.size v (uvL n) ∧ Below w.heap.size w w' := by
  have HL := Lib.hid (uvL_len64 hn)
  go_enter Tryz.func24, Tryz.ntmps24
  go_wp2
  go_loopw [3, 0] (fun bv xv wr => RuvRel n w bv xv wr) (fun _ xv _ => (intOf xv).toNat)
  case atStart => exact ⟨n, [], rfl, Nat.le_refl _, rfl, OwnB.lit0 w (Nat.le_refl _), (Below.refl _ _).alloc (Nat.le_refl _) _⟩
  case round =>
    obtain ⟨m, pre, rfl, hm, hp, ho, hb⟩ := hrel
    have hpl : pre.length ≤ 10 := by have := HL.out; rw [← hp] at this; simp at this ⊢; omega
    have HO := Lib.hid ho
    have HP := Lib.hid hp
    have HB := Lib.hid hb
    have hsz := hb.size
    clear ho hp hb
    by_cases hs : m < 128
    · have HS := Lib.hid hs
      have hmm : (m : Int) % 256 = m := by omega
      go_wp2_with (at_builtin; refine OwnB.appendAt HO.out _ _ rfl _ _ rfl rfl rfl ?_ ?_ ?_ hsz ?_ ?_)
      all_goals first | omega | exact (World.size_alloc ..).symm | skip
      intro v' w' h2' h3' hk'
      have H2 := Lib.hid h2'
      have H3 := Lib.hid h3'
      clear h2' h3' hk'
      go_wp2
      go_ret
      refine ⟨v', rfl, ?_, HB.out.trans H3.out⟩
      have := H2.out
      rw [← HP.out, uvL_small HS.out]
      simpa using this
    · have HS := Lib.hid hs
      have h128 : 128 ≤ m := by omega
      go_wp2_with (at_builtin; refine OwnB.appendAt HO.out _ _ rfl _ _ rfl rfl rfl ?_ ?_ ?_ hsz ?_ ?_)
      all_goals first | omega | exact (World.size_alloc ..).symm | skip
      intro v' w' h2' h3' hk'
      have H2 := Lib.hid h2'
      have H3 := Lib.hid h3'
      clear h2' h3' hk'
      go_wp2
      go_roundw
      case rel =>
        refine ⟨m / 128, pre ++ [UInt8.ofNat (m % 128 + 128)], by simp, by omega, ?_, ?_, HB.out.trans H3.out⟩
        · rw [List.append_assoc, List.singleton_append, ← uvL_big HS.out, HP.out]
        · have := H2.out
          have e : (128 + (m : Int) % 128).toNat = m % 128 + 128 := by omega
          first | (rw [e] at this; exact this) | simpa [e] using this
      case measure => simp [intOf]; omega
end Go.Proofs.YtmdpfikalekmlaaGreatDoor
end
section
/- Layer 20, the reference: its table, Args, operands. -/
namespace Go.Proofs.YtmdpfikalekmlaaGreatDoor
open Go.RowKit
set_option maxRecDepth 100000
set_option maxHeartbeats 4000000
set_option linter.unusedSimpArgs false
set_option linter.unusedVariables false

def refCells : Array Value := (opTab.flatMap fun x => [Value.string ⟨x.1.toArray⟩, Value.int .i64 x.2]).toArray
theorem refCells_get : ∀ (o : Nat), o < 17 → refCells[o * 2]? = some (.string ⟨(opName o).toArray⟩) ∧ refCells[o * 2 + 1]? = some (.int .i64 (opArgs o))
  | 0, _ => ⟨rfl, rfl⟩
  | 1, _ => ⟨rfl, rfl⟩
  | 2, _ => ⟨rfl, rfl⟩
  | 3, _ => ⟨rfl, rfl⟩
  | 4, _ => ⟨rfl, rfl⟩
  | 5, _ => ⟨rfl, rfl⟩
  | 6, _ => ⟨rfl, rfl⟩
  | 7, _ => ⟨rfl, rfl⟩
  | 8, _ => ⟨rfl, rfl⟩
  | 9, _ => ⟨rfl, rfl⟩
  | 10, _ => ⟨rfl, rfl⟩
  | 11, _ => ⟨rfl, rfl⟩
  | 12, _ => ⟨rfl, rfl⟩
  | 13, _ => ⟨rfl, rfl⟩
  | 14, _ => ⟨rfl, rfl⟩
  | 15, _ => ⟨rfl, rfl⟩
  | 16, _ => ⟨rfl, rfl⟩
  | n + 17, h => absurd h (by omega)
theorem rtable_any (w : World) : Calls Tryz.prog 82 #[] w fun e w' => e = .returned (.slice (some ⟨w.heap.size, 0, none⟩) 17 17) ∧ w' = w.alloc (.cells refCells 150) := by
  go_enter Tryz.func82, Tryz.ntmps82
  go_wp2
  go_ret
  exact ⟨rfl, rfl⟩
theorem rargs_any (op : Int) (w : World) :
    Calls Tryz.prog 56 #[.int .i64 op] w fun e w' => Below w.heap.size w w' ∧ e = .returned (match argsN op with | none => .tuple #[.int .i64 0, .bool false] | some n => .tuple #[.int .i64 (n : Int), .bool true]) := by
  have hb : Below w.heap.size w (w.alloc (.cells refCells 150)) := (Below.refl _ _).alloc (Nat.le_refl _) _
  have HB := Lib.hid hb
  clear hb
  cases h : argsN op with
  | none =>
    have h2 := argsN_none h
    clear h
    by_cases hn : op < 0
    · go_enter Tryz.func56, Tryz.ntmps56
      go_wp2_with fail
      refine (rtable_any w).mono ?_
      rintro e w1 ⟨rfl, hw1⟩
      have HB1 : Hid (Below w.heap.size w w1) := Lib.hid (by rw [hw1]; exact HB.out)
      clear hw1
      go_wp2
      go_ret2
      exact ⟨HB1.out, rfl⟩
    · have h17 : 17 ≤ op := by omega
      go_enter Tryz.func56, Tryz.ntmps56
      go_wp2_with fail
      refine (rtable_any w).mono ?_
      rintro e w1 ⟨rfl, hw1⟩
      have HB1 : Hid (Below w.heap.size w w1) := Lib.hid (by rw [hw1]; exact HB.out)
      clear hw1
      go_wp2
      go_ret2
      exact ⟨HB1.out, rfl⟩
  | some n =>
    obtain ⟨h0, h1, h2, h3⟩ := argsN_some h
    obtain ⟨o, rfl⟩ : ∃ o : Nat, op = (o : Int) := ⟨op.toNat, by omega⟩
    have HO : Hid (opArgs o = (n : Int)) := Lib.hid (by rw [← h2]; rfl)
    clear h h2
    go_enter Tryz.func56, Tryz.ntmps56
    go_wp2_with fail
    refine (rtable_any w).mono ?_
    rintro e w1 ⟨rfl, hw1⟩
    have HB1 : Hid (Below w.heap.size w w1) := Lib.hid (by rw [hw1]; exact HB.out)
    have c1 : w1.cell? ⟨w.heap.size, o * 2 + 1, none⟩ = some (.int .i64 (n : Int)) := by rw [hw1, World.cell?_alloc_new, ← HO.out]; exact (refCells_get o (by omega)).2
    clear hw1
    go_wp2
    go_ret2
    exact ⟨HB1.out, rfl⟩
theorem operands_any (x : Ins) (w : World) :
    Calls Tryz.prog 23 #[.agg #[.int .i64 x.op, .int .u64 (x.a : Int), .int .u64 (x.b : Int)]] w fun e w' => Below w.heap.size w w' ∧
      ((insOk x = false ∧ e = .returned (.tuple #[.slice none 0 0, .bool false])) ∨ (insOk x = true ∧ ∃ n g, argsN x.op = some n ∧ e = .returned (.tuple #[.slice (some ⟨g, 0, none⟩) n 2, .bool true]) ∧ w.heap.size ≤ g ∧ Blk w' g 41 #[.int .u64 (x.a : Int), .int .u64 (x.b : Int)])) := by
  obtain ⟨op, a, b⟩ := x
  have hb0 : Below w.heap.size w (w.alloc (.cells #[.int .i64 op, .int .u64 (a : Int), .int .u64 (b : Int)] 43)) := (Below.refl _ _).alloc (Nat.le_refl _) _
  have HB0 := Lib.hid hb0
  clear hb0
  go_enter Tryz.func23, Tryz.ntmps23
  go_wp2_with fail
  refine (rargs_any op _).mono ?_
  rintro e w1 ⟨hb1, he⟩
  have hfb := (Blk.new w 43 #[.int .i64 op, .int .u64 (a : Int), .int .u64 (b : Int)]).belowW hb1
  have c1 := hfb.cell 1
  have c2 := hfb.cell 2
  simp only [List.getElem?_toArray, List.getElem?_cons_zero, List.getElem?_cons_succ] at c1 c2
  have HB1 := Lib.hid (HB0.out.trans (hb1.mono (by rw [World.size_alloc]; omega)))
  have hsz := HB1.out.size
  clear hb1 hfb
  cases ha : argsN op with
  | none =>
    rw [ha] at he
    subst he
    have HI := Lib.hid (insOk_none (x := ⟨op, a, b⟩) ha)
    clear ha
    go_wp2
    go_ret2
    exact ⟨HB1.out, .inl ⟨HI.out, rfl⟩⟩
  | some n =>
    rw [ha] at he
    subst he
    have hn2 := (argsN_some ha).2.2.2
    have HI := Lib.hid (insOk_some (x := ⟨op, a, b⟩) ha)
    have HA := Lib.hid ha
    clear ha
    have hbad : (insOk ⟨op, a, b⟩ = false ∧ ((n = 0 ∧ a ≠ 0) ∨ ((n = 0 ∧ a = 0 ∨ n = 1) ∧ b ≠ 0))) ∨ (insOk ⟨op, a, b⟩ = true ∧ ((n = 0 ∧ a = 0 ∧ b = 0) ∨ (n = 1 ∧ b = 0) ∨ n = 2)) := by
      rw [HI.out]
      simp only []
      rcases Nat.lt_or_ge n 1 with h | h
      · obtain rfl : n = 0 := by omega
        by_cases h1 : a = 0 <;> by_cases h2 : b = 0 <;> simp [h1, h2]
      · rcases Nat.lt_or_ge n 2 with h' | h'
        · obtain rfl : n = 1 := by omega
          by_cases h2 : b = 0 <;> simp [h2]
        · obtain rfl : n = 2 := by omega
          simp
    rcases hbad with ⟨hi, hc⟩ | ⟨hi, hc⟩
    · have HII := Lib.hid hi
      clear hi
      rcases hc with ⟨rfl, hane⟩ | ⟨⟨rfl, rfl⟩ | rfl, hbne⟩
      · have hx : ((a : Int) == 0) = false := by rw [beq_eq_false_iff_ne]; omega
        clear hane
        go_wp2
        go_ret2
        exact ⟨HB1.out, .inl ⟨HII.out, rfl⟩⟩
      · have hx : ((b : Int) == 0) = false := by rw [beq_eq_false_iff_ne]; omega
        clear hbne
        go_wp2
        go_ret2
        exact ⟨HB1.out, .inl ⟨HII.out, rfl⟩⟩
      · have hx : ((b : Int) == 0) = false := by rw [beq_eq_false_iff_ne]; omega
        clear hbne
        go_wp2
        go_ret2
        exact ⟨HB1.out, .inl ⟨HII.out, rfl⟩⟩
    · have HII := Lib.hid hi
      clear hi
      rcases hc with ⟨rfl, rfl, rfl⟩ | ⟨rfl, rfl⟩ | rfl
      all_goals
        go_wp2
        go_ret2
        refine ⟨HB1.out.alloc hsz _, .inr ⟨HII.out, _, w1.heap.size, HA.out, rfl, hsz, Blk.new w1 _ _⟩⟩
end Go.Proofs.YtmdpfikalekmlaaGreatDoor
end
