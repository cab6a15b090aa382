/- Merged for a claim by shake.py: Uf Ug -/
import Derived.Test.YthcldpminmhgkaaDoorKxA
import Derived.Test.YthcldpminmhgkaaDoorKx14
import Derived.Test.YthcldpminmhgkaaDoorKx8
set_option maxRecDepth 100000
set_option maxHeartbeats 8000000
set_option linter.unusedSimpArgs false
set_option linter.unusedVariables false
section
namespace Go.Proofs.YthcldpminmhgkaaDoor
open Go.RowKit
theorem Blk.pb {pb g : Nat} {w w' : World} {t : TypeId} {cs : Array Value} (h : Blk w g t cs) (hb : PB pb w w') (hne : g ≠ pb) : Blk w' g t cs := by
 have hlt := h.lt
 unfold Blk at h ⊢
 rw [hb.keep g hlt hne]; exact h
theorem side_at {t : Lt} {i : Bool} {bd : Bd} (h : bd = sideN t i) (w : World) : Calls Tryd.prog 112 #[ltVal t, .bool i] w fun e w' => e = .returned (.agg #[.bool bd.open_, .bool bd.in_, .string (str bd.text)]) ∧ Below w.heap.size w w' := by
 subst h; exact pside_any t i w
theorem PtRet.span {pb : Nat} {A : Option Addr} {cap k k2 : Nat} {ts : List Lt} {v : List (Int × Nd)} {w W : World} {f : List UInt8} {lo hi : Bd} (hp : pb < w.heap.size) (hb : PB pb w W) (hs : PsAt W pb A cap ts k2) (hk : k2 = k) (hv : v = [(0, .mk 6 f [] 0 lo hi [] [])]) : PtRet pb A cap ts k v w (.returned (NV.val ⟨6, f, [], 0, lo, hi, ⟨none, 0, 0⟩, ⟨none, 0, 0⟩⟩)) (set12 W w.heap.size ⟨6, f, [], 0, lo, hi, ⟨none, 0, 0⟩, ⟨none, 0, 0⟩⟩) := by
 subst hk
 exact ⟨hb.set12 (Nat.le_of_lt hp) (Nat.le_refl _), hs.set12 hp, _, _, rfl, hv, .mk (RdF.nil _ _ _) (RdF.nil _ _ _) rfl fun i x t hx _ => by simp at hx⟩
theorem pleaf_span (w : World) (pb : Nat) (PA : Option Addr) (cap : Nat) (ts : List Lt) (k : Nat) (f : List UInt8) (a b c d e : Lt) (post : List Lt) (h : PsAt w pb PA cap ts k) (hok : TkOk ts) (hd : ts.drop k = [a, b, c, d, e] ++ post) (ha : a.kind = 10 ∨ a.kind = 12) :
  Calls Tryd.prog 100 #[.pointer (some ⟨pb, 0, none⟩), .string (str f)] w (PtRet pb PA cap ts (k + 5) [(0, .mk 6 f [] 0 (sideN b (decide (a.kind = 10))) (sideN d (decide (e.kind = 11))) [] [])] w) := by
 have h0 : ts[k]? = some a := tk_at (j := 0) hd rfl
 have h1 : ts[k + 1]? = some b := tk_at (j := 1) hd rfl
 have h2 : ts[k + 2]? = some c := tk_at (j := 2) hd rfl
 have h3 : ts[k + 3]? = some d := tk_at (j := 3) hd rfl
 have h4 : ts[k + 4]? = some e := tk_at (j := 4) hd rfl
 obtain ⟨lo, hlo⟩ : ∃ lo, lo = sideN b (decide (a.kind = 10)) := ⟨_, rfl⟩
 obtain ⟨hi, hhi⟩ : ∃ hi, hi = sideN d (decide (e.kind = 11)) := ⟨_, rfl⟩
 rw [← hlo, ← hhi]
 obtain ⟨bl, hbl⟩ : ∃ bl, bl = decide (a.kind = 10) := ⟨_, rfl⟩
 obtain ⟨bh, hbh⟩ : ∃ bh, bh = decide (e.kind = 11) := ⟨_, rfl⟩
 rw [← hbl] at hlo
 rw [← hbh] at hhi
 have HLO := LH (fun W => side_at hlo W); have HHI0 := LH (fun W => side_at hhi W)
 have e10 : ((a.kind : Int) == 10) = bl := by rw [hbl]; rfl
 have e11 : ((e.kind : Int) == 11) = bh := by rw [hbh]; rfl
 have e1 : ((a.kind : Int) == 1) = false := by rcases ha with h | h <;> rw [h] <;> rfl
 have e3 : ((a.kind : Int) == 3) = false := by rcases ha with h | h <;> rw [h] <;> rfl
 have e2 : ((a.kind : Int) == 2) = false := by rcases ha with h | h <;> rw [h] <;> rfl
 clear hlo hhi hbl hbh hd ha
 obtain ⟨tk, tx, tn, ta, te⟩ := a
 obtain ⟨ek, ex, en, ea, ee⟩ := e
 obtain ⟨dk, dx, dn, da, de⟩ := d
 simp only [] at e10 e11 e1 e2 e3
 have HHI := LH (fun (W : World) => show Calls Tryd.prog 112 #[.agg #[.int .i64 dk, .string (str dx), .int .i64 dn, .int .i64 da, .int .i64 de], .bool bh] W fun e w' => e = .returned (.agg #[.bool hi.open_, .bool hi.in_, .string (str hi.text)]) ∧ Below W.heap.size W w' from HHI0.out W)
 clear HHI0
 have hfd := fun (W : World) => field_lex0 ek (str ex) en ea ee W
 have HLT := LH h.lt
 have hl : ts.length ≤ 920000000000 := by have := hok.1; omega
 have HA1 := LH (h.alloc zO)
 have HZ1 := LH (Blk.new w 27 zA)
 have HB1 := LH (PB.of (pb := pb) ((Below.refl w.heap.size w).alloc (Nat.le_refl _) zO) (Nat.le_of_lt h.lt))
 clear h
 go_enter Tryd.func100, Tryd.ntmps100
 go_wp2_with fail
 generalize w.alloc zO = w1 at *
 refine (pnext_at HA1.out h0 hl).mono ?_
 rintro e w2 ⟨rfl, hb2, hp2⟩
 have HB2 := LH (HB1.out.trans hb2)
 have HZ2 := LH (show Blk w2 w.heap.size 27 zA from by
  have h := HZ1.out
  unfold Blk at h ⊢
  rw [hb2.keep w.heap.size HZ1.out.lt (by have := HLT.out; omega)]; exact h)
 have HP2 := LH hp2
 unfold ltVal
 simp only []
 clear hb2 hp2
 have HB3 := LH (HB2.out.alloc (Nat.le_of_lt HLT.out) (.cells #[.int .i64 tk, .string (str tx), .int .i64 tn, .int .i64 ta, .int .i64 te] 74))
 have HZ3 := LH (HZ2.out.alloc (.cells #[.int .i64 tk, .string (str tx), .int .i64 tn, .int .i64 ta, .int .i64 te] 74))
 have HP3 := LH (HP2.out.alloc (.cells #[.int .i64 tk, .string (str tx), .int .i64 tn, .int .i64 ta, .int .i64 te] 74))
 have HT3 := LH (Blk.new w2 74 #[.int .i64 tk, .string (str tx), .int .i64 tn, .int .i64 ta, .int .i64 te])
 have HNE := LH (show w2.heap.size ≠ pb from by have := HP2.out.lt; omega)
 go_upto_region 2 with (fail)
 generalize w2.alloc (.cells #[.int .i64 tk, .string (str tx), .int .i64 tn, .int .i64 ta, .int .i64 te] 74) = w3 at *
 have t0 := HT3.out.cell 0; have t1 := HT3.out.cell 1; have lt3 := HT3.out.lt
 simp only [List.getElem?_toArray, List.getElem?_cons_zero, List.getElem?_cons_succ] at t0 t1
 have HB4 := LH (HB3.out.alloc (Nat.le_of_lt HLT.out) (.cells #[.int .i64 6, .string (str f), .string ⟨#[]⟩, .int .i64 0, .bool false, .bool false, .string ⟨#[]⟩, .bool false, .bool false, .string ⟨#[]⟩, .slice none 0 0, .slice none 0 0] 27))
 have HZ4 := LH (HZ3.out.alloc (.cells #[.int .i64 6, .string (str f), .string ⟨#[]⟩, .int .i64 0, .bool false, .bool false, .string ⟨#[]⟩, .bool false, .bool false, .string ⟨#[]⟩, .slice none 0 0, .slice none 0 0] 27))
 have HP4 := LH (HP3.out.alloc (.cells #[.int .i64 6, .string (str f), .string ⟨#[]⟩, .int .i64 0, .bool false, .bool false, .string ⟨#[]⟩, .bool false, .bool false, .string ⟨#[]⟩, .slice none 0 0, .slice none 0 0] 27))
 have HT4 := LH (HT3.out.alloc (.cells #[.int .i64 6, .string (str f), .string ⟨#[]⟩, .int .i64 0, .bool false, .bool false, .string ⟨#[]⟩, .bool false, .bool false, .string ⟨#[]⟩, .slice none 0 0, .slice none 0 0] 27))
 have HX4 := LH (Blk.new w3 27 #[.int .i64 6, .string (str f), .string ⟨#[]⟩, .int .i64 0, .bool false, .bool false, .string ⟨#[]⟩, .bool false, .bool false, .string ⟨#[]⟩, .slice none 0 0, .slice none 0 0])
 have HX8 := LH (show w.heap.size < w3.heap.size from HZ3.out.lt)
 have HXP := LH (show pb < w3.heap.size from HP3.out.lt)
 have HXT := LH (show w2.heap.size < w3.heap.size from HT3.out.lt)
 go_upto_region 18 with (fail)
 generalize w3.alloc (.cells #[.int .i64 6, .string (str f), .string ⟨#[]⟩, .int .i64 0, .bool false, .bool false, .string ⟨#[]⟩, .bool false, .bool false, .string ⟨#[]⟩, .slice none 0 0, .slice none 0 0] 27) = w4 at *
 clear t0 t1 lt3
 have t0 : w4.cell? ⟨w2.heap.size, 0, none⟩ = some (.int .i64 tk) := HT4.out.cell 0
 have HN4 := LH (pnext_at HP4.out.drew h1 hl)
 have HT4d := LH (HT4.out.drew)
 go_region_law (first
  | (go_simp; go_at_call 92; refine HN4.out.mono ?_; (rintro e w5 ⟨rfl, hb5, hp5⟩); (have t05 : w5.cell? ⟨w2.heap.size, 0, none⟩ = some (.int .i64 tk) := (HT4d.out.pb hb5 HNE.out).cell 0))
  | (go_simp; go_at_call 112; refine (HLO.out _).mono ?_; (rintro e w6 ⟨rfl, hb6⟩); (have hx6 := ((HX4.out.drew).pb hb5 (by have := HXP.out; omega)).belowW hb6); (have xf4 := hx6.frozen 4); (have xf5 := hx6.frozen 5); (have xf6 := hx6.frozen 6); (have x4 := hx6.cell 4); (have x5 := hx6.cell 5); (have x6 := hx6.cell 6); (have lx6 := hx6.lt); (simp only [List.getElem?_toArray, List.getElem?_cons_zero, List.getElem?_cons_succ] at x4 x5 x6); clear hx6))
 all_goals
  have HB5 := LH ((HB4.out.drew.trans hb5).trans (PB.of hb6 (Nat.le_of_lt hp5.lt)))
  have HP6 := LH (hp5.belowW hb6)
  have HZ6 := LH (((HZ4.out.drew).pb hb5 (by have := HLT.out; omega)).belowW hb6)
  have HX6 := LH (((HX4.out.drew).pb hb5 (by have := HXP.out; omega)).belowW hb6)
  clear hb5 hp5 hb6 t0 t05 x4 x5 x6 xf4 xf5 xf6 lx6
  have HB7 := LH (((HB5.out.new (z := w3.heap.size) (i := 4) (u := .bool lo.open_) (Nat.le_of_lt HLT.out) (Nat.le_of_lt HX8.out)).new (z := w3.heap.size) (i := 5) (u := .bool lo.in_) (Nat.le_of_lt HLT.out) (Nat.le_of_lt HX8.out)).new (z := w3.heap.size) (i := 6) (u := .string (str lo.text)) (Nat.le_of_lt HLT.out) (Nat.le_of_lt HX8.out))
  have HP7 := LH (((HP6.out.far (z := w3.heap.size) (i := 4) (u := .bool lo.open_) HXP.out).far (z := w3.heap.size) (i := 5) (u := .bool lo.in_) HXP.out).far (z := w3.heap.size) (i := 6) (u := .string (str lo.text)) HXP.out)
  have hzx : w.heap.size ≠ w3.heap.size := by have := HX8.out; omega
  have HZ7 := LH (((HZ6.out.far (p := ⟨w3.heap.size, 4, none⟩) hzx (.bool lo.open_)).far (p := ⟨w3.heap.size, 5, none⟩) hzx (.bool lo.in_)).far (p := ⟨w3.heap.size, 6, none⟩) hzx (.string (str lo.text)))
  have HX7 := LH (show Blk (((w6.setCell ⟨w3.heap.size, 4, none⟩ (.bool lo.open_)).setCell ⟨w3.heap.size, 5, none⟩ (.bool lo.in_)).setCell ⟨w3.heap.size, 6, none⟩ (.string (str lo.text))) w3.heap.size 27 #[.int .i64 6, .string (str f), .string ⟨#[]⟩, .int .i64 0, .bool lo.open_, .bool lo.in_, .string (str lo.text), .bool false, .bool false, .string ⟨#[]⟩, .slice none 0 0, .slice none 0 0] from ((HX6.out.set_ 4 _).set_ 5 _).set_ 6 _)
  go_upto_region 19 with (fail)
  generalize ((w6.setCell ⟨w3.heap.size, 4, none⟩ (.bool lo.open_)).setCell ⟨w3.heap.size, 5, none⟩ (.bool lo.in_)).setCell ⟨w3.heap.size, 6, none⟩ (.string (str lo.text)) = w7 at *
  have c1 := HP7.out.blk.cell 1; have lp := HP7.out.lt; have fp1 := HP7.out.blk.frozen 1
  simp only [List.getElem?_toArray, List.getElem?_cons_zero, List.getElem?_cons_succ] at c1
  have hwk : IntKind.i64.wrap (((k + 1 + 1 : Nat) : Int) + 1) = ((k + 1 + 1 : Nat) : Int) + 1 := IntWalk.i64_in _ (by have := (List.getElem?_eq_some_iff.1 h4).1; omega)
  have hkb : k + 4 < ts.length := (List.getElem?_eq_some_iff.1 h4).1
  have hcast : ((k + 3 : Nat) : Int) = (k : Int) + 1 + 1 + 1 := by omega
  have HP8 := LH (show PsAt (w7.setCell ⟨pb, 1, none⟩ (.int .i64 ((k : Int) + 1 + 1 + 1))) pb PA cap ts (k + 3) from by rw [← hcast]; exact HP7.out.to (k + 3))
  have HB8 := LH (show PB pb w (w7.setCell ⟨pb, 1, none⟩ (.int .i64 ((k : Int) + 1 + 1 + 1))) from HB7.out.trans (PB.set_ 1 _))
  have HZ8 := LH (HZ7.out.far (p := ⟨pb, 1, none⟩) (by show w.heap.size ≠ pb; have := HLT.out; omega) (.int .i64 ((k : Int) + 1 + 1 + 1)))
  have HX8b := LH (HX7.out.far (p := ⟨pb, 1, none⟩) (by show w3.heap.size ≠ pb; have := HXP.out; omega) (.int .i64 ((k : Int) + 1 + 1 + 1)))
  clear hcast
  go_upto_region 20 with (fail)
  clear c1 lp fp1 hwk hzx
  generalize w7.setCell ⟨pb, 1, none⟩ (.int .i64 ((k : Int) + 1 + 1 + 1)) = w8 at *
  have HN8 := LH (show Calls Tryd.prog 92 #[.pointer (some ⟨pb, 0, none⟩)] w8 (fun e w' => e = .returned (.agg #[.int .i64 dk, .string (str dx), .int .i64 dn, .int .i64 da, .int .i64 de]) ∧ PB pb w8 w' ∧ PsAt w' pb PA cap ts (k + 3 + 1)) from pnext_at HP8.out h3 hl)
  go_wp2_with fail
  refine HN8.out.mono ?_
  rintro e w9 ⟨rfl, hb9, hp9⟩
  have HX9 := LH (HX8b.out.pb hb9 (by have := HXP.out; omega))
  have HZ9 := LH (HZ8.out.pb hb9 (by have := HLT.out; omega))
  have HB9 := LH ((HB8.out.trans hb9).alloc (Nat.le_of_lt HLT.out) (.cells #[.int .i64 dk, .string (str dx), .int .i64 dn, .int .i64 da, .int .i64 de] 74))
  have HP9 := LH (hp9.alloc (.cells #[.int .i64 dk, .string (str dx), .int .i64 dn, .int .i64 da, .int .i64 de] 74))
  have HX9a := LH (HX9.out.alloc (.cells #[.int .i64 dk, .string (str dx), .int .i64 dn, .int .i64 da, .int .i64 de] 74))
  have HZ9a := LH (HZ9.out.alloc (.cells #[.int .i64 dk, .string (str dx), .int .i64 dn, .int .i64 da, .int .i64 de] 74))
  have HT9 := LH (Blk.new w9 74 #[.int .i64 dk, .string (str dx), .int .i64 dn, .int .i64 da, .int .i64 de])
  have HNT9 := LH (show w9.heap.size ≠ pb from by have := hp9.lt; omega)
  clear hb9 hp9
  go_upto_region 21 with (fail)
  generalize w9.alloc (.cells #[.int .i64 dk, .string (str dx), .int .i64 dn, .int .i64 da, .int .i64 de] 74) = wa at *
  have u0 : wa.cell? ⟨w9.heap.size, 0, none⟩ = some (.int .i64 dk) := HT9.out.cell 0
  have u1 : wa.cell? ⟨w9.heap.size, 1, none⟩ = some (.string (str dx)) := HT9.out.cell 1
  have u2 : wa.cell? ⟨w9.heap.size, 2, none⟩ = some (.int .i64 dn) := HT9.out.cell 2
  have u3 : wa.cell? ⟨w9.heap.size, 3, none⟩ = some (.int .i64 da) := HT9.out.cell 3
  have u4 : wa.cell? ⟨w9.heap.size, 4, none⟩ = some (.int .i64 de) := HT9.out.cell 4
  have HT9d := LH (HT9.out.drew)
  have HNa := LH (show Calls Tryd.prog 92 #[.pointer (some ⟨pb, 0, none⟩)] wa.drew (fun e w' => e = .returned (.agg #[.int .i64 ek, .string (str ex), .int .i64 en, .int .i64 ea, .int .i64 ee]) ∧ PB pb wa.drew w' ∧ PsAt w' pb PA cap ts (k + 3 + 1 + 1)) from pnext_at HP9.out.drew h4 hl)
  go_region_law (first
   | (go_simp; go_at_call 92; refine HNa.out.mono ?_; (rintro e wb ⟨rfl, hbb, hpb⟩); (have v0 : wb.cell? ⟨w9.heap.size, 0, none⟩ = some (.int .i64 dk) := (HT9d.out.pb hbb HNT9.out).cell 0); (have v1 : wb.cell? ⟨w9.heap.size, 1, none⟩ = some (.string (str dx)) := (HT9d.out.pb hbb HNT9.out).cell 1); (have v2 : wb.cell? ⟨w9.heap.size, 2, none⟩ = some (.int .i64 dn) := (HT9d.out.pb hbb HNT9.out).cell 2); (have v3 : wb.cell? ⟨w9.heap.size, 3, none⟩ = some (.int .i64 da) := (HT9d.out.pb hbb HNT9.out).cell 3); (have v4 : wb.cell? ⟨w9.heap.size, 4, none⟩ = some (.int .i64 de) := (HT9d.out.pb hbb HNT9.out).cell 4))
   | (go_simp; go_at_call 112; refine (HHI.out _).mono ?_; (rintro e wc ⟨rfl, hbc⟩); (have hx6 := ((HX9a.out.drew).pb hbb (by have := HXP.out; omega)).belowW hbc); (have xf7 := hx6.frozen 7); (have xf8 := hx6.frozen 8); (have xf9 := hx6.frozen 9); (have x7 := hx6.cell 7); (have x8 := hx6.cell 8); (have x9 := hx6.cell 9); (have lx6 := hx6.lt); (simp only [List.getElem?_toArray, List.getElem?_cons_zero, List.getElem?_cons_succ] at x7 x8 x9); clear hx6))
  all_goals
   have HBc := LH ((HB9.out.drew.trans hbb).trans (PB.of hbc (Nat.le_of_lt hpb.lt)))
   have HPc := LH (hpb.belowW hbc)
   have HZc := LH (((HZ9a.out.drew).pb hbb (by have := HLT.out; omega)).belowW hbc)
   have HXc := LH (((HX9a.out.drew).pb hbb (by have := HXP.out; omega)).belowW hbc)
   clear hbb hpb hbc u0 u1 u2 u3 u4 v0 v1 v2 v3 v4 x7 x8 x9 xf7 xf8 xf9 lx6
   have hzx : w.heap.size ≠ w3.heap.size := by have := HX8.out; omega
   have HBd := LH (((HBc.out.new (z := w3.heap.size) (i := 7) (u := .bool hi.open_) (Nat.le_of_lt HLT.out) (Nat.le_of_lt HX8.out)).new (z := w3.heap.size) (i := 8) (u := .bool hi.in_) (Nat.le_of_lt HLT.out) (Nat.le_of_lt HX8.out)).new (z := w3.heap.size) (i := 9) (u := .string (str hi.text)) (Nat.le_of_lt HLT.out) (Nat.le_of_lt HX8.out))
   have HPd := LH (((HPc.out.far (z := w3.heap.size) (i := 7) (u := .bool hi.open_) HXP.out).far (z := w3.heap.size) (i := 8) (u := .bool hi.in_) HXP.out).far (z := w3.heap.size) (i := 9) (u := .string (str hi.text)) HXP.out)
   have HZd := LH (((HZc.out.far (p := ⟨w3.heap.size, 7, none⟩) hzx (.bool hi.open_)).far (p := ⟨w3.heap.size, 8, none⟩) hzx (.bool hi.in_)).far (p := ⟨w3.heap.size, 9, none⟩) hzx (.string (str hi.text)))
   have HXd := LH (show Blk (((wc.setCell ⟨w3.heap.size, 7, none⟩ (.bool hi.open_)).setCell ⟨w3.heap.size, 8, none⟩ (.bool hi.in_)).setCell ⟨w3.heap.size, 9, none⟩ (.string (str hi.text))) w3.heap.size 27 #[.int .i64 6, .string (str f), .string ⟨#[]⟩, .int .i64 0, .bool lo.open_, .bool lo.in_, .string (str lo.text), .bool hi.open_, .bool hi.in_, .string (str hi.text), .slice none 0 0, .slice none 0 0] from ((HXc.out.set_ 7 _).set_ 8 _).set_ 9 _)
   go_upto_region 22 with (fail)
   clear hzx
   generalize ((wc.setCell ⟨w3.heap.size, 7, none⟩ (.bool hi.open_)).setCell ⟨w3.heap.size, 8, none⟩ (.bool hi.in_)).setCell ⟨w3.heap.size, 9, none⟩ (.string (str hi.text)) = wd at *
   have hxx := HXd.out
   obtain ⟨x0, x1, x2, x3, x4, x5, x6, x7, x8, x9, x10, x11, -, -, -, -, -, -, -, -, -, -, -, -, lx⟩ := blk12 hxx
   clear hxx
   have hzz := HZd.out
   obtain ⟨z0, z1, z2, z3, z4, z5, z6, z7, z8, z9, z10, z11, fz0, fz1, fz2, fz3, fz4, fz5, fz6, fz7, fz8, fz9, fz10, fz11, lz⟩ := blk12 hzz
   clear hzz
   go_wp2
   refine bodyPost_ret (v := NV.val ⟨6, f, [], 0, lo, hi, ⟨none, 0, 0⟩, ⟨none, 0, 0⟩⟩) ?_ rfl ?_
   ·simp [results, Tryd.results100, go_sem, NV.val, nvLeaf, bd0, str, lz, fz0, fz1, fz2, fz3, fz4, fz5, fz6, fz7, fz8, fz9, fz10, fz11, z0, z1, z2, z3, z4, z5, z6, z7, z8, z9, z10, z11]
   ·exact PtRet.span HLT.out HBd.out HPd.out rfl rfl
def Hd (post : List Lt) (ks : List Int) : Prop := ∃ p r, post = p :: r ∧ p.kind ∉ ks
theorem Hd.less {post : List Lt} {a b : List Int} (h : Hd post a) (hb : ∀ x ∈ b, x ∈ a) : Hd post b := by
 obtain ⟨p, r, e, hp⟩ := h
 exact ⟨p, r, e, fun hm => hp (hb _ hm)⟩
def LsRet (pb : Nat) (A : Option Addr) (cap : Nat) (ts : List Lt) (k : Nat) (v : List (Int × Nd)) (w : World) (e : Ending) (w' : World) : Prop :=
 PB pb w w' ∧ PsAt w' pb A cap ts k ∧ ∃ (sk so : Sl) (nl : List NV), e = .returned (.tuple #[.slice sk.a sk.n sk.c, .slice so.a so.n so.c]) ∧
  RdF ndS w' (rng w.heap.size w'.heap.size) sk nl ∧ RdF folS w' (rng w.heap.size w'.heap.size) so (v.map (·.1)) ∧ NdRs w' (rng w.heap.size w'.heap.size) nl (v.map (·.2))
section
variable (pb : Nat) (PA : Option Addr) (cap : Nat) (ts : List Lt) (M : Nat)
def LsOk : Prop := ∀ (A : List Lt) (n : Nat) (v : Vl), D .list A n v → A.length < M → ∀ (w : World) (k : Nat) (f : List UInt8) (post : List Lt), ts.drop k = A ++ post → (∃ p r, post = p :: r ∧ (p.kind = 0 ∨ p.kind = 9)) → PsAt w pb PA cap ts k →
 Calls Tryd.prog 45 #[.pointer (some ⟨pb, 0, none⟩), .string (str f)] w (LsRet pb PA cap ts (k + A.length) (v f) w)
def AtOk : Prop := ∀ (A : List Lt) (n : Nat) (v : Vl), D .atom A n v → A.length < M → ∀ (w : World) (k : Nat) (f : List UInt8) (post : List Lt), ts.drop k = A ++ post → Hd post [14, 20, 21] → PsAt w pb PA cap ts k →
 Calls Tryd.prog 91 #[.pointer (some ⟨pb, 0, none⟩), .string (str f)] w (PtRet pb PA cap ts (k + A.length) (v f) w)
def UnOk : Prop := ∀ (A : List Lt) (n : Nat) (v : Vl), D .unary A n v → A.length < M → ∀ (w : World) (k : Nat) (f : List UInt8) (post : List Lt), ts.drop k = A ++ post → Hd post [14, 20, 21, 18, 19] → PsAt w pb PA cap ts k →
 Calls Tryd.prog 66 #[.pointer (some ⟨pb, 0, none⟩), .string (str f)] w (PtRet pb PA cap ts (k + A.length) (v f) w)
def rwP : Nat → Pt
 | 0 => .ors | 1 => .ands | 2 => .maxes | _ => .unary
def rwK : Nat → List Int
 | 0 => [14, 20, 21, 18, 19, 17, 4, 5] | 1 => [14, 20, 21, 18, 19, 17, 4] | 2 => [14, 20, 21, 18, 19, 17] | _ => [14, 20, 21, 18, 19]
def rwW : Nat → List (Int × Nd) → List (Int × Nd)
 | 0 => wrapN 11 | 1 => wrapN 10 | 2 => wrapN 12 | _ => id
def RwOk (j : Nat) : Prop := ∀ (A : List Lt) (n : Nat) (v : Vl), D (rwP j) A n v → A.length < M → ∀ (w : World) (k : Nat) (f : List UInt8) (post : List Lt), ts.drop k = A ++ post → Hd post (rwK j) → PsAt w pb PA cap ts k →
 Calls Tryd.prog 67 #[.pointer (some ⟨pb, 0, none⟩), .string (str f), .int .i64 (j : Int)] w (PtRet pb PA cap ts (k + A.length) (rwW j (v f)) w)
end
theorem pleaf_any {pb : Nat} {PA : Option Addr} {cap : Nat} {ts : List Lt} {A : List Lt} {n : Nat} {v : Vl} (hD : D .leaf A n v) (hok : TkOk ts) (w : World) (k : Nat) (f : List UInt8) (post : List Lt) (hd : ts.drop k = A ++ post) (hp : Hd post [14, 20, 21]) (h : PsAt w pb PA cap ts k) :
  Calls Tryd.prog 100 #[.pointer (some ⟨pb, 0, none⟩), .string (str f)] w (PtRet pb PA cap ts (k + A.length) (v f) w) := by
 have hp0 : ∃ p r, post = p :: r ∧ p.kind ≠ 20 := by
  obtain ⟨p, r, e, hp⟩ := hp
  exact ⟨p, r, e, fun h => hp (by rw [h]; decide)⟩
 cases hD with
 | word h1 => exact pleaf_word w pb PA cap ts k f _ post h hok hd h1 hp0
 | edits h1 h2 h3 => exact pleaf_edits w pb PA cap ts k f _ _ post h hok hd h1 h2
 | pat h1 => exact pleaf_pat w pb PA cap ts k f _ post h hok hd h1
 | quo h1 => exact pleaf_quo w pb PA cap ts k f _ post h hok hd h1 hp0
 | slop h1 h2 h3 => exact pleaf_slop w pb PA cap ts k f _ _ post h hok hd h1 h2
 | span h1 h2 h3 h4 h5 => exact pleaf_span w pb PA cap ts k f _ _ _ _ _ post h hok hd h1
theorem leaf_hd {A : List Lt} {n : Nat} {v : Vl} (hD : D .leaf A n v) : ∃ t r, A = t :: r ∧ t.kind ≠ 8 ∧ ∀ u s, r = u :: s → u.kind ≠ 14 := by
 cases hD with
 | word h1 => exact ⟨_, _, rfl, by omega, fun u s h => by cases h⟩
 | edits h1 h2 h3 => exact ⟨_, _, rfl, by omega, fun u s h => by cases h; omega⟩
 | pat h1 => exact ⟨_, _, rfl, by omega, fun u s h => by cases h⟩
 | quo h1 => exact ⟨_, _, rfl, by omega, fun u s h => by cases h⟩
 | slop h1 h2 h3 => exact ⟨_, _, rfl, by omega, fun u s h => by cases h; omega⟩
 | span h1 h2 h3 h4 h5 => exact ⟨_, _, rfl, by omega, fun u s h => by cases h; simp [sideT, starT] at h2; omega⟩
theorem PtRet.tree {pb : Nat} {A : Option Addr} {cap k k2 : Nat} {ts : List Lt} {v : List (Int × Nd)} {w W : World} {x : NV} {t : Nd} {F : Nat → Prop} (hp : pb < w.heap.size) (hb : PB pb w W) (hs : PsAt W pb A cap ts k2) (hk : k2 = k) (hv : v = [(0, t)]) (hx : NdR W F x t) (hF : ∀ b, F b → w.heap.size < b ∧ b < W.heap.size) :
  PtRet pb A cap ts k v w (.returned x.val) (set12 W w.heap.size x) := by
 subst hk
 refine ⟨hb.set12 (Nat.le_of_lt hp) (Nat.le_refl _), hs.set12 hp, x, t, rfl, hv, ?_⟩
 refine (hx.set12 (y := x) (fun b h e => by have := (hF b h).1; omega)).mono fun b h => ?_
 rw [set12_size]
 exact ⟨Nat.le_of_lt (hF b h).1, (hF b h).2⟩
theorem kat {w : World} {B : Nat} {A : Option Addr} {n cap : Nat} {ts : List Lt} {k : Nat} {t : Lt} (h : RdL ltS w B (.slice A n cap) ts) (ht : ts[k]? = some t) : ∃ a, A = some a ∧ (a.add (k * 5)).block < B ∧ w.cell? (a.add (k * 5)) = some (.int .i64 t.kind) := by
 obtain ⟨hk, rfl⟩ := List.getElem?_eq_some_iff.1 ht
 obtain ⟨a, e, hb, q0, -⟩ := at_lt h hk
 exact ⟨a, e, hb, q0⟩
end Go.Proofs.YthcldpminmhgkaaDoor
end
