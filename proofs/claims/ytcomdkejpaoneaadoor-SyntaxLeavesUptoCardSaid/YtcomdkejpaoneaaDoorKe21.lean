/- Merged for a claim by shake.py: Uf Nl -/
import Derived.Test.YtcomdkejpaoneaaDoorKe20
import Derived.Test.YtcomdkejpaoneaaDoorKe9
section
namespace Go.Proofs.YtcomdkejpaoneaaDoor
open Go.RowKit
set_option maxRecDepth 100000
set_option maxHeartbeats 8000000
set_option linter.unusedSimpArgs false
set_option linter.unusedVariables false
theorem Blk.pb {pb g : Nat} {w w' : World} {t : TypeId} {cs : Array Value} (h : Blk w g t cs) (hb : PB pb w w') (hne : g ≠ pb) : Blk w' g t cs := by
  have hlt := h.lt
  unfold Blk at h ⊢
  rw [hb.keep g hlt hne]; exact h
theorem side_at {t : Lt} {i : Bool} {bd : Bd} (h : bd = sideN t i) (w : World) : Calls Tryd.prog 107 #[ltVal t, .bool i] w fun e w' => e = .returned (.agg #[.bool bd.open_, .bool bd.in_, .string (str bd.text)]) ∧ Below w.heap.size w w' := by
  subst h; exact pside_any t i w
theorem PtRet.span {pb : Nat} {A : Option Addr} {cap k k2 : Nat} {ts : List Lt} {v : List (Int × Nd)} {w W : World} {f : List UInt8} {lo hi : Bd} (hp : pb < w.heap.size) (hb : PB pb w W) (hs : PsAt W pb A cap ts k2) (hk : k2 = k) (hv : v = [(0, .mk 6 f [] 0 lo hi [] [])]) : PtRet pb A cap ts k v w (.returned (NV.val ⟨6, f, [], 0, lo, hi, ⟨none, 0, 0⟩, ⟨none, 0, 0⟩⟩)) (set12 W w.heap.size ⟨6, f, [], 0, lo, hi, ⟨none, 0, 0⟩, ⟨none, 0, 0⟩⟩) := by
  subst hk
  exact ⟨hb.set12 (Nat.le_of_lt hp) (Nat.le_refl _), hs.set12 hp, _, _, rfl, hv, .mk (RdF.nil _ _ _) (RdF.nil _ _ _) rfl fun i x t hx _ => by simp at hx⟩
theorem pleaf_span (w : World) (pb : Nat) (PA : Option Addr) (cap : Nat) (ts : List Lt) (k : Nat) (f : List UInt8) (a b c d e : Lt) (post : List Lt) (h : PsAt w pb PA cap ts k) (hok : TkOk ts) (hd : ts.drop k = [a, b, c, d, e] ++ post) (ha : a.kind = 10 ∨ a.kind = 12) :
    Calls Tryd.prog 99 #[.pointer (some ⟨pb, 0, none⟩), .string (str f)] w (PtRet pb PA cap ts (k + 5) [(0, .mk 6 f [] 0 (sideN b (decide (a.kind = 10))) (sideN d (decide (e.kind = 11))) [] [])] w) := by
  have h0 : ts[k]? = some a := tk_at (j := 0) hd rfl
  have h1 : ts[k + 1]? = some b := tk_at (j := 1) hd rfl
  have h2 : ts[k + 2]? = some c := tk_at (j := 2) hd rfl
  have h3 : ts[k + 3]? = some d := tk_at (j := 3) hd rfl
  have h4 : ts[k + 4]? = some e := tk_at (j := 4) hd rfl
  obtain ⟨lo, hlo⟩ : ∃ lo, lo = sideN b (decide (a.kind = 10)) := ⟨_, rfl⟩
  obtain ⟨hi, hhi⟩ : ∃ hi, hi = sideN d (decide (e.kind = 11)) := ⟨_, rfl⟩
  rw [← hlo, ← hhi]
  obtain ⟨bl, hbl⟩ : ∃ bl, bl = decide (a.kind = 10) := ⟨_, rfl⟩
  obtain ⟨bh, hbh⟩ : ∃ bh, bh = decide (e.kind = 11) := ⟨_, rfl⟩
  rw [← hbl] at hlo
  rw [← hbh] at hhi
  have HLO := Lib.hid (fun W => side_at hlo W); have HHI0 := Lib.hid (fun W => side_at hhi W)
  have e10 : ((a.kind : Int) == 10) = bl := by rw [hbl]; rfl
  have e11 : ((e.kind : Int) == 11) = bh := by rw [hbh]; rfl
  have e1 : ((a.kind : Int) == 1) = false := by rcases ha with h | h <;> rw [h] <;> rfl
  have e3 : ((a.kind : Int) == 3) = false := by rcases ha with h | h <;> rw [h] <;> rfl
  have e2 : ((a.kind : Int) == 2) = false := by rcases ha with h | h <;> rw [h] <;> rfl
  clear hlo hhi hbl hbh hd ha
  obtain ⟨tk, tx, tn, ta, te⟩ := a
  obtain ⟨ek, ex, en, ea, ee⟩ := e
  obtain ⟨dk, dx, dn, da, de⟩ := d
  simp only [] at e10 e11 e1 e2 e3
  have HHI := Lib.hid (fun (W : World) => show Calls Tryd.prog 107 #[.agg #[.int .i64 dk, .string (str dx), .int .i64 dn, .int .i64 da, .int .i64 de], .bool bh] W fun e w' => e = .returned (.agg #[.bool hi.open_, .bool hi.in_, .string (str hi.text)]) ∧ Below W.heap.size W w' from HHI0.out W)
  clear HHI0
  have hfd := fun (W : World) => field_lex0 ek (str ex) en ea ee W
  have HLT := Lib.hid h.lt
  have hl : ts.length ≤ 100000000 := by have := hok.1; omega
  have HA1 := Lib.hid (h.alloc (.cells #[.int .i64 0, .string ⟨#[]⟩, .string ⟨#[]⟩, .int .i64 0, .bool false, .bool false, .string ⟨#[]⟩, .bool false, .bool false, .string ⟨#[]⟩, .slice none 0 0, .slice none 0 0] 36))
  have HZ1 := Lib.hid (Blk.new w 36 #[.int .i64 0, .string ⟨#[]⟩, .string ⟨#[]⟩, .int .i64 0, .bool false, .bool false, .string ⟨#[]⟩, .bool false, .bool false, .string ⟨#[]⟩, .slice none 0 0, .slice none 0 0])
  have HB1 := Lib.hid (PB.of (pb := pb) ((Below.refl w.heap.size w).alloc (Nat.le_refl _) (.cells #[.int .i64 0, .string ⟨#[]⟩, .string ⟨#[]⟩, .int .i64 0, .bool false, .bool false, .string ⟨#[]⟩, .bool false, .bool false, .string ⟨#[]⟩, .slice none 0 0, .slice none 0 0] 36)) (Nat.le_of_lt h.lt))
  clear h
  go_enter Tryd.func99, Tryd.ntmps99
  go_wp2_with fail
  generalize w.alloc (.cells #[.int .i64 0, .string ⟨#[]⟩, .string ⟨#[]⟩, .int .i64 0, .bool false, .bool false, .string ⟨#[]⟩, .bool false, .bool false, .string ⟨#[]⟩, .slice none 0 0, .slice none 0 0] 36) = w1 at *
  refine (pnext_at HA1.out h0 hl).mono ?_
  rintro e w2 ⟨rfl, hb2, hp2⟩
  have HB2 := Lib.hid (HB1.out.trans hb2)
  have HZ2 := Lib.hid (show Blk w2 w.heap.size 36 #[.int .i64 0, .string ⟨#[]⟩, .string ⟨#[]⟩, .int .i64 0, .bool false, .bool false, .string ⟨#[]⟩, .bool false, .bool false, .string ⟨#[]⟩, .slice none 0 0, .slice none 0 0] from by
    have h := HZ1.out
    unfold Blk at h ⊢
    rw [hb2.keep w.heap.size HZ1.out.lt (by have := HLT.out; omega)]; exact h)
  have HP2 := Lib.hid hp2
  unfold ltVal
  simp only []
  clear hb2 hp2
  have HB3 := Lib.hid (HB2.out.alloc (Nat.le_of_lt HLT.out) (.cells #[.int .i64 tk, .string (str tx), .int .i64 tn, .int .i64 ta, .int .i64 te] 49))
  have HZ3 := Lib.hid (HZ2.out.alloc (.cells #[.int .i64 tk, .string (str tx), .int .i64 tn, .int .i64 ta, .int .i64 te] 49))
  have HP3 := Lib.hid (HP2.out.alloc (.cells #[.int .i64 tk, .string (str tx), .int .i64 tn, .int .i64 ta, .int .i64 te] 49))
  have HT3 := Lib.hid (Blk.new w2 49 #[.int .i64 tk, .string (str tx), .int .i64 tn, .int .i64 ta, .int .i64 te])
  have HNE := Lib.hid (show w2.heap.size ≠ pb from by have := HP2.out.lt; omega)
  go_upto_region 2 with (fail)
  generalize w2.alloc (.cells #[.int .i64 tk, .string (str tx), .int .i64 tn, .int .i64 ta, .int .i64 te] 49) = w3 at *
  have t0 := HT3.out.cell 0; have t1 := HT3.out.cell 1; have lt3 := HT3.out.lt
  simp only [List.getElem?_toArray, List.getElem?_cons_zero, List.getElem?_cons_succ] at t0 t1
  have HB4 := Lib.hid (HB3.out.alloc (Nat.le_of_lt HLT.out) (.cells #[.int .i64 6, .string (str f), .string ⟨#[]⟩, .int .i64 0, .bool false, .bool false, .string ⟨#[]⟩, .bool false, .bool false, .string ⟨#[]⟩, .slice none 0 0, .slice none 0 0] 36))
  have HZ4 := Lib.hid (HZ3.out.alloc (.cells #[.int .i64 6, .string (str f), .string ⟨#[]⟩, .int .i64 0, .bool false, .bool false, .string ⟨#[]⟩, .bool false, .bool false, .string ⟨#[]⟩, .slice none 0 0, .slice none 0 0] 36))
  have HP4 := Lib.hid (HP3.out.alloc (.cells #[.int .i64 6, .string (str f), .string ⟨#[]⟩, .int .i64 0, .bool false, .bool false, .string ⟨#[]⟩, .bool false, .bool false, .string ⟨#[]⟩, .slice none 0 0, .slice none 0 0] 36))
  have HT4 := Lib.hid (HT3.out.alloc (.cells #[.int .i64 6, .string (str f), .string ⟨#[]⟩, .int .i64 0, .bool false, .bool false, .string ⟨#[]⟩, .bool false, .bool false, .string ⟨#[]⟩, .slice none 0 0, .slice none 0 0] 36))
  have HX4 := Lib.hid (Blk.new w3 36 #[.int .i64 6, .string (str f), .string ⟨#[]⟩, .int .i64 0, .bool false, .bool false, .string ⟨#[]⟩, .bool false, .bool false, .string ⟨#[]⟩, .slice none 0 0, .slice none 0 0])
  have HX8 := Lib.hid (show w.heap.size < w3.heap.size from HZ3.out.lt)
  have HXP := Lib.hid (show pb < w3.heap.size from HP3.out.lt)
  have HXT := Lib.hid (show w2.heap.size < w3.heap.size from HT3.out.lt)
  go_upto_region 18 with (fail)
  generalize w3.alloc (.cells #[.int .i64 6, .string (str f), .string ⟨#[]⟩, .int .i64 0, .bool false, .bool false, .string ⟨#[]⟩, .bool false, .bool false, .string ⟨#[]⟩, .slice none 0 0, .slice none 0 0] 36) = w4 at *
  clear t0 t1 lt3
  have t0 : w4.cell? ⟨w2.heap.size, 0, none⟩ = some (.int .i64 tk) := HT4.out.cell 0
  have HN4 := Lib.hid (pnext_at HP4.out.drew h1 hl)
  have HT4d := Lib.hid (HT4.out.drew)
  go_region_law (first
    | (go_simp; go_at_call 86; refine HN4.out.mono ?_; (rintro e w5 ⟨rfl, hb5, hp5⟩); (have t05 : w5.cell? ⟨w2.heap.size, 0, none⟩ = some (.int .i64 tk) := (HT4d.out.pb hb5 HNE.out).cell 0))
    | (go_simp; go_at_call 107; refine (HLO.out _).mono ?_; (rintro e w6 ⟨rfl, hb6⟩); (have hx6 := ((HX4.out.drew).pb hb5 (by have := HXP.out; omega)).belowW hb6); (have xf4 := hx6.frozen 4); (have xf5 := hx6.frozen 5); (have xf6 := hx6.frozen 6); (have x4 := hx6.cell 4); (have x5 := hx6.cell 5); (have x6 := hx6.cell 6); (have lx6 := hx6.lt); (simp only [List.getElem?_toArray, List.getElem?_cons_zero, List.getElem?_cons_succ] at x4 x5 x6); clear hx6))
  all_goals
    have HB5 := Lib.hid ((HB4.out.drew.trans hb5).trans (PB.of hb6 (Nat.le_of_lt hp5.lt)))
    have HP6 := Lib.hid (hp5.belowW hb6)
    have HZ6 := Lib.hid (((HZ4.out.drew).pb hb5 (by have := HLT.out; omega)).belowW hb6)
    have HX6 := Lib.hid (((HX4.out.drew).pb hb5 (by have := HXP.out; omega)).belowW hb6)
    clear hb5 hp5 hb6 t0 t05 x4 x5 x6 xf4 xf5 xf6 lx6
    have HB7 := Lib.hid (((HB5.out.new (z := w3.heap.size) (i := 4) (u := .bool lo.open_) (Nat.le_of_lt HLT.out) (Nat.le_of_lt HX8.out)).new (z := w3.heap.size) (i := 5) (u := .bool lo.in_) (Nat.le_of_lt HLT.out) (Nat.le_of_lt HX8.out)).new (z := w3.heap.size) (i := 6) (u := .string (str lo.text)) (Nat.le_of_lt HLT.out) (Nat.le_of_lt HX8.out))
    have HP7 := Lib.hid (((HP6.out.far (z := w3.heap.size) (i := 4) (u := .bool lo.open_) HXP.out).far (z := w3.heap.size) (i := 5) (u := .bool lo.in_) HXP.out).far (z := w3.heap.size) (i := 6) (u := .string (str lo.text)) HXP.out)
    have hzx : w.heap.size ≠ w3.heap.size := by have := HX8.out; omega
    have HZ7 := Lib.hid (((HZ6.out.far (p := ⟨w3.heap.size, 4, none⟩) hzx (.bool lo.open_)).far (p := ⟨w3.heap.size, 5, none⟩) hzx (.bool lo.in_)).far (p := ⟨w3.heap.size, 6, none⟩) hzx (.string (str lo.text)))
    have HX7 := Lib.hid (show Blk (((w6.setCell ⟨w3.heap.size, 4, none⟩ (.bool lo.open_)).setCell ⟨w3.heap.size, 5, none⟩ (.bool lo.in_)).setCell ⟨w3.heap.size, 6, none⟩ (.string (str lo.text))) w3.heap.size 36 #[.int .i64 6, .string (str f), .string ⟨#[]⟩, .int .i64 0, .bool lo.open_, .bool lo.in_, .string (str lo.text), .bool false, .bool false, .string ⟨#[]⟩, .slice none 0 0, .slice none 0 0] from ((HX6.out.set_ 4 _).set_ 5 _).set_ 6 _)
    go_upto_region 19 with (fail)
    generalize ((w6.setCell ⟨w3.heap.size, 4, none⟩ (.bool lo.open_)).setCell ⟨w3.heap.size, 5, none⟩ (.bool lo.in_)).setCell ⟨w3.heap.size, 6, none⟩ (.string (str lo.text)) = w7 at *
    have c1 := HP7.out.blk.cell 1; have lp := HP7.out.lt; have fp1 := HP7.out.blk.frozen 1
    simp only [List.getElem?_toArray, List.getElem?_cons_zero, List.getElem?_cons_succ] at c1
    have hwk : IntKind.i64.wrap (((k + 1 + 1 : Nat) : Int) + 1) = ((k + 1 + 1 : Nat) : Int) + 1 := IntWalk.i64_in _ (by have := (List.getElem?_eq_some_iff.1 h4).1; omega)
    have hkb : k + 4 < ts.length := (List.getElem?_eq_some_iff.1 h4).1
    have hcast : ((k + 3 : Nat) : Int) = (k : Int) + 1 + 1 + 1 := by omega
    have HP8 := Lib.hid (show PsAt (w7.setCell ⟨pb, 1, none⟩ (.int .i64 ((k : Int) + 1 + 1 + 1))) pb PA cap ts (k + 3) from by rw [← hcast]; exact HP7.out.to (k + 3))
    have HB8 := Lib.hid (show PB pb w (w7.setCell ⟨pb, 1, none⟩ (.int .i64 ((k : Int) + 1 + 1 + 1))) from HB7.out.trans (PB.set_ 1 _))
    have HZ8 := Lib.hid (HZ7.out.far (p := ⟨pb, 1, none⟩) (by show w.heap.size ≠ pb; have := HLT.out; omega) (.int .i64 ((k : Int) + 1 + 1 + 1)))
    have HX8b := Lib.hid (HX7.out.far (p := ⟨pb, 1, none⟩) (by show w3.heap.size ≠ pb; have := HXP.out; omega) (.int .i64 ((k : Int) + 1 + 1 + 1)))
    clear hcast
    go_upto_region 20 with (fail)
    clear c1 lp fp1 hwk hzx
    generalize w7.setCell ⟨pb, 1, none⟩ (.int .i64 ((k : Int) + 1 + 1 + 1)) = w8 at *
    have HN8 := Lib.hid (show Calls Tryd.prog 86 #[.pointer (some ⟨pb, 0, none⟩)] w8 (fun e w' => e = .returned (.agg #[.int .i64 dk, .string (str dx), .int .i64 dn, .int .i64 da, .int .i64 de]) ∧ PB pb w8 w' ∧ PsAt w' pb PA cap ts (k + 3 + 1)) from pnext_at HP8.out h3 hl)
    go_wp2_with fail
    refine HN8.out.mono ?_
    rintro e w9 ⟨rfl, hb9, hp9⟩
    have HX9 := Lib.hid (HX8b.out.pb hb9 (by have := HXP.out; omega))
    have HZ9 := Lib.hid (HZ8.out.pb hb9 (by have := HLT.out; omega))
    have HB9 := Lib.hid ((HB8.out.trans hb9).alloc (Nat.le_of_lt HLT.out) (.cells #[.int .i64 dk, .string (str dx), .int .i64 dn, .int .i64 da, .int .i64 de] 49))
    have HP9 := Lib.hid (hp9.alloc (.cells #[.int .i64 dk, .string (str dx), .int .i64 dn, .int .i64 da, .int .i64 de] 49))
    have HX9a := Lib.hid (HX9.out.alloc (.cells #[.int .i64 dk, .string (str dx), .int .i64 dn, .int .i64 da, .int .i64 de] 49))
    have HZ9a := Lib.hid (HZ9.out.alloc (.cells #[.int .i64 dk, .string (str dx), .int .i64 dn, .int .i64 da, .int .i64 de] 49))
    have HT9 := Lib.hid (Blk.new w9 49 #[.int .i64 dk, .string (str dx), .int .i64 dn, .int .i64 da, .int .i64 de])
    have HNT9 := Lib.hid (show w9.heap.size ≠ pb from by have := hp9.lt; omega)
    clear hb9 hp9
    go_upto_region 21 with (fail)
    generalize w9.alloc (.cells #[.int .i64 dk, .string (str dx), .int .i64 dn, .int .i64 da, .int .i64 de] 49) = wa at *
    have u0 : wa.cell? ⟨w9.heap.size, 0, none⟩ = some (.int .i64 dk) := HT9.out.cell 0
    have u1 : wa.cell? ⟨w9.heap.size, 1, none⟩ = some (.string (str dx)) := HT9.out.cell 1
    have u2 : wa.cell? ⟨w9.heap.size, 2, none⟩ = some (.int .i64 dn) := HT9.out.cell 2
    have u3 : wa.cell? ⟨w9.heap.size, 3, none⟩ = some (.int .i64 da) := HT9.out.cell 3
    have u4 : wa.cell? ⟨w9.heap.size, 4, none⟩ = some (.int .i64 de) := HT9.out.cell 4
    have HT9d := Lib.hid (HT9.out.drew)
    have HNa := Lib.hid (show Calls Tryd.prog 86 #[.pointer (some ⟨pb, 0, none⟩)] wa.drew (fun e w' => e = .returned (.agg #[.int .i64 ek, .string (str ex), .int .i64 en, .int .i64 ea, .int .i64 ee]) ∧ PB pb wa.drew w' ∧ PsAt w' pb PA cap ts (k + 3 + 1 + 1)) from pnext_at HP9.out.drew h4 hl)
    go_region_law (first
      | (go_simp; go_at_call 86; refine HNa.out.mono ?_; (rintro e wb ⟨rfl, hbb, hpb⟩); (have v0 : wb.cell? ⟨w9.heap.size, 0, none⟩ = some (.int .i64 dk) := (HT9d.out.pb hbb HNT9.out).cell 0); (have v1 : wb.cell? ⟨w9.heap.size, 1, none⟩ = some (.string (str dx)) := (HT9d.out.pb hbb HNT9.out).cell 1); (have v2 : wb.cell? ⟨w9.heap.size, 2, none⟩ = some (.int .i64 dn) := (HT9d.out.pb hbb HNT9.out).cell 2); (have v3 : wb.cell? ⟨w9.heap.size, 3, none⟩ = some (.int .i64 da) := (HT9d.out.pb hbb HNT9.out).cell 3); (have v4 : wb.cell? ⟨w9.heap.size, 4, none⟩ = some (.int .i64 de) := (HT9d.out.pb hbb HNT9.out).cell 4))
      | (go_simp; go_at_call 107; refine (HHI.out _).mono ?_; (rintro e wc ⟨rfl, hbc⟩); (have hx6 := ((HX9a.out.drew).pb hbb (by have := HXP.out; omega)).belowW hbc); (have xf7 := hx6.frozen 7); (have xf8 := hx6.frozen 8); (have xf9 := hx6.frozen 9); (have x7 := hx6.cell 7); (have x8 := hx6.cell 8); (have x9 := hx6.cell 9); (have lx6 := hx6.lt); (simp only [List.getElem?_toArray, List.getElem?_cons_zero, List.getElem?_cons_succ] at x7 x8 x9); clear hx6))
    all_goals
      have HBc := Lib.hid ((HB9.out.drew.trans hbb).trans (PB.of hbc (Nat.le_of_lt hpb.lt)))
      have HPc := Lib.hid (hpb.belowW hbc)
      have HZc := Lib.hid (((HZ9a.out.drew).pb hbb (by have := HLT.out; omega)).belowW hbc)
      have HXc := Lib.hid (((HX9a.out.drew).pb hbb (by have := HXP.out; omega)).belowW hbc)
      clear hbb hpb hbc u0 u1 u2 u3 u4 v0 v1 v2 v3 v4 x7 x8 x9 xf7 xf8 xf9 lx6
      have hzx : w.heap.size ≠ w3.heap.size := by have := HX8.out; omega
      have HBd := Lib.hid (((HBc.out.new (z := w3.heap.size) (i := 7) (u := .bool hi.open_) (Nat.le_of_lt HLT.out) (Nat.le_of_lt HX8.out)).new (z := w3.heap.size) (i := 8) (u := .bool hi.in_) (Nat.le_of_lt HLT.out) (Nat.le_of_lt HX8.out)).new (z := w3.heap.size) (i := 9) (u := .string (str hi.text)) (Nat.le_of_lt HLT.out) (Nat.le_of_lt HX8.out))
      have HPd := Lib.hid (((HPc.out.far (z := w3.heap.size) (i := 7) (u := .bool hi.open_) HXP.out).far (z := w3.heap.size) (i := 8) (u := .bool hi.in_) HXP.out).far (z := w3.heap.size) (i := 9) (u := .string (str hi.text)) HXP.out)
      have HZd := Lib.hid (((HZc.out.far (p := ⟨w3.heap.size, 7, none⟩) hzx (.bool hi.open_)).far (p := ⟨w3.heap.size, 8, none⟩) hzx (.bool hi.in_)).far (p := ⟨w3.heap.size, 9, none⟩) hzx (.string (str hi.text)))
      have HXd := Lib.hid (show Blk (((wc.setCell ⟨w3.heap.size, 7, none⟩ (.bool hi.open_)).setCell ⟨w3.heap.size, 8, none⟩ (.bool hi.in_)).setCell ⟨w3.heap.size, 9, none⟩ (.string (str hi.text))) w3.heap.size 36 #[.int .i64 6, .string (str f), .string ⟨#[]⟩, .int .i64 0, .bool lo.open_, .bool lo.in_, .string (str lo.text), .bool hi.open_, .bool hi.in_, .string (str hi.text), .slice none 0 0, .slice none 0 0] from ((HXc.out.set_ 7 _).set_ 8 _).set_ 9 _)
      go_upto_region 22 with (fail)
      clear hzx
      generalize ((wc.setCell ⟨w3.heap.size, 7, none⟩ (.bool hi.open_)).setCell ⟨w3.heap.size, 8, none⟩ (.bool hi.in_)).setCell ⟨w3.heap.size, 9, none⟩ (.string (str hi.text)) = wd at *
      have hxx := HXd.out
      have x0 := hxx.cell 0; have x1 := hxx.cell 1; have x2 := hxx.cell 2; have x3 := hxx.cell 3; have x4 := hxx.cell 4; have x5 := hxx.cell 5; have x6 := hxx.cell 6; have x7 := hxx.cell 7; have x8 := hxx.cell 8; have x9 := hxx.cell 9; have x10 := hxx.cell 10; have x11 := hxx.cell 11; have lx := hxx.lt
      simp only [List.getElem?_toArray, List.getElem?_cons_zero, List.getElem?_cons_succ] at x0 x1 x2 x3 x4 x5 x6 x7 x8 x9 x10 x11
      clear hxx
      have hzz := HZd.out
      have z0 := hzz.cell 0; have z1 := hzz.cell 1; have z2 := hzz.cell 2; have z3 := hzz.cell 3; have z4 := hzz.cell 4; have z5 := hzz.cell 5; have z6 := hzz.cell 6; have z7 := hzz.cell 7; have z8 := hzz.cell 8; have z9 := hzz.cell 9; have z10 := hzz.cell 10; have z11 := hzz.cell 11
      have fz0 := hzz.frozen 0; have fz1 := hzz.frozen 1; have fz2 := hzz.frozen 2; have fz3 := hzz.frozen 3; have fz4 := hzz.frozen 4; have fz5 := hzz.frozen 5; have fz6 := hzz.frozen 6; have fz7 := hzz.frozen 7; have fz8 := hzz.frozen 8; have fz9 := hzz.frozen 9; have fz10 := hzz.frozen 10; have fz11 := hzz.frozen 11
      have lz := hzz.lt
      simp only [List.getElem?_toArray, List.getElem?_cons_zero, List.getElem?_cons_succ] at z0 z1 z2 z3 z4 z5 z6 z7 z8 z9 z10 z11
      clear hzz
      go_wp2
      refine bodyPost_ret (v := NV.val ⟨6, f, [], 0, lo, hi, ⟨none, 0, 0⟩, ⟨none, 0, 0⟩⟩) ?_ rfl ?_
      · simp [results, Tryd.results99, go_sem, NV.val, nvLeaf, bd0, str, lz, fz0, fz1, fz2, fz3, fz4, fz5, fz6, fz7, fz8, fz9, fz10, fz11, z0, z1, z2, z3, z4, z5, z6, z7, z8, z9, z10, z11]
      · exact PtRet.span HLT.out HBd.out HPd.out rfl rfl
end Go.Proofs.YtcomdkejpaoneaaDoor
end
section
namespace Go.Proofs.YtcomdkejpaoneaaDoor
set_option linter.unusedSimpArgs false
set_option linter.unusedVariables false
def cntS : List Lt → Nat
  | [] => 0
  | t :: r => if t.kind = 18 ∨ t.kind = 19 then cntS r + 1 else 0
def sfxS : List Lt → Nat
  | [] => 0
  | t :: r => if t.kind = 21 ∨ t.kind = 20 then cntS r else cntS (t :: r)
structure NS where
  most : Nat
  nots : Nat
  depth : Nat
  weights : List Nat
def ns0 : NS := ⟨0, 0, 0, []⟩
def colonAt (l : List Lt) (i : Nat) : Bool := match l[i]? with
  | some t => decide (t.kind = 14)
  | none => false
def nestStep (l : List Lt) (ends : Nat → Nat) (i : Nat) (t : Lt) (s : NS) : Option (Nat × NS) :=
  if t.kind = 6 then some (i + 1, ⟨s.most, s.nots + 1, s.depth, s.weights⟩)
  else if t.kind = 8 then some (i + 1, ⟨s.most, 0, s.depth + (1 + s.nots + sfxS (l.drop (ends i + 1))), s.weights ++ [1 + s.nots + sfxS (l.drop (ends i + 1))]⟩)
  else if t.kind = 9 then match s.weights.getLast? with
    | none => none
    | some w => if w ≤ s.depth then some (i + 1, ⟨s.most, s.nots, s.depth - w, s.weights.dropLast⟩) else none
  else if t.kind = 10 ∨ t.kind = 12 then some (i + 5, ⟨max s.most (s.depth + s.nots + sfxS (l.drop (i + 5))), 0, s.depth, s.weights⟩)
  else if t.kind = 1 ∨ t.kind = 2 ∨ t.kind = 3 then
    if colonAt l (i + 1) = true then some (i + 2, s)
    else some (i + 1, ⟨max s.most (s.depth + s.nots + sfxS (l.drop (i + 1))), 0, s.depth, s.weights⟩)
  else some (i + 1, s)
inductive NestRun (l : List Lt) (ends : Nat → Nat) : Nat → NS → Nat → Prop
  | stop {i : Nat} {s : NS} : l.length ≤ i → NestRun l ends i s s.most
  | step {i i' : Nat} {t : Lt} {s s' : NS} {M : Nat} : l[i]? = some t → nestStep l ends i t s = some (i', s') → NestRun l ends i' s' M → NestRun l ends i s M
def upd (f : Nat → Nat) (i k : Nat) : Nat → Nat := fun j => if j = i then k else f j
def closeL : Nat → List Nat → (Nat → Nat) → List Lt → Option (List Nat × (Nat → Nat))
  | _, st, out, [] => some (st, out)
  | k, st, out, t :: r =>
    if t.kind = 8 then closeL (k + 1) (st ++ [k]) out r
    else if t.kind = 9 then match st.getLast? with
      | none => none
      | some i => closeL (k + 1) st.dropLast (upd out i k) r
    else closeL (k + 1) st out r
theorem closeL_append (k : Nat) (st : List Nat) (out : Nat → Nat) (a b : List Lt) : closeL k st out (a ++ b) = (closeL k st out a).bind fun x => closeL (k + a.length) x.1 x.2 b := by
  induction a generalizing k st out with
  | nil => rfl
  | cons t a ih =>
    rw [List.cons_append, closeL, closeL]
    have e : k + (t :: a).length = k + 1 + a.length := by rw [List.length_cons]; omega
    rw [e]
    split
    · exact ih _ _ _
    split
    · cases st.getLast? with
      | none => rfl
      | some i => exact ih _ _ _
    · exact ih _ _ _
theorem closeL_no {k : Nat} {st : List Nat} {out : Nat → Nat} {a : List Lt} (h : ∀ t ∈ a, t.kind ≠ 8 ∧ t.kind ≠ 9) : closeL k st out a = some (st, out) := by
  induction a generalizing k with
  | nil => rfl
  | cons t a ih =>
    have := h t List.mem_cons_self
    rw [closeL, if_neg this.1, if_neg this.2]
    exact ih fun x hx => h x (List.mem_cons_of_mem _ hx)
def loPt : Pt → Bool
  | .leaf => true | .group => true | .body => true | .atom => true | .piece => true | _ => false
def hdNo (post : List Lt) (ks : List Int) : Prop := ∀ t r, post = t :: r → t.kind ∉ ks
def Pc (p : Pt) (post : List Lt) : Prop := hdNo post (if loPt p = true then [14, 20, 21] else [14, 20, 21, 18, 19])
def noted : Pt → Bool
  | .maxes => true | .ands => true | .ors => true | .clause => true | .list => true | _ => false
def Sc (p : Pt) (s : NS) : Prop := noted p = true → s.nots = 0
def Rsn (n : Nat) (post : List Lt) (s : NS) : NS := ⟨max s.most (s.depth + s.nots + n + cntS post), 0, s.depth, s.weights⟩
def RunOk (p : Pt) (A : List Lt) (n k : Nat) (out : Nat → Nat) : Prop :=
  ∀ ends : Nat → Nat, (∀ i, k ≤ i → i < k + A.length → ends i = out i) → ∀ l pre post : List Lt, l = pre ++ (A ++ post) → pre.length = k → Pc p post → ∀ (s : NS) (M : Nat), Sc p s → NestRun l ends (k + A.length) (Rsn n post s) M → NestRun l ends k s M
def NOk (p : Pt) (A : List Lt) (n : Nat) : Prop :=
  ∀ (k : Nat) (st : List Nat) (out : Nat → Nat), ∃ out', closeL k st out A = some (st, out') ∧ (∀ i, i < k ∨ k + A.length ≤ i → out' i = out i) ∧ RunOk p A n k out'
theorem at_pre {l pre rest : List Lt} {k j : Nat} (hl : l = pre ++ rest) (hk : pre.length = k) : l[k + j]? = rest[j]? := by
  subst hl hk
  rw [List.getElem?_append_right (by omega), Nat.add_sub_cancel_left]
theorem drop_pre {l pre rest : List Lt} {k j : Nat} (hl : l = pre ++ rest) (hk : pre.length = k) : l.drop (k + j) = rest.drop j := by
  subst hl hk
  rw [List.drop_append, List.drop_of_length_le (by omega), Nat.add_sub_cancel_left, List.nil_append]
theorem sfx_cnt {post : List Lt} (h : hdNo post [14, 20, 21]) : sfxS post = cntS post := by
  cases post with
  | nil => rfl
  | cons t r =>
    have := h t r rfl
    simp only [List.mem_cons, List.not_mem_nil, or_false, not_or] at this
    rw [sfxS, if_neg (by omega)]
theorem cnt_hi {post : List Lt} (h : hdNo post [14, 20, 21, 18, 19]) : cntS post = 0 := by
  cases post with
  | nil => rfl
  | cons t r =>
    have := h t r rfl
    simp only [List.mem_cons, List.not_mem_nil, or_false, not_or] at this
    rw [cntS, if_neg (by omega)]
theorem hdNo.less {post : List Lt} {a b : List Int} (h : hdNo post a) (hb : ∀ x ∈ b, x ∈ a) : hdNo post b := fun t r e hm => h t r e (hb _ hm)
theorem hd_cons {t : Lt} {r : List Lt} {ks : List Int} (h : t.kind ∉ ks) : hdNo (t :: r) ks := fun t' r' e => by cases e; exact h
theorem colon_no {l pre post : List Lt} {i : Nat} (hl : l = pre ++ post) (hi : pre.length = i) (h : hdNo post [14]) : colonAt l i = false := by
  unfold colonAt
  have := at_pre (j := 0) hl hi
  rw [Nat.add_zero] at this
  rw [this]
  cases post with
  | nil => rfl
  | cons t r =>
    have := h t r rfl
    simpa using this
theorem nok_tok {t : Lt} {u : List Lt} (ht : t.kind = 1 ∨ t.kind = 2 ∨ t.kind = 3) (hu : u = [] ∨ ∃ x, u = [x] ∧ x.kind = 20) : NOk .leaf (t :: u) 0 := by
  intro k st out
  refine ⟨out, closeL_no ?_, fun _ _ => rfl, ?_⟩
  · intro x hx
    rcases List.mem_cons.1 hx with rfl | hx
    · omega
    · rcases hu with rfl | ⟨y, rfl, hy⟩
      · cases hx
      · rw [List.mem_singleton.1 hx]; omega
  · intro ends _ l pre post hl hk hp s M _ hM
    have h0 : l[k]? = some t := by
      have := at_pre (j := 0) hl hk
      simpa using this
    refine .step (i' := k + 1) (s' := Rsn 0 post s) h0 ?_ ?_
    · unfold nestStep
      rw [if_neg (by omega), if_neg (by omega), if_neg (by omega), if_neg (by omega), if_pos ht, if_neg ?_]
      · have e : sfxS (l.drop (k + 1)) = cntS post := by
          rw [drop_pre (j := 1) hl hk, List.cons_append, List.drop_one, List.tail_cons]
          rcases hu with rfl | ⟨x, rfl, hx⟩
          · exact sfx_cnt hp
          · rw [List.cons_append, List.nil_append, sfxS, if_pos (.inr hx)]
        rw [e]; rfl
      · have hl2 : l = (pre ++ [t]) ++ (u ++ post) := by rw [hl]; simp
        rw [colon_no hl2 (by rw [List.length_append, hk]; rfl) ?_]
        · decide
        · rcases hu with rfl | ⟨x, rfl, hx⟩
          · exact hdNo.less hp (by simp [loPt])
          · exact hd_cons (by simp [hx])
    · rcases hu with rfl | ⟨x, rfl, hx⟩
      · exact hM
      · refine .step (i' := k + 2) (s' := Rsn 0 post s) (t := x) ?_ ?_ hM
        · have := at_pre (j := 1) hl hk
          simpa using this
        · unfold nestStep
          rw [if_neg (by omega), if_neg (by omega), if_neg (by omega), if_neg (by omega), if_neg (by omega)]
theorem step_plain {l : List Lt} {ends : Nat → Nat} {i : Nat} {t : Lt} {s : NS} (h : t.kind = 0 ∨ t.kind = 4 ∨ t.kind = 5 ∨ t.kind = 15 ∨ t.kind = 16 ∨ t.kind = 17 ∨ t.kind = 18 ∨ t.kind = 19 ∨ t.kind = 20 ∨ t.kind = 21) : nestStep l ends i t s = some (i + 1, s) := by
  unfold nestStep
  rw [if_neg (by omega), if_neg (by omega), if_neg (by omega), if_neg (by omega), if_neg (by omega)]
theorem nok_span {a b c d e : Lt} (ha : a.kind = 10 ∨ a.kind = 12) (hb : sideT b = true) (hc : c.kind = 7) (hd : sideT d = true) (he : e.kind = 11 ∨ e.kind = 13) : NOk .leaf [a, b, c, d, e] 0 := by
  have hb8 : b.kind ≠ 8 ∧ b.kind ≠ 9 := by simp [sideT, starT] at hb; omega
  have hd8 : d.kind ≠ 8 ∧ d.kind ≠ 9 := by simp [sideT, starT] at hd; omega
  intro k st out
  refine ⟨out, closeL_no ?_, fun _ _ => rfl, ?_⟩
  · intro x hx
    simp only [List.mem_cons, List.not_mem_nil, or_false] at hx
    rcases hx with rfl | rfl | rfl | rfl | rfl
    · omega
    · exact hb8
    · omega
    · exact hd8
    · omega
  · intro ends _ l pre post hl hk hp s M _ hM
    have h0 : l[k]? = some a := by
      have := at_pre (j := 0) hl hk
      simpa using this
    refine .step (i' := k + 5) (s' := Rsn 0 post s) h0 ?_ hM
    unfold nestStep
    rw [if_neg (by omega), if_neg (by omega), if_neg (by omega), if_pos ha]
    have e2 : sfxS (l.drop (k + 5)) = cntS post := by
      rw [drop_pre (j := 5) hl hk]
      exact sfx_cnt hp
    rw [e2]; rfl
theorem nok_group {o c : Lt} {A x : List Lt} {n : Nat} (ho : o.kind = 8) (hc : c.kind = 9) (hx : x = [] ∨ ∃ y, x = [y] ∧ y.kind = 21) (ih : NOk .list A n) : NOk .group (o :: (A ++ (c :: x))) (n + 1) := by
  intro k st out
  obtain ⟨out1, h1, h2, h3⟩ := ih (k + 1) (st ++ [k]) out
  have hlen : (o :: (A ++ (c :: x))).length = A.length + 2 + x.length := by simp; omega
  have hx8 : ∀ t ∈ x, t.kind ≠ 8 ∧ t.kind ≠ 9 := by
    intro t ht
    rcases hx with rfl | ⟨y, rfl, hy⟩
    · cases ht
    · rw [List.mem_singleton.1 ht]; omega
  refine ⟨upd out1 k (k + 1 + A.length), ?_, ?_, ?_⟩
  · rw [closeL, if_pos ho, closeL_append, h1]
    show closeL (k + 1 + A.length) (st ++ [k]) out1 (c :: x) = _
    rw [closeL, if_neg (by omega), if_pos hc, List.getLast?_concat, List.dropLast_concat]
    exact closeL_no hx8
  · intro i hi
    rw [hlen] at hi
    unfold upd
    rw [if_neg (by omega)]
    exact h2 i (by omega)
  · intro ends hE l pre post hl hk hp s M _ hM
    rw [hlen] at hE hM
    have h0 : l[k]? = some o := by
      have := at_pre (j := 0) hl hk
      simpa using this
    have hEk : ends k = k + 1 + A.length := by
      rw [hE k (Nat.le_refl _) (by omega)]
      unfold upd; rw [if_pos rfl]
    have hsf : sfxS (l.drop (ends k + 1)) = cntS post := by
      rw [hEk, show k + 1 + A.length + 1 = k + (A.length + 2) from by omega, drop_pre hl hk]
      have e : (o :: (A ++ (c :: x)) ++ post).drop (A.length + 2) = x ++ post := by
        rw [show o :: (A ++ (c :: x)) ++ post = (o :: A ++ [c]) ++ (x ++ post) from by simp]
        rw [List.drop_append, List.drop_of_length_le (by simp), List.nil_append]
        rw [show A.length + 2 - (o :: A ++ [c]).length = 0 from by simp, List.drop_zero]
      rw [e]
      rcases hx with rfl | ⟨y, rfl, hy⟩
      · exact sfx_cnt hp
      · rw [List.cons_append, List.nil_append, sfxS, if_pos (.inl hy)]
    obtain ⟨w, hw⟩ : ∃ w, w = 1 + s.nots + cntS post := ⟨_, rfl⟩
    refine .step (i' := k + 1) (s' := ⟨s.most, 0, s.depth + w, s.weights ++ [w]⟩) h0 ?_ ?_
    · unfold nestStep
      rw [if_neg (by omega), if_pos ho, hsf, hw]
    refine h3 ends ?_ l (pre ++ [o]) (c :: (x ++ post)) ?_ ?_ ?_ _ _ (fun _ => rfl) ?_
    · intro i hi hi2
      rw [hE i (by omega) (by omega)]
      unfold upd; rw [if_neg (by omega)]
    · rw [hl]; simp
    · rw [List.length_append, hk]; rfl
    · exact hd_cons (by rw [hc]; decide)
    · refine .step (i' := k + 1 + A.length + 1) (s' := Rsn (n + 1) post s) (t := c) ?_ ?_ ?_
      · have := at_pre (j := A.length + 1) hl hk
        rw [show k + 1 + A.length = k + (A.length + 1) from by omega, this]
        simp
      · unfold nestStep
        rw [if_neg (by omega), if_neg (by omega), if_pos hc]
        show (match (s.weights ++ [w]).getLast? with | none => none | some w' => if w' ≤ s.depth + w then some (k + 1 + A.length + 1, NS.mk _ 0 (s.depth + w - w') (s.weights ++ [w]).dropLast) else none) = _
        rw [List.getLast?_concat, List.dropLast_concat]
        show (if w ≤ s.depth + w then _ else none) = _
        rw [if_pos (by omega), Nat.add_sub_cancel]
        have hc0 : cntS (c :: (x ++ post)) = 0 := by rw [cntS, if_neg (by omega)]
        unfold Rsn
        rw [hc0]
        simp only [Nat.add_zero]
        have e : max s.most (s.depth + w + n) = max s.most (s.depth + s.nots + (n + 1) + cntS post) := by rw [hw]; congr 1; omega
        rw [e]
      · rcases hx with rfl | ⟨y, rfl, hy⟩
        · rw [show k + 1 + A.length + 1 = k + (A.length + 2 + 0) from by omega]; exact hM
        · refine .step (i' := k + 1 + A.length + 1 + 1) (s' := Rsn (n + 1) post s) (t := y) ?_ (step_plain (by omega)) ?_
          · have := at_pre (j := A.length + 2) hl hk
            rw [show k + 1 + A.length + 1 = k + (A.length + 2) from by omega, this]
            simp
          · rw [show k + 1 + A.length + 1 + 1 = k + (A.length + 2 + 1) from by omega]; exact hM
theorem nok_two {p q r : Pt} {A x B : List Lt} {n m : Nat} (hpn : noted p = true ∨ loPt p = false) (hpl : loPt p = false) (hql : loPt q = false) (hrl : loPt r = false) (hpr : noted r = true) (hx : x = [] ∨ ∃ y, x = [y] ∧ (y.kind = 4 ∨ y.kind = 5 ∨ y.kind = 17)) (hB : ∃ t u, x ++ B = t :: u ∧ t.kind ∉ ([14, 20, 21, 18, 19] : List Int))
    (h1 : NOk p A n) (h2 : NOk q B m) : NOk r (A ++ (x ++ B)) (max n m) := by
  intro k st out
  obtain ⟨o1, a1, a2, a3⟩ := h1 k st out
  obtain ⟨o2, b1, b2, b3⟩ := h2 (k + A.length + x.length) st o1
  have hx8 : ∀ t ∈ x, t.kind ≠ 8 ∧ t.kind ≠ 9 := by
    intro t ht
    rcases hx with rfl | ⟨y, rfl, hy⟩
    · cases ht
    · rw [List.mem_singleton.1 ht]; omega
  have hlen : (A ++ (x ++ B)).length = A.length + (x.length + B.length) := by simp
  refine ⟨o2, ?_, ?_, ?_⟩
  · rw [closeL_append, a1]
    show closeL (k + A.length) st o1 (x ++ B) = _
    rw [closeL_append, closeL_no hx8]
    exact b1
  · intro i hi
    rw [hlen] at hi
    rw [b2 i (by omega), a2 i (by omega)]
  · intro ends hE l pre post hl hk hp s M hs hM
    rw [hlen] at hE hM
    have hs0 : s.nots = 0 := hs hpr
    obtain ⟨t, u, htu, htk⟩ := hB
    have hc0 : cntS ((x ++ B) ++ post) = 0 := by
      rw [htu, List.cons_append]
      exact cnt_hi (hd_cons htk)
    have hpost : Pc q post := by
      unfold Pc at hp ⊢
      rw [hrl] at hp; rw [hql]; exact hp
    have hcp : cntS post = 0 := by
      unfold Pc at hp
      rw [hrl] at hp
      exact cnt_hi hp
    refine a3 ends ?_ l pre ((x ++ B) ++ post) (by rw [hl]; simp) hk ?_ s M (fun _ => hs0) ?_
    · intro i hi hi2
      rw [hE i hi (by omega), b2 i (by omega)]
    · unfold Pc
      rw [hpl, htu, List.cons_append]
      exact hd_cons htk
    have hfin : NestRun l ends (k + A.length + x.length) (Rsn n ((x ++ B) ++ post) s) M := by
      refine b3 ends ?_ l (pre ++ (A ++ x)) post (by rw [hl]; simp) (by simp [hk]; omega) hpost _ _ (fun _ => rfl) ?_
      · intro i hi hi2
        exact hE i (by omega) (by omega)
      · have e : Rsn m post (Rsn n ((x ++ B) ++ post) s) = Rsn (max n m) post s := by
          unfold Rsn
          rw [hc0, hcp, hs0]
          simp only [Nat.add_zero]
          congr 1
          omega
        rw [e, show k + A.length + x.length + B.length = k + (A.length + (x.length + B.length)) from by omega]
        exact hM
    rcases hx with rfl | ⟨y, rfl, hy⟩
    · exact hfin
    · refine .step (i' := k + A.length + 1) (t := y) ?_ (step_plain (by omega)) hfin
      have := at_pre (j := A.length) hl hk
      rw [this]; simp
theorem nok_more {p q : Pt} {A : List Lt} {n : Nat} (h : NOk p A n) (hp : ∀ post, Pc q post → Pc p post) (hs : ∀ s, Sc q s → Sc p s) : NOk q A n := by
  intro k st out
  obtain ⟨o1, a1, a2, a3⟩ := h k st out
  exact ⟨o1, a1, a2, fun ends hE l pre post hl hk hpc s M hsc hM => a3 ends hE l pre post hl hk (hp _ hpc) s M (hs _ hsc) hM⟩
theorem pc_lo {p q : Pt} (h : loPt p = loPt q) (post : List Lt) (hp : Pc q post) : Pc p post := by unfold Pc at hp ⊢; rw [h]; exact hp
theorem pc_hi {q : Pt} (h : loPt q = false) (p : Pt) (post : List Lt) (hp : Pc q post) : Pc p post := by
  unfold Pc at hp ⊢
  rw [h] at hp
  split
  · exact hp.less (by simp)
  · exact hp
theorem sc_any {p : Pt} (h : noted p = false) (s : NS) : Sc p s := fun e => by rw [h] at e; cases e
theorem nok_ahead {p q : Pt} {t : Lt} {A : List Lt} {n d : Nat} (h : NOk p A n) (h89 : t.kind ≠ 8 ∧ t.kind ≠ 9) (hp : ∀ post, Pc q post → Pc p post) (hsp : noted p = false)
    (hst : ∀ (l : List Lt) (ends : Nat → Nat) (i : Nat) (s : NS), Sc q s → ∃ s', nestStep l ends i t s = some (i + 1, s') ∧ ∀ post, Rsn n post s' = Rsn (n + d) post s) : NOk q (t :: A) (n + d) := by
  intro k st out
  obtain ⟨o1, a1, a2, a3⟩ := h (k + 1) st out
  refine ⟨o1, ?_, ?_, ?_⟩
  · rw [closeL, if_neg h89.1, if_neg h89.2]; exact a1
  · intro i hi
    rw [List.length_cons] at hi
    exact a2 i (by omega)
  · intro ends hE l pre post hl hk hpc s M hs hM
    rw [List.length_cons] at hE hM
    obtain ⟨s', e1, e2⟩ := hst l ends k s hs
    have h0 : l[k]? = some t := by
      have := at_pre (j := 0) hl hk
      simpa using this
    refine .step h0 e1 (a3 ends (fun i hi hi2 => hE i (by omega) (by omega)) l (pre ++ [t]) post (by rw [hl]; simp) (by simp [hk]) (hp _ hpc) s' M (sc_any hsp s') ?_)
    rw [e2, show k + 1 + A.length = k + (A.length + 1) from by omega]
    exact hM
theorem D.nok {p : Pt} {A : List Lt} {n : Nat} {v : Vl} (h : D p A n v) : NOk p A n := by
  induction h with
  | word ht => exact nok_tok (.inl ht) (.inl rfl)
  | edits ht hu _ => exact nok_tok (.inl ht) (.inr ⟨_, rfl, hu⟩)
  | pat ht => exact nok_tok (.inr (.inl ht)) (.inl rfl)
  | quo ht => exact nok_tok (.inr (.inr ht)) (.inl rfl)
  | slop ht hu _ => exact nok_tok (.inr (.inr ht)) (.inr ⟨_, rfl, hu⟩)
  | span ha hb hc hd he => exact nok_span ha hb hc hd he
  | group ho hA hc ih => exact nok_group ho hc (.inl rfl) ih
  | least ho hA hc hl ih => exact nok_group ho hc (.inr ⟨_, rfl, hl⟩) ih
  | leafB _ ih => exact nok_more ih (pc_lo rfl) (fun s _ => sc_any rfl s)
  | groupB _ ih => exact nok_more ih (pc_lo rfl) (fun s _ => sc_any rfl s)
  | bodyA _ ih => exact nok_more ih (pc_lo rfl) (fun s _ => sc_any rfl s)
  | @field w c A n v hw hc hA ih =>
    intro k st out
    obtain ⟨o1, a1, a2, a3⟩ := ih (k + 2) st out
    refine ⟨o1, ?_, ?_, ?_⟩
    · rw [closeL, if_neg (by omega), if_neg (by omega), closeL, if_neg (by omega), if_neg (by omega)]; exact a1
    · intro i hi
      simp only [List.length_cons] at hi
      exact a2 i (by omega)
    · intro ends hE l pre post hl hk hpc s M hs hM
      simp only [List.length_cons] at hE hM
      have h0 : l[k]? = some w := by
        have := at_pre (j := 0) hl hk
        simpa using this
      have h1 : l[k + 1]? = some c := by
        have := at_pre (j := 1) hl hk
        simpa using this
      refine .step (i' := k + 2) (s' := s) h0 ?_ (a3 ends (fun i hi hi2 => hE i (by omega) (by omega)) l (pre ++ [w, c]) post (by rw [hl]; simp) (by simp [hk]) (pc_lo rfl _ hpc) s M (sc_any rfl s) ?_)
      · unfold nestStep
        rw [if_neg (by omega), if_neg (by omega), if_neg (by omega), if_neg (by omega), if_pos (.inl hw), if_pos (by unfold colonAt; rw [h1]; simp [hc])]
      · rw [show k + 2 + A.length = k + (A.length + 1 + 1) from by omega]; exact hM
  | @all a c t ha hc ht =>
    have ha2 : a.kind = 2 := by simp [starT] at ha; exact ha.1
    have ht2 : t.kind = 2 := by simp [starT] at ht; exact ht.1
    have ih : NOk .leaf [t] 0 := nok_tok (.inr (.inl ht2)) (.inl rfl)
    intro k st out
    obtain ⟨o1, a1, a2, a3⟩ := ih (k + 2) st out
    refine ⟨o1, ?_, ?_, ?_⟩
    · rw [closeL, if_neg (by omega), if_neg (by omega), closeL, if_neg (by omega), if_neg (by omega)]; exact a1
    · intro i hi
      simp only [List.length_cons, List.length_nil] at hi
      exact a2 i (by simp; omega)
    · intro ends hE l pre post hl hk hpc s M hs hM
      simp only [List.length_cons, List.length_nil] at hE hM
      have h0 : l[k]? = some a := by
        have := at_pre (j := 0) hl hk
        simpa using this
      have h1 : l[k + 1]? = some c := by
        have := at_pre (j := 1) hl hk
        simpa using this
      refine .step (i' := k + 2) (s' := s) h0 ?_ (a3 ends (fun i hi hi2 => hE i (by omega) (by simp at hi2; omega)) l (pre ++ [a, c]) post (by rw [hl]; simp) (by simp [hk]) (pc_lo rfl _ hpc) s M (sc_any rfl s) ?_)
      · unfold nestStep
        rw [if_neg (by omega), if_neg (by omega), if_neg (by omega), if_neg (by omega), if_pos (.inr (.inl ha2)), if_pos (by unfold colonAt; rw [h1]; simp [hc])]
      · exact hM
  | atomP _ ih => exact nok_more ih (pc_lo rfl) (fun s _ => sc_any rfl s)
  | @sfx b A n v hA hb ih =>
    intro k st out
    obtain ⟨o1, a1, a2, a3⟩ := ih k st out
    refine ⟨o1, ?_, ?_, ?_⟩
    · rw [closeL_append, a1]
      exact closeL_no (fun t ht => by rw [List.mem_singleton.1 ht]; omega)
    · intro i hi
      rw [List.length_append, List.length_singleton] at hi
      exact a2 i (by omega)
    · intro ends hE l pre post hl hk hpc s M hs hM
      rw [List.length_append, List.length_singleton] at hE hM
      refine a3 ends (fun i hi hi2 => hE i hi (by omega)) l pre (b :: post) (by rw [hl]; simp) hk (hd_cons (by simp [loPt]; omega)) s M (sc_any rfl s) ?_
      have e : Rsn n (b :: post) s = Rsn (n + 1) post s := by
        unfold Rsn
        rw [cntS, if_pos hb]
        congr 1
        omega
      rw [e]
      refine .step (i' := k + A.length + 1) (t := b) ?_ (step_plain (by omega)) hM
      have := at_pre (j := A.length) hl hk
      rw [this]; simp
  | pieceU _ ih => exact nok_more ih (pc_hi rfl _) (fun s _ => sc_any rfl s)
  | @not t A n v ht hA ih =>
    refine nok_ahead ih (by omega) (pc_lo rfl) rfl fun l ends i s _ => ⟨⟨s.most, s.nots + 1, s.depth, s.weights⟩, ?_, fun post => ?_⟩
    · unfold nestStep; rw [if_pos ht]
    · unfold Rsn
      congr 1
      show max s.most (s.depth + (s.nots + 1) + n + cntS post) = _
      congr 1; omega
  | maxU _ ih => exact nok_more ih (pc_hi rfl _) (fun s _ => sc_any rfl s)
  | bar hA hb hB ih1 ih2 => exact nok_two (q := .unary) (x := [_]) (.inl rfl) rfl rfl rfl rfl (.inr ⟨_, rfl, by omega⟩) ⟨_, _, rfl, by rw [hb]; decide⟩ ih1 ih2
  | andM _ ih => exact nok_more ih (pc_hi rfl _) (fun s h => h)
  | and hA hb hB ih1 ih2 => exact nok_two (q := .maxes) (x := [_]) (.inl rfl) rfl rfl rfl rfl (.inr ⟨_, rfl, by omega⟩) ⟨_, _, rfl, by rw [hb]; decide⟩ ih1 ih2
  | orA _ ih => exact nok_more ih (pc_hi rfl _) (fun s h => h)
  | or hA hb hB ih1 ih2 => exact nok_two (q := .ands) (x := [_]) (.inl rfl) rfl rfl rfl rfl (.inr ⟨_, rfl, by omega⟩) ⟨_, _, rfl, by rw [hb]; decide⟩ ih1 ih2
  | clauseO _ ih => exact nok_more ih (pc_hi rfl _) (fun s h => h)
  | @sign s A n v hs hA ih =>
    exact nok_ahead (d := 0) ih (by omega) (pc_lo rfl) rfl fun l ends i s0 _ => ⟨s0, step_plain (by omega), fun post => rfl⟩
  | one _ ih => exact nok_more ih (pc_hi rfl _) (fun s h => h)
  | @more A B n m v u hA hB ih1 ih2 =>
    obtain ⟨⟨t, r, rfl, ht⟩, _⟩ := hB.okk
    exact nok_two (q := .clause) (x := []) (.inl rfl) rfl rfl rfl rfl (.inl rfl) ⟨t, r, rfl, by unfold begT at ht; simp; omega⟩ ih1 ih2
theorem D.nest {A : List Lt} {e : Lt} {n : Nat} {v : Vl} (h : D .list A n v) (he : e.kind = 0) (out : Nat → Nat) : ∃ out', closeL 0 [] out (A ++ [e]) = some ([], out') ∧ NestRun (A ++ [e]) out' 0 ns0 n := by
  obtain ⟨o1, a1, a2, a3⟩ := h.nok 0 [] out
  refine ⟨o1, ?_, ?_⟩
  · rw [closeL_append, a1]
    exact closeL_no (fun t ht => by rw [List.mem_singleton.1 ht]; omega)
  · refine a3 o1 (fun _ _ _ => rfl) (A ++ [e]) [] [e] (by simp) rfl (hd_cons (by rw [he]; decide)) ns0 n (fun _ => rfl) ?_
    have e1 : Rsn n [e] ns0 = ⟨n, 0, 0, []⟩ := by
      unfold Rsn ns0
      rw [cntS, if_neg (by omega)]
      simp
    rw [e1, Nat.zero_add]
    refine .step (i' := A.length + 1) (s' := ⟨n, 0, 0, []⟩) (t := e) (by simp) (step_plain (.inl he)) ?_
    exact .stop (by simp)
end Go.Proofs.YtcomdkejpaoneaaDoor
end
