/- Layer 1: the Writer, by pointer. -/
import Derived.Test.YtmdpfikalekmlaaGreatDoorBy
import Derived.Test.YtmdpfikalekmlaaGreatDoorBlk
import Derived.Lib.AppendStr
namespace Go.Proofs.YtmdpfikalekmlaaGreatDoor
open Go.RowKit
set_option maxRecDepth 100000
set_option maxHeartbeats 1000000
set_option linter.unusedSimpArgs false
set_option linter.unusedVariables false

/-- The bytes of a uvarint. -/
def uvL (n : Nat) : List UInt8 := if n < 128 then [UInt8.ofNat n] else UInt8.ofNat (n % 128 + 128) :: uvL (n / 128)
termination_by n
decreasing_by omega
theorem uvL_small {n : Nat} (h : n < 128) : uvL n = [UInt8.ofNat n] := by rw [uvL, if_pos h]
theorem uvL_big {n : Nat} (h : ¬ n < 128) : uvL n = UInt8.ofNat (n % 128 + 128) :: uvL (n / 128) := by rw [uvL, if_neg h]
theorem uvL_len (n : Nat) (k : Nat) (h : n < 128 ^ (k + 1)) : (uvL n).length ≤ k + 1 := by
  induction k generalizing n with
  | zero => rw [uvL_small (by simpa using h)]; simp
  | succ k ih =>
    by_cases hn : n < 128
    · rw [uvL_small hn]; simp
    · rw [uvL_big hn, List.length_cons]
      have := ih (n / 128) (by rw [Nat.div_lt_iff_lt_mul (by omega)]; rw [Nat.pow_succ] at h; exact h)
      omega
theorem uvL_len64 {n : Nat} (h : n < 18446744073709551616) : (uvL n).length ≤ 10 := uvL_len n 9 (Nat.lt_of_lt_of_le h (by decide))

/-- Every block of another kind than bytes, but the writer's own, stays. -/
def KeptT (g : Nat) (w w' : World) : Prop := ∀ b t cs, b ≠ g → t ≠ 5 → Blk w b t cs → Blk w' b t cs
theorem KeptT.refl (g : Nat) (w : World) : KeptT g w w := fun _ _ _ _ _ h => h
theorem KeptT.trans {g : Nat} {a b c : World} (h1 : KeptT g a b) (h2 : KeptT g b c) : KeptT g a c := fun x t cs hx ht h => h2 x t cs hx ht (h1 x t cs hx ht h)
theorem KeptT.below {g : Nat} {w w' : World} (h : Below w.heap.size w w') : KeptT g w w' := fun b t cs _ _ hb => hb.belowW h
def WrAt (w : World) (g : Nat) (l : List UInt8) : Prop := ∃ v, Blk w g 109 #[v] ∧ OwnB w (g + 1) v l
theorem WrAt.lt {w : World} {g : Nat} {l : List UInt8} (h : WrAt w g l) : g < w.heap.size := by obtain ⟨v, h, _⟩ := h; exact h.lt
theorem WrAt.belowW {w w' : World} {g : Nat} {l : List UInt8} (h : WrAt w g l) (hb : Below w.heap.size w w') : WrAt w' g l := by
  obtain ⟨v, h1, h2⟩ := h
  exact ⟨v, h1.belowW hb, h2.below hb⟩
theorem ownB_form {w : World} {B : Nat} {v : Value} {l : List UInt8} (h : OwnB w B v l) : ∃ A cp, v = .slice A l.length cp := by
  rcases h.2 with ⟨rfl, h0⟩ | ⟨g, cap, cur, rfl, _⟩
  · exact ⟨none, 0, by rw [h0]⟩
  · exact ⟨_, cap, rfl⟩
theorem ownB_any {w : World} {B : Nat} {v : Value} {l : List UInt8} (h : OwnB w B v l) : ∃ A n cp, v = .slice A n cp := by
  obtain ⟨A, cp, rfl⟩ := ownB_form h
  exact ⟨_, _, _, rfl⟩
theorem wr_store {w w' : World} {g : Nat} {v v' : Value} {l l' : List UInt8} (h1 : Blk w g 109 #[v]) (h2 : OwnB w (g + 1) v l) (h3 : OwnB w' (g + 1) v' l') (hb : Below (g + 1) w w') (hk : KeptBut w w' v) :
    WrAt (w'.setCell ⟨g, 0, none⟩ v') g l' ∧ Below g w (w'.setCell ⟨g, 0, none⟩ v') ∧ KeptT g w (w'.setCell ⟨g, 0, none⟩ v') := by
  have h1' : Blk w' g 109 #[v] := h1.below hb (by omega)
  refine ⟨⟨v', by simpa using h1'.set_ 0 v', ownB_iff.2 ((ownB_iff.1 h3).far (by show g < g + 1; omega) v')⟩, (hb.mono (by omega)).setCell (by show g ≤ g; omega) _, ?_⟩
  intro b t cs hbg ht hB
  refine Blk.far ?_ (by show b ≠ g; exact hbg) _
  refine (hk b hB.lt ?_).trans hB
  intro e
  obtain ⟨cur, hc⟩ := own_block h2 e
  unfold Blk at hB
  rw [hB] at hc
  injection hc with hc
  injection hc with _ hc
  exact ht hc
theorem newWriter_any (w : World) :
    Calls Tryz.prog 25 #[] w fun e w' => e = .returned (.pointer (some ⟨w.heap.size, 0, none⟩)) ∧ WrAt w' w.heap.size [] ∧ Below w.heap.size w w' := by
  go_enter Tryz.func25, Tryz.ntmps25
  go_wp2
  go_ret
  exact ⟨rfl, ⟨_, Blk.new w _ _, OwnB.nil _ _⟩, (Below.refl _ _).alloc (Nat.le_refl _) _⟩
theorem wbyte_any (x : UInt8) (g : Nat) (l : List UInt8) (w : World) (hW : WrAt w g l) (hl : l.length ≤ 100000000000) :
    Calls Tryz.prog 27 #[.pointer (some ⟨g, 0, none⟩), .int .u8 x.toNat] w fun e w' => e = .returned (.tuple #[]) ∧ WrAt w' g (l ++ [x]) ∧ Below g w w' ∧ KeptT g w w' := by
  obtain ⟨v, h1, h2⟩ := hW
  obtain ⟨A, nn, cp, rfl⟩ := ownB_any h2
  have hlt := h1.lt
  have hc : w.cell? ⟨g, 0, none⟩ = some (.slice A nn cp) := h1.cell 0
  have hf := h1.frozen 0
  have H1 := Lib.hid h1
  have H2 := Lib.hid h2
  have hx := x.toNat_lt
  clear h1 h2
  go_enter Tryz.func27, Tryz.ntmps27
  go_wp2_with (at_builtin; refine OwnB.appendAt H2.out _ _ rfl _ _ rfl rfl rfl ?_ ?_ ?_ hlt ?_ ?_)
  all_goals first | omega | exact (World.size_alloc ..).symm | skip
  intro v' w' h2' h3' hk'
  obtain ⟨A', nn', cp', rfl⟩ := ownB_any h2'
  have H2' := Lib.hid h2'
  have hc' : w'.cell? ⟨g, 0, none⟩ = some (.slice A nn cp) := (h3'.cell (p := ⟨g, 0, none⟩) (by show g < g + 1; omega)).trans hc
  have hf' := (H1.out.below h3' (by omega)).frozen 0
  clear h2' hc hf
  go_wp2
  go_end0
  obtain ⟨r1, r2, r3⟩ := wr_store H1.out H2.out H2'.out h3' hk'
  exact ⟨rfl, r1, r2, r3⟩
theorem oct (n : Nat) : (UInt8.ofNat (n % 128 + 128)).toNat = n % 256 ||| 128 := by
  rw [UInt8.toNat_ofNat', Nat.mod_eq_of_lt (by omega : n % 128 + 128 < 2 ^ 8)]
  have h1 : n % 256 = n % 128 + 128 * (n % 256 / 128) := by omega
  have hb : n % 256 / 128 = 0 ∨ n % 256 / 128 = 1 := by omega
  have hlt : n % 128 < 2 ^ 7 := by omega
  have e1 : n % 128 + 128 = 2 ^ 7 * 1 ||| n % 128 := by rw [← Nat.two_pow_add_eq_or_of_lt hlt]; omega
  rcases hb with h | h
  · rw [h] at h1
    rw [e1, h1, Nat.or_comm]; rfl
  · rw [h] at h1
    have e2 : n % 256 = 2 ^ 7 * 1 ||| n % 128 := by rw [← Nat.two_pow_add_eq_or_of_lt hlt]; omega
    rw [e1, e2, Nat.or_comm (2 ^ 7 * 1) (n % 128), Nat.or_assoc]
    rfl
theorem bits_or_u8_nat (a b : Nat) (ha : a < 256) (hb : b < 256) : bits .or .u8 (a : Int) (b : Int) = ((a ||| b : Nat) : Int) := by
  have hx : a ||| b < 2 ^ 8 := Nat.or_lt_two_pow (by omega) (by omega)
  have h1 : (BitVec.ofInt 8 (a : Int)).toNat = a := by
    rw [BitVec.ofInt_natCast, BitVec.toNat_ofNat]; exact Nat.mod_eq_of_lt (by omega)
  have h2 : (BitVec.ofInt 8 (b : Int)).toNat = b := by
    rw [BitVec.ofInt_natCast, BitVec.toNat_ofNat]; exact Nat.mod_eq_of_lt (by omega)
  show IntKind.u8.wrap ((BitVec.ofInt 8 (a : Int) ||| BitVec.ofInt 8 (b : Int)).toNat : Int) = _
  rw [BitVec.toNat_or, h1, h2, IntKind.wrap_u8]
  omega
theorem oct_or (m : Nat) : bits .or .u8 ((m : Int) % 256) 128 = (((UInt8.ofNat (m % 128 + 128)).toNat : Nat) : Int) := by
  rw [oct]
  exact bits_or_u8_nat (m % 256) 128 (by omega) (by omega)
/-- Uvarint's loop. -/
def WuRel (g : Nat) (l : List UInt8) (n : Nat) (w : World) (xv : Value) (wr : World) : Prop :=
  ∃ (m : Nat) (pre : List UInt8), xv = .int .u64 (m : Int) ∧ m ≤ n ∧ pre ++ uvL m = uvL n ∧ WrAt wr g (l ++ pre) ∧ Below g w wr ∧ KeptT g w wr
theorem wuvarint_any (n : Nat) (g : Nat) (l : List UInt8) (w : World) (hW : WrAt w g l) (hn : n < 18446744073709551616) (hl : l.length ≤ 100000000000) :
    Calls Tryz.prog 28 #[.pointer (some ⟨g, 0, none⟩), .int .u64 (n : Int)] w fun e w' => e = .returned (.tuple #[]) ∧ WrAt w' g (l ++ uvL n) ∧ Below g w w' ∧ KeptT g w w' := by
  have HL := Lib.hid (uvL_len64 hn)
  go_enter Tryz.func28, Tryz.ntmps28
  go_wp2
  go_loopw [1] (fun x wr => WuRel g l n w x wr) (fun x _ => (intOf x).toNat)
  case atStart => exact ⟨n, [], rfl, Nat.le_refl _, rfl, by simpa using hW, Below.refl _ _, KeptT.refl _ _⟩
  case round =>
    obtain ⟨m, pre, rfl, hm, hp, ⟨v, h1, h2⟩, hb, hk⟩ := hrel
    obtain ⟨A, nn, cp, rfl⟩ := ownB_any h2
    have hpl : (l ++ pre).length ≤ 100000000010 := by have := HL.out; rw [← hp] at this; simp at this ⊢; omega
    have hlt := h1.lt
    have hc : wr.cell? ⟨g, 0, none⟩ = some (.slice A nn cp) := h1.cell 0
    have hf := h1.frozen 0
    have H1 := Lib.hid h1
    have H2 := Lib.hid h2
    have HP := Lib.hid hp
    have HB := Lib.hid hb
    have HK := Lib.hid hk
    have hor := oct_or m
    obtain ⟨x, hx0⟩ : ∃ x : UInt8, x = UInt8.ofNat (m % 128 + 128) := ⟨_, rfl⟩
    rw [← hx0] at hor
    have HX0 := Lib.hid hx0
    clear hx0
    have hx1 := x.toNat_lt
    clear h1 h2 hp hb hk hW
    by_cases hs : m < 128
    · have HS := Lib.hid hs
      have hmm : (m : Int) % 256 = m := by omega
      go_wp2_with (at_builtin; refine OwnB.appendAt H2.out _ _ rfl _ _ rfl rfl rfl ?_ ?_ ?_ hlt ?_ ?_)
      all_goals first | omega | exact (World.size_alloc ..).symm | skip
      intro v' w' h2' h3' hk'
      obtain ⟨A', nn', cp', rfl⟩ := ownB_any h2'
      have H2' := Lib.hid h2'
      have hc' : w'.cell? ⟨g, 0, none⟩ = some (.slice A nn cp) := (h3'.cell (p := ⟨g, 0, none⟩) (by show g < g + 1; omega)).trans hc
      have hf' := (H1.out.below h3' (by omega)).frozen 0
      clear h2' hc hf
      go_wp2
      go_end0
      obtain ⟨r1, r2, r3⟩ := wr_store H1.out H2.out H2'.out h3' hk'
      refine ⟨rfl, ?_, HB.out.trans r2, HK.out.trans r3⟩
      rw [← HP.out, uvL_small HS.out, ← List.append_assoc]
      simpa using r1
    · have HS := Lib.hid hs
      go_wp2_with (at_builtin; refine OwnB.appendAt H2.out _ _ rfl _ _ rfl rfl rfl ?_ ?_ ?_ hlt ?_ ?_)
      all_goals first | omega | exact (World.size_alloc ..).symm | skip
      intro v' w' h2' h3' hk'
      obtain ⟨A', nn', cp', rfl⟩ := ownB_any h2'
      have H2' := Lib.hid h2'
      have hc' : w'.cell? ⟨g, 0, none⟩ = some (.slice A nn cp) := (h3'.cell (p := ⟨g, 0, none⟩) (by show g < g + 1; omega)).trans hc
      have hf' := (H1.out.below h3' (by omega)).frozen 0
      clear h2' hc hf
      have HX : Hid (m ≥ 128) := Lib.hid (by omega)
      go_wp2
      go_roundw
      case rel =>
        obtain ⟨r1, r2, r3⟩ := wr_store H1.out H2.out H2'.out h3' hk'
        refine ⟨m / 128, pre ++ [x], by simp, by omega, ?_, ?_, HB.out.trans r2, HK.out.trans r3⟩
        · rw [HX0.out, List.append_assoc, List.singleton_append, ← uvL_big HS.out, HP.out]
        · rw [← List.append_assoc]
          simpa using r1
      case measure => simp [intOf]; omega
/-- 'append(b, s...)' of a string. -/
theorem OwnB.appendStr {w : World} {B : Nat} {v : Value} {l : List UInt8} (h : OwnB w B v l) (s : ByteArray) {ops : Array Oper} {rest : List Oper} {o : Oper} {a : Act} {Q : Exit → Act → World → Prop} (hgd : o.guard = none) (sl y : Operand)
    (ho : o.op = .call { callee := .builtin .append, args := #[sl, y], argTypes := #[26, 9] }) (hs : a.eval sl = v) (hy : a.eval y = .string s) (hB : B ≤ w.heap.size) (hl : l.length + s.size ≤ 140737488355328)
    (k : ∀ v' w', OwnB w' B v' (l ++ s.data.toList) → Below B w w' → KeptBut w w' v → wpList Tryz.prog ops Q rest (a.put o.dst v') w') :
    wpList Tryz.prog ops Q (o :: rest) a w := by
  obtain ⟨i0, hi, hz0, hz1, hz2⟩ := info_parts infoB
  have hlt := h.lt
  refine Lib.wpList_append_own_string w hgd sl y 26 9 ho B 5 i0 Tryz.underlying26 Tryz.underlying9 hi hz0 hz1 hz2 v l.length (byteVals l) hs h s hy ?_ ?_ hB ?_
  · unfold maxLen; omega
  · omega
  · intro v' w' h2 h3 _
    refine k v' w' ?_ ?_ (fun b hb hv => h3.block b hb (fun e => hv e.symm))
    · unfold OwnB
      have e : (l ++ s.data.toList).length = l.length + s.size := by rw [List.length_append, Array.length_toList]; rfl
      rw [e, show byteVals (l ++ s.data.toList) = byteVals l ++ Lib.strCells s from by unfold byteVals Lib.strCells; rw [List.map_append]]
      exact h2
    · exact (Below.refl _ _).grown h3 hB (fun g hg => (hlt g hg).1)
def txL (s : ByteArray) : List UInt8 := uvL s.size ++ s.data.toList
theorem wbytes_any (g : Nat) (l : List UInt8) (w : World) (hW : WrAt w g l) (hl : l.length ≤ 10000000000) :
    Calls Tryz.prog 29 #[.pointer (some ⟨g, 0, none⟩)] w fun e w' => ∃ v, e = .returned v ∧ OwnB w' w.heap.size v l ∧ Below w.heap.size w w' := by
  obtain ⟨v, h1, h2⟩ := hW
  obtain ⟨A, nn, cp, rfl⟩ := ownB_any h2
  have hlt := h1.lt
  have hc : w.cell? ⟨g, 0, none⟩ = some (.slice A nn cp) := h1.cell 0
  have HR := Lib.hid (RdL.ofB h2)
  clear h1 h2
  go_enter Tryz.func29, Tryz.ntmps29
  go_wp2_with fail
  have hb0 : Below w.heap.size w (w.alloc (.cells #[.slice A nn cp] 26)) := (Below.refl _ _).alloc (Nat.le_refl _) _
  refine (concat_any (.slice A nn cp) l w.heap.size _ w.heap.size (by rw [World.size_alloc]; omega) (HR.out.belowW (Nat.le_refl _) hb0) (by rw [World.cell?_alloc_new]; rfl) (by omega)).mono ?_
  rintro e w1 ⟨v, rfl, ho, hb⟩
  have HO := Lib.hid ho; clear ho
  go_wp2
  go_ret
  exact ⟨v, rfl, ownB_iff.2 ((ownB_iff.1 HO.out).more (by rw [World.size_alloc]; omega)), hb0.trans (hb.mono (by rw [World.size_alloc]; omega))⟩
end Go.Proofs.YtmdpfikalekmlaaGreatDoor
