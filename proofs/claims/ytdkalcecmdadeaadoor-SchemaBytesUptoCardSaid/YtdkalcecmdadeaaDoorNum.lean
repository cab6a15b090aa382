/- Plain arithmetic of number terms: what turning the sign bit and putting eight bytes together come to. No program in sight. -/
import Derived.Test.YtdkalcecmdadeaaDoorBase
namespace Go.Proofs.YtdkalcecmdadeaaDoor
open Go.RowKit

theorem nat_xor_top (a : Nat) (h : a < 18446744073709551616) : a ^^^ 9223372036854775808 = if a < 9223372036854775808 then a + 9223372036854775808 else a - 9223372036854775808 := by
  have h1 : (a ^^^ 2 ^ 63) % 2 ^ 63 = (a % 2 ^ 63) ^^^ (2 ^ 63 % 2 ^ 63) := Nat.xor_mod_two_pow
  have h2 : (a ^^^ 2 ^ 63) / 2 ^ 63 = (a / 2 ^ 63) ^^^ (2 ^ 63 / 2 ^ 63) := Nat.xor_div_two_pow
  rw [show (2 ^ 63 % 2 ^ 63 : Nat) = 0 from by decide, Nat.xor_zero] at h1
  rw [show (2 ^ 63 / 2 ^ 63 : Nat) = 1 from by decide] at h2
  have e : (2 : Nat) ^ 63 = 9223372036854775808 := by decide
  rw [e] at h1 h2
  split
  · rename_i hlt
    rw [show a / 9223372036854775808 = 0 from Nat.div_eq_of_lt hlt, show (0 ^^^ 1 : Nat) = 1 from by decide] at h2
    omega
  · rename_i hge
    rw [show a / 9223372036854775808 = 1 from by omega, show (1 ^^^ 1 : Nat) = 0 from by decide] at h2
    omega

theorem bits_xor_top (u : Int) (h0 : 0 ≤ u) (h1 : u < 18446744073709551616) :
    bits .xor .u64 u 9223372036854775808 = if u < 9223372036854775808 then u + 9223372036854775808 else u - 9223372036854775808 := by
  obtain ⟨n, rfl⟩ := Int.eq_ofNat_of_zero_le h0
  have := bits_xor_u64_nat n 9223372036854775808 (by omega) (by omega)
  rw [show ((9223372036854775808 : Nat) : Int) = 9223372036854775808 from rfl] at this
  rw [this, nat_xor_top n (by omega)]
  split <;> split <;> omega

theorem bits_or_u64_nat (a b : Nat) (ha : a < 18446744073709551616) (hb : b < 18446744073709551616) : bits .or .u64 (a : Int) (b : Int) = ((a ||| b : Nat) : Int) := by
  have hx : a ||| b < 2 ^ 64 := Nat.or_lt_two_pow (by omega) (by omega)
  have h1 : (BitVec.ofInt 64 (a : Int)).toNat = a := by
    rw [BitVec.ofInt_natCast, BitVec.toNat_ofNat]; exact Nat.mod_eq_of_lt (by omega)
  have h2 : (BitVec.ofInt 64 (b : Int)).toNat = b := by
    rw [BitVec.ofInt_natCast, BitVec.toNat_ofNat]; exact Nat.mod_eq_of_lt (by omega)
  show IntKind.u64.wrap ((BitVec.ofInt 64 (a : Int) ||| BitVec.ofInt 64 (b : Int)).toNat : Int) = _
  rw [BitVec.toNat_or, h1, h2, IntKind.wrap_u64]
  omega
/-- u<<8 | uint64(b), where there is room for it -/
theorem or_byte (x : Int) (b : UInt8) (h0 : 0 ≤ x) (h1 : x < 72057594037927936) : bits .or .u64 (IntKind.u64.wrap (x * 256)) (IntKind.u64.wrap (b.toNat : Int)) = x * 256 + (b.toNat : Int) := by
  obtain ⟨n, rfl⟩ := Int.eq_ofNat_of_zero_le h0
  have h2 := b.toNat_lt
  rw [IntKind.wrap_u64, IntKind.wrap_u64, Int.emod_eq_of_lt (by omega) (by omega), Int.emod_eq_of_lt (by omega) (by omega)]
  have := bits_or_u64_nat (n * 256) b.toNat (by omega) (by omega)
  rw [show ((n * 256 : Nat) : Int) = (n : Int) * 256 from by omega] at this
  rw [this]
  have e : 2 ^ 8 * n + b.toNat = 2 ^ 8 * n ||| b.toNat := Nat.two_pow_add_eq_or_of_lt (by simpa using h2) n
  rw [Nat.mul_comm n 256, show (256 : Nat) = 2 ^ 8 from rfl, ← e]
  omega
/-- uint64(v) ^ 1<<63 -/
def topU (v : Int) : Int := bits .xor .u64 (IntKind.u64.wrap v) 9223372036854775808
theorem topU_eq (v : Int) (h0 : -9223372036854775808 ≤ v) (h1 : v ≤ 9223372036854775807) : topU v = v + 9223372036854775808 := by
  unfold topU
  rw [IntKind.wrap_u64, bits_xor_top _ (by omega) (by omega)]
  split <;> omega
/-- int64(u ^ 1<<63) -/
def topV (u : Int) : Int := IntKind.i64.wrap (bits .xor .u64 u 9223372036854775808)
theorem topV_eq (u : Int) (h0 : 0 ≤ u) (h1 : u < 18446744073709551616) : topV u = u - 9223372036854775808 := by
  unfold topV
  rw [bits_xor_top _ h0 h1, IntKind.wrap_i64]
  split <;> omega

def byteU (U : Int) (k : Nat) : Int := U / 2 ^ (56 - 8 * k) % 256
def bytesU (U : Int) : List Int := (List.range 8).map (byteU U)
theorem bytesU_length (U : Int) : (bytesU U).length = 8 := by simp [bytesU]
theorem bytesU_getD (U : Int) (i : Nat) (h : i < 8) : (bytesU U).getD i 0 = byteU U i := by
  simp [bytesU, List.getD, h]

/-- The bytes of a text, put together, the highest first. -/
def foldU (l : List UInt8) : Int := l.foldl (fun u b => u * 256 + (b.toNat : Int)) 0
theorem foldU_snoc (l : List UInt8) (b : UInt8) : foldU (l ++ [b]) = foldU l * 256 + (b.toNat : Int) := by simp [foldU]
theorem foldU_bd (l : List UInt8) : 0 ≤ foldU l ∧ foldU l < 256 ^ l.length := by
  induction l using snoc_ind with
  | h0 => simp [foldU]
  | h1 l b ih =>
    rw [foldU_snoc, List.length_append, List.length_singleton, Int.pow_succ]
    have h2 := u8_lt b
    omega

theorem take_snoc {α : Type} (l : List α) (k : Nat) (h : k < l.length) : l.take (k + 1) = l.take k ++ [l[k]] := List.take_succ_eq_append_getElem h
theorem foldU_take (s : ByteArray) (k : Nat) (h : k < s.size) : foldU (s.data.toList.take (k + 1)) = foldU (s.data.toList.take k) * 256 + (s[k].toNat : Int) := by
  rw [take_snoc _ _ (by rw [← ba_size]; exact h), foldU_snoc]; rfl
theorem foldU_take_bd (s : ByteArray) (k : Nat) (h : k < 8) : 0 ≤ foldU (s.data.toList.take k) ∧ foldU (s.data.toList.take k) < 72057594037927936 := by
  have := foldU_bd (s.data.toList.take k)
  refine ⟨this.1, Int.lt_of_lt_of_le this.2 ?_⟩
  have hl : (s.data.toList.take k).length ≤ 7 := Nat.le_trans (List.length_take_le _ _) (by omega)
  have h2 : ((256 ^ (s.data.toList.take k).length : Nat) : Int) ≤ ((256 ^ 7 : Nat) : Int) := Int.ofNat_le.2 (Nat.pow_le_pow_right (by decide) hl)
  rw [Int.natCast_pow] at h2
  exact h2
def ofNums (l : List Int) : List UInt8 := l.map fun n => UInt8.ofNat n.toNat
/-- A number's term. -/
def termOf (v : Int) : ByteArray := strOfNums (bytesU (topU v))
theorem termOf_data (v : Int) : (termOf v).data.toList = ofNums (bytesU (topU v)) := rfl
theorem termOf_size (v : Int) : (termOf v).size = 8 := by rw [ba_size, termOf_data]; simp [ofNums, bytesU_length]

theorem ofNat_toNat_int (n : Int) (h0 : 0 ≤ n) (h1 : n < 256) : ((UInt8.ofNat n.toNat).toNat : Int) = n := by
  rw [UInt8.toNat_ofNat']; omega

theorem foldU_bytesU (U : Int) (h0 : 0 ≤ U) (h1 : U < 18446744073709551616) : foldU (ofNums (bytesU U)) = U := by
  have hb : ∀ k, ((UInt8.ofNat (byteU U k).toNat).toNat : Int) = byteU U k := fun k => ofNat_toNat_int _ (by unfold byteU; omega) (by unfold byteU; omega)
  simp only [foldU, ofNums, bytesU, show List.range 8 = [0, 1, 2, 3, 4, 5, 6, 7] from rfl, List.map_cons, List.map_nil, List.foldl_cons, List.foldl_nil, hb]
  simp only [byteU, Nat.reduceMul, Nat.reduceSub, Int.reducePow]
  omega

theorem eight {l : List UInt8} (h : l.length = 8) : ∃ a b c d e f g i, l = [a, b, c, d, e, f, g, i] := by
  match l, h with
  | [a, b, c, d, e, f, g, i], _ => exact ⟨a, b, c, d, e, f, g, i, rfl⟩

theorem bytesU_foldU (l : List UInt8) (h : l.length = 8) : ofNums (bytesU (foldU l)) = l := by
  obtain ⟨a, b, c, d, e, f, g, i, rfl⟩ := eight h
  have ha := u8_lt a; have hb := u8_lt b; have hc := u8_lt c; have hd := u8_lt d; have he := u8_lt e; have hf := u8_lt f; have hg := u8_lt g; have hi := u8_lt i
  have key : ∀ (x : UInt8) (n : Int), n = x.toNat → UInt8.ofNat n.toNat = x := fun x n e => by rw [e, Int.toNat_natCast, UInt8.ofNat_toNat]
  simp only [foldU, ofNums, bytesU, show List.range 8 = [0, 1, 2, 3, 4, 5, 6, 7] from rfl, List.map_cons, List.map_nil, List.foldl_cons, List.foldl_nil, List.cons.injEq, and_true]
  simp only [byteU, Nat.reduceMul, Nat.reduceSub, Int.reducePow]
  refine ⟨key _ _ ?_, key _ _ ?_, key _ _ ?_, key _ _ ?_, key _ _ ?_, key _ _ ?_, key _ _ ?_, key _ _ ?_⟩ <;> omega

/-- A fixed number ahead: what the bytes add. -/
def foldA (acc : Int) (l : List UInt8) : Int := l.foldl (fun u b => u * 256 + (b.toNat : Int)) acc
theorem foldA_bd (l : List UInt8) : ∀ acc : Int, acc * 256 ^ l.length ≤ foldA acc l ∧ foldA acc l < (acc + 1) * 256 ^ l.length := by
  induction l with
  | nil => intro acc; simp [foldA]; omega
  | cons b l ih =>
    intro acc
    have h := ih (acc * 256 + b.toNat)
    have h2 := u8_lt b
    have e : foldA acc (b :: l) = foldA (acc * 256 + b.toNat) l := rfl
    rw [e, List.length_cons, Int.pow_succ]
    have hp : (0 : Int) < 256 ^ l.length := Int.pow_pos (by decide)
    generalize (256 : Int) ^ l.length = P at h hp
    have e1 : acc * (P * 256) = acc * 256 * P := by rw [Int.mul_comm P, Int.mul_assoc]
    have e2 : (acc + 1) * (P * 256) = (acc * 256 + 256) * P := by rw [Int.mul_comm P, ← Int.mul_assoc, Int.add_mul acc 1 256]; rfl
    rw [e1, e2]
    have m1 : acc * 256 * P ≤ (acc * 256 + b.toNat) * P := Int.mul_le_mul_of_nonneg_right (by omega) (by omega)
    have m2 : (acc * 256 + b.toNat + 1) * P ≤ (acc * 256 + 256) * P := Int.mul_le_mul_of_nonneg_right (by omega) (by omega)
    omega
theorem less_fold : ∀ (l m : List UInt8) (acc : Int), l.length = m.length → Op.bytesLess l m = decide (foldA acc l < foldA acc m)
  | [], [], acc, _ => by simp [Op.bytesLess, foldA]
  | a :: l, b :: m, acc, h => by
    have ih := less_fold l m (acc * 256 + b.toNat) (by simpa using h)
    have hl := foldA_bd l (acc * 256 + a.toNat)
    have hm := foldA_bd m (acc * 256 + b.toNat)
    have hlen : l.length = m.length := by simpa using h
    rw [hlen] at hl
    have ea : foldA acc (a :: l) = foldA (acc * 256 + a.toNat) l := rfl
    have eb : foldA acc (b :: m) = foldA (acc * 256 + b.toNat) m := rfl
    rw [ea, eb]
    have hp : (0 : Int) < 256 ^ m.length := Int.pow_pos (by decide)
    generalize (256 : Int) ^ m.length = P at hl hm hp
    unfold Op.bytesLess
    by_cases e : a = b
    · subst e
      rw [ih]; simp
    · by_cases hlt : a < b
      · have hn : a.toNat < b.toNat := UInt8.lt_iff_toNat_lt.1 hlt
        have : (acc * 256 + a.toNat + 1) * P ≤ (acc * 256 + b.toNat) * P := Int.mul_le_mul_of_nonneg_right (by omega) (by omega)
        have hd : foldA (acc * 256 + a.toNat) l < foldA (acc * 256 + b.toNat) m := by omega
        simp [hlt, hd]
      · have hn : b.toNat < a.toNat := by
          have h1 : ¬ a.toNat < b.toNat := fun h => hlt (UInt8.lt_iff_toNat_lt.2 h)
          have h2 : a.toNat ≠ b.toNat := fun h => e (UInt8.toNat_inj.1 h)
          omega
        have : (acc * 256 + b.toNat + 1) * P ≤ (acc * 256 + a.toNat) * P := Int.mul_le_mul_of_nonneg_right (by omega) (by omega)
        have hd : ¬ foldA (acc * 256 + a.toNat) l < foldA (acc * 256 + b.toNat) m := by omega
        simp [hlt, hd, e]

section
variable {v w : Int} (hv0 : -9223372036854775808 ≤ v) (hv1 : v ≤ 9223372036854775807) (hw0 : -9223372036854775808 ≤ w) (hw1 : w ≤ 9223372036854775807)
include hv0 hv1 in
theorem foldU_termOf : foldU (termOf v).data.toList = v + 9223372036854775808 := by
  rw [termOf_data, topU_eq v hv0 hv1, foldU_bytesU _ (by omega) (by omega)]
include hv0 hv1 in
theorem term_back : topV (foldU (termOf v).data.toList) = v := by
  rw [foldU_termOf hv0 hv1, topV_eq _ (by omega) (by omega)]; omega
include hv0 hv1 hw0 hw1 in
theorem term_less : Op.bytesLess (termOf v).toList (termOf w).toList = decide (v < w) := by
  rw [ba_toList, ba_toList, less_fold _ _ 0 (by rw [← ba_size, ← ba_size, termOf_size, termOf_size])]
  have e1 := foldU_termOf hv0 hv1
  have e2 := foldU_termOf hw0 hw1
  unfold foldU at e1 e2
  unfold foldA
  rw [e1, e2]
  congr 1
  exact propext ⟨fun h => by omega, fun h => by omega⟩
include hv0 hv1 hw0 hw1 in
theorem term_same : ((termOf v).toList == (termOf w).toList) = (v == w) := by
  rw [Bool.eq_iff_iff, beq_iff_eq, beq_iff_eq, ba_toList, ba_toList]
  constructor
  · intro h
    have e1 := foldU_termOf hv0 hv1
    rw [h, foldU_termOf hw0 hw1] at e1
    omega
  · intro h; rw [h]
end
theorem text_back (s : ByteArray) (h : s.size = 8) : termOf (topV (foldU s.data.toList)) = s := by
  have hb := foldU_bd s.data.toList
  have hl : s.data.toList.length = 8 := by rw [← ba_size]; exact h
  rw [hl] at hb
  have hb2 : foldU s.data.toList < 18446744073709551616 := hb.2
  apply ba_ext
  have hV := topV_eq _ hb.1 hb2
  rw [termOf_data, topU_eq _ (by omega) (by omega), hV]
  rw [show foldU s.data.toList - 9223372036854775808 + 9223372036854775808 = foldU s.data.toList from by omega]
  exact bytesU_foldU _ hl
theorem topV_bd (s : ByteArray) (h : s.size = 8) : -9223372036854775808 ≤ topV (foldU s.data.toList) ∧ topV (foldU s.data.toList) ≤ 9223372036854775807 := by
  have hb := foldU_bd s.data.toList
  have hl : s.data.toList.length = 8 := by rw [← ba_size]; exact h
  rw [hl] at hb
  have hb2 : foldU s.data.toList < 18446744073709551616 := hb.2
  have hV := topV_eq _ hb.1 hb2
  omega
end Go.Proofs.YtdkalcecmdadeaaDoor
