/- Decimal numbers, plainly: the value of digits, and what ParseNumber answers. No program in sight. -/
import Derived.Test.YtdkalcecmdadeaaDoorNum
namespace Go.Proofs.YtdkalcecmdadeaaDoor
open Go.RowKit

def isDig (c : UInt8) : Bool := decide (48 ≤ c.toNat ∧ c.toNat ≤ 57)
def dval (l : List UInt8) : Nat := l.foldl (fun n c => 10 * n + (c.toNat - 48)) 0
theorem dval_snoc (l : List UInt8) (c : UInt8) : dval (l ++ [c]) = 10 * dval l + (c.toNat - 48) := by simp [dval]
theorem dval_append_le (l m : List UInt8) : dval l ≤ dval (l ++ m) := by
  induction m using snoc_ind with
  | h0 => simp
  | h1 m c ih => rw [← List.append_assoc, dval_snoc]; omega
/-- What ParseNumber answers of digits d, behind a minus or not. -/
def pres (d : List UInt8) (m : Bool) : Int × Bool :=
  if d = [] ∨ d.all isDig = false then (0, false)
  else if m then (if dval d ≤ 9223372036854775808 then (-(dval d : Int), true) else (0, false))
  else (if dval d < 9223372036854775808 then ((dval d : Int), true) else (0, false))
/-- The digits read so far are digits, and there is room for them. -/
def okPart (p : List UInt8) : Prop := p.all isDig = true ∧ dval p ≤ 9223372036854775808

section
variable {d : ByteArray} {k : Nat} {m : Bool}
theorem dtake (h : k < d.size) : d.data.toList.take (k + 1) = d.data.toList.take k ++ [d[k]] := take_snoc _ _ (by rw [← ba_size]; exact h)
theorem dval_take (h : k < d.size) : dval (d.data.toList.take (k + 1)) = 10 * dval (d.data.toList.take k) + (d[k].toNat - 48) := by rw [dtake h, dval_snoc]
theorem dval_take_le : dval (d.data.toList.take k) ≤ dval d.data.toList := by
  have := dval_append_le (d.data.toList.take k) (d.data.toList.drop k)
  rwa [List.take_append_drop] at this
theorem okPart_zero : okPart (d.data.toList.take 0) := ⟨rfl, by simp [dval]⟩
theorem pres_byte (h : k < d.size) (hc : ¬ (48 ≤ (d[k].toNat : Int) ∧ (d[k].toNat : Int) ≤ 57)) : pres d.data.toList m = (0, false) := by
  unfold pres
  rw [if_pos]
  right
  rw [List.all_eq_false]
  refine ⟨d[k], ?_, ?_⟩
  · exact List.getElem_mem (l := d.data.toList) (n := k) (by rw [← ba_size]; exact h)
  · simp only [isDig, decide_eq_true_eq]; omega
theorem quo_lt (v c : Int) (h0 : 0 ≤ c) (h1 : c ≤ 9) : v < (-9223372036854775808 + c).tdiv 10 ↔ 10 * v - c < -9223372036854775808 := by
  have e : (-9223372036854775808 + c).tdiv 10 = -((9223372036854775808 - c) / 10) := by
    rw [show (-9223372036854775808 + c : Int) = -(9223372036854775808 - c) from by omega, Int.neg_tdiv, Int.tdiv_eq_ediv_of_nonneg (by omega)]
  rw [e]; omega
theorem pres_big (h : k < d.size) (hc0 : 48 ≤ (d[k].toNat : Int)) (hc1 : (d[k].toNat : Int) ≤ 57) (hv : -(dval (d.data.toList.take k) : Int) < (-9223372036854775808 + ((d[k].toNat : Int) - 48)).tdiv 10) : pres d.data.toList m = (0, false) := by
  rw [quo_lt _ _ (by omega) (by omega)] at hv
  have e := dval_take (d := d) h
  have e2 := dval_take_le (d := d) (k := k + 1)
  unfold pres
  by_cases h1 : d.data.toList = [] ∨ d.data.toList.all isDig = false
  · rw [if_pos h1]
  · rw [if_neg h1]
    split
    · rw [if_neg (by omega)]
    · rw [if_neg (by omega)]
theorem step_in (h : k < d.size) (hp : okPart (d.data.toList.take k)) (hc0 : 48 ≤ (d[k].toNat : Int)) (hc1 : (d[k].toNat : Int) ≤ 57) (hv : (-9223372036854775808 + ((d[k].toNat : Int) - 48)).tdiv 10 ≤ -(dval (d.data.toList.take k) : Int)) :
    wrap64 (wrap64 (10 * -(dval (d.data.toList.take k) : Int)) - ((d[k].toNat : Int) - 48)) = -(dval (d.data.toList.take (k + 1)) : Int) ∧ okPart (d.data.toList.take (k + 1)) := by
  have hv2 : ¬ -(dval (d.data.toList.take k) : Int) < (-9223372036854775808 + ((d[k].toNat : Int) - 48)).tdiv 10 := by omega
  rw [quo_lt _ _ (by omega) (by omega)] at hv2
  have e := dval_take (d := d) h
  refine ⟨?_, ?_, ?_⟩
  · rw [IntWalk.wrap64_in (10 * _) (by omega), IntWalk.wrap64_in _ (by omega)]; omega
  · rw [dtake h, List.all_append, hp.1]; simp [isDig]; omega
  · omega
theorem pres_end (hk : k ≤ d.size) (hge : ¬ k < d.size) (h0 : ¬ d.toList.isEmpty = true) (hp : okPart (d.data.toList.take k)) :
    pres d.data.toList true = (-(dval (d.data.toList.take k) : Int), true)
    ∧ ((-(dval (d.data.toList.take k) : Int) == -9223372036854775808) = true → pres d.data.toList false = (0, false))
    ∧ ((-(dval (d.data.toList.take k) : Int) == -9223372036854775808) = false → pres d.data.toList false = (wrap64 (dval (d.data.toList.take k) : Int), true)) := by
  have e : d.data.toList.take k = d.data.toList := List.take_of_length_le (by rw [← ba_size]; omega)
  rw [e] at hp ⊢
  have hn : ¬ (d.data.toList = [] ∨ d.data.toList.all isDig = false) := by
    rintro (h | h)
    · exact h0 (by rw [ba_toList, h]; rfl)
    · rw [hp.1] at h; cases h
  have h2 := hp.2
  unfold pres
  rw [if_neg hn]
  refine ⟨by rw [if_pos rfl, if_pos h2], fun h => ?_, fun h => ?_⟩
  · have := beq_iff_eq.1 h
    rw [if_neg hn, if_neg (by simp), if_neg (by omega)]
  · have := beq_eq_false_iff_ne.1 h
    rw [if_neg hn, if_neg (by simp), if_pos (by omega), IntWalk.wrap64_in _ (by omega)]
theorem pres_nil (h0 : d.toList.isEmpty = true) : pres d.data.toList m = (0, false) := by
  unfold pres
  rw [if_pos]
  left
  rw [ba_toList] at h0
  simpa using h0
end
theorem ret_pair {a a' : Int} {b b' : Bool} (h : (a', b') = (a, b)) : Ending.returned (.tuple #[.int .i64 a, .bool b]) = .returned (.tuple #[.int .i64 a', .bool b']) := by cases h; rfl

theorem dval_acc (l : List UInt8) : ∀ a : Nat, l.foldl (fun n c => 10 * n + (c.toNat - 48)) a = a * 10 ^ l.length + dval l := by
  induction l using snoc_ind with
  | h0 => intro a; simp [dval]
  | h1 l c ih => intro a; rw [List.foldl_append, ih a, dval_snoc]; simp [Nat.pow_succ, Nat.mul_add]; rw [← Nat.mul_assoc, Nat.mul_comm 10 a, Nat.mul_assoc, Nat.mul_comm 10]; omega
theorem dval_cons (c : UInt8) (l : List UInt8) : dval (c :: l) = (c.toNat - 48) * 10 ^ l.length + dval l := by
  have := dval_acc l (c.toNat - 48)
  unfold dval at this ⊢
  simpa using this
/-- What the law's own decimal keeps: the digits made, and the rest of the number. -/
def DInv (v z : Int) (acc : ByteArray) : Prop :=
  acc.data.toList.all isDig = true ∧ v.natAbs = z.natAbs * 10 ^ acc.data.toList.length + dval acc.data.toList ∧ acc.size ≤ 19 ∧ (z ≠ 0 ∨ acc.data.toList ≠ []) ∧ v ≠ 0 ∧ (0 ≤ v → 0 ≤ z) ∧ (v ≤ 0 → z ≤ 0)
theorem DInv_start (v : Int) (h : v ≠ 0) : DInv v v ⟨#[]⟩ := ⟨rfl, by simp [dval], by simp [ByteArray.size], .inl h, h, id, id⟩
theorem DInv_size {v z : Int} {acc : ByteArray} (h : DInv v z acc) : acc.size ≤ 19 := h.2.2.1
theorem DInv_z {v z : Int} {acc : ByteArray} (h : DInv v z acc) : z.natAbs ≤ v.natAbs := by
  have hp : 0 < 10 ^ acc.data.toList.length := Nat.pow_pos (by decide)
  have := Nat.le_mul_of_pos_right z.natAbs hp
  have := h.2.1
  omega
theorem DInv_bd {v z : Int} {acc : ByteArray} (h : DInv v z acc) (h0 : -9223372036854775808 ≤ v) (h1 : v ≤ 9223372036854775807) : -9223372036854775808 ≤ z ∧ z ≤ 9223372036854775807 := by
  have h2 := DInv_z h
  have h3 := h.2.2.2.2.2
  omega
theorem DInv_step {v z dd : Int} {acc : ByteArray} (h : DInv v z acc) (hv : v.natAbs ≤ 9223372036854775808) (hz : z ≠ 0) (hd : dd = ((z.tmod 10).natAbs : Int)) : DInv v (z.tdiv 10) (chr (48 + dd) ++ acc) := by
  obtain ⟨h1, h2, h3, h4, h5, h6, h7⟩ := h
  have hp : 0 < 10 ^ acc.data.toList.length := Nat.pow_pos (by decide)
  have hm : (z.tmod 10).natAbs = z.natAbs % 10 := by rw [Int.natAbs_tmod]; rfl
  have hq : (z.tdiv 10).natAbs = z.natAbs / 10 := by rw [Int.natAbs_tdiv]; rfl
  have hdd : dd = ((z.natAbs % 10 : Nat) : Int) := by rw [hd, hm]
  have hc : (UInt8.ofNat (48 + dd).toNat).toNat = 48 + z.natAbs % 10 := by
    rw [UInt8.toNat_ofNat', hdd]; omega
  have hlen : acc.data.toList.length ≤ 18 := by
    rcases Nat.lt_or_ge acc.data.toList.length 19 with h | h
    · omega
    · exfalso
      have h6' : 10 ^ 19 ≤ 10 ^ acc.data.toList.length := Nat.pow_le_pow_right (by decide) h
      have h7' : 1 * 10 ^ acc.data.toList.length ≤ z.natAbs * 10 ^ acc.data.toList.length := Nat.mul_le_mul_right _ (by omega)
      have e : (10 : Nat) ^ 19 = 10000000000000000000 := by decide
      omega
  refine ⟨?_, ?_, ?_, .inr ?_, h5, fun h => Int.tdiv_nonneg (h6 h) (by decide), fun h => ?_⟩
  · rw [ba_append, List.all_append, h1, chr_data]; simp [isDig, hc]; omega
  · rw [ba_append, chr_data, List.cons_append, List.nil_append, dval_cons, hc, h2, hq, List.length_cons, Nat.pow_succ]
    rw [show 48 + z.natAbs % 10 - 48 = z.natAbs % 10 from by omega]
    generalize 10 ^ acc.data.toList.length = P
    have e : z.natAbs = 10 * (z.natAbs / 10) + z.natAbs % 10 := by omega
    generalize z.natAbs / 10 = a at *
    generalize z.natAbs % 10 = b at *
    rw [e, Nat.add_mul, Nat.mul_comm 10 a, Nat.mul_assoc, Nat.mul_comm 10 P]; omega
  · rw [ba_append_size, chr_size, ba_size]; omega
  · rw [ba_append, chr_data]; simp
  · have h8 := h7 h
    have h9 : 0 ≤ (-z).tdiv 10 := Int.tdiv_nonneg (by omega) (by decide)
    rw [Int.neg_tdiv] at h9
    omega
/-- A number's decimal digits. -/
def IsDec (v : Int) (s : ByteArray) : Prop := ∃ ds : List UInt8, s.data.toList = (if v < 0 then 45 :: ds else ds) ∧ ds ≠ [] ∧ ds.all isDig = true ∧ dval ds = v.natAbs ∧ ds.length ≤ 19
theorem DInv_end {v : Int} {acc : ByteArray} (h : DInv v 0 acc) : (0 ≤ v → IsDec v acc) ∧ (v < 0 → IsDec v (⟨#[45]⟩ ++ acc)) := by
  obtain ⟨h1, h2, h3, h4, h5, _, _⟩ := h
  have h6 : acc.data.toList ≠ [] := by rcases h4 with h | h; exact absurd rfl h; exact h
  have h7 : dval acc.data.toList = v.natAbs := by rw [h2]; simp
  refine ⟨fun hv => ⟨acc.data.toList, by rw [if_neg (by omega)], h6, h1, h7, by rw [← ba_size]; exact h3⟩, fun hv => ⟨acc.data.toList, ?_, h6, h1, h7, by rw [← ba_size]; exact h3⟩⟩
  rw [if_pos hv, ba_append]; rfl
theorem IsDec_zero : IsDec 0 ⟨#[48]⟩ := ⟨[48], rfl, by simp, by decide, by decide, by decide⟩
theorem natAbs_tdiv_lt (z : Int) (h : z ≠ 0) : (z.tdiv 10).natAbs < z.natAbs := by
  have e : (z.tdiv 10).natAbs = z.natAbs / 10 := by rw [Int.natAbs_tdiv]; rfl
  omega
theorem tmod_bd (z : Int) : -9 ≤ z.tmod 10 ∧ z.tmod 10 ≤ 9 := by
  have := Int.natAbs_tmod z 10
  rw [show (10 : Int).natAbs = 10 from rfl] at this
  omega
end Go.Proofs.YtdkalcecmdadeaaDoor
