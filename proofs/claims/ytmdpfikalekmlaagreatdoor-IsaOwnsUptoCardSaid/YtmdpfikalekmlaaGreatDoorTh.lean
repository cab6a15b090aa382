/- Layer 20, plainly: instructions and their bytes, there and back. -/
import Derived.Test.YtmdpfikalekmlaaGreatDoorIp
namespace Go.Proofs.YtmdpfikalekmlaaGreatDoor
open Go.RowKit
set_option maxRecDepth 100000
set_option linter.unusedSimpArgs false
set_option linter.unusedVariables false

theorem uvScan_uvL (n i : Nat) (r : List UInt8) (hi : i ≤ 9) (h : n * 128 ^ i < 18446744073709551616) (h0 : 0 < i → 0 < n) :
    uvScan i (uvL n ++ r) = .ok (i + (uvL n).length) ∧ uvVal (uvL n) = n := by
  induction n using Nat.strongRecOn generalizing i with
  | ind n ih =>
    by_cases hn : n < 128
    · have hx : (UInt8.ofNat n).toNat = n := by rw [UInt8.toNat_ofNat']; exact Nat.mod_eq_of_lt (by omega)
      rw [uvL_small hn]
      refine ⟨?_, by rw [uvVal_cons, uvVal_nil, hx]; omega⟩
      rw [List.cons_append, uvScan, hx]
      rw [if_neg, if_neg (by omega), if_neg (by omega)]
      · rfl
      · rintro ⟨rfl, h9⟩
        have h6 : (128 : Nat) ^ 9 = 9223372036854775808 := by decide
        rw [h6] at h
        omega
    · have hx : (UInt8.ofNat (n % 128 + 128)).toNat = n % 128 + 128 := by rw [UInt8.toNat_ofNat']; exact Nat.mod_eq_of_lt (by omega)
      have hi9 : i < 9 := by
        rcases Nat.lt_or_ge i 9 with h9 | h9
        · exact h9
        · obtain rfl : i = 9 := by omega
          have h6 : (128 : Nat) ^ 9 = 9223372036854775808 := by decide
          rw [h6] at h
          omega
      have hlt : n / 128 < n := by omega
      have hm : n / 128 * 128 ^ (i + 1) < 18446744073709551616 := by
        rw [Nat.pow_succ, Nat.mul_comm (128 ^ i) 128, ← Nat.mul_assoc]
        exact Nat.lt_of_le_of_lt (Nat.mul_le_mul_right _ (Nat.div_mul_le_self n 128)) h
      obtain ⟨h1, h2⟩ := ih (n / 128) hlt (i + 1) (by omega) hm (by omega)
      rw [uvL_big hn]
      refine ⟨?_, by rw [uvVal_cons, hx, h2]; omega⟩
      rw [List.cons_append, uvScan, hx, if_neg (by omega), if_pos (by omega), h1, List.length_cons]
      congr 1; omega
/-- What a uvarint makes is read again, and no more than that. -/
theorem uvR_uvL (p r : List UInt8) (n : Nat) (h : n < 18446744073709551616) : uvR (p ++ (uvL n ++ r)) p.length = .ok n (p.length + (uvL n).length) := by
  obtain ⟨h1, h2⟩ := uvScan_uvL n 0 r (by omega) (by simpa using h) (by omega)
  have e : (p ++ (uvL n ++ r)).drop p.length = uvL n ++ r := by simp
  rw [uvR_ok (n := (uvL n).length) (by rw [e, h1]; simp), e, List.take_left, h2]
theorem uvL_scan (m : List UInt8) (i n : Nat) (h : uvScan i m = .ok n) : uvL (uvVal (m.take (n - i))) = m.take (n - i) ∧ (0 < i → 0 < uvVal (m.take (n - i))) := by
  induction m generalizing i with
  | nil => cases h
  | cons x r ih =>
    have hle := uvScan_le _ _ _ h
    unfold uvScan at h
    split at h
    · cases h
    · have hx : x.toNat < 256 := x.toNat_lt
      split at h
      · rename_i h1 h2
        have hle2 := uvScan_le _ _ _ h
        obtain ⟨h3, h4⟩ := ih (i + 1) h
        have e : n - i = (n - (i + 1)) + 1 := by omega
        have h5 := h4 (by omega)
        rw [e, List.take_succ_cons, uvVal_cons]
        refine ⟨?_, fun _ => by omega⟩
        rw [uvL_big (by omega)]
        have e1 : (128 * uvVal (r.take (n - (i + 1))) + x.toNat % 128) % 128 + 128 = x.toNat := by omega
        have e2 : (128 * uvVal (r.take (n - (i + 1))) + x.toNat % 128) / 128 = uvVal (r.take (n - (i + 1))) := by omega
        rw [e1, e2, h3]
        congr 1
        apply UInt8.toNat_inj.1
        rw [UInt8.toNat_ofNat']; exact Nat.mod_eq_of_lt (by omega)
      · split at h
        · cases h
        · rename_i h1 h2 h3
          injection h with h
          obtain rfl : n = i + 1 := by omega
          have e : i + 1 - i = 1 := by omega
          rw [e, List.take_succ_cons, List.take_zero, uvVal_cons, uvVal_nil]
          have h4 : (128 * 0 + x.toNat % 128) = x.toNat := by omega
          rw [h4]
          refine ⟨?_, fun hi => ?_⟩
          · rw [uvL_small (by omega)]
            congr 1
            apply UInt8.toNat_inj.1
            rw [UInt8.toNat_ofNat']; exact Nat.mod_eq_of_lt (by omega)
          · rcases Nat.eq_zero_or_pos x.toNat with hz | hz
            · exact absurd ⟨hz, hi⟩ h3
            · exact hz
theorem uvL_uvR {m : List UInt8} {k v j : Nat} (hk : k ≤ m.length) (h : uvR m k = .ok v j) : m.drop k = uvL v ++ m.drop j := by
  unfold uvR at h
  split at h
  · rename_i n hn
    injection h with h1 h2
    have h3 := (uvL_scan _ _ _ hn).1
    rw [Nat.sub_zero] at h3
    rw [← h1, h3, ← h2, ← List.drop_drop, List.take_append_drop]
  · cases h
  · cases h
theorem insR_insB (p r : List UInt8) (x : Ins) (hx : insOk x = true) (ha : x.a < 18446744073709551616) (hb : x.b < 18446744073709551616) :
    insR (p ++ (insB x ++ r)) p.length = some (x, p.length + (insB x).length) := by
  obtain ⟨op, a, b⟩ := x
  unfold insOk at hx
  simp only [] at hx ha hb
  split at hx
  · cases hx
  · rename_i n hn
    have hn' := argsN_some hn
    simp only [Bool.and_eq_true, Bool.or_eq_true, decide_eq_true_eq] at hx
    have hop : (UInt8.ofNat op.toNat).toNat = op.toNat := by rw [UInt8.toNat_ofNat']; exact Nat.mod_eq_of_lt (by omega)
    have hop2 : ((UInt8.ofNat op.toNat).toNat : Int) = op := by rw [hop]; omega
    have hB : insB ⟨op, a, b⟩ = UInt8.ofNat op.toNat :: ((if 1 ≤ n then uvL a else []) ++ (if 2 ≤ n then uvL b else [])) := by
      unfold insB; simp only []; rw [hn]
    have h0 : (p ++ (insB ⟨op, a, b⟩ ++ r))[p.length]? = some (UInt8.ofNat op.toNat) := by
      rw [List.getElem?_append_right (Nat.le_refl _), Nat.sub_self, hB]; rfl
    have hA : argsN ((UInt8.ofNat op.toNat).toNat : Int) = some n := by rw [hop2]; exact hn
    have h3 : n = 0 ∨ n = 1 ∨ n = 2 := by omega
    rcases h3 with rfl | rfl | rfl
    · rw [insR_0 h0 hA, hB, hop2]
      have hxa : a = 0 := by simpa using hx.1
      have hxb : b = 0 := by simpa using hx.2
      simp [hxa, hxb]
    · have h1 := uvR_uvL (p ++ [UInt8.ofNat op.toNat]) r a ha
      rw [hB] at h0 ⊢
      simp only [Nat.le_refl, if_pos, show ¬ (2 ≤ 1) by omega, if_neg, List.append_nil, not_false_eq_true] at h0 ⊢
      rw [List.append_assoc] at h1
      rw [insR_1 h0 hA (by simpa using h1), hop2]
      have : b = 0 := by simpa using hx.2
      simp [this]; omega
    · have h1 := uvR_uvL (p ++ [UInt8.ofNat op.toNat]) (uvL b ++ r) a ha
      have h2 := uvR_uvL (p ++ [UInt8.ofNat op.toNat] ++ uvL a) r b hb
      rw [hB] at h0 ⊢
      simp only [Nat.le_refl, if_pos, show (1 ≤ 2) by omega] at h0 ⊢
      rw [insR_2 h0 hA (a := a) (j := (p ++ [UInt8.ofNat op.toNat]).length + (uvL a).length) (b := b) (i := (p ++ [UInt8.ofNat op.toNat] ++ uvL a).length + (uvL b).length), hop2]
      · simp; omega
      · simpa using h1
      · rw [show (p ++ [UInt8.ofNat op.toNat]).length + (uvL a).length = (p ++ [UInt8.ofNat op.toNat] ++ uvL a).length from by simp; omega, show p ++ (UInt8.ofNat op.toNat :: (uvL a ++ uvL b) ++ r) = p ++ [UInt8.ofNat op.toNat] ++ uvL a ++ (uvL b ++ r) from by simp]
        exact h2
theorem drop_cons_at {m : List UInt8} {k : Nat} {x : UInt8} (h : m[k]? = some x) : m.drop k = x :: m.drop (k + 1) := by
  obtain ⟨hk, rfl⟩ := List.getElem?_eq_some_iff.1 h
  exact List.drop_eq_getElem_cons hk
theorem insB_insR {m : List UInt8} {k : Nat} {x : Ins} {j : Nat} (h : insR m k = some (x, j)) : insOk x = true ∧ m.drop k = insB x ++ m.drop j := by
  unfold insR at h
  split at h
  · cases h
  · rename_i y hy
    have hk : k < m.length := (List.getElem?_eq_some_iff.1 hy).1
    have hd := drop_cons_at hy
    have hyy : UInt8.ofNat ((y.toNat : Int)).toNat = y := by
      apply UInt8.toNat_inj.1
      rw [UInt8.toNat_ofNat']
      have := y.toNat_lt
      omega
    split at h
    · cases h
    · rename_i hA
      injection h with h
      injection h with h1 h2
      subst h1; subst h2
      refine ⟨by unfold insOk; simp only []; rw [hA]; rfl, ?_⟩
      rw [hd]; unfold insB; simp only []; rw [hA, hyy]; simp
    · rename_i n hn0 hA
      split at h
      · cases h
      · rename_i a j1 hu
        have h3 := uvR_le (by omega) hu
        have h4 := uvL_uvR (by omega) hu
        split at h
        · rename_i hn1
          subst hn1
          injection h with h
          injection h with h1 h2
          subst h1; subst h2
          refine ⟨by unfold insOk; simp only []; rw [hA]; rfl, ?_⟩
          rw [hd, h4]; unfold insB; simp only []; rw [hA, hyy]; simp
        · rename_i hn1
          split at h
          · cases h
          · rename_i b i hu2
            have h5 := uvL_uvR (by omega) hu2
            injection h with h
            injection h with h1 h2
            subst h1; subst h2
            have hn2 := (argsN_some hA).2.2.2
            have hn0' : n ≠ 0 := by intro h0; exact hn0 h0
            obtain rfl : n = 2 := by omega
            refine ⟨by unfold insOk; simp only []; rw [hA]; rfl, ?_⟩
            rw [hd, h4, h5]; unfold insB; simp only []; rw [hA, hyy]; simp
theorem decIF_encI (l : List Ins) (hl : l.all insOk = true) (hs : SmallIns l) (p : List UInt8) (acc : List Ins) (f : Nat) (hf : (encI l).length < f) :
    decIF (p ++ encI l) f p.length acc = some (acc ++ l) := by
  induction l generalizing p acc f with
  | nil =>
    cases f with
    | zero => omega
    | succ f => rw [decIF_end (by simp [encI])]; simp
  | cons x l ih =>
    cases f with
    | zero => omega
    | succ f =>
      rw [List.all_cons, Bool.and_eq_true] at hl
      have hx := hs x List.mem_cons_self
      have e : p ++ encI (x :: l) = p ++ (insB x ++ encI l) := by simp [encI]
      have hi := insR_insB p (encI l) x hl.1 hx.1 hx.2
      have hlen : (encI (x :: l)).length = (insB x).length + (encI l).length := by simp [encI]
      have hx1 : 1 ≤ (insB x).length := by unfold insB; simp
      rw [e, decIF_next (by simp; omega) hi]
      have := ih hl.2 (fun y hy => hs y (List.mem_cons_of_mem _ hy)) (p ++ insB x) (acc ++ [x]) f (by omega)
      rw [List.length_append, List.append_assoc] at this
      rw [this]; simp
/-- What is made of instructions is read as them. -/
theorem decI_encI {l : List Ins} (hl : l.all insOk = true) (hs : SmallIns l) : decI (encI l) = some l := by
  have := decIF_encI l hl hs [] [] ((encI l).length + 1) (by omega)
  simpa [decI] using this
theorem encI_append (l m : List Ins) : encI (l ++ m) = encI l ++ encI m := by simp [encI]
theorem decIF_back (m : List UInt8) (f k : Nat) (acc l : List Ins) (h : decIF m f k acc = some l) : ∃ t, l = acc ++ t ∧ t.all insOk = true ∧ SmallIns t ∧ encI t = m.drop k := by
  induction f generalizing k acc with
  | zero => cases h
  | succ f ih =>
    by_cases hk : m.length ≤ k
    · rw [decIF_end hk] at h
      injection h with h
      refine ⟨[], by simp [h], rfl, (fun y hy => absurd hy List.not_mem_nil), ?_⟩
      rw [List.drop_eq_nil_of_le hk]; rfl
    · cases hR : insR m k with
      | none => rw [decIF_bad (by omega) hR] at h; cases h
      | some xj =>
        obtain ⟨x, j⟩ := xj
        rw [decIF_next (by omega) hR] at h
        obtain ⟨t, h1, h2, h3, h4⟩ := ih j (acc ++ [x]) h
        have h5 := insB_insR hR
        have h6 := insR_le hR
        refine ⟨x :: t, by simp [h1], by rw [List.all_cons, h5.1, h2]; rfl, ?_, ?_⟩
        · intro y hy
          rcases List.mem_cons.1 hy with rfl | hy
          · exact h6.2.2
          · exact h3 y hy
        · rw [h5.2, ← h4]; simp [encI]
/-- What is read is made again. -/
theorem encI_decI {m : List UInt8} {l : List Ins} (h : decI m = some l) : l.all insOk = true ∧ SmallIns l ∧ encI l = m := by
  obtain ⟨t, h1, h2, h3, h4⟩ := decIF_back m _ _ _ _ h
  rw [List.nil_append] at h1
  subst h1
  exact ⟨h2, h3, by simpa using h4⟩
theorem decI_inj {m m' : List UInt8} {l : List Ins} (h : decI m = some l) (h' : decI m' = some l) : m = m' := by rw [← (encI_decI h).2.2, ← (encI_decI h').2.2]
end Go.Proofs.YtmdpfikalekmlaaGreatDoor
