/- Merged for a claim by shake.py: Yc Yf Zf -/
import Derived.Test.YtcomdkejpaoneaaDoorKd1
import Derived.Test.YtcomdkejpaoneaaDoorKd2
import Derived.Test.YtcomdkejpaoneaaDoorKd31
import Derived.Test.YtcomdkejpaoneaaDoorKd33
import Derived.Test.YtcomdkejpaoneaaDoorKd4
import Derived.Test.YtcomdkejpaoneaaDoorKd9
section
namespace Go.Proofs.YtcomdkejpaoneaaDoor
set_option maxRecDepth 100000
set_option linter.unusedSimpArgs false
set_option linter.unusedVariables false
theorem runL_ext : ∀ (a b : List UInt8) (r : Rn), runL a = some r → r.len < a.length → runL (a ++ b) = some r
  | [], b, r, h, hl => by simp at hl
  | [c], b, r, h, hl => by
    unfold runL at h
    split at h
    · rename_i hc
      cases h
      cases b with
      | nil => unfold runL; simp [hc]
      | cons d b => rw [List.singleton_append, runL, if_pos hc]
    · split at h
      · cases h; simp at hl
      · split at h
        · cases h
        · cases h; simp at hl
  | c :: d :: t, b, r, h, hl => by
    rw [runL] at h
    rw [List.cons_append, List.cons_append, runL]
    split at h
    · rename_i hc; cases h; rw [if_pos hc]
    · rename_i hc
      rw [if_neg hc]
      split at h
      · rename_i h3
        obtain ⟨y, hy, rfl⟩ := Option.map_eq_some_iff.1 h
        have := runL_ext (d :: t) b y hy (by simp [Rn.add] at hl ⊢; omega)
        rw [List.cons_append] at this
        rw [if_pos h3, this]; rfl
      · rename_i h3
        rw [if_neg h3]
        split at h
        · rename_i h4
          obtain ⟨y, hy, rfl⟩ := Option.map_eq_some_iff.1 h
          rw [if_pos h4, runL_ext t b y hy (by simp [Rn.add] at hl ⊢; omega)]; rfl
        · rename_i h4
          obtain ⟨y, hy, rfl⟩ := Option.map_eq_some_iff.1 h
          have := runL_ext (d :: t) b y hy (by simp [Rn.add] at hl ⊢; omega)
          rw [List.cons_append] at this
          rw [if_neg h4, this]; rfl
theorem digs_ext (a b : List UInt8) (h : (digs a).length < a.length) : digs (a ++ b) = digs a := by
  induction a with
  | nil => simp at h
  | cons c a ih =>
    unfold digs at *
    rw [List.cons_append, List.takeWhile_cons, List.takeWhile_cons]
    rw [List.takeWhile_cons] at h
    by_cases hc : isDg c = true
    · rw [if_pos hc] at h
      rw [if_pos hc, if_pos hc, ih (by simp at h ⊢; omega)]
    · rw [if_neg hc, if_neg hc]
theorem numTk_ext {kind : Int} {a b : List UInt8} {m : Nat} {k : Tk} (h : numTk kind a m = some k) (hl : k.len < m + a.length) : numTk kind (a ++ b) m = some k := by
  have hd : digs (a ++ b) = digs a := by
    unfold numTk at h
    split at h
    · injection h with h
      rw [← h] at hl
      exact digs_ext a b (by simp only [] at hl; omega)
    · cases h
  unfold numTk numOkB at *
  rw [hd]; exact h
theorem tok_ext {c : UInt8} {a b : List UInt8} {k : Tk} (h : tokOf (c :: a) = some k) (hl : k.len < a.length + 1) : tokOf (c :: (a ++ b)) = some k := by
  simp only [tokOf] at h ⊢
  split at h
  · rename_i hs; rw [if_pos hs]; exact h
  · rename_i hs
    rw [if_neg hs]
    split at h
    · rename_i hc
      obtain ⟨y, hy, rfl⟩ := Option.map_eq_some_iff.1 h
      rw [if_pos hc, quotedL_app a _ y hy]; rfl
    · rename_i hc
      rw [if_neg hc]
      split at h
      · rename_i h94
        rw [if_pos h94]
        cases a with
        | nil =>
          have : numTk 18 [] 1 = none := by decide
          rw [if_neg (by simp)] at h
          rw [this] at h; cases h
        | cons d a =>
          simp only [List.cons_append, List.head?_cons, List.drop_succ_cons, List.drop_zero, List.length_cons] at h hl ⊢
          split at h
          · rename_i h61
            rw [if_pos h61]
            exact numTk_ext h (by omega)
          · rename_i h61
            rw [if_neg h61]
            have := numTk_ext (b := b) h (by rw [List.length_cons]; omega)
            rw [List.cons_append] at this
            exact this
      · rename_i h94
        rw [if_neg h94]
        split at h
        · rename_i h126
          rw [if_pos h126]
          split at h
          · rename_i hd
            injection h with h
            rw [← h] at hl
            have := digs_ext a b (by rw [hd]; simp only [] at hl; simp; omega)
            rw [if_pos (this.trans hd), h]
          · rename_i hd
            have h2 := numTk_ext (b := b) h (by omega)
            have : digs (a ++ b) ≠ [] := by
              intro e
              unfold numTk numOkB at h2
              rw [e] at h2
              simp at h2
            rw [if_neg this]; exact h2
        · rename_i h126
          rw [if_neg h126]
          split at h
          · rename_i h64
            rw [if_pos h64]; exact numTk_ext h (by omega)
          · rename_i h64
            rw [if_neg h64]
            unfold runTk at h ⊢
            obtain ⟨r, hr, rfl⟩ := Option.map_eq_some_iff.1 h
            have hlen := runL_len _ _ hr
            have hl2 : r.len < (c :: a).length := by
              rw [List.length_cons]
              split at hl <;> exact hl
            have := runL_ext (c :: a) b r hr hl2
            rw [List.cons_append] at this
            rw [this]
            simp only [Option.map_some]
            rw [← List.cons_append, List.take_append_of_le_length hlen]
theorem blank_stop {z : UInt8} (h : cls z = 1) : stopB z := by
  refine ⟨.inl h, ?_⟩
  have := all_bytes' (p := fun c => decide (cls c = 1 → isDg c = false)) (by decide +kernel) z
  exact of_decide_eq_true this h
theorem tok_ctx {c : UInt8} {t : List UInt8} {k : Tk} {n : Nat} (h : tokOf (c :: t) = some k) (hn : k.len = n + 1) (hle : n ≤ t.length) {r : UInt8} {W : List UInt8} (hr : cls r = 1 ∨ (t.drop n).head? = some r) :
    tokOf (c :: (t.take n ++ r :: W)) = some k := by
  rcases hr with hr | hr
  · have h1 : tokOf (c :: t.take n) = some k := tok_cut (b := t.drop n) (by rw [List.take_append_drop]; exact h) (by rw [List.length_take]; omega)
    exact tok_stopApp (blank_stop hr) h1
  · cases hd : t.drop n with
    | nil => rw [hd] at hr; cases hr
    | cons x T =>
      rw [hd] at hr
      simp only [List.head?_cons, Option.some.injEq] at hr
      subst hr
      have e : t = (t.take n ++ [x]) ++ T := by rw [List.append_assoc, List.singleton_append, ← hd, List.take_append_drop]
      have h1 : tokOf (c :: (t.take n ++ [x])) = some k := tok_cut (b := T) (by rw [← e]; exact h) (by simp; omega)
      have h2 := tok_ext (b := W) h1 (by simp; omega)
      simpa using h2
theorem Toks.tok {c : UInt8} {u : List UInt8} {k : Tk} {B : List Lt} (h : tokOf (c :: u) = some k) (hc : cls c ≠ 1) (h2 : Toks ((c :: u).drop k.len) B) : Toks (c :: u) (⟨k.kind, k.text, k.n, 0, 0⟩ :: B) := by
  have hk := tok_len h (fun d hd => by cases hd; exact hc)
  obtain ⟨la, e, hs, he, hl⟩ := h2
  refine ⟨k.lx 0 :: la.map (Lx.up k.len), e.up k.len, ?_, he, by rw [List.map_cons, List.map_cons, lkX_up, hl]; rfl⟩
  unfold scanL at hs ⊢
  rw [List.length_cons, scanF, if_neg hc, h]
  simp only []
  rw [scanF_up, scanF_fuel _ (((c :: u).drop k.len).length + 1) _ _ (by rw [List.length_drop, List.length_cons]; omega) (by omega), hs]
  simp [upAll, ahead]
theorem Toks.blanks : ∀ {l : List UInt8} (_ : ∀ c ∈ l, cls c = 1) {q : List UInt8} {B : List Lt}, Toks q B → Toks (l ++ q) B
  | [], _, _, _, h => h
  | c :: l, hl, _, _, h => .blank (hl c List.mem_cons_self) (Toks.blanks (fun d hd => hl d (List.mem_cons_of_mem _ hd)) h)
def cutB (q : List UInt8) (a b : Nat) : List UInt8 := (q.drop a).take (b - a)
def wideF (q : List UInt8) (bl : Nat → List UInt8) : List Lx → Nat → Nat → List UInt8
  | [], _, _ => [32]
  | x :: r, j, a => bl j ++ (cutB q a x.at_ ++ (cutB q x.at_ x.end_ ++ wideF q bl r (j + 1) x.end_))
theorem cutB_self (q : List UInt8) (a : Nat) : cutB q a a = [] := by simp [cutB]
theorem wide_toks (q : List UInt8) (bl : Nat → List UInt8) (hbl : ∀ j, ∀ c ∈ bl j, cls c = 1) : ∀ (f i : Nat) (la : List Lx), i ≤ q.length → scanF f (q.drop i) i = (la, none) → ∀ (a j : Nat), a ≤ i → (∀ c ∈ cutB q a i, cls c = 1) →
    (∃ l0 e, la = l0 ++ [e] ∧ e.kind = 0 ∧ Toks (wideF q bl la j a) (l0.map Lx.lt)) ∧ ∃ r W, wideF q bl la j a = r :: W ∧ (cls r = 1 ∨ (q.drop a).head? = some r)
  | 0, i, la, hi, h, _, _, _, _ => by cases h
  | f + 1, i, la, hi, h, a, j, ha, hg => by
    cases hd : q.drop i with
    | nil =>
      rw [hd, scanF] at h
      cases h
      have hw : wideF q bl [⟨0, [], 0, i, i⟩] j a = (bl j ++ cutB q a i) ++ [32] := by simp [wideF, cutB_self]
      have hb : ∀ c ∈ bl j ++ cutB q a i, cls c = 1 := fun c hc => by
        rcases List.mem_append.1 hc with hc | hc
        · exact hbl j c hc
        · exact hg c hc
      rw [hw]
      refine ⟨⟨[], _, rfl, rfl, .blanks hb (.blank blank32 .nil)⟩, ?_⟩
      cases hx : bl j ++ cutB q a i with
      | nil => exact ⟨32, [], rfl, .inl blank32⟩
      | cons r W => exact ⟨r, W ++ [32], rfl, .inl (hb r (by rw [hx]; exact List.mem_cons_self))⟩
    | cons c t =>
      have hd1 : q.drop (i + 1) = t := by rw [← List.drop_drop, hd]; rfl
      have hlen : q.length = i + (t.length + 1) := by
        have := congrArg List.length hd
        rw [List.length_drop, List.length_cons] at this; omega
      rw [hd, scanF] at h
      split at h
      · rename_i hc
        refine wide_toks q bl hbl f (i + 1) la (by omega) (by rw [hd1]; exact h) a j (by omega) fun d hdm => ?_
        have e : cutB q a (i + 1) = cutB q a i ++ [c] := by
          unfold cutB
          rw [show i + 1 - a = (i - a) + 1 from by omega, List.take_add_one, List.getElem?_drop, show a + (i - a) = i from by omega]
          have : q[i]? = some c := by
            have := congrArg List.head? hd
            rw [List.head?_drop] at this; exact this
          rw [this]; rfl
        rw [e] at hdm
        rcases List.mem_append.1 hdm with hdm | hdm
        · exact hg d hdm
        · rw [List.mem_singleton.1 hdm]; exact hc
      · rename_i hc
        split at h
        · cases h
        · rename_i k ht
          have hk := tok_len ht (fun d hd => by cases hd; exact hc)
          rw [List.length_cons] at hk
          obtain ⟨n, hn⟩ : ∃ n, k.len = n + 1 := ⟨k.len - 1, by omega⟩
          rcases hr : scanF f ((c :: t).drop k.len) (i + k.len) with ⟨u, _ | z⟩
          · rw [hr] at h
            cases h
            obtain ⟨⟨l0, e, hu, he, hT⟩, r, W, hW, hrW⟩ := wide_toks q bl hbl f (i + k.len) u (by omega) (by rw [← List.drop_drop, hd]; exact hr) (i + k.len) (j + 1) (Nat.le_refl _) (by rw [cutB_self]; simp)
            have hm : cutB q i (i + k.len) = c :: t.take n := by
              unfold cutB
              rw [hd, show i + k.len - i = n + 1 from by omega, List.take_succ_cons]
            have hdk : q.drop (i + k.len) = t.drop n := by rw [← List.drop_drop, hd, hn, List.drop_succ_cons]
            have hwide : wideF q bl ([k.lx i] ++ u) j a = (bl j ++ cutB q a i) ++ (c :: (t.take n ++ r :: W)) := by
              rw [List.singleton_append, wideF]
              simp only [Tk.lx]
              rw [hm, hW]; simp
            have hb : ∀ d ∈ bl j ++ cutB q a i, cls d = 1 := fun d hdm => by
              rcases List.mem_append.1 hdm with hdm | hdm
              · exact hbl j d hdm
              · exact hg d hdm
            refine ⟨⟨k.lx i :: l0, e, by rw [hu]; rfl, he, ?_⟩, ?_⟩
            · rw [hwide]
              refine .blanks hb ?_
              have h5 : tokOf (c :: (t.take n ++ r :: W)) = some k := tok_ctx ht hn (by omega) (by rw [← hdk]; exact hrW)
              have h6 : (c :: (t.take n ++ r :: W)).drop k.len = wideF q bl u (j + 1) (i + k.len) := by
                rw [hW, hn, List.drop_succ_cons, List.drop_append_of_le_length (by rw [List.length_take]; omega), List.drop_eq_nil_of_le (by rw [List.length_take]; omega)]; rfl
              have h7 := Toks.tok h5 hc (B := l0.map Lx.lt) (by rw [h6]; exact hT)
              exact h7.lk (by rw [lk_lt, List.map_cons, List.map_cons, lk_lt]; rfl)
            · rw [hwide]
              by_cases hj : bl j ++ cutB q a i = []
              · rw [hj]
                have hca : cutB q a i = [] := (List.append_eq_nil_iff.1 hj).2
                have hai : a = i := by
                  unfold cutB at hca
                  have := congrArg List.length hca
                  rw [List.length_take, List.length_drop, List.length_nil] at this; omega
                exact ⟨c, _, rfl, .inr (by rw [hai, hd]; rfl)⟩
              · cases hx : bl j ++ cutB q a i with
                | nil => exact absurd hx hj
                | cons r2 W2 => exact ⟨r2, _, rfl, .inl (hb r2 (by rw [hx]; exact List.mem_cons_self))⟩
          · rw [hr] at h; cases h
def wideT (q : List UInt8) (bl : Nat → List UInt8) (la : List Lx) : Nat → List UInt8
  | 0 => []
  | k + 1 => wideT q bl la k ++ (match la[k]? with
    | some x => bl k ++ (cutB q (endOf la k) x.at_ ++ cutB q x.at_ x.end_)
    | none => [])
theorem wideT_F (q : List UInt8) (bl : Nat → List UInt8) (la : List Lx) : ∀ k, k ≤ la.length → wideF q bl la 0 0 = wideT q bl la k ++ wideF q bl (la.drop k) k (endOf la k)
  | 0, _ => by simp [wideT, endOf]
  | k + 1, h => by
    rw [wideT_F q bl la k (by omega), wideT, List.drop_eq_getElem_cons (by omega), wideF, List.getElem?_eq_getElem (by omega), endOf_succ la k (by omega)]
    simp
theorem wide_all {q : List UInt8} {la : List Lx} (bl : Nat → List UInt8) (hbl : ∀ j, ∀ c ∈ bl j, cls c = 1) (h : scanL q = (la, none)) :
    ∃ l0 e, la = l0 ++ [e] ∧ e.kind = 0 ∧ Toks (wideT q bl la la.length ++ [32]) (l0.map Lx.lt) := by
  obtain ⟨⟨l0, e, h1, h2, h3⟩, _⟩ := wide_toks q bl hbl (q.length + 1) 0 la (Nat.zero_le _) h 0 0 (Nat.le_refl _) (by rw [cutB_self]; simp)
  refine ⟨l0, e, h1, h2, ?_⟩
  rw [wideT_F q bl la la.length (Nat.le_refl _), List.drop_length, wideF] at h3
  exact h3
theorem Der.wide {q : List UInt8} {n : Nat} {t : Nd} {la : List Lx} (bl : Nat → List UInt8) (hbl : ∀ j, ∀ c ∈ bl j, cls c = 1) (h : Der q n t) (hs : scanL q = (la, none)) : Der (wideT q bl la la.length ++ [32]) n t := by
  obtain ⟨A, v, ⟨l1, e1, hs1, he1, hl1⟩, hD, ht⟩ := h
  obtain ⟨l0, e, h1, h2, h3⟩ := wide_all bl hbl hs
  rw [hs] at hs1
  have h5 : l0 ++ [e] = l1 ++ [e1] := by rw [← h1]; exact congrArg Prod.fst hs1
  obtain ⟨h6, _⟩ := List.append_inj' h5 rfl
  subst h6
  exact ⟨A, v, h3.lk (by rw [lk_lt, ← hl1]), hD, ht⟩
end Go.Proofs.YtcomdkejpaoneaaDoor
end
section
namespace Go.Proofs.YtcomdkejpaoneaaDoor
set_option maxRecDepth 100000
set_option linter.unusedSimpArgs false
set_option linter.unusedVariables false
def blB (j : Nat) : List UInt8 := if j = 1 then [32] else if j = 2 then [9] else if j = 3 then [10, 32] else if j = 4 then [13] else []
def blJ (z : Int) : Nat := ((z % 18446744073709551616) % 5).toNat
def blOf (bl : List Int) (i : Nat) : List UInt8 := match bl[i]? with
  | some z => blB (blJ z)
  | none => []
theorem blB_blank (j : Nat) : ∀ c ∈ blB j, cls c = 1 := by
  unfold blB
  intro c hc
  split at hc
  · rw [List.mem_singleton.1 hc]; decide
  · split at hc
    · rw [List.mem_singleton.1 hc]; decide
    · split at hc
      · simp only [List.mem_cons, List.not_mem_nil, or_false] at hc
        rcases hc with rfl | rfl <;> decide
      · split at hc
        · rw [List.mem_singleton.1 hc]; decide
        · cases hc
theorem blB_len (j : Nat) : (blB j).length ≤ 2 := by
  unfold blB
  repeat' split
  all_goals decide
theorem blOf_blank (bl : List Int) (j : Nat) : ∀ c ∈ blOf bl j, cls c = 1 := by
  unfold blOf
  split
  · exact blB_blank _
  · intro c hc; cases hc
theorem blOf_len (bl : List Int) (j : Nat) : (blOf bl j).length ≤ 2 := by
  unfold blOf
  split
  · exact blB_len _
  · decide
theorem blJ_lt (z : Int) : blJ z < 5 := by unfold blJ; omega
theorem cutB_length (q : List UInt8) (a b : Nat) : (cutB q a b).length ≤ b - a := by unfold cutB; rw [List.length_take]; exact Nat.min_le_left _ _
theorem tk_places {q : List UInt8} {la : List Lx} (h : scanL q = (la, none)) (k : Nat) (hk : k < la.length) : endOf la k ≤ la[k].at_ ∧ la[k].at_ ≤ la[k].end_ ∧ la[k].end_ ≤ q.length := by
  obtain ⟨h1, h2, h3⟩ := scanL_at h k hk
  by_cases hl : k + 1 = la.length
  · rw [(h2 hl).1]; exact ⟨h1, Nat.le_refl _, Nat.le_refl _⟩
  · have := h3 (by omega)
    exact ⟨this.le, Nat.le_of_lt this.lt, this.len⟩
theorem wideT_len {q : List UInt8} {la : List Lx} (bl : List Int) (h : scanL q = (la, none)) : ∀ k, k ≤ la.length → (wideT q (blOf bl) la k).length ≤ 2 * k + endOf la k
  | 0, _ => by simp [wideT]
  | k + 1, hk => by
    have ih := wideT_len bl h k (by omega)
    obtain ⟨h1, h2, h3⟩ := tk_places h k (by omega)
    rw [wideT, List.getElem?_eq_getElem (by omega), endOf_succ la k (by omega)]
    simp only [List.length_append]
    have := blOf_len bl k
    have := cutB_length q (endOf la k) la[k].at_
    have := cutB_length q la[k].at_ la[k].end_
    omega
theorem endOf_le {q : List UInt8} {la : List Lx} (h : scanL q = (la, none)) (k : Nat) (hk : k ≤ la.length) : endOf la k ≤ q.length := by
  cases k with
  | zero => simp [endOf]
  | succ k => rw [endOf_succ la k (by omega)]; exact (tk_places h k (by omega)).2.2
end Go.Proofs.YtcomdkejpaoneaaDoor
end
section
namespace Go.Proofs.YtcomdkejpaoneaaDoor
open Go.RowKit
set_option maxRecDepth 100000
set_option maxHeartbeats 8000000
set_option linter.unusedSimpArgs false
set_option linter.unusedVariables false
theorem at_tkB {w : World} {B : Nat} {A : Option Addr} {n cap : Nat} {la : List Lx} (h : RdL ltS w B (.slice A n cap) (la.map Lx.lt)) {k : Nat} (hk : k < la.length) :
    ∃ a, A = some a ∧ w.cell? (a.add (k * 5)) = some (.int .i64 la[k].kind) ∧
      w.cell? ⟨(a.add (k * 5)).block, (a.add (k * 5)).off + 1, none⟩ = some (.string (str la[k].text)) ∧
      w.cell? ⟨(a.add (k * 5)).block, (a.add (k * 5)).off + 2, none⟩ = some (.int .i64 la[k].n) ∧
      w.cell? ⟨(a.add (k * 5)).block, (a.add (k * 5)).off + 3, none⟩ = some (.int .i64 (la[k].at_ : Int)) ∧
      w.cell? ⟨(a.add (k * 5)).block, (a.add (k * 5)).off + 4, none⟩ = some (.int .i64 (la[k].end_ : Int)) := by
  obtain ⟨a, rfl, hb, h0, h1, h2, h3, h4⟩ := at_lt h (k := k) (by rw [List.length_map]; exact hk)
  simp only [List.getElem_map, Lx.lt] at h0 h1 h2 h3 h4
  exact ⟨a, rfl, h0, h1, h2, h3, h4⟩
theorem at_intB {w : World} {B : Nat} {A : Option Addr} {n c : Nat} {l : List Int} (h : RdL folS w B (.slice A n c) l) {k : Nat} (hk : k < l.length) : ∃ a, A = some a ∧ w.cell? (a.add k) = some (.int .i64 l[k]) := by
  obtain ⟨a, e, hb, h0, hj⟩ := h.at2 folOk hk
  have h1 := h0 _ rfl
  exact ⟨a, e, by simpa [folS] using h1⟩
theorem str_slice2 (s : ByteArray) (a b : Nat) (h1 : a ≤ b) (h2 : b ≤ s.size) (W : World) :
    (Instr.slice 9 (.string s) (some (.int .i64 (a : Int))) (some (.int .i64 (b : Int))) none).run Tryd.prog W = .ok (.string (s.extract a b)) W := by
  rw [run_slice_string_if W 9 s .i64 .i64 (a : Int) (b : Int) Tryd.underlying9]
  rw [if_pos (show (0 : Int) ≤ (b : Int) ∧ (b : Int) ≤ s.size from by omega), if_pos (show (0 : Int) ≤ (a : Int) ∧ (a : Int) ≤ (b : Int) from by omega)]; rfl
theorem wrap_u64e (z : Int) : (IntKind.u64.wrap z).tmod 5 = (blJ z : Int) := by
  have h : IntKind.u64.wrap z = z % 18446744073709551616 := by
    unfold IntKind.wrap
    show (let m := z % (2 ^ 64 : Int); if (false : Bool) = true ∧ m ≥ (2 ^ (64 - 1) : Int) then m - (2 ^ 64 : Int) else m) = _
    simp
  have h0 : 0 ≤ z % 18446744073709551616 := Int.emod_nonneg _ (by decide)
  rw [h, Int.tmod_eq_emod_of_nonneg h0]
  unfold blJ; omega
theorem ext_cut (s : ByteArray) (a b : Nat) : (s.extract a b).data.toList = cutB s.data.toList a b := by
  rw [ByteArray.data_extract, Array.toList_extract]; unfold cutB; simp [List.extract_eq_take_drop]
def BkRel (q : List UInt8) (bl : List Int) (la : List Lx) (w : World) (iv wv av : Value) (wr : World) : Prop :=
  ∃ (i : Nat) (s : ByteArray), i ≤ la.length ∧ iv = .int .i64 (i : Int) ∧ wv = .string s ∧ s.data.toList = wideT q (blOf bl) la i ∧ av = .int .i64 (endOf la i : Int) ∧ Below w.heap.size w wr
def BkMid (q : List UInt8) (bl : List Int) (la : List Lx) (i : Nat) (w : World) (wv : Value) (wr : World) : Prop :=
  ∃ s : ByteArray, wv = .string s ∧ s.data.toList = wideT q (blOf bl) la i ++ blOf bl i ∧ Below w.heap.size w wr
theorem open_ints_ {H : Type} {enc : TypeId × Value → H} {W : World} {v : Value} {d : DataW H} {p : List MemPlace} (hv : Value.okWide Tryd.prog W .any 0 33 v) (h0 : DataW.Trod enc Tryd.prog W 0 (fun _ => true) true 33 v d p) :
    ∃ (l : List Int), RdL folS W W.heap.size v l ∧ (l.map fun _ => 1).sum ≤ Rows.uptoBulk d := by
  obtain ⟨l, h1, h2, _⟩ := open_cells1 (S := folS) folOk rfl (by kernel_rfl) (fun _ => 1) (fun _ => True) (W := W) (fun n cs D ps ht => by
    obtain ⟨x, e0, e1⟩ := DataW.trod_int Tryd.underlying3 ht
    exact ⟨x, .int .i64 x, e0, rfl, trivial, bulk_pos _⟩) hv h0
  exact ⟨l, h1, h2⟩
theorem blanks_walk (q : ByteArray) (bv : Value) (bl : List Int) (w : World) (ea : List Addr) (hq : q.size ≤ 1048576) (hrd : RdL folS w w.heap.size bv bl) (hE : ErrEnv w ea) (hc : ClsEnv w) :
    Calls Tryd.prog 8 #[.string q, bv] w fun e w' => e = .returned (.bool true) ∧ Below w.heap.size w w' := by
  have HLV := Lib.hid (slives_at w ea 15 (errAt15 hE) hc)
  have HE := Lib.hid (fun (W : World) (hW : Below w.heap.size w W) => And.intro (hc.belowB hc.2 hW) (hE.below hW))
  have HSC := Lib.hid (fun (W : World) (hW : Below w.heap.size w W) => Scan_any q W (errI ea 15) (by omega) (HE.out W hW).1 (errAt15 (HE.out W hW).2))
  have HCK := Lib.hid (fun (W : World) (hW : Below w.heap.size w W) => scheck_any q W ea 15 (by omega) (HE.out W hW).1 (errAt15 (HE.out W hW).2))
  have HCS := Lib.hid (fun (s : ByteArray) (n : Nat) (t : Nd) (h : Der s.data.toList n t) (hs : s.size ≤ 10000000) (W : World) (hW : Below w.heap.size w W) => check_der h W ea 15 hs (HE.out W hW).1 (errAt15 (HE.out W hW).2))
  have HPS := Lib.hid (fun (s : ByteArray) (n : Nat) (t : Nd) (h : Der s.data.toList n t) (hn : n ≤ 64) (hs : s.size ≤ 10000000) (W : World) (hW : Below w.heap.size w W) => parse_der h hn W ea 15 hs (HE.out W hW).1 (errAt15 (HE.out W hW).2))
  have HPD := Lib.hid (fun (s : ByteArray) (n : Nat) (h : checkS s.data.toList = .inl n) (hn : 64 < n) (hs : s.size ≤ 10000000) (W : World) (hW : Below w.heap.size w W) => parse_deep h hn W ea 15 16 hs (HE.out W hW).1 (errAt15 (HE.out W hW).2) (errAt16 (HE.out W hW).2))
  have hz1 := fun W => errI_nnil ea 15 W
  have hz2 := fun op x y W => errI_guard0 ea 15 op x y W
  have HNB := Lib.hid (fun (W : World) (hW : Below w.heap.size w W) => Num_any ea 16 (by omega) W (HE.out W hW).2)
  clear hE hc HE
  generalize errI ea 15 = va at *
  generalize errI ea 16 = vb at *
  obtain ⟨BA, bc, rfl, hbc1, hbc2⟩ := hrd.open_
  have HRB := Lib.hid hrd
  unfold maxLen at hbc2
  clear hrd
  go_enter Tryd.func8, Tryd.ntmps8
  go_wp2_with fail
  refine HLV.out.mono ?_
  rintro e w1 ⟨rfl, hb1⟩
  have HB1 := Lib.hid hb1
  clear hb1
  go_wp2_with fail
  refine (HSC.out w1 HB1.out).mono ?_
  rintro e w2 ⟨hb2, hm⟩
  have HB2 := Lib.hid (HB1.out.trans (hb2.mono HB1.out.size))
  clear hb2
  cases hr : scanL q.data.toList with
  | mk la r =>
  rw [hr] at hm
  simp only [] at hm
  cases r with
  | some p =>
    simp only [] at hm
    subst hm
    go_wp2
    go_ret
    exact ⟨rfl, HB2.out⟩
  | none =>
  simp only [] at hm
  obtain ⟨sl, rfl, ho⟩ := hm
  have hrd : RdL ltS w2 w2.heap.size sl (la.map Lx.lt) := RdL.of_own ho.lt
  have HRD := Lib.hid hrd
  obtain ⟨A, ca, rfl, hca, hca2⟩ := hrd.open_
  rw [List.length_map] at *
  have HSR := Lib.hid hr
  have hlc := scanL_count q.data.toList
  rw [hr, ← ba_size] at hlc
  have HLC := Lib.hid (show la.length ≤ q.size + 1 from hlc)
  clear ho hrd hca hca2 hlc
  go_wp2_with fail
  refine (HCK.out w2 HB2.out).mono ?_
  rintro e w3 ⟨hb3, he⟩
  have HB3 := Lib.hid (HB2.out.trans (hb3.mono HB2.out.size))
  have HRD3 := Lib.hid ((HRD.out.belowW (Nat.le_refl _) hb3).more hb3.size)
  have HRB3 := Lib.hid ((HRB.out.belowW (Nat.le_refl _) HB3.out).more HB3.out.size)
  clear hb3
  cases hk : checkS q.data.toList with
  | inr p =>
    rw [hk] at he
    subst he
    simp only []
    clear hr hk
    go_wp2
    go_ret
    exact ⟨rfl, HB3.out⟩
  | inl n =>
  rw [hk] at he
  subst he
  simp only []
  have HKC := Lib.hid hk
  obtain ⟨t, hD⟩ := der_of hk
  have HDD := Lib.hid hD
  have HLL := Lib.hid (show la.length ≤ 1048577 from by have := HLC.out; omega)
  have hll := HLL.out
  clear hr hk hD
  go_wp2
  go_loopw [42, 10, 11] (fun iv wv av wr => BkRel q.data.toList bl la w3 iv wv av wr) (fun iv _ _ _ => la.length - (intOf iv).toNat)
  case atStart => exact ⟨0, ⟨#[]⟩, Nat.zero_le _, rfl, rfl, rfl, rfl, Below.refl _ _⟩
  case round =>
    obtain ⟨i, s, hi, rfl, rfl, hs, rfl, hb⟩ := hrel
    have HBR := Lib.hid hb
    have HS := Lib.hid hs
    have HSL := Lib.hid (wideT_len bl HSR.out i hi)
    have HEL := Lib.hid (endOf_le HSR.out i hi)
    have hsz : s.size ≤ 4000000 := by
      have h1 := HSL.out; have h2 := HEL.out
      rw [← hs] at h1
      rw [← ba_size] at h1 h2
      omega
    clear hb hs
    by_cases hlt : i < la.length
    · obtain ⟨h1, h2, h3⟩ := tk_places HSR.out i hlt
      rw [← ba_size] at h3
      obtain ⟨a, rfl, c0, c1, c2, c3, c4⟩ := at_tkB (HRD3.out.belowW (Nat.le_refl _) HBR.out) hlt
      have HX := Lib.hid (show wideT q.data.toList (blOf bl) la (i + 1) = wideT q.data.toList (blOf bl) la i ++ (blOf bl i ++ (cutB q.data.toList (endOf la i) la[i].at_ ++ cutB q.data.toList la[i].at_ la[i].end_)) from by rw [wideT, List.getElem?_eq_getElem hlt])
      have HEE := Lib.hid (show endOf la (i + 1) = la[i].end_ from endOf_succ la i hlt)
      have hsl1 := fun W => str_slice2 q (endOf la i) la[i].at_ h1 (by omega) W
      have hsl2 := fun W => str_slice2 q la[i].at_ la[i].end_ h2 h3 W
      have hc1 := ext_cut q (endOf la i) la[i].at_
      have hc2 := ext_cut q la[i].at_ la[i].end_
      have hz3 : (q.extract (endOf la i) la[i].at_).size ≤ 1048576 := by rw [ByteArray.size_extract]; omega
      have hz4 : (q.extract la[i].at_ la[i].end_).size ≤ 1048576 := by rw [ByteArray.size_extract]; omega
      generalize q.extract (endOf la i) la[i].at_ = p1 at *
      generalize q.extract la[i].at_ la[i].end_ = p2 at *
      generalize endOf la i = ea1 at *
      generalize hxx : la[i] = x at *
      clear hxx
      obtain ⟨xk, xt, xn, xa, xe⟩ := x
      simp only [] at c0 c1 c2 c3 c4 h1 h2 h3 HX HEE hsl1 hsl2 hc1 hc2
      have HC12 := Lib.hid (And.intro hc1 hc2)
      have d1 : decide (xa < ea1) = false := decide_eq_false (by omega)
      have d2 : decide (xe < xa) = false := decide_eq_false (by omega)
      have d3 : decide (q.size < xe) = false := decide_eq_false (by omega)
      have e1 : decide ((xa : Int) < (ea1 : Int)) = false := decide_eq_false (by omega)
      have e2 : decide ((xe : Int) < (xa : Int)) = false := decide_eq_false (by omega)
      have e3 : decide ((q.size : Int) < (xe : Int)) = false := decide_eq_false (by omega)
      have hb12 : p1.size + p2.size ≤ 2097152 := by omega
      have hadd1 := fun W => str_add (P := Tryd.prog) p1 p2 (by omega) W
      clear hc1 hc2 h1 h2 h3
      have HB5 := Lib.hid (show Below w3.heap.size w3 (wr.alloc (.cells #[.int .i64 xk, .string (str xt), .int .i64 xn, .int .i64 (xa : Int), .int .i64 (xe : Int)] 49)) from HBR.out.alloc HBR.out.size _)
      have HT5 := Lib.hid (Blk.new wr 49 #[.int .i64 xk, .string (str xt), .int .i64 xn, .int .i64 (xa : Int), .int .i64 (xe : Int)])
      go_upto_if 68 with (fail)
      clear d1 d2 d3 e1 e2 e3 c0 c1 c2 c3 c4
      generalize wr.alloc (.cells #[.int .i64 xk, .string (str xt), .int .i64 xn, .int .i64 (xa : Int), .int .i64 (xe : Int)] 49) = w5 at *
      go_cut [10] (fun wv wc => BkMid q.data.toList bl la i w5 wv wc)
      case first =>
        by_cases hb : i < bl.length
        · obtain ⟨b, rfl, z0⟩ := at_intB (HRB3.out.belowW (Nat.le_refl _) HB5.out) hb
          have HBO := Lib.hid (show blOf bl i = blB (blJ bl[i]) from by unfold blOf; rw [List.getElem?_eq_getElem hb])
          generalize bl[i] = z at *
          have hj := blJ_lt z
          have hw := wrap_u64e z
          generalize blJ z = j at *
          have hlb : (b.add i).block < w5.heap.size := World.block_lt_of_cell? w5 _ z0
          have z1 := (World.cell?_alloc_lt w5 (.cells #[.string ⟨#[]⟩, .string ⟨#[32]⟩, .string ⟨#[9]⟩, .string ⟨#[10, 32]⟩, .string ⟨#[13]⟩] 9) (b.add i) hlb).trans z0
          clear z0 hlb
          have hj5 : j = 0 ∨ j = 1 ∨ j = 2 ∨ j = 3 ∨ j = 4 := by omega
          clear hj
          rcases hj5 with rfl | rfl | rfl | rfl | rfl
          · have hw0 : (IntKind.u64.wrap z).tmod 5 = 0 := hw
            clear hw
            go_wp2_with fail
            go_meet
            exact ⟨_, rfl, by rw [HBO.out, ba_append, HS.out]; rfl, (Below.refl _ _).alloc (Nat.le_refl _) _⟩
          · have hw1 : (IntKind.u64.wrap z).tmod 5 = 1 := hw
            clear hw
            go_wp2_with fail
            go_meet
            exact ⟨_, rfl, by rw [HBO.out, ba_append, HS.out]; rfl, (Below.refl _ _).alloc (Nat.le_refl _) _⟩
          · have hw2 : (IntKind.u64.wrap z).tmod 5 = 2 := hw
            clear hw
            go_wp2_with fail
            go_meet
            exact ⟨_, rfl, by rw [HBO.out, ba_append, HS.out]; rfl, (Below.refl _ _).alloc (Nat.le_refl _) _⟩
          · have hw3 : (IntKind.u64.wrap z).tmod 5 = 3 := hw
            clear hw
            go_wp2_with fail
            go_meet
            exact ⟨_, rfl, by rw [HBO.out, ba_append, HS.out]; rfl, (Below.refl _ _).alloc (Nat.le_refl _) _⟩
          · have hw4 : (IntKind.u64.wrap z).tmod 5 = 4 := hw
            clear hw
            go_wp2_with fail
            go_meet
            exact ⟨_, rfl, by rw [HBO.out, ba_append, HS.out]; rfl, (Below.refl _ _).alloc (Nat.le_refl _) _⟩
        · have HBO := Lib.hid (show blOf bl i = [] from by unfold blOf; rw [List.getElem?_eq_none (by omega)])
          go_wp2_with fail
          go_meet
          exact ⟨s, rfl, by rw [HBO.out, HS.out, List.append_nil], Below.refl _ _⟩
      case rest =>
        obtain ⟨s2, rfl, hs2, hb⟩ := hcut
        have HS2 := Lib.hid hs2
        have hsz2 : s2.size ≤ 4000002 := by
          have g1 := congrArg List.length hs2
          have g2 := blOf_len bl i
          rw [List.length_append, ← ba_size, ← HS.out, ← ba_size] at g1
          omega
        have ht := HT5.out.belowW hb
        have HB6 := Lib.hid (HB5.out.trans (hb.mono HB5.out.size))
        have t3 := ht.cell 3; have t4 := ht.cell 4
        simp only [List.getElem?_toArray, List.getElem?_cons_zero, List.getElem?_cons_succ] at t3 t4
        have hadd2 := fun W => str_add (P := Tryd.prog) s2 (p1 ++ p2) (by rw [ba_append_size]; omega) W
        clear hs2 hb ht
        go_wp2_with fail
        go_quiet (fail)
        go_wp2
        go_roundw
        case rel => exact ⟨i + 1, s2 ++ (p1 ++ p2), by omega, by go_num, rfl, by rw [ba_append, ba_append, HS2.out, HC12.out.1, HC12.out.2, HX.out, List.append_assoc], by rw [HEE.out], below_drewN HB6.out _⟩
        case measure => simp [intOf]; omega
    · have hsz3 : (s ++ ⟨#[32]⟩ : ByteArray).size ≤ 4000001 := by
        rw [ba_append_size]
        have : (⟨#[32]⟩ : ByteArray).size = 1 := rfl
        omega
      have HDW := Lib.hid (show Der (s ++ ⟨#[32]⟩ : ByteArray).data.toList n t from by
        have hie : i = la.length := by omega
        rw [ba_append, HS.out, hie]
        exact HDD.out.wide (blOf bl) (blOf_blank bl) HSR.out)
      have HBX := Lib.hid (HB3.out.trans (HBR.out.mono HB3.out.size))
      have HCW := Lib.hid (HCS.out _ n t HDW.out (by omega) wr HBX.out)
      have hnn : decide (i < la.length) = false := decide_eq_false hlt
      go_wp2_with fail
      refine HCW.out.mono ?_
      rintro e w4 ⟨hb4, rfl⟩
      have HB4 := Lib.hid (HBX.out.trans (hb4.mono HBX.out.size))
      clear hb4
      by_cases hn : n ≤ 64
      · have HP1 := Lib.hid (fun (W : World) (hW : Below w.heap.size w W) => HPS.out q n t HDD.out hn (by omega) W hW)
        have HP2 := Lib.hid (fun (W : World) (hW : Below w.heap.size w W) => HPS.out _ n t HDW.out hn (by omega) W hW)
        clear hn
        go_wp2_with fail
        refine (HP1.out w4 HB4.out).mono ?_
        rintro e u1 ⟨hb, x, rfl, hx⟩
        obtain ⟨kd1, fl1, tx1, xn1, ⟨la1, lb1, lc1⟩, ⟨ra1, rb1, rc1⟩, ⟨oa1, on1, oc1⟩, ⟨ka1, kn1, kc1⟩⟩ := x
        unfold NV.val
        simp only []
        have HU1 := Lib.hid (HB4.out.trans (hb.mono HB4.out.size))
        have HV1 := Lib.hid (HU1.out.alloc HU1.out.size (.cells #[.int .i64 kd1, .string (str fl1), .string (str tx1), .int .i64 xn1, .bool la1, .bool lb1, .string (str lc1), .bool ra1, .bool rb1, .string (str rc1), .slice oa1 on1 oc1, .slice ka1 kn1 kc1] 36))
        have HN1 := Lib.hid (Blk.new u1 36 #[.int .i64 kd1, .string (str fl1), .string (str tx1), .int .i64 xn1, .bool la1, .bool lb1, .string (str lc1), .bool ra1, .bool rb1, .string (str rc1), .slice oa1 on1 oc1, .slice ka1 kn1 kc1])
        have HX1 := Lib.hid (hx.belowW ((Below.refl u1.heap.size u1).alloc (Nat.le_refl _) (.cells #[.int .i64 kd1, .string (str fl1), .string (str tx1), .int .i64 xn1, .bool la1, .bool lb1, .string (str lc1), .bool ra1, .bool rb1, .string (str rc1), .slice oa1 on1 oc1, .slice ka1 kn1 kc1] 36)))
        clear hb hx
        go_wp2_with fail
        generalize u1.alloc (.cells #[.int .i64 kd1, .string (str fl1), .string (str tx1), .int .i64 xn1, .bool la1, .bool lb1, .string (str lc1), .bool ra1, .bool rb1, .string (str rc1), .slice oa1 on1 oc1, .slice ka1 kn1 kc1] 36) = v1 at *
        refine (HP2.out v1 HV1.out).mono ?_
        rintro e u2 ⟨hb, x, rfl, hx⟩
        obtain ⟨kd2, fl2, tx2, xn2, ⟨la2, lb2, lc2⟩, ⟨ra2, rb2, rc2⟩, ⟨oa2, on2, oc2⟩, ⟨ka2, kn2, kc2⟩⟩ := x
        unfold NV.val
        simp only []
        have HU2 := Lib.hid (HV1.out.trans (hb.mono HV1.out.size))
        have HV2 := Lib.hid (HU2.out.alloc HU2.out.size (.cells #[.int .i64 kd2, .string (str fl2), .string (str tx2), .int .i64 xn2, .bool la2, .bool lb2, .string (str lc2), .bool ra2, .bool rb2, .string (str rc2), .slice oa2 on2 oc2, .slice ka2 kn2 kc2] 36))
        have HN2 := Lib.hid (Blk.new u2 36 #[.int .i64 kd2, .string (str fl2), .string (str tx2), .int .i64 xn2, .bool la2, .bool lb2, .string (str lc2), .bool ra2, .bool rb2, .string (str rc2), .slice oa2 on2 oc2, .slice ka2 kn2 kc2])
        have HX2 := Lib.hid (hx.belowW ((Below.refl u2.heap.size u2).alloc (Nat.le_refl _) (.cells #[.int .i64 kd2, .string (str fl2), .string (str tx2), .int .i64 xn2, .bool la2, .bool lb2, .string (str lc2), .bool ra2, .bool rb2, .string (str rc2), .slice oa2 on2 oc2, .slice ka2 kn2 kc2] 36)))
        have HM := Lib.hid ((HN1.out.belowW hb).alloc (.cells #[.int .i64 kd2, .string (str fl2), .string (str tx2), .int .i64 xn2, .bool la2, .bool lb2, .string (str lc2), .bool ra2, .bool rb2, .string (str rc2), .slice oa2 on2 oc2, .slice ka2 kn2 kc2] 36))
        have HY := Lib.hid ((HX1.out.belowW hb).belowW ((Below.refl u2.heap.size u2).alloc (Nat.le_refl _) (.cells #[.int .i64 kd2, .string (str fl2), .string (str tx2), .int .i64 xn2, .bool la2, .bool lb2, .string (str lc2), .bool ra2, .bool rb2, .string (str rc2), .slice oa2 on2 oc2, .slice ka2 kn2 kc2] 36)))
        clear HN1 HX1
        have HN1 := HM; have HX1 := HY
        clear HM HY
        clear hb hx
        go_wp2_with fail
        generalize u2.alloc (.cells #[.int .i64 kd2, .string (str fl2), .string (str tx2), .int .i64 xn2, .bool la2, .bool lb2, .string (str lc2), .bool ra2, .bool rb2, .string (str rc2), .slice oa2 on2 oc2, .slice ka2 kn2 kc2] 36) = v2 at *
        have HSM := Lib.hid (same_all t v2 _ _ _ _ HX1.out HX2.out)
        unfold NV.val at HSM
        simp only [] at HSM
        have m0 := HN1.out.cell 0; have m1 := HN1.out.cell 1; have m2 := HN1.out.cell 2; have m3 := HN1.out.cell 3; have m4 := HN1.out.cell 4; have m5 := HN1.out.cell 5; have m6 := HN1.out.cell 6; have m7 := HN1.out.cell 7; have m8 := HN1.out.cell 8; have m9 := HN1.out.cell 9; have m10 := HN1.out.cell 10; have m11 := HN1.out.cell 11
        simp only [List.getElem?_toArray, List.getElem?_cons_zero, List.getElem?_cons_succ] at m0 m1 m2 m3 m4 m5 m6 m7 m8 m9 m10 m11
        have n0 := HN2.out.cell 0; have n1 := HN2.out.cell 1; have n2 := HN2.out.cell 2; have n3 := HN2.out.cell 3; have n4 := HN2.out.cell 4; have n5 := HN2.out.cell 5; have n6 := HN2.out.cell 6; have n7 := HN2.out.cell 7; have n8 := HN2.out.cell 8; have n9 := HN2.out.cell 9; have n10 := HN2.out.cell 10; have n11 := HN2.out.cell 11
        simp only [List.getElem?_toArray, List.getElem?_cons_zero, List.getElem?_cons_succ] at n0 n1 n2 n3 n4 n5 n6 n7 n8 n9 n10 n11
        refine (Num_nil v2).mono ?_
        rintro e w' ⟨rfl, rfl⟩
        go_wp2_with fail
        refine (Num_nil v2).mono ?_
        rintro e w' ⟨rfl, rfl⟩
        go_wp2_with fail
        refine HSM.out.mono ?_
        rintro e w6 ⟨rfl, hb⟩
        have HBF := Lib.hid (HV2.out.trans (hb.mono HV2.out.size))
        clear hb m0 n0 m1 n1 m2 n2 m3 n3 m4 n4 m5 n5 m6 n6 m7 n7 m8 n8 m9 n9 m10 n10 m11 n11
        go_wp2
        go_ret
        exact ⟨rfl, HBF.out⟩
      · have HP1 := Lib.hid (fun (W : World) (hW : Below w.heap.size w W) => HPD.out q n HKC.out (by omega) (by omega) W hW)
        have HP2 := Lib.hid (fun (W : World) (hW : Below w.heap.size w W) => HPD.out _ n HDW.out.check (by omega) (by omega) W hW)
        clear hn
        go_wp2_with fail
        refine (HP1.out w4 HB4.out).mono ?_
        rintro e u1 ⟨hb, rfl⟩
        unfold nv0
        have HU1 := Lib.hid (HB4.out.trans (hb.mono HB4.out.size))
        have HV1 := Lib.hid (HU1.out.alloc HU1.out.size (.cells #[.int .i64 0, .string ⟨#[]⟩, .string ⟨#[]⟩, .int .i64 0, .bool false, .bool false, .string ⟨#[]⟩, .bool false, .bool false, .string ⟨#[]⟩, .slice none 0 0, .slice none 0 0] 36))
        have HN1 := Lib.hid (Blk.new u1 36 #[.int .i64 0, .string ⟨#[]⟩, .string ⟨#[]⟩, .int .i64 0, .bool false, .bool false, .string ⟨#[]⟩, .bool false, .bool false, .string ⟨#[]⟩, .slice none 0 0, .slice none 0 0])
        clear hb
        go_wp2_with fail
        generalize u1.alloc (.cells #[.int .i64 0, .string ⟨#[]⟩, .string ⟨#[]⟩, .int .i64 0, .bool false, .bool false, .string ⟨#[]⟩, .bool false, .bool false, .string ⟨#[]⟩, .slice none 0 0, .slice none 0 0] 36) = v1 at *
        refine (HP2.out v1 HV1.out).mono ?_
        rintro e u2 ⟨hb, rfl⟩
        unfold nv0
        have HU2 := Lib.hid (HV1.out.trans (hb.mono HV1.out.size))
        have HV2 := Lib.hid (HU2.out.alloc HU2.out.size (.cells #[.int .i64 0, .string ⟨#[]⟩, .string ⟨#[]⟩, .int .i64 0, .bool false, .bool false, .string ⟨#[]⟩, .bool false, .bool false, .string ⟨#[]⟩, .slice none 0 0, .slice none 0 0] 36))
        have HN2 := Lib.hid (Blk.new u2 36 #[.int .i64 0, .string ⟨#[]⟩, .string ⟨#[]⟩, .int .i64 0, .bool false, .bool false, .string ⟨#[]⟩, .bool false, .bool false, .string ⟨#[]⟩, .slice none 0 0, .slice none 0 0])
        have HM := Lib.hid ((HN1.out.belowW hb).alloc (.cells #[.int .i64 0, .string ⟨#[]⟩, .string ⟨#[]⟩, .int .i64 0, .bool false, .bool false, .string ⟨#[]⟩, .bool false, .bool false, .string ⟨#[]⟩, .slice none 0 0, .slice none 0 0] 36))
        clear HN1
        have HN1 := HM
        clear HM
        clear hb
        go_wp2_with fail
        generalize u2.alloc (.cells #[.int .i64 0, .string ⟨#[]⟩, .string ⟨#[]⟩, .int .i64 0, .bool false, .bool false, .string ⟨#[]⟩, .bool false, .bool false, .string ⟨#[]⟩, .slice none 0 0, .slice none 0 0] 36) = v2 at *
        have HSM := Lib.hid (same_none v2)
        unfold nv0 at HSM
        have m0 := HN1.out.cell 0; have m1 := HN1.out.cell 1; have m2 := HN1.out.cell 2; have m3 := HN1.out.cell 3; have m4 := HN1.out.cell 4; have m5 := HN1.out.cell 5; have m6 := HN1.out.cell 6; have m7 := HN1.out.cell 7; have m8 := HN1.out.cell 8; have m9 := HN1.out.cell 9; have m10 := HN1.out.cell 10; have m11 := HN1.out.cell 11
        simp only [List.getElem?_toArray, List.getElem?_cons_zero, List.getElem?_cons_succ] at m0 m1 m2 m3 m4 m5 m6 m7 m8 m9 m10 m11
        have n0 := HN2.out.cell 0; have n1 := HN2.out.cell 1; have n2 := HN2.out.cell 2; have n3 := HN2.out.cell 3; have n4 := HN2.out.cell 4; have n5 := HN2.out.cell 5; have n6 := HN2.out.cell 6; have n7 := HN2.out.cell 7; have n8 := HN2.out.cell 8; have n9 := HN2.out.cell 9; have n10 := HN2.out.cell 10; have n11 := HN2.out.cell 11
        simp only [List.getElem?_toArray, List.getElem?_cons_zero, List.getElem?_cons_succ] at n0 n1 n2 n3 n4 n5 n6 n7 n8 n9 n10 n11
        refine (HNB.out v2 HV2.out).mono ?_
        rintro e w' ⟨rfl, rfl⟩
        go_wp2_with fail
        refine (HNB.out v2 HV2.out).mono ?_
        rintro e w' ⟨rfl, rfl⟩
        go_wp2_with fail
        refine HSM.out.mono ?_
        rintro e w6 ⟨rfl, hb⟩
        have HBF := Lib.hid (HV2.out.trans (hb.mono HV2.out.size))
        clear hb m0 n0 m1 n1 m2 n2 m3 n3 m4 n4 m5 n5 m6 n6 m7 n7 m8 n8 m9 n9 m10 n10 m11 n11
        go_wp2
        go_ret
        exact ⟨rfl, HBF.out⟩
theorem syntaxBlanks_env {W : World} (h : laidMetH Tryd.prog Rows.syntaxBlanksUptoRow.laid W) : ∃ ea, ErrEnv W ea ∧ ClsEnv W := by
  have h0 : laidMet Tryd.prog Rows.syntaxBlanksUptoRow.laid W := h
  obtain ⟨ea, h1⟩ := errEnv_of h0 (by rfl)
  have h3 := h0.filter (fun x => x.1 == "concord/lexer.classes")
  exact ⟨ea, h1, cls_of_head (rest := []) h3⟩
theorem syntaxBlanks_walk (w : World) (a0 : ByteArray) (w0 : a0.size ≤ 1048576) (v1 : Value) (l1 : List Int) (r1 : RdL folS w w.heap.size v1 l1) (hE : ∃ ea, ErrEnv w ea ∧ ClsEnv w) :
    Calls Tryd.prog 8 #[.string a0, v1] w fun e w' => e = .returned (.bool true) ∧ Below w.heap.size w w' := by
  obtain ⟨ea, hE, hc⟩ := hE
  exact blanks_walk a0 v1 l1 w ea w0 r1 hE hc
end Go.Proofs.YtcomdkejpaoneaaDoor
end
