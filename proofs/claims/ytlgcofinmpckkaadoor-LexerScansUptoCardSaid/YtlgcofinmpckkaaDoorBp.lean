/- Plain laws of the scan: two texts with a blank between. -/
import Derived.Test.YtlgcofinmpckkaaDoorFp
import Derived.Test.YtlgcofinmpckkaaDoorSc
namespace Go.Proofs.YtlgcofinmpckkaaDoor
open Go.RowKit
set_option maxRecDepth 100000

theorem quotedL_app : ∀ (a b : List UInt8) (x : List UInt8 × Nat), quotedL a = some x → quotedL (a ++ b) = some x
  | [], b, x, h => by cases h
  | [c], [], x, h => by simpa using h
  | [c], d :: t, x, h => by
    unfold quotedL at h
    split at h
    · rename_i hc; cases h
      rw [List.singleton_append, quotedL, if_pos hc]
    · cases h
  | c :: d :: t, b, x, h => by
    rw [quotedL] at h
    rw [List.cons_append, List.cons_append, quotedL]
    split at h
    · rename_i hc; cases h; rw [if_pos hc]
    · rename_i hc
      rw [if_neg hc]
      split at h
      · rename_i hd
        obtain ⟨y, hy, rfl⟩ := Option.map_eq_some_iff.1 h
        rw [if_pos hd, quotedL_app t b y hy]; rfl
      · rename_i hd
        obtain ⟨y, hy, rfl⟩ := Option.map_eq_some_iff.1 h
        have := quotedL_app (d :: t) b y hy
        rw [List.cons_append] at this
        rw [if_neg hd, this]; rfl
theorem cls32 : cls 32 = 1 := by decide
theorem runL32 (b : List UInt8) : runL (32 :: b) = some ⟨[], [], 0, 0⟩ := by
  cases b <;> (unfold runL; rw [if_pos (.inl cls32)])
theorem runL_app : ∀ (a b : List UInt8) (r : Rn), runL a = some r → runL (a ++ 32 :: b) = some r
  | [], b, r, h => by
    unfold runL at h; cases h
    exact runL32 b
  | [c], b, r, h => by
    unfold runL at h
    rw [List.singleton_append, runL]
    split at h
    · rename_i hc; cases h; rw [if_pos hc]
    · rename_i hc
      rw [if_neg hc]
      split at h
      · rename_i h3; cases h; rw [if_pos h3, runL32]; rfl
      · rename_i h3
        rw [if_neg h3]
        split at h
        · cases h
        · rename_i h4; cases h; rw [if_neg h4, runL32]; rfl
  | c :: d :: t, b, r, h => by
    rw [runL] at h
    rw [List.cons_append, List.cons_append, runL]
    split at h
    · rename_i hc; cases h; rw [if_pos hc]
    · rename_i hc
      rw [if_neg hc]
      split at h
      · rename_i h3
        obtain ⟨y, hy, rfl⟩ := Option.map_eq_some_iff.1 h
        have := runL_app (d :: t) b y hy
        rw [List.cons_append] at this
        rw [if_pos h3, this]; rfl
      · rename_i h3
        rw [if_neg h3]
        split at h
        · rename_i h4
          obtain ⟨y, hy, rfl⟩ := Option.map_eq_some_iff.1 h
          rw [if_pos h4, runL_app t b y hy]; rfl
        · rename_i h4
          obtain ⟨y, hy, rfl⟩ := Option.map_eq_some_iff.1 h
          have := runL_app (d :: t) b y hy
          rw [List.cons_append] at this
          rw [if_neg h4, this]; rfl
theorem digs_app (a b : List UInt8) : digs (a ++ 32 :: b) = digs a := by
  unfold digs
  induction a with
  | nil => rw [List.nil_append, List.takeWhile_cons]; rfl
  | cons c a ih => rw [List.cons_append, List.takeWhile_cons, List.takeWhile_cons, ih]
theorem numTk_app (kind : Int) (a b : List UInt8) (m : Nat) : numTk kind (a ++ 32 :: b) m = numTk kind a m := by
  unfold numTk numOkB
  rw [digs_app]
theorem tok_app {c : UInt8} {a b : List UInt8} {k : Tk} (h : tokOf (c :: a) = some k) : tokOf (c :: (a ++ 32 :: b)) = some k := by
  simp only [tokOf] at h ⊢
  split at h
  · rename_i hs; rw [if_pos hs]; exact h
  · rename_i hs
    rw [if_neg hs]
    split at h
    · rename_i hc
      obtain ⟨y, hy, rfl⟩ := Option.map_eq_some_iff.1 h
      rw [if_pos hc, quotedL_app a _ y hy]; rfl
    · rename_i hc
      rw [if_neg hc]
      split at h
      · rename_i h94
        rw [if_pos h94]
        cases a with
        | nil =>
          have : numTk 18 [] 1 = none := by decide
          rw [if_neg (by simp)] at h
          rw [this] at h; cases h
        | cons d a =>
          simp only [List.cons_append, List.head?_cons, List.drop_succ_cons, List.drop_zero] at h ⊢
          rw [numTk_app, ← List.cons_append, numTk_app]
          exact h
      · rename_i h94
        rw [if_neg h94]
        split at h
        · rename_i h126
          rw [if_pos h126, digs_app, numTk_app]
          exact h
        · rename_i h126
          rw [if_neg h126]
          split at h
          · rename_i h64
            rw [if_pos h64, numTk_app]; exact h
          · rename_i h64
            rw [if_neg h64]
            unfold runTk at h ⊢
            obtain ⟨r, hr, rfl⟩ := Option.map_eq_some_iff.1 h
            have hlen := runL_len _ _ hr
            have := runL_app (c :: a) b r hr
            rw [List.cons_append] at this
            rw [this]
            simp only [Option.map_some]
            rw [← List.cons_append, List.take_append_of_le_length hlen]

def Lx.up (d : Nat) (x : Lx) : Lx := ⟨x.kind, x.text, x.n, x.at_ + d, x.end_ + d⟩
def upAll (d : Nat) (r : List Lx × Option Nat) : List Lx × Option Nat := (r.1.map (Lx.up d), r.2.map (· + d))
theorem Tk.lx_up (k : Tk) (i d : Nat) : k.lx (i + d) = (k.lx i).up d := by simp [Tk.lx, Lx.up]; omega
theorem ahead_up (d : Nat) (a : List Lx) (r : List Lx × Option Nat) : upAll d (ahead a r) = ahead (a.map (Lx.up d)) (upAll d r) := by
  obtain ⟨x, y⟩ := r
  cases y <;> simp [ahead, upAll]
theorem scanF_up (f : Nat) (l : List UInt8) (i d : Nat) : scanF f l (i + d) = upAll d (scanF f l i) := by
  induction f generalizing l i with
  | zero => rfl
  | succ f ih =>
    cases l with
    | nil => rfl
    | cons c t =>
      rw [scanF, scanF]
      split
      · rw [show i + d + 1 = i + 1 + d from by omega, ih]
      · split
        · rfl
        · rename_i k _
          rw [ahead_up, Tk.lx_up, show i + d + k.len = i + k.len + d from by omega, ih]; rfl
theorem scanF_fuel : ∀ (f f' : Nat) (l : List UInt8) (i : Nat), l.length < f → l.length < f' → scanF f l i = scanF f' l i
  | 0, _, l, i, h, _ => by omega
  | _, 0, l, i, _, h => by omega
  | f + 1, f' + 1, [], i, _, _ => rfl
  | f + 1, f' + 1, c :: t, i, h, h' => by
    simp only [List.length_cons] at h h'
    rw [scanF, scanF]
    split
    · exact scanF_fuel f f' t (i + 1) (by omega) (by omega)
    · rename_i hc
      split
      · rfl
      · rename_i k ht
        have hk := tok_len ht (fun d hd => by cases hd; exact hc)
        rw [scanF_fuel f f' _ _ (by rw [List.length_drop, List.length_cons]; omega) (by rw [List.length_drop, List.length_cons]; omega)]
theorem scanF_ne (f : Nat) (l : List UInt8) (i : Nat) (la : List Lx) (h : scanF f l i = (la, none)) : la ≠ [] := by
  induction f generalizing l i la with
  | zero => cases h
  | succ f ih =>
    cases l with
    | nil => cases h; simp
    | cons c t =>
      rw [scanF] at h
      split at h
      · exact ih _ _ _ h
      · split at h
        · cases h
        · rename_i k _
          rcases hr : scanF f ((c :: t).drop k.len) (i + k.len) with ⟨u, _ | z⟩
          · rw [hr] at h; cases h; simp
          · rw [hr] at h; cases h
theorem scan_app : ∀ (f : Nat) (p q : List UInt8) (i f' : Nat) (la : List Lx), p.length < f → scanF f p i = (la, none) → p.length + q.length + 1 < f' →
    scanF f' (p ++ 32 :: q) i = ahead la.dropLast (scanF (q.length + 1) q (i + p.length + 1))
  | 0, p, q, i, f', la, h, _, _ => by omega
  | _, p, q, i, 0, la, _, _, h => by omega
  | f + 1, [], q, i, f' + 1, la, h, h2, h3 => by
    cases h2
    rw [List.nil_append, scanF, if_pos cls32, List.dropLast_singleton, ahead_nil _ (scanF_or _ _ _)]
    exact scanF_fuel _ _ _ _ (by simp only [List.length_nil] at h3; omega) (by omega)
  | f + 1, c :: t, q, i, f' + 1, la, h, h2, h3 => by
    simp only [List.length_cons] at h h3
    rw [scanF] at h2
    rw [List.cons_append, scanF]
    split at h2
    · rename_i hc
      rw [if_pos hc, scan_app f t q (i + 1) f' la (by omega) h2 (by omega), List.length_cons, show i + 1 + t.length + 1 = i + (t.length + 1) + 1 from by omega]
    · rename_i hc
      rw [if_neg hc]
      split at h2
      · cases h2
      · rename_i k ht
        have hk := tok_len ht (fun d hd => by cases hd; exact hc)
        simp only [List.length_cons] at hk
        rw [tok_app ht]
        rcases hr : scanF f ((c :: t).drop k.len) (i + k.len) with ⟨u, _ | z⟩
        · rw [hr] at h2
          cases h2
          have hd : ((c :: t).drop k.len).length = t.length + 1 - k.len := by rw [List.length_drop, List.length_cons]
          have := scan_app f _ q (i + k.len) f' u (by omega) hr (by omega)
          simp only []
          rw [← List.cons_append, List.drop_append_of_le_length (by rw [List.length_cons]; omega), this, ahead_ahead]
          simp only [List.singleton_append]
          rw [List.dropLast_cons_of_ne_nil (scanF_ne _ _ _ _ hr), hd, List.length_cons,
            show i + k.len + (t.length + 1 - k.len) + 1 = i + (t.length + 1) + 1 from by omega]
        · rw [hr] at h2; cases h2
theorem scanL_app {p q : List UInt8} {la : List Lx} (h : scanL p = (la, none)) : scanL (p ++ 32 :: q) = ahead la.dropLast (upAll (p.length + 1) (scanL q)) := by
  unfold scanL at h ⊢
  rw [scan_app _ p q 0 _ la (by omega) h (by rw [List.length_append, List.length_cons]; omega), ← scanF_up, Nat.zero_add, Nat.zero_add]
end Go.Proofs.YtlgcofinmpckkaaDoor
