/- Layer 20: how long a listing can be. -/
import Derived.Test.YtmdpfikalekmlaaDoorLd
import Derived.Test.YtmdpfikalekmlaaDoorTj
namespace Go.Proofs.YtmdpfikalekmlaaDoor
open Go.RowKit
set_option maxRecDepth 100000
set_option linter.unusedSimpArgs false
set_option linter.unusedVariables false

theorem line1_len (wd : List UInt8) {f : Int} (h : f ≤ 9223372036854775807) : (lineL wd [f]).length ≤ wd.length + 21 := by
  have := lineL_len wd [f] (fun x hx => by obtain rfl := List.mem_singleton.1 hx; exact h)
  simpa using this
theorem zip_snoc {a b : List Int} {m : Nat} (ha : m < a.length) (hb : m < b.length) : (a.zip b).take (m + 1) = (a.zip b).take m ++ [(a[m], b[m])] := by
  have h : m < (a.zip b).length := by rw [List.length_zip]; omega
  rw [List.take_succ_eq_append_getElem h, List.getElem_zip]
theorem pairL_len {q : Int × Int} (h : q.1 ≤ 9223372036854775807 ∧ q.2 ≤ 9223372036854775807) : (pairL q).length ≤ 42 := by
  have h1 := numC_len q.1 h.1
  have h2 := numC_len q.2 h.2
  unfold pairL
  simp only [List.length_append, List.length_cons, List.length_nil]
  omega
theorem pairs_len (l : List (Int × Int)) (m : Nat) (h : ∀ q ∈ l, q.1 ≤ 9223372036854775807 ∧ q.2 ≤ 9223372036854775807) : ((l.take m).flatMap pairL).length ≤ 42 * m := by
  induction m with
  | zero => simp
  | succ m ih =>
    by_cases hm : m < l.length
    · rw [List.take_succ_eq_append_getElem hm, List.flatMap_append, List.length_append]
      have := pairL_len (h _ (List.getElem_mem hm))
      simp only [List.flatMap_cons, List.flatMap_nil, List.append_nil]
      omega
    · rw [List.take_of_length_le (by omega)] at ih ⊢
      omega
theorem nearL_len {n : Nr} (hs : n.slop ≤ 9223372036854775807) (h1 : ∀ x ∈ n.cur, x ≤ 9223372036854775807) (h2 : ∀ x ∈ n.off, x ≤ 9223372036854775807) (hl : n.cur.length ≤ 1048576) : (nearL n).length ≤ 44040217 := by
  unfold nearL
  rw [List.length_append]
  have g1 := line1_len [110, 101, 97, 114] hs
  have g2 := pairs_len (n.cur.zip n.off) (n.cur.zip n.off).length (fun q hq => by
    have := List.of_mem_zip hq
    exact ⟨h1 _ this.1, h2 _ this.2⟩)
  rw [List.take_of_length_le (Nat.le_refl _)] at g2
  have g3 : (n.cur.zip n.off).length ≤ n.cur.length := by rw [List.length_zip]; omega
  simp only [List.length_cons, List.length_nil] at g1
  omega
theorem curL_len {c : Lf} (hf : c.field ≤ 9223372036854775807) (ht : c.term.length ≤ 1048576) : (curL c).length ≤ 44040217 := by
  unfold curL
  have g1 := line1_len [99, 117, 114, 115, 111, 114] hf
  have g2 := quoL_len c.term
  simp only [List.length_append, List.length_cons, List.length_nil] at g1 ⊢
  omega
theorem opName_len (i : Nat) : (opName i).length ≤ 6 := by
  rcases Nat.lt_or_ge i 17 with h | h
  · have : ∀ j, j < 17 → (opName j).length ≤ 6 := by decide
    exact this i h
  · unfold opName
    rw [List.getD_eq_getElem?_getD, List.getElem?_eq_none (by rw [opTab_len]; exact h)]
    decide
theorem insL_len {x : Ins} (ha : x.a < 18446744073709551616) (hb : x.b < 18446744073709551616) : (insL x).length ≤ 48 := by
  unfold insL
  have g1 := opName_len x.op.toNat
  have g2 := dgt_len x.a ha
  have g3 := dgt_len x.b hb
  rw [List.length_append, List.length_append]
  split <;> split <;> simp only [List.length_cons, List.length_nil] <;> omega
theorem encI_ge (l : List Ins) : l.length ≤ (encI l).length := by
  induction l with
  | nil => simp
  | cons x l ih =>
    have e : encI (x :: l) = insB x ++ encI l := by simp [encI]
    rw [e, List.length_append, List.length_cons]
    have : 1 ≤ (insB x).length := by unfold insB; simp
    omega
theorem decI_len {m : List UInt8} {l : List Ins} (h : decI m = some l) : l.length ≤ m.length := by
  have := encI_ge l
  rw [(encI_decI h).2.2] at this
  exact this
theorem unl_le (L : Nat) (l : List (List UInt8)) (h : ∀ x ∈ l, x.length ≤ L) : (unl l).length ≤ (L + 1) * l.length := by
  induction l with
  | nil => simp [unl]
  | cons x l ih =>
    have e : unl (x :: l) = x ++ [10] ++ unl l := by simp [unl]
    rw [e, List.length_append, List.length_append, List.length_cons, List.length_cons, List.length_nil, Nat.mul_add]
    have g1 := h x List.mem_cons_self
    have g2 := ih (fun y hy => h y (List.mem_cons_of_mem _ hy))
    omega
theorem unl_append (a b : List (List UInt8)) : unl (a ++ b) = unl a ++ unl b := by simp [unl]
/-- A listing's length is an int's. -/
theorem text_small {p : Pg} {code : List Ins} (hs : SmallPg p) (h : decI p.code = some code) : (linesL p code).length ≤ 3145731 ∧ (unl (linesL p code)).length ≤ 138700000000000 := by
  have h1 := decI_len h
  have h2 := (encI_decI h).2.1
  have h3 := hs.code
  have h4 := hs.curs.2
  have h5 := hs.nears.2
  have hn : (linesL p code).length ≤ 3145731 := by
    unfold linesL headL
    simp only [List.length_append, List.length_map, List.length_cons, List.length_nil]
    split <;> split <;> simp only [List.length_cons, List.length_nil] <;> omega
  refine ⟨hn, ?_⟩
  have hx : ∀ x ∈ linesL p code, x.length ≤ 44040217 := by
    intro x hx
    unfold linesL headL at hx
    simp only [List.mem_append, List.mem_map, List.mem_singleton] at hx
    rcases hx with ((((rfl | ⟨c, hc, rfl⟩) | ⟨n, hn, rfl⟩) | hx) | hx) | ⟨i, hi, rfl⟩
    · have g := lineL_len [97, 118, 103, 115] p.avgs (fun y hy => (hs.avgs.1 y hy).2)
      have g2 := hs.avgs.2
      simp only [List.length_cons, List.length_nil] at g
      omega
    · have g := hs.curs.1 c hc
      exact curL_len g.1.2 g.2
    · have g := hs.nears.1 n hn
      exact nearL_len g.1.2 (fun y hy => (g.2.1.1 y hy).2) (fun y hy => (g.2.2.1 y hy).2) g.2.1.2
    · split at hx
      · obtain rfl := List.mem_singleton.1 hx; decide
      · cases hx
    · split at hx
      · obtain rfl := List.mem_singleton.1 hx
        have g := lineL_len [100, 114, 105, 118, 101] p.drive (fun y hy => (hs.drive.1 y hy).2)
        have g2 := hs.drive.2
        simp only [List.length_cons, List.length_nil] at g
        omega
      · cases hx
    · have g := h2 i hi
      have := insL_len g.1 g.2
      omega
  have := unl_le 44040217 _ hx
  have h6 : 44040218 * (linesL p code).length ≤ 44040218 * 3145731 := Nat.mul_le_mul_left _ hn
  omega
end Go.Proofs.YtmdpfikalekmlaaDoor
