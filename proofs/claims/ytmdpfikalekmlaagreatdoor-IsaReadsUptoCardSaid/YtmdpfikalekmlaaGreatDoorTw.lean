/- Layer 20: how long a listing can be. -/
import Derived.Test.YtmdpfikalekmlaaGreatDoorLd
import Derived.Test.YtmdpfikalekmlaaGreatDoorTj
import Derived.Test.YtmdpfikalekmlaaGreatDoorRq
import Derived.Test.YtmdpfikalekmlaaGreatDoorPo
namespace Go.Proofs.YtmdpfikalekmlaaGreatDoor
open Go.RowKit
set_option maxRecDepth 100000
set_option linter.unusedSimpArgs false
set_option linter.unusedVariables false

theorem line1_len (wd : List UInt8) {f : Int} (h : f ≤ 9223372036854775807) : (lineL wd [f]).length ≤ wd.length + 21 := by
  have := lineL_len wd [f] (fun x hx => by obtain rfl := List.mem_singleton.1 hx; exact h)
  simpa using this
theorem zip_snoc {a b : List Int} {m : Nat} (ha : m < a.length) (hb : m < b.length) : (a.zip b).take (m + 1) = (a.zip b).take m ++ [(a[m], b[m])] := by
  have h : m < (a.zip b).length := by rw [List.length_zip]; omega
  rw [List.take_succ_eq_append_getElem h, List.getElem_zip]
theorem pairL_len {q : Int × Int} (h : q.1 ≤ 9223372036854775807 ∧ q.2 ≤ 9223372036854775807) : (pairL q).length ≤ 42 := by
  have h1 := numC_len q.1 h.1
  have h2 := numC_len q.2 h.2
  unfold pairL
  simp only [List.length_append, List.length_cons, List.length_nil]
  omega
theorem pairs_len (l : List (Int × Int)) (m : Nat) (h : ∀ q ∈ l, q.1 ≤ 9223372036854775807 ∧ q.2 ≤ 9223372036854775807) : ((l.take m).flatMap pairL).length ≤ 42 * m := by
  induction m with
  | zero => simp
  | succ m ih =>
    by_cases hm : m < l.length
    · rw [List.take_succ_eq_append_getElem hm, List.flatMap_append, List.length_append]
      have := pairL_len (h _ (List.getElem_mem hm))
      simp only [List.flatMap_cons, List.flatMap_nil, List.append_nil]
      omega
    · rw [List.take_of_length_le (by omega)] at ih ⊢
      omega
theorem nearL_len {n : Nr} (hs : n.slop ≤ 9223372036854775807) (h1 : ∀ x ∈ n.cur, x ≤ 9223372036854775807) (h2 : ∀ x ∈ n.off, x ≤ 9223372036854775807) (hl : n.cur.length ≤ 1048576) : (nearL n).length ≤ 44040217 := by
  unfold nearL
  rw [List.length_append]
  have g1 := line1_len [110, 101, 97, 114] hs
  have g2 := pairs_len (n.cur.zip n.off) (n.cur.zip n.off).length (fun q hq => by
    have := List.of_mem_zip hq
    exact ⟨h1 _ this.1, h2 _ this.2⟩)
  rw [List.take_of_length_le (Nat.le_refl _)] at g2
  have g3 : (n.cur.zip n.off).length ≤ n.cur.length := by rw [List.length_zip]; omega
  simp only [List.length_cons, List.length_nil] at g1
  omega
theorem curL_len {c : Lf} (hf : c.field ≤ 9223372036854775807) (ht : c.term.length ≤ 1048576) : (curL c).length ≤ 44040217 := by
  unfold curL
  have g1 := line1_len [99, 117, 114, 115, 111, 114] hf
  have g2 := quoL_len c.term
  simp only [List.length_append, List.length_cons, List.length_nil] at g1 ⊢
  omega
theorem opName_len (i : Nat) : (opName i).length ≤ 6 := by
  rcases Nat.lt_or_ge i 17 with h | h
  · have : ∀ j, j < 17 → (opName j).length ≤ 6 := by decide
    exact this i h
  · unfold opName
    rw [List.getD_eq_getElem?_getD, List.getElem?_eq_none (by rw [opTab_len]; exact h)]
    decide
theorem insL_len {x : Ins} (ha : x.a < 18446744073709551616) (hb : x.b < 18446744073709551616) : (insL x).length ≤ 48 := by
  unfold insL
  have g1 := opName_len x.op.toNat
  have g2 := dgt_len x.a ha
  have g3 := dgt_len x.b hb
  rw [List.length_append, List.length_append]
  split <;> split <;> simp only [List.length_cons, List.length_nil] <;> omega
theorem encI_ge (l : List Ins) : l.length ≤ (encI l).length := by
  induction l with
  | nil => simp
  | cons x l ih =>
    have e : encI (x :: l) = insB x ++ encI l := by simp [encI]
    rw [e, List.length_append, List.length_cons]
    have : 1 ≤ (insB x).length := by unfold insB; simp
    omega
theorem decI_len {m : List UInt8} {l : List Ins} (h : decI m = some l) : l.length ≤ m.length := by
  have := encI_ge l
  rw [(encI_decI h).2.2] at this
  exact this
theorem unl_le (L : Nat) (l : List (List UInt8)) (h : ∀ x ∈ l, x.length ≤ L) : (unl l).length ≤ (L + 1) * l.length := by
  induction l with
  | nil => simp [unl]
  | cons x l ih =>
    have e : unl (x :: l) = x ++ [10] ++ unl l := by simp [unl]
    rw [e, List.length_append, List.length_append, List.length_cons, List.length_cons, List.length_nil, Nat.mul_add]
    have g1 := h x List.mem_cons_self
    have g2 := ih (fun y hy => h y (List.mem_cons_of_mem _ hy))
    omega
theorem unl_append (a b : List (List UInt8)) : unl (a ++ b) = unl a ++ unl b := by simp [unl]
/-- A listing's length is an int's. -/
theorem text_small {p : Pg} {code : List Ins} (hs : SmallPg p) (h : decI p.code = some code) : (linesL p code).length ≤ 3145731 ∧ (unl (linesL p code)).length ≤ 138700000000000 := by
  have h1 := decI_len h
  have h2 := (encI_decI h).2.1
  have h3 := hs.code
  have h4 := hs.curs.2
  have h5 := hs.nears.2
  have hn : (linesL p code).length ≤ 3145731 := by
    unfold linesL headL
    simp only [List.length_append, List.length_map, List.length_cons, List.length_nil]
    split <;> split <;> simp only [List.length_cons, List.length_nil] <;> omega
  refine ⟨hn, ?_⟩
  have hx : ∀ x ∈ linesL p code, x.length ≤ 44040217 := by
    intro x hx
    unfold linesL headL at hx
    simp only [List.mem_append, List.mem_map, List.mem_singleton] at hx
    rcases hx with ((((rfl | ⟨c, hc, rfl⟩) | ⟨n, hn, rfl⟩) | hx) | hx) | ⟨i, hi, rfl⟩
    · have g := lineL_len [97, 118, 103, 115] p.avgs (fun y hy => (hs.avgs.1 y hy).2)
      have g2 := hs.avgs.2
      simp only [List.length_cons, List.length_nil] at g
      omega
    · have g := hs.curs.1 c hc
      exact curL_len g.1.2 g.2
    · have g := hs.nears.1 n hn
      exact nearL_len g.1.2 (fun y hy => (g.2.1.1 y hy).2) (fun y hy => (g.2.2.1 y hy).2) g.2.1.2
    · split at hx
      · obtain rfl := List.mem_singleton.1 hx; decide
      · cases hx
    · split at hx
      · obtain rfl := List.mem_singleton.1 hx
        have g := lineL_len [100, 114, 105, 118, 101] p.drive (fun y hy => (hs.drive.1 y hy).2)
        have g2 := hs.drive.2
        simp only [List.length_cons, List.length_nil] at g
        omega
      · cases hx
    · have g := h2 i hi
      have := insL_len g.1 g.2
      omega
  have := unl_le 44040217 _ hx
  have h6 : 44040218 * (linesL p code).length ≤ 44040218 * 3145731 := Nat.mul_le_mul_left _ hn
  omega
end Go.Proofs.YtmdpfikalekmlaaGreatDoor
/- Layer 20: how long the listing of a program that comes in can be; and how small a program is whose listing comes in. -/
namespace Go.Proofs.YtmdpfikalekmlaaGreatDoor
open Go.RowKit
set_option maxRecDepth 100000
set_option linter.unusedSimpArgs false
set_option linter.unusedVariables false

theorem unl_cons (x : List UInt8) (l : List (List UInt8)) : unl (x :: l) = x ++ [10] ++ unl l := by simp [unl]
theorem unl_map_le {α : Type} (f : α → List UInt8) (g : α → Nat) (c k : Nat) (l : List α) (h : ∀ x ∈ l, (f x).length ≤ c + k * g x) : (unl (l.map f)).length ≤ (c + 1) * l.length + k * (l.map g).sum := by
  induction l with
  | nil => simp [unl]
  | cons x l ih =>
    have h0 := h x List.mem_cons_self
    have h1 := ih (fun y hy => h y (List.mem_cons_of_mem _ hy))
    rw [List.map_cons, unl_cons, List.map_cons, List.sum_cons, List.length_append, List.length_append, List.length_cons, List.length_cons, List.length_nil, Nat.mul_add, Nat.mul_add]
    omega
theorem nearL_len2 {n : Nr} (hs : n.slop ≤ 9223372036854775807) (h1 : ∀ x ∈ n.cur, x ≤ 9223372036854775807) (h2 : ∀ x ∈ n.off, x ≤ 9223372036854775807) : (nearL n).length ≤ 40 + 42 * (n.cur.length + n.off.length) := by
  unfold nearL
  rw [List.length_append]
  have g1 := line1_len [110, 101, 97, 114] hs
  have g2 := pairs_len (n.cur.zip n.off) (n.cur.zip n.off).length (fun q hq => by
    have := List.of_mem_zip hq
    exact ⟨h1 _ this.1, h2 _ this.2⟩)
  rw [List.take_of_length_le (Nat.le_refl _)] at g2
  have g3 : (n.cur.zip n.off).length ≤ n.cur.length := by rw [List.length_zip]; omega
  simp only [List.length_cons, List.length_nil] at g1
  omega
theorem curL_len2 {c : Lf} (hf : c.field ≤ 9223372036854775807) : (curL c).length ≤ 40 + 3 * c.term.length := by
  unfold curL
  have g1 := line1_len [99, 117, 114, 115, 111, 114] hf
  have g2 := quoL_len c.term
  simp only [List.length_append, List.length_cons, List.length_nil] at g1 ⊢
  omega
/-- The listing of a program that comes in. -/
theorem text_wt {p : Pg} {s : List UInt8} (hs : SmallPg p) (hw : WtPg p) (h : textP p = some s) : s.length ≤ 1000000000 ∧ (splitS 10 s).length ≤ 20000000 := by
  obtain ⟨code, hd, hok, rfl⟩ := textP_get h
  have h1 := decI_len hd
  have h2 := (encI_decI hd).2.1
  have hc := hs.code
  have hn := (text_small hs hd).1
  refine ⟨?_, by rw [splitS_unl (linesL_ge p code), List.length_append, List.length_singleton]; omega⟩
  unfold linesL headL
  rw [unl_append, unl_append, unl_append, unl_append, unl_append]
  simp only [List.length_append]
  have a1 : (unl [lineL [97, 118, 103, 115] p.avgs]).length ≤ 5 + 21 * 1048576 := by
    have g := lineL_len [97, 118, 103, 115] p.avgs (fun y hy => (hs.avgs.1 y hy).2)
    have g2 := hs.avgs.2
    simp only [List.length_cons, List.length_nil] at g
    simp [unl]; omega
  have a2 := unl_map_le curL (fun c => c.term.length) 40 3 p.curs (fun c hc => curL_len2 (hs.curs.1 c hc).1.2)
  have a3 := unl_map_le nearL (fun n => n.cur.length + n.off.length) 40 42 p.nears (fun n hn => nearL_len2 (hs.nears.1 n hn).1.2 (fun y hy => ((hs.nears.1 n hn).2.1.1 y hy).2) (fun y hy => ((hs.nears.1 n hn).2.2.1 y hy).2))
  have a4 : (unl (if p.all = true then [[101, 118, 101, 114, 121]] else [])).length ≤ 6 := by split <;> simp [unl]
  have a5 : (unl (if p.drive ≠ [] then [lineL [100, 114, 105, 118, 101] p.drive] else [])).length ≤ 6 + 21 * 1048576 := by
    have g := lineL_len [100, 114, 105, 118, 101] p.drive (fun y hy => (hs.drive.1 y hy).2)
    have g2 := hs.drive.2
    simp only [List.length_cons, List.length_nil] at g
    split <;> simp [unl] <;> omega
  have a6 := unl_map_le insL (fun _ => 0) 48 0 code (fun i hi => by have := insL_len (h2 i hi).1 (h2 i hi).2; omega)
  have b1 := hw.terms
  have b2 := hw.offs
  have b3 := hs.curs.2
  have b4 := hs.nears.2
  omega
theorem text_len {p : Pg} {s : List UInt8} (hs : SmallPg p) (h : textP p = some s) : s.length ≤ 138700000000000 := by
  obtain ⟨code, hd, hok, rfl⟩ := textP_get h
  exact (text_small hs hd).2
theorem smallQ_of {p : Pg} (hs : SmallPg p) : SmallQ p := by
  refine ⟨fun x hx => ?_, fun c hc => ?_, fun n hn => ?_, fun x hx => ?_⟩
  · have := (hs.avgs.1 x hx).2; omega
  · have := (hs.curs.1 c hc).1.2; omega
  · have g := hs.nears.1 n hn
    exact ⟨by have := g.1.2; omega, fun x hx => by have := (g.2.1.1 x hx).2; omega, fun x hx => by have := (g.2.2.1 x hx).2; omega⟩
  · have := (hs.drive.1 x hx).2; omega
/-! A number's bytes are no more than its digits. -/
theorem dgt_mono (b : Nat) : ∀ a, a ≤ b → (dgt a).length ≤ (dgt b).length := by
  induction b using Nat.strongRecOn with
  | ind b ih =>
    intro a hab
    by_cases ha : a < 10
    · rw [dgt_small ha]
      have := dgt_ne b
      have := List.length_pos_iff.2 this
      simp only [List.length_singleton]; omega
    · have hb : ¬ b < 10 := by omega
      rw [dgt_big ha, dgt_big hb, List.length_append, List.length_append]
      have := ih (b / 10) (by omega) (a / 10) (Nat.div_le_div_right hab)
      simp only [List.length_singleton]; omega
theorem uv_dgt (v : Nat) : (uvL v).length ≤ (dgt v).length := by
  induction v using Nat.strongRecOn with
  | ind v ih =>
    by_cases h : v < 128
    · rw [uvL_small h]
      have := List.length_pos_iff.2 (dgt_ne v)
      simp only [List.length_singleton]; omega
    · rw [uvL_big h, List.length_cons, dgt_big (by omega), List.length_append, List.length_singleton]
      have h1 := ih (v / 128) (by omega)
      have h2 := dgt_mono (v / 10) (v / 128) (by omega)
      omega
theorem insB_le_insL {x : Ins} : (insB x).length ≤ (insL x).length + 1 := by
  have ha := uv_dgt x.a
  have hb := uv_dgt x.b
  unfold insB insL
  cases hn : argsN x.op with
  | none => simp
  | some n =>
    obtain ⟨-, -, h3, -⟩ := argsN_some hn
    rw [h3]
    simp only [List.length_cons, List.length_append]
    (repeat' split) <;> (first | (simp only [List.length_cons, List.length_nil]; omega) | omega)
theorem lineL_le (w : List UInt8) (l : List Int) : l.length ≤ (lineL w l).length := by
  unfold lineL
  rw [List.length_append]
  have : ∀ l : List Int, l.length ≤ (l.flatMap fun x => 32 :: numC x).length := by
    intro l
    induction l with
    | nil => simp
    | cons x l ih => simp only [List.flatMap_cons, List.length_append, List.length_cons]; omega
  have := this l
  omega
theorem unl_mem {l : List (List UInt8)} {x : List UInt8} (h : x ∈ l) : x.length + 1 ≤ (unl l).length := by
  induction l with
  | nil => cases h
  | cons y l ih =>
    rw [unl_cons, List.length_append, List.length_append, List.length_singleton]
    rcases List.mem_cons.1 h with rfl | h
    · omega
    · have := ih h; omega
theorem unl_ge (l : List (List UInt8)) : l.length ≤ (unl l).length := by
  induction l with
  | nil => simp
  | cons y l ih => rw [unl_cons, List.length_append, List.length_append, List.length_singleton, List.length_cons]; omega
theorem quoC_ge (t : List UInt8) : t.length ≤ (quoL t).length := by
  unfold quoL
  simp only [List.length_cons, List.length_append]
  have : ∀ l : List UInt8, l.length ≤ (l.flatMap quoC).length := by
    intro l
    induction l with
    | nil => simp
    | cons x l ih =>
      simp only [List.flatMap_cons, List.length_append, List.length_cons]
      have : 1 ≤ (quoC x).length := by unfold quoC; split <;> simp
      omega
  have := this t
  omega
theorem pairs_ge (l : List (Int × Int)) : l.length ≤ (l.flatMap pairL).length := by
  induction l with
  | nil => simp
  | cons x l ih =>
    simp only [List.flatMap_cons, List.length_append, List.length_cons]
    have : 1 ≤ (pairL x).length := by unfold pairL; simp only [List.length_append, List.length_cons]; omega
    omega
theorem enc_unl (code : List Ins) : (encI code).length ≤ (unl (code.map insL)).length := by
  induction code with
  | nil => simp [encI, unl]
  | cons x l ih =>
    rw [List.map_cons, unl_cons]
    have e : encI (x :: l) = insB x ++ encI l := by simp [encI]
    have := insB_le_insL (x := x)
    rw [e]
    simp only [List.length_append, List.length_cons, List.length_nil]
    omega
/-- A program whose listing comes in is small. -/
theorem small_read {t : List UInt8} {q : Pg} (h : readP t = .inl q) (ht : t.length ≤ 1048576) : SmallPg q := by
  obtain ⟨h1, h2⟩ := textP_readP h
  obtain ⟨code, hd, hok, rfl⟩ := textP_get h1
  obtain ⟨k1, k2, k3, k4⟩ := okP_and hok
  obtain ⟨s1, s2, s3, s4⟩ := h2
  have hcode := (encI_decI hd).2.2
  have mem : ∀ x ∈ linesL q code, x.length + 1 ≤ 1048576 := fun x hx => Nat.le_trans (unl_mem hx) ht
  have hlen := Nat.le_trans (unl_ge (linesL q code)) ht
  have hl2 : (linesL q code).length = (headL q).length + code.length := by unfold linesL; simp
  have hh : 1 + q.curs.length + q.nears.length ≤ (headL q).length := by unfold headL; simp only [List.length_append, List.length_map, List.length_cons, List.length_nil]; omega
  have inH : ∀ x ∈ headL q, x ∈ linesL q code := fun x hx => List.mem_append_left _ hx
  have m1 : lineL [97, 118, 103, 115] q.avgs ∈ linesL q code := inH _ (by unfold headL; simp)
  refine ⟨⟨fun x hx => ?_, ?_⟩, ⟨fun c hc => ⟨?_, ?_⟩, by omega⟩, ⟨fun n hn => ⟨?_, ⟨fun x hx => ?_, ?_⟩, fun x hx => ?_, ?_⟩, by omega⟩, ⟨fun x hx => ?_, ?_⟩, ?_⟩
  · have := neg_false k1 x hx; have := s1 x hx; omega
  · have g1 := lineL_le [97, 118, 103, 115] q.avgs
    have g2 := mem _ m1
    omega
  · have := k3 c hc; have := s2 c hc; omega
  · have g1 : curL c ∈ linesL q code := inH _ (by unfold headL; simp only [List.mem_append, List.mem_map]; exact .inl (.inl (.inl (.inr ⟨c, hc, rfl⟩))))
    have g2 := mem _ g1
    have g3 := quoC_ge c.term
    unfold curL at g2
    simp only [List.length_append] at g2
    omega
  · have := (okN_and (k4 n hn)).1; have := (s3 n hn).1; omega
  · have := neg_false (okN_and (k4 n hn)).2.1 x hx; have := (s3 n hn).2.1 x hx; omega
  · have g1 : nearL n ∈ linesL q code := inH _ (by unfold headL; simp only [List.mem_append, List.mem_map]; exact .inl (.inl (.inr ⟨n, hn, rfl⟩)))
    have g2 := mem _ g1
    have g3 := pairs_ge (n.cur.zip n.off)
    have g4 := (okN_and (k4 n hn)).2.2.2
    rw [List.length_zip, g4, Nat.min_self] at g3
    unfold nearL at g2
    simp only [List.length_append] at g2
    omega
  · have := neg_false (okN_and (k4 n hn)).2.2.1 x hx; have := (s3 n hn).2.2 x hx; omega
  · have g1 : nearL n ∈ linesL q code := inH _ (by unfold headL; simp only [List.mem_append, List.mem_map]; exact .inl (.inl (.inr ⟨n, hn, rfl⟩)))
    have g2 := mem _ g1
    have g3 := pairs_ge (n.cur.zip n.off)
    have g4 := (okN_and (k4 n hn)).2.2.2
    rw [List.length_zip, g4, Nat.min_self] at g3
    unfold nearL at g2
    simp only [List.length_append] at g2
    omega
  · have := neg_false k2 x hx; have := s4 x hx; omega
  · by_cases hd0 : q.drive = []
    · rw [hd0]; simp
    · have g1 : lineL [100, 114, 105, 118, 101] q.drive ∈ linesL q code := inH _ (by unfold headL; simp only [List.mem_append]; right; rw [if_pos hd0]; exact List.mem_singleton.2 rfl)
      have g2 := mem _ g1
      have g3 := lineL_le [100, 114, 105, 118, 101] q.drive
      omega
  · have g1 := enc_unl code
    have e : unl (linesL q code) = unl (headL q) ++ unl (code.map insL) := by unfold linesL; rw [unl_append]
    rw [e, List.length_append] at ht
    rw [← hcode]
    omega
end Go.Proofs.YtmdpfikalekmlaaGreatDoor
