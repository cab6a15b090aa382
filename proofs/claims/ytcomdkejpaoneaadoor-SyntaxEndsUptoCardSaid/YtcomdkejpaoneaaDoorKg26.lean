/- Merged for a claim by shake.py: Ya Yb Hh Hi Hj Hk Hl -/
import Derived.Test.YtcomdkejpaoneaaDoorKg11
import Derived.Test.YtcomdkejpaoneaaDoorKg13
import Derived.Test.YtcomdkejpaoneaaDoorKg17
import Derived.Test.YtcomdkejpaoneaaDoorKg20
import Derived.Test.YtcomdkejpaoneaaDoorKg24
import Derived.Test.YtcomdkejpaoneaaDoorKg25
import Derived.Test.YtcomdkejpaoneaaDoorKg5
section
namespace Go.Proofs.YtcomdkejpaoneaaDoor
set_option maxRecDepth 100000
set_option linter.unusedSimpArgs false
set_option linter.unusedVariables false
def stopB (z : UInt8) : Prop := (cls z = 1 ∨ cls z = 2) ∧ isDg z = false
theorem runY_stop {z : UInt8} (hz : stopB z) (b : List UInt8) : runL (z :: b) = some ⟨[], [], 0, 0⟩ := by
  cases b <;> (unfold runL; rw [if_pos hz.1])
theorem runY_stopApp {z : UInt8} (hz : stopB z) : ∀ (a b : List UInt8) (r : Rn), runL a = some r → runL (a ++ z :: b) = some r
  | [], b, r, h => by
    unfold runL at h; cases h
    exact runY_stop hz b
  | [c], b, r, h => by
    unfold runL at h
    rw [List.singleton_append, runL]
    split at h
    · rename_i hc; cases h; rw [if_pos hc]
    · rename_i hc
      rw [if_neg hc]
      split at h
      · rename_i h3; cases h; rw [if_pos h3, runY_stop hz]; rfl
      · rename_i h3
        rw [if_neg h3]
        split at h
        · cases h
        · rename_i h4; cases h; rw [if_neg h4, runY_stop hz]; rfl
  | c :: d :: t, b, r, h => by
    rw [runL] at h
    rw [List.cons_append, List.cons_append, runL]
    split at h
    · rename_i hc; cases h; rw [if_pos hc]
    · rename_i hc
      rw [if_neg hc]
      split at h
      · rename_i h3
        obtain ⟨y, hy, rfl⟩ := Option.map_eq_some_iff.1 h
        have := runY_stopApp hz (d :: t) b y hy
        rw [List.cons_append] at this
        rw [if_pos h3, this]; rfl
      · rename_i h3
        rw [if_neg h3]
        split at h
        · rename_i h4
          obtain ⟨y, hy, rfl⟩ := Option.map_eq_some_iff.1 h
          rw [if_pos h4, runY_stopApp hz t b y hy]; rfl
        · rename_i h4
          obtain ⟨y, hy, rfl⟩ := Option.map_eq_some_iff.1 h
          have := runY_stopApp hz (d :: t) b y hy
          rw [List.cons_append] at this
          rw [if_neg h4, this]; rfl
theorem digs_stopApp {z : UInt8} (hz : stopB z) (a b : List UInt8) : digs (a ++ z :: b) = digs a := by
  unfold digs
  induction a with
  | nil => rw [List.nil_append, List.takeWhile_cons, hz.2]; rfl
  | cons c a ih => rw [List.cons_append, List.takeWhile_cons, List.takeWhile_cons, ih]
theorem numTk_stopApp {z : UInt8} (hz : stopB z) (kind : Int) (a b : List UInt8) (m : Nat) : numTk kind (a ++ z :: b) m = numTk kind a m := by
  unfold numTk numOkB
  rw [digs_stopApp hz]
theorem tok_stopApp {z : UInt8} (hz : stopB z) {c : UInt8} {a b : List UInt8} {k : Tk} (h : tokOf (c :: a) = some k) : tokOf (c :: (a ++ z :: b)) = some k := by
  simp only [tokOf] at h ⊢
  split at h
  · rename_i hs; rw [if_pos hs]; exact h
  · rename_i hs
    rw [if_neg hs]
    split at h
    · rename_i hc
      obtain ⟨y, hy, rfl⟩ := Option.map_eq_some_iff.1 h
      rw [if_pos hc, quotedL_app a _ y hy]; rfl
    · rename_i hc
      rw [if_neg hc]
      split at h
      · rename_i h94
        rw [if_pos h94]
        cases a with
        | nil =>
          have : numTk 18 [] 1 = none := by decide
          rw [if_neg (by simp)] at h
          rw [this] at h; cases h
        | cons d a =>
          simp only [List.cons_append, List.head?_cons, List.drop_succ_cons, List.drop_zero] at h ⊢
          rw [numTk_stopApp hz, ← List.cons_append, numTk_stopApp hz]
          exact h
      · rename_i h94
        rw [if_neg h94]
        split at h
        · rename_i h126
          rw [if_pos h126, digs_stopApp hz, numTk_stopApp hz]
          exact h
        · rename_i h126
          rw [if_neg h126]
          split at h
          · rename_i h64
            rw [if_pos h64, numTk_stopApp hz]; exact h
          · rename_i h64
            rw [if_neg h64]
            unfold runTk at h ⊢
            obtain ⟨r, hr, rfl⟩ := Option.map_eq_some_iff.1 h
            have hlen := runL_len _ _ hr
            have := runY_stopApp hz (c :: a) b r hr
            rw [List.cons_append] at this
            rw [this]
            simp only [Option.map_some]
            rw [← List.cons_append, List.take_append_of_le_length hlen]
theorem scan_stopApp {z : UInt8} (hz : stopB z) : ∀ (f : Nat) (p q : List UInt8) (i f' : Nat) (la : List Lx), p.length < f → scanF f p i = (la, none) → p.length + q.length + 1 < f' →
    scanF f' (p ++ z :: q) i = ahead la.dropLast (scanF (q.length + 2) (z :: q) (i + p.length))
  | 0, p, q, i, f', la, h, _, _ => by omega
  | _, p, q, i, 0, la, _, _, h => by omega
  | f + 1, [], q, i, f' + 1, la, h, h2, h3 => by
    cases h2
    rw [List.nil_append, List.dropLast_singleton, ahead_nil _ (scanF_or _ _ _)]
    exact scanF_fuel _ _ _ _ (by simp only [List.length_nil, List.length_cons] at h3 ⊢; omega) (by simp only [List.length_cons]; omega)
  | f + 1, c :: t, q, i, f' + 1, la, h, h2, h3 => by
    simp only [List.length_cons] at h h3
    rw [scanF] at h2
    rw [List.cons_append, scanF]
    split at h2
    · rename_i hc
      rw [if_pos hc, scan_stopApp hz f t q (i + 1) f' la (by omega) h2 (by omega), List.length_cons, show i + 1 + t.length = i + (t.length + 1) from by omega]
    · rename_i hc
      rw [if_neg hc]
      split at h2
      · cases h2
      · rename_i k ht
        have hk := tok_len ht (fun d hd => by cases hd; exact hc)
        simp only [List.length_cons] at hk
        rw [tok_stopApp hz ht]
        rcases hr : scanF f ((c :: t).drop k.len) (i + k.len) with ⟨u, _ | z⟩
        · rw [hr] at h2
          cases h2
          have hd : ((c :: t).drop k.len).length = t.length + 1 - k.len := by rw [List.length_drop, List.length_cons]
          have := scan_stopApp hz f _ q (i + k.len) f' u (by omega) hr (by omega)
          simp only []
          rw [← List.cons_append, List.drop_append_of_le_length (by rw [List.length_cons]; omega), this, ahead_ahead]
          simp only [List.singleton_append]
          rw [List.dropLast_cons_of_ne_nil (scanF_ne _ _ _ _ hr), hd, List.length_cons,
            show i + k.len + (t.length + 1 - k.len) = i + (t.length + 1) from by omega]
        · rw [hr] at h2; cases h2
theorem scanL_stopApp {z : UInt8} (hz : stopB z) {p q : List UInt8} {la : List Lx} (h : scanL p = (la, none)) : scanL (p ++ z :: q) = ahead la.dropLast (upAll p.length (scanL (z :: q))) := by
  unfold scanL at h ⊢
  rw [scan_stopApp hz _ p q 0 _ la (by omega) h (by rw [List.length_append, List.length_cons]; omega), ← scanF_up, List.length_cons]
theorem scanL_single {c : UInt8} (h : singleK c ≠ 0) (t : List UInt8) : scanL (c :: t) = ahead [⟨singleK c, [], 0, 0, 1⟩] (upAll 1 (scanL t)) := by
  have hc : cls c ≠ 1 := by
    have := all_bytes' (p := fun c => decide (singleK c ≠ 0 → cls c ≠ 1)) (by decide +kernel) c
    exact of_decide_eq_true this h
  unfold scanL
  rw [List.length_cons, scanF, if_neg hc, ← scanF_up, tokOf, if_pos h]
  rfl
def lk (x : Lt) : Int × List UInt8 × Int := (x.kind, x.text, x.n)
def lkX (x : Lx) : Int × List UInt8 × Int := (x.kind, x.text, x.n)
theorem lkX_up (d : Nat) (l : List Lx) : (l.map (Lx.up d)).map lkX = l.map lkX := by rw [List.map_map]; rfl
theorem lk_lt (l : List Lx) : (l.map Lx.lt).map lk = l.map lkX := by rw [List.map_map]; rfl
def Toks (l : List UInt8) (T : List Lt) : Prop := ∃ (la : List Lx) (e : Lx), scanL l = (la ++ [e], none) ∧ e.kind = 0 ∧ la.map lkX = T.map lk
theorem Toks.nil : Toks [] [] := ⟨[], _, scanL_nil', rfl, rfl⟩
  where scanL_nil' : scanL [] = ([] ++ [⟨0, [], 0, 0, 0⟩], none) := rfl
theorem Toks.app {z : UInt8} (hz : stopB z) {p q : List UInt8} {A B : List Lt} (h : Toks p A) (h2 : Toks (z :: q) B) : Toks (p ++ z :: q) (A ++ B) := by
  obtain ⟨la, e, hs, he, hl⟩ := h
  obtain ⟨lb, e2, hs2, he2, hl2⟩ := h2
  refine ⟨la ++ lb.map (Lx.up p.length), e2.up p.length, ?_, he2, ?_⟩
  · rw [scanL_stopApp hz hs, hs2, List.dropLast_concat]
    simp [upAll, ahead]
  · rw [List.map_append, List.map_append, hl, lkX_up, hl2]
theorem Toks.blank {z : UInt8} (hz : cls z = 1) {q : List UInt8} {B : List Lt} (h : Toks q B) : Toks (z :: q) B := by
  obtain ⟨la, e, hs, he, hl⟩ := h
  refine ⟨la.map (Lx.up 1), e.up 1, ?_, he, by rw [lkX_up, hl]⟩
  have : scanL (z :: q) = upAll 1 (scanL q) := by
    unfold scanL
    rw [List.length_cons, scanF, if_pos hz, ← scanF_up]
  rw [this, hs]; simp [upAll]
theorem Toks.single {c : UInt8} {k : Int} (hk : singleK c = k) (h0 : k ≠ 0) {q : List UInt8} {B : List Lt} (h : Toks q B) : Toks (c :: q) (⟨k, [], 0, 0, 0⟩ :: B) := by
  obtain ⟨la, e, hs, he, hl⟩ := h
  refine ⟨⟨k, [], 0, 0, 1⟩ :: la.map (Lx.up 1), e.up 1, ?_, he, ?_⟩
  · rw [scanL_single (by rw [hk]; exact h0), hs, hk]; simp [upAll, ahead]
  · rw [List.map_cons, List.map_cons, lkX_up, hl]; rfl
theorem Toks.one {l : List UInt8} {x e : Lx} (h : scanL l = ([x, e], none)) (he : e.kind = 0) : Toks l [⟨x.kind, x.text, x.n, 0, 0⟩] := ⟨[x], e, h, he, rfl⟩
theorem Toks.lk {l : List UInt8} {A B : List Lt} (h : Toks l A) (hb : B.map lk = A.map lk) : Toks l B := by
  obtain ⟨la, e, hs, he, hl⟩ := h
  exact ⟨la, e, hs, he, by rw [hl, hb]⟩
theorem lk_split {A1 A2 B : List Lt} (h : B.map lk = (A1 ++ A2).map lk) : ∃ B1 B2, B = B1 ++ B2 ∧ B1.map lk = A1.map lk ∧ B2.map lk = A2.map lk := by
  rw [List.map_append, List.map_eq_append_iff] at h
  exact h
theorem lk_head {a : Lt} {A B : List Lt} (h : B.map lk = (a :: A).map lk) : ∃ b B', B = b :: B' ∧ b.kind = a.kind ∧ b.text = a.text ∧ b.n = a.n ∧ B'.map lk = A.map lk := by
  rw [List.map_cons, List.map_eq_cons_iff] at h
  obtain ⟨b, B', e, hb, hB⟩ := h
  unfold Go.Proofs.YtcomdkejpaoneaaDoor.lk at hb
  simp only [Prod.mk.injEq] at hb
  exact ⟨b, B', e, hb.1, hb.2.1, hb.2.2, hB⟩
theorem lk_none {B : List Lt} (h : B.map lk = ([] : List Lt).map lk) : B = [] := by simpa using h
theorem starT_lk {a b : Lt} (h : b.kind = a.kind) (h2 : b.text = a.text) : starT b = starT a := by unfold starT; rw [h, h2]
theorem sideT_lk {a b : Lt} (h : b.kind = a.kind) (h2 : b.text = a.text) : sideT b = sideT a := by unfold sideT; rw [starT_lk h h2, h]
theorem sideN_lk {a b : Lt} (h : b.kind = a.kind) (h2 : b.text = a.text) (i : Bool) : sideN b i = sideN a i := by unfold sideN; rw [h, h2]
theorem D.lk {p : Pt} {A : List Lt} {n : Nat} {v : Vl} (h : D p A n v) : ∀ B : List Lt, B.map lk = A.map lk → D p B n v := by
  induction h with
  | word ht =>
    intro B hB
    obtain ⟨b, B', rfl, h1, h2, h3, h4⟩ := lk_head hB
    obtain rfl := lk_none h4
    rw [← h2]; exact .word (h1.trans ht)
  | edits ht hu hn =>
    intro B hB
    obtain ⟨b, B', rfl, h1, h2, h3, h4⟩ := lk_head hB
    obtain ⟨c, B', rfl, g1, g2, g3, g4⟩ := lk_head h4
    obtain rfl := lk_none g4
    rw [← h2, ← g3]; exact .edits (h1.trans ht) (g1.trans hu) (by rw [g3]; exact hn)
  | pat ht =>
    intro B hB
    obtain ⟨b, B', rfl, h1, h2, h3, h4⟩ := lk_head hB
    obtain rfl := lk_none h4
    rw [← h2]; exact .pat (h1.trans ht)
  | quo ht =>
    intro B hB
    obtain ⟨b, B', rfl, h1, h2, h3, h4⟩ := lk_head hB
    obtain rfl := lk_none h4
    rw [← h2]; exact .quo (h1.trans ht)
  | slop ht hu hn =>
    intro B hB
    obtain ⟨b, B', rfl, h1, h2, h3, h4⟩ := lk_head hB
    obtain ⟨c, B', rfl, g1, g2, g3, g4⟩ := lk_head h4
    obtain rfl := lk_none g4
    rw [← h2, ← g3]; exact .slop (h1.trans ht) (g1.trans hu) (by rw [g3]; exact hn)
  | span ha hb hc hd he =>
    intro B hB
    obtain ⟨a1, B', rfl, p1, p2, p3, p4⟩ := lk_head hB
    obtain ⟨a2, B', rfl, q1, q2, q3, q4⟩ := lk_head p4
    obtain ⟨a3, B', rfl, r1, r2, r3, r4⟩ := lk_head q4
    obtain ⟨a4, B', rfl, s1, s2, s3, s4⟩ := lk_head r4
    obtain ⟨a5, B', rfl, t1, t2, t3, t4⟩ := lk_head s4
    obtain rfl := lk_none t4
    rw [← p1, ← t1, ← sideN_lk q1 q2, ← sideN_lk s1 s2]
    exact .span (by rw [p1]; exact ha) (by rw [sideT_lk q1 q2]; exact hb) (by rw [r1]; exact hc) (by rw [sideT_lk s1 s2]; exact hd) (by rw [t1]; exact he)
  | group ho _ hc ih =>
    intro B hB
    obtain ⟨o1, B', rfl, h1, h2, h3, h4⟩ := lk_head hB
    obtain ⟨B1, B2, rfl, g1, g2⟩ := lk_split h4
    obtain ⟨c1, B', rfl, k1, k2, k3, k4⟩ := lk_head g2
    obtain rfl := lk_none k4
    exact .group (h1.trans ho) (ih B1 g1) (k1.trans hc)
  | least ho _ hc hl ih =>
    intro B hB
    obtain ⟨o1, B', rfl, h1, h2, h3, h4⟩ := lk_head hB
    obtain ⟨B1, B2, rfl, g1, g2⟩ := lk_split h4
    obtain ⟨c1, B', rfl, k1, k2, k3, k4⟩ := lk_head g2
    obtain ⟨l1, B', rfl, m1, m2, m3, m4⟩ := lk_head k4
    obtain rfl := lk_none m4
    rw [← m3]
    exact .least (h1.trans ho) (ih B1 g1) (k1.trans hc) (m1.trans hl)
  | leafB _ ih => exact fun B hB => .leafB (ih B hB)
  | groupB _ ih => exact fun B hB => .groupB (ih B hB)
  | bodyA _ ih => exact fun B hB => .bodyA (ih B hB)
  | field hw hc _ ih =>
    intro B hB
    obtain ⟨w1, B', rfl, h1, h2, h3, h4⟩ := lk_head hB
    obtain ⟨c1, B', rfl, g1, g2, g3, g4⟩ := lk_head h4
    rw [← h2]
    exact .field (h1.trans hw) (g1.trans hc) (ih _ g4)
  | all hs hc ht =>
    intro B hB
    obtain ⟨w1, B', rfl, h1, h2, h3, h4⟩ := lk_head hB
    obtain ⟨c1, B', rfl, g1, g2, g3, g4⟩ := lk_head h4
    obtain ⟨t1, B', rfl, k1, k2, k3, k4⟩ := lk_head g4
    obtain rfl := lk_none k4
    exact .all (by rw [starT_lk h1 h2]; exact hs) (g1.trans hc) (by rw [starT_lk k1 k2]; exact ht)
  | atomP _ ih => exact fun B hB => .atomP (ih B hB)
  | sfx _ hb ih =>
    intro B hB
    obtain ⟨B1, B2, rfl, g1, g2⟩ := lk_split hB
    obtain ⟨c1, B', rfl, k1, k2, k3, k4⟩ := lk_head g2
    obtain rfl := lk_none k4
    rw [← k1, ← k3]
    exact .sfx (ih B1 g1) (by rw [k1]; exact hb)
  | pieceU _ ih => exact fun B hB => .pieceU (ih B hB)
  | not ht _ ih =>
    intro B hB
    obtain ⟨w1, B', rfl, h1, h2, h3, h4⟩ := lk_head hB
    exact .not (h1.trans ht) (ih _ h4)
  | maxU _ ih => exact fun B hB => .maxU (ih B hB)
  | bar _ hb _ ih1 ih2 =>
    intro B hB
    obtain ⟨B1, B2, rfl, g1, g2⟩ := lk_split hB
    obtain ⟨c1, B', rfl, k1, k2, k3, k4⟩ := lk_head g2
    exact .bar (ih1 B1 g1) (k1.trans hb) (ih2 _ k4)
  | andM _ ih => exact fun B hB => .andM (ih B hB)
  | and _ hb _ ih1 ih2 =>
    intro B hB
    obtain ⟨B1, B2, rfl, g1, g2⟩ := lk_split hB
    obtain ⟨c1, B', rfl, k1, k2, k3, k4⟩ := lk_head g2
    exact .and (ih1 B1 g1) (k1.trans hb) (ih2 _ k4)
  | orA _ ih => exact fun B hB => .orA (ih B hB)
  | or _ hb _ ih1 ih2 =>
    intro B hB
    obtain ⟨B1, B2, rfl, g1, g2⟩ := lk_split hB
    obtain ⟨c1, B', rfl, k1, k2, k3, k4⟩ := lk_head g2
    exact .or (ih1 B1 g1) (k1.trans hb) (ih2 _ k4)
  | clauseO _ ih => exact fun B hB => .clauseO (ih B hB)
  | sign hs _ ih =>
    intro B hB
    obtain ⟨w1, B', rfl, h1, h2, h3, h4⟩ := lk_head hB
    rw [← h1]
    exact .sign (by rw [h1]; exact hs) (ih _ h4)
  | one _ ih => exact fun B hB => .one (ih B hB)
  | more _ _ ih1 ih2 =>
    intro B hB
    obtain ⟨B1, B2, rfl, g1, g2⟩ := lk_split hB
    exact .more (ih1 B1 g1) (ih2 B2 g2)
theorem D.list2 {A B : List Lt} {n m : Nat} {v u : Vl} (h : D .list A n v) (h2 : D .list B m u) : D .list (A ++ B) (max n m) fun f => v f ++ u f := by
  generalize hp : Pt.list = p at h2
  induction h2 with
  | one h2 => exact .more h h2
  | more _ h2 ih _ =>
    rw [← List.append_assoc, ← Nat.max_assoc]
    have := D.more (ih hp) h2
    simpa only [List.append_assoc] using this
  | _ => cases hp
end Go.Proofs.YtcomdkejpaoneaaDoor
end
section
namespace Go.Proofs.YtcomdkejpaoneaaDoor
set_option maxRecDepth 100000
set_option linter.unusedSimpArgs false
set_option linter.unusedVariables false
def Der (l : List UInt8) (n : Nat) (t : Nd) : Prop := ∃ (A : List Lt) (v : Vl), Toks l A ∧ D .list A n v ∧ t = treeN (v [])
theorem runI_of {l : List Lt} : ∀ {m m' : Mc} (i : Nat), runM m l = some m' → runI m i l = .inl m' := by
  induction l with
  | nil => intro m m' i h; rw [runM] at h; injection h with h; subst h; rfl
  | cons t r ih =>
    intro m m' i h
    rw [runM] at h
    rw [runI]
    cases hs : stepM m t with
    | none => rw [hs] at h; cases h
    | some m2 => rw [hs] at h; exact ih (i + 1) h
theorem Der.check {l : List UInt8} {n : Nat} {t : Nd} (h : Der l n t) : checkS l = .inl n := by
  obtain ⟨A, v, ⟨la, e, hs, he, hl⟩, hD, _⟩ := h
  have hD2 := hD.lk (la.map Lx.lt) (by rw [lk_lt]; exact hl)
  obtain ⟨m, hm, _, hn⟩ := hD2.run (e := e.lt) he
  unfold checkS
  rw [hs]
  simp only [List.map_append, List.map_cons, List.map_nil]
  rw [runI_of 0 hm]
  simp only [hn]
theorem der_mk {l : List UInt8} {A : List Lt} {n : Nat} {v : Vl} {t : Nd} (hT : Toks l A) (hD : D .list A n v) (ht : t = treeN (v [])) : Der l n t := ⟨A, v, hT, hD, ht⟩
theorem Der.toks {l : List UInt8} {n : Nat} {t : Nd} (h : Der l n t) : ∃ (la : List Lx) (A : List Lt) (e : Lt) (v : Vl), scanL l = (la, none) ∧ la.map Lx.lt = A ++ [e] ∧ e.kind = 0 ∧ D .list A n v ∧ t = treeN (v []) := by
  obtain ⟨A, v, ⟨la, e, hs, he, hl⟩, hD, ht⟩ := h
  exact ⟨la ++ [e], la.map Lx.lt, e.lt, v, hs, by simp, he, hD.lk _ (by rw [lk_lt]; exact hl), ht⟩
def one1 (g : List UInt8 → Nd) : Vl := fun f => [(0, g f)]
theorem D.single {A : List Lt} {n : Nat} {g : List UInt8 → Nd} (h : D .unary A n (one1 g)) : D .list A n (one1 g) := .one (.clauseO (.orA (.andM (.maxU h))))
def tkOpen : Lt := ⟨8, [], 0, 0, 0⟩
def tkClose : Lt := ⟨9, [], 0, 0, 0⟩
theorem D.paren {A : List Lt} {n : Nat} {v : Vl} (h : D .list A n v) : D .piece (tkOpen :: (A ++ [tkClose])) (n + 1) (one1 fun f => treeN (v f)) :=
  .atomP (.bodyA (.groupB (.group rfl h rfl)))
theorem stop41 : stopB 41 := ⟨.inr (by decide), by decide⟩
theorem stop32 : stopB 32 := ⟨.inl (by decide), by decide⟩
theorem blank32 : cls 32 = 1 := by decide
theorem toks_close {q : List UInt8} {B : List Lt} (h : Toks q B) : Toks (41 :: q) (tkClose :: B) := .single (by decide) (by decide) h
theorem toks_open {q : List UInt8} {B : List Lt} (h : Toks q B) : Toks (40 :: q) (tkOpen :: B) := .single (by decide) (by decide) h
theorem toks_paren {p q : List UInt8} {A B : List Lt} (h : Toks p A) (h2 : Toks q B) : Toks (40 :: (p ++ 41 :: q)) (tkOpen :: (A ++ tkClose :: B)) :=
  toks_open (.app stop41 h (toks_close h2))
theorem Der.paren {q : List UInt8} {n : Nat} {t : Nd} (h : Der q n t) : Der (40 :: (q ++ [41])) (n + 1) t := by
  obtain ⟨A, v, hT, hD, rfl⟩ := h
  exact ⟨_, _, toks_paren hT .nil, (D.pieceU hD.paren).single, rfl⟩
theorem Der.blank {p q : List UInt8} {n m : Nat} {x y : Nd} (h : Der p n x) (h2 : Der q m y) : ∃ t, Der (p ++ 32 :: q) (max n m) t := by
  obtain ⟨A, v, hT, hD, rfl⟩ := h
  obtain ⟨B, u, hT2, hD2, rfl⟩ := h2
  exact ⟨_, _, _, .app stop32 hT (.blank blank32 hT2), hD.list2 hD2, rfl⟩
def tkMark (k : Int) : Lt := ⟨k, [], 0, 0, 0⟩
theorem toks_or : Toks [79, 82] [tkMark 5] := ⟨[⟨5, [], 0, 0, 2⟩], ⟨0, [], 0, 2, 2⟩, by rfl, rfl, rfl⟩
theorem toks_and : Toks [65, 78, 68] [tkMark 4] := ⟨[⟨4, [], 0, 0, 3⟩], ⟨0, [], 0, 3, 3⟩, by rfl, rfl, rfl⟩
theorem toks_bar : Toks [124] [tkMark 17] := ⟨[⟨17, [], 0, 0, 1⟩], ⟨0, [], 0, 1, 1⟩, by rfl, rfl, rfl⟩
theorem toks_joined {p q mk : List UInt8} {A B M : List Lt} (hp : Toks p A) (hq : Toks q B) (hm : Toks mk M) :
    Toks (40 :: (p ++ 41 :: 32 :: (mk ++ 32 :: 40 :: (q ++ [41])))) (tkOpen :: (A ++ tkClose :: (M ++ (tkOpen :: (B ++ [tkClose]))))) :=
  toks_paren hp (.blank blank32 (.app stop32 hm (.blank blank32 (toks_paren hq .nil))))
theorem joined_app {A B : List Lt} {m : Lt} : tkOpen :: (A ++ tkClose :: ([m] ++ (tkOpen :: (B ++ [tkClose])))) = tkOpen :: (A ++ [tkClose]) ++ m :: (tkOpen :: (B ++ [tkClose])) := by simp
theorem Der.or {p q : List UInt8} {n m : Nat} {x y : Nd} (h : Der p n x) (h2 : Der q m y) : Der (40 :: (p ++ 41 :: 32 :: ([79, 82] ++ 32 :: 40 :: (q ++ [41])))) (max (n + 1) (m + 1)) (ndKids 11 0 [x, y]) := by
  obtain ⟨A, v, hT, hD, rfl⟩ := h
  obtain ⟨B, u, hT2, hD2, rfl⟩ := h2
  have ht := toks_joined hT hT2 toks_or
  rw [joined_app] at ht
  refine der_mk ht (.one (.clauseO (.or (b := tkMark 5) (.orA (.andM (.maxU (.pieceU hD.paren)))) rfl (.andM (.maxU (.pieceU hD2.paren)))))) rfl
theorem Der.and {p q : List UInt8} {n m : Nat} {x y : Nd} (h : Der p n x) (h2 : Der q m y) : Der (40 :: (p ++ 41 :: 32 :: ([65, 78, 68] ++ 32 :: 40 :: (q ++ [41])))) (max (n + 1) (m + 1)) (ndKids 10 0 [x, y]) := by
  obtain ⟨A, v, hT, hD, rfl⟩ := h
  obtain ⟨B, u, hT2, hD2, rfl⟩ := h2
  have ht := toks_joined hT hT2 toks_and
  rw [joined_app] at ht
  refine der_mk ht (.one (.clauseO (.orA (.and (b := tkMark 4) (.andM (.maxU (.pieceU hD.paren))) rfl (.maxU (.pieceU hD2.paren)))))) rfl
theorem Der.bar {p q : List UInt8} {n m : Nat} {x y : Nd} (h : Der p n x) (h2 : Der q m y) : Der (40 :: (p ++ 41 :: 32 :: ([124] ++ 32 :: 40 :: (q ++ [41])))) (max (n + 1) (m + 1)) (ndKids 12 0 [x, y]) := by
  obtain ⟨A, v, hT, hD, rfl⟩ := h
  obtain ⟨B, u, hT2, hD2, rfl⟩ := h2
  have ht := toks_joined hT hT2 toks_bar
  rw [joined_app] at ht
  refine der_mk ht (.one (.clauseO (.orA (.andM (.bar (b := tkMark 17) (.maxU (.pieceU hD.paren)) rfl (.pieceU hD2.paren)))))) rfl
def tkPlus : Lt := ⟨15, [], 0, 0, 0⟩
def tkMinus : Lt := ⟨16, [], 0, 0, 0⟩
theorem Der.signs {p q : List UInt8} {n m : Nat} {x y : Nd} (h : Der p n x) (h2 : Der q m y) : Der (43 :: 40 :: (p ++ 41 :: 32 :: 45 :: 40 :: (q ++ [41]))) (max (n + 1) (m + 1)) (ndList 0 [(1, x), (2, y)]) := by
  obtain ⟨A, v, hT, hD, rfl⟩ := h
  obtain ⟨B, u, hT2, hD2, rfl⟩ := h2
  have h1 : Toks (45 :: 40 :: (q ++ 41 :: [])) (tkMinus :: _) := .single (by decide) (by decide) (toks_paren hT2 .nil)
  have h2 : Toks (43 :: 40 :: (p ++ 41 :: 32 :: 45 :: 40 :: (q ++ 41 :: []))) (tkPlus :: _) := .single (by decide) (by decide) (toks_paren hT (.blank blank32 h1))
  have e : tkPlus :: tkOpen :: (A ++ tkClose :: tkMinus :: tkOpen :: (B ++ [tkClose])) = tkPlus :: (tkOpen :: (A ++ [tkClose])) ++ tkMinus :: (tkOpen :: (B ++ [tkClose])) := by simp
  rw [e] at h2
  exact der_mk h2 (.more (.one (.sign (s := tkPlus) (.inl rfl) (.pieceU hD.paren))) (.sign (s := tkMinus) (.inr rfl) (.pieceU hD2.paren))) rfl
end Go.Proofs.YtcomdkejpaoneaaDoor
end
section
namespace Go.Proofs.YtcomdkejpaoneaaDoor
open Go.RowKit
set_option maxRecDepth 100000
set_option maxHeartbeats 1000000
set_option linter.unusedSimpArgs false
set_option linter.unusedVariables false
theorem check_dv {l : List UInt8} {la : List Lx} (hs : scanL l = (la, none)) : ∃ A e, la.map Lx.lt = A ++ [e] ∧ e.kind = 0 ∧ ((∃ n, checkS l = .inl n) ↔ Dv .list A) := by
  obtain ⟨l0, e, rfl, he⟩ := scanF_end hs
  refine ⟨l0.map Lx.lt, e.lt, by rw [List.map_append, List.map_cons, List.map_nil], he, ?_, ?_⟩
  · rintro ⟨n, hc⟩
    unfold checkS at hc
    rw [hs] at hc
    simp only [] at hc
    cases hr : runI mc0 0 ((l0 ++ [e]).map Lx.lt) with
    | inr i => rw [hr] at hc; cases hc
    | inl m =>
      obtain ⟨A, e2, v, hA, he2, hD⟩ := scan_D hs hr
      rw [List.map_append, List.map_cons, List.map_nil] at hA
      rw [List.append_inj_left' hA rfl]
      exact ⟨_, _, hD⟩
  · rintro ⟨n, v, hD⟩
    exact ⟨n, Der.check (t := treeN (v [])) ⟨l0.map Lx.lt, v, ⟨l0, e, hs, he, by rw [List.map_map]; rfl⟩, hD, rfl⟩⟩
theorem runM_end {m m' : Mc} {l : List Lt} {z : Lt} (hr : runM mc0 l = some m) (hz : z.kind = 0) (h : stepM m z = some m') : Dv .list l := by
  have h1 : runM mc0 (l ++ [z]) = some m' := by
    rw [runM_append, hr]
    show runM m [z] = some m'
    exact runM_one h
  have h2 := runI_of 0 h1
  obtain ⟨A, e, v, hA, he, hD⟩ := run_D h1 (runI_last inv0 hz h2)
  rw [List.append_inj_left' hA rfl]
  exact ⟨_, _, hD⟩
theorem ends_dv (l : List Lt) : (∃ m, runI mc0 0 l = .inl m ∧ anyM m 0 = true) ↔ Dv .list l := by
  constructor
  · rintro ⟨m, hr, ha⟩
    have hr2 := runI_inv inv0 hr
    unfold anyM at ha
    rw [Bool.or_eq_true] at ha
    rcases ha with ha | ha
    · obtain ⟨m', hm⟩ := Option.isSome_iff_exists.1 ha
      exact runM_end hr2 rfl hm
    · obtain ⟨m', hm⟩ := Option.isSome_iff_exists.1 ha
      exact runM_end hr2 rfl hm
  · rintro ⟨n, v, hD⟩
    obtain ⟨m, hm, _, _⟩ := hD.run (e := anyT 0 0) rfl
    rw [runM_append] at hm
    cases hr : runM mc0 l with
    | none => rw [hr] at hm; cases hm
    | some m1 =>
      rw [hr] at hm
      have h1 : runM m1 [anyT 0 0] = some m := hm
      refine ⟨m1, runI_of 0 hr, ?_⟩
      unfold anyM
      rw [runM] at h1
      cases hs : stepM m1 (anyT 0 0) with
      | none => rw [hs] at h1; cases h1
      | some m2 => rfl
theorem folL_zero (m : Mc) : (0 : Int) ∈ folL m 22 ↔ anyM m 0 = true := by
  unfold folL
  constructor
  · intro h
    obtain ⟨i, hi, h0⟩ := List.mem_map.1 h
    have : i = 0 := by omega
    subst this
    exact (List.mem_filter.1 hi).2
  · intro h
    exact List.mem_map.2 ⟨0, List.mem_filter.2 ⟨List.mem_range.2 (by omega), h⟩, rfl⟩
theorem pc_all {A : List Lt} {e : Lt} : pc (A ++ [e]) 0 A.length = A := by
  unfold pc
  rw [List.drop_zero, Nat.sub_zero, List.take_left]
end Go.Proofs.YtcomdkejpaoneaaDoor
end
section
namespace Go.Proofs.YtcomdkejpaoneaaDoor
open Go.RowKit
set_option maxRecDepth 100000
set_option maxHeartbeats 1000000
set_option linter.unusedSimpArgs false
set_option linter.unusedVariables false
theorem at_hasI {w : World} {B : Nat} {A : Option Addr} {n cap : Nat} {l : List Int} (h : RdL folS w B (.slice A n cap) l) {k : Nat} (hk : k < l.length) : ∃ a, A = some a ∧ w.cell? (a.add k) = some (.int .i64 l[k]) := by
  obtain ⟨a, e, hb, h0, hj⟩ := h.at2 folOk hk
  have h1 := h0 _ rfl
  exact ⟨a, e, by simpa [folS] using h1⟩
def HasRel (l : List Int) (k : Int) (w : World) (iv : Value) (wr : World) : Prop := ∃ i : Nat, i ≤ l.length ∧ iv = .int .i64 (i : Int) ∧ (∀ j x, j < i → l[j]? = some x → x ≠ k) ∧ wr = w
theorem has_any (l : List Int) (k : Int) (w : World) (B : Nat) (A : Option Addr) (n cap : Nat) (h : RdL folS w B (.slice A n cap) l) (hl : l.length ≤ 1000) :
    Calls Tryd.prog 28 #[.slice A n cap, .int .i64 k] w fun e w' => e = .returned (.bool (decide (k ∈ l))) ∧ w' = w := by
  obtain ⟨A', cap', e, -, -⟩ := h.open_
  injection e with e1 e2 e3
  subst e1 e2 e3
  have HR := Lib.hid h
  clear h
  go_enter Tryd.func28, Tryd.ntmps28
  go_wp2
  go_loopw [9] (fun iv wr => HasRel l k w iv wr) (fun iv _ => l.length - (intOf iv).toNat)
  case atStart => exact ⟨0, Nat.zero_le _, rfl, fun j x h => absurd h (Nat.not_lt_zero _), rfl⟩
  case round =>
    obtain ⟨i, hi, rfl, hno, rfl⟩ := hrel
    have HNO := Lib.hid hno
    clear hno
    by_cases hlt : i < l.length
    · obtain ⟨a, rfl, hc⟩ := at_hasI HR.out hlt
      have HX := Lib.hid (List.getElem?_eq_getElem hlt)
      generalize l[i] = x at *
      by_cases hx : x = k
      · have ex : (x == k) = true := by simpa using hx
        have HM := Lib.hid (show decide (k ∈ l) = true from decide_eq_true (by rw [← hx]; exact List.mem_of_getElem? HX.out))
        clear hx
        go_wp2
        go_ret
        exact ⟨by rw [HM.out]; rfl, rfl⟩
      · have ex : (x == k) = false := by simpa using hx
        have HXK := Lib.hid hx
        clear hx
        go_wp2
        go_roundw
        case rel =>
          refine ⟨i + 1, hlt, by go_num, fun j y hj hy => ?_, rfl⟩
          by_cases hji : j = i
          · subst hji
            rw [HX.out] at hy
            injection hy with hy
            rw [← hy]; exact HXK.out
          · exact HNO.out j y (by omega) hy
        case measure => simp [intOf]; omega
    · have hie : i = l.length := by omega
      have HM := Lib.hid (show decide (k ∈ l) = false from decide_eq_false (fun hm => by
        obtain ⟨j, hj⟩ := List.getElem?_of_mem hm
        have hjl := (List.getElem?_eq_some_iff.1 hj).1
        exact HNO.out j k (by omega) hj rfl))
      clear hie
      go_wp2
      go_ret
      exact ⟨by rw [HM.out]; rfl, rfl⟩
end Go.Proofs.YtcomdkejpaoneaaDoor
end
section
namespace Go.Proofs.YtcomdkejpaoneaaDoor
open Go.RowKit
set_option maxRecDepth 100000
set_option maxHeartbeats 1000000
set_option linter.unusedSimpArgs false
set_option linter.unusedVariables false
def CtRel (w0 : World) (B cb n cap : Nat) (A : Option Addr) (row : List Lt) (S : Nat → Addr) (K : Nat → Nat) (G : Nat → Nat → Addr) (s k : Nat) (W : World) : Prop :=
  ∃ V, ChAt W B cb A cap row n S K G V ∧ (∀ p a b, V p a b ≤ 1) ∧ (∀ p a b, p < 11 → a < b → b ≤ n → (b - a < s ∨ (b - a = s ∧ a < k)) → IsW (ptOf p) (pc row a b) (V p a b)) ∧ Below cb w0 W
section
variable {w0 W W' : World} {B cb n cap s k : Nat} {A : Option Addr} {row : List Lt} {S : Nat → Addr} {K : Nat → Nat} {G : Nat → Nat → Addr}
theorem CtRel.first {V : Nat → Nat → Nat → Nat} (h : ChAt W B cb A cap row n S K G V) (hV : ∀ p a b, V p a b ≤ 1) (hb : Below cb w0 W) : CtRel w0 B cb n cap A row S K G 1 0 W :=
  ⟨V, h, hV, fun p a b hp hab hbn h2 => by omega, hb⟩
theorem CtRel.fill (h : CtRel w0 B cb n cap A row S K G s k W) (hs : 1 ≤ s) (hk : k + s ≤ n) : ∃ V, (∀ p a b, V p a b ≤ 1) ∧ ChAt W B cb A cap row n S K G V ∧ Shorter row n V (k + s - k) ∧ ∀ W', FR W B cb n cap A row S K G V k (k + s) 11 W' → CtRel w0 B cb n cap A row S K G s (k + 1) W' := by
  obtain ⟨V, h1, h2, h3, h4⟩ := h
  refine ⟨V, h2, h1, fun p a b hp hab hb hlt => h3 p a b hp hab hb (by omega), ?_⟩
  rintro W' ⟨V', g1, g2, g3, g4, g5⟩
  refine ⟨V', g1, g4, fun p a b hp hab hb hc => ?_, h4.trans g5⟩
  by_cases he : a = k ∧ b = k + s
  · obtain ⟨rfl, rfl⟩ := he
    exact g3 p hp
  · rw [g2 p a b he]
    exact h3 p a b hp hab hb (by omega)
theorem CtRel.next (h : CtRel w0 B cb n cap A row S K G s k W) (hk : n < k + s) : CtRel w0 B cb n cap A row S K G (s + 1) 0 W := by
  obtain ⟨V, h1, h2, h3, h4⟩ := h
  exact ⟨V, h1, h2, fun p a b hp hab hb hc => h3 p a b hp hab hb (by omega), h4⟩
theorem CtRel.last (h : CtRel w0 B cb n cap A row S K G s k W) (hn : 1 ≤ n) (hs : n < s) : ∃ V, ChAt W B cb A cap row n S K G V ∧ V 10 0 n ≤ 1 ∧ IsW .list (pc row 0 n) (V 10 0 n) := by
  obtain ⟨V, h1, h2, h3, h4⟩ := h
  exact ⟨V, h1, h2 _ _ _, h3 10 0 n (by omega) (by omega) (Nat.le_refl _) (by omega)⟩
end
end Go.Proofs.YtcomdkejpaoneaaDoor
end
section
namespace Go.Proofs.YtcomdkejpaoneaaDoor
open Go.RowKit
set_option maxRecDepth 1000000
set_option maxHeartbeats 3000000
set_option linter.unusedSimpArgs false
set_option linter.unusedVariables false
noncomputable def tlD (k : Nat) : Code := ((Tryd.f22.body.bind (tailOf k)).getD .skip)
theorem derived_tail {w : World} {B cb n cap : Nat} {A : Option Addr} {row : List Lt} {S : Nat → Addr} {K : Nat → Nat} {G : Nat → Nat → Addr} {V0 : Nat → Nat → Nat → Nat} (h : ChAt w B cb A cap row n S K G V0) (hV : ∀ p a b, V0 p a b ≤ 1) (hn1 : 1 ≤ n) (c1 c5 c6 c7 c8 c9 c10 c11 c12 c13 c14 c15 c16 c17 c18 c19 c20 c21 c22 c23 c24 c25 c26 c27 c28 c29 c30 c31 c32 c33 c34 c35 c36 c37 c38 c39 c40 c41 c42 c43 c44 c45 c46 c47 c48 c49 c50 c51 c52 c53 c54 c55 c56 c57 c58 c59 c60 c61 c62 c63 c64 c65 c66 c67 c68 c69 c70 c71 c72 c73 c74 c75 c76 c77 : Value) :
    Code.wp Tryd.prog (tlD 12) (bodyPost Tryd.prog Tryd.f22 (fun e w' => ∃ x : Nat, e = .returned (.int .i64 (x : Int)) ∧ IsW .list (pc row 0 n) x ∧ Below cb w w')) ⟨#[.slice A row.length cap, c1, .int .i64 0, .int .i64 (n : Int), .pointer (some ⟨cb, 0, none⟩), c5, c6, c7, c8, c9, c10, c11, c12, c13, c14, c15, c16, c17, c18, c19, c20, c21, c22, c23, c24, c25, c26, c27, c28, c29, c30, c31, c32, c33, c34, c35, c36, c37, c38, c39, c40, c41, c42, c43, c44, c45, c46, c47, c48, c49, c50, c51, c52, c53, c54, c55, c56, c57, c58, c59, c60, c61, c62, c63, c64, c65, c66, c67, c68, c69, c70, c71, c72, c73, c74, c75, c76, c77], []⟩ w := by
  have hn : n ≤ 100 := by have := h.row_.small; have := h.len; omega
  have H0 := Lib.hid (CtRel.first h hV (Below.refl cb w))
  clear h hV
  conv => arg 2; whnf
  go_wp2
  go_loopw [7] (fun sv wr => ∃ s : Nat, 1 ≤ s ∧ s ≤ n + 1 ∧ sv = .int .i64 (s : Int) ∧ CtRel w B cb n cap A row S K G s 0 wr) (fun sv _ => n + 1 - (intOf sv).toNat)
  case atStart => exact ⟨1, Nat.le_refl _, by omega, rfl, H0.out⟩
  case round =>
    clear H0
    obtain ⟨s, hs1, hs2, rfl, hct⟩ := hrel
    have HCT := Lib.hid hct
    clear hct
    by_cases hsn : s ≤ n
    · have hlt : (s : Int) ≤ (n : Int) := by omega
      obtain ⟨wo, rfl⟩ : ∃ wo : World, wo = wr := ⟨_, rfl⟩
      go_wp2
      go_loopw [8] (fun kv wr => ∃ k : Nat, k ≤ n ∧ kv = .int .i64 (k : Int) ∧ CtRel w B cb n cap A row S K G s k wr) (fun kv _ => n + 1 - (intOf kv).toNat)
      case atStart => exact ⟨0, Nat.zero_le _, rfl, HCT.out⟩
      case round =>
        clear HCT
        obtain ⟨k, hk, rfl, hct⟩ := hrel
        by_cases hks : k + s ≤ n
        · obtain ⟨V, hV, hch, hsh, hnx⟩ := hct.fill hs1 hks
          have HF := Lib.hid (show Calls Tryd.prog 42 #[.pointer (some ⟨cb, 0, none⟩), .int .i64 (k : Int), .int .i64 ((k : Int) + (s : Int))] wr (fun e w' => e = .returned (.tuple #[]) ∧ FR wr B cb n cap A row S K G V k (k + s) 11 w') from by
            have h := fill_any hch k (k + s) (by omega) hks hV hsh
            rw [Int.natCast_add] at h
            exact h)
          have HNX := Lib.hid hnx
          have hksi : (k : Int) + (s : Int) ≤ (n : Int) := by omega
          clear hct hch hV hsh hnx
          go_wp2_with fail
          refine HF.out.mono ?_
          rintro e w' ⟨rfl, hfr⟩
          have H2 := Lib.hid (HNX.out w' hfr)
          clear hfr
          go_wp2
          go_roundw
          case rel => exact ⟨k + 1, by omega, by go_num, H2.out⟩
          case measure => simp [intOf]; omega
        · have H2 := Lib.hid (hct.next (by omega))
          have hksi : ¬ ((k : Int) + (s : Int) ≤ (n : Int)) := by omega
          clear hct
          go_wp2
          go_roundw
          case rel => exact ⟨s + 1, by omega, by omega, by go_num, H2.out⟩
          case measure => simp [intOf]; omega
    · have hlt : ¬ ((s : Int) ≤ (n : Int)) := by omega
      obtain ⟨V, hc, hv, hx⟩ := HCT.out.last hn1 (by omega)
      have hb := HCT.out.choose_spec.2.2.2
      have HX := Lib.hid hx; have HB := Lib.hid hb
      have ta := hc.top 10 (by omega)
      rw [show 1 + 10 = 11 from rfl] at ta
      have ma := hc.mid 10 0 (by omega) (Nat.zero_le _)
      have ea : (S 10).add 0 = S 10 := by simp [Addr.add]
      rw [ea] at ma
      have ba := (hc.bot 10 0 n (by omega) (Nat.zero_le _) (Nat.le_refl _)).1
      clear hc hx hb HCT ea
      generalize V 10 0 n = x at *
      go_wp2
      go_ret
      exact ⟨x, rfl, HX.out, HB.out⟩
end Go.Proofs.YtcomdkejpaoneaaDoor
end
section
namespace Go.Proofs.YtcomdkejpaoneaaDoor
open Go.RowKit
set_option maxRecDepth 100000
set_option maxHeartbeats 1000000
set_option linter.unusedSimpArgs false
set_option linter.unusedVariables false
def gS : Shape Sl := { tS := 86, tE := 33, size := 1, bytes := 24, enc := fun s => [.slice s.a s.n s.c], zero := .slice none 0 0 }
theorem gOk : gS.Ok where
  under := Tryd.underlying86
  info := by kernel_rfl
  zs := rfl
  pos := by decide
  len := fun _ => rfl
  one := fun x u hu => by
    simp only [gS, List.mem_cons, List.not_mem_nil, or_false] at hu
    subst hu; rfl
  small := by decide
def zeros (n : Nat) : Array Value := Array.replicate n (.int .i64 0)
def chCells (A : Option Addr) (cap m : Nat) (v : Nat → Value) : Array Value := #[.slice A m cap, v 0, v 1, v 2, v 3, v 4, v 5, v 6, v 7, v 8, v 9, v 10]
structure TbAt (w : World) (cb n : Nat) (A : Option Addr) (cap m : Nat) (v : Nat → Value) (L : Nat → List Sl) : Prop where
  blk : Blk w cb 89 (chCells A cap m v)
  own : ∀ q, q < 11 → OwnL gS w (cb + 1) (v q) (L q)
  rows : ∀ (q a : Nat) (s : Sl), q < 11 → (L q)[a]? = some s → ∃ g : Nat, s = ⟨some ⟨g, 0, none⟩, n + 1, n + 1⟩ ∧ cb < g ∧ Blk w g 3 (zeros (n + 1)) ∧ ∀ p, p < 11 → (v p).ownBlock ≠ some g
  dist : ∀ (q a : Nat) (s : Sl) (p b : Nat) (t : Sl), q < 11 → p < 11 → (L q)[a]? = some s → (L p)[b]? = some t → (q ≠ p ∨ a ≠ b) → s.a ≠ t.a
def slA (v : Value) : Addr := match v with
  | .slice (some a) _ _ => a
  | _ => ⟨0, 0, none⟩
def slC (v : Value) : Nat := match v with
  | .slice _ _ c => c
  | _ => 0
def rowA (L : Nat → List Sl) (q a : Nat) : Addr := ((L q)[a]?.bind (·.a)).getD ⟨0, 0, none⟩
theorem chCells_at (A : Option Addr) (cap m : Nat) (v : Nat → Value) (q : Nat) (hq : q < 11) : (chCells A cap m v)[1 + q]? = some (v q) := by
  have : q = 0 ∨ q = 1 ∨ q = 2 ∨ q = 3 ∨ q = 4 ∨ q = 5 ∨ q = 6 ∨ q = 7 ∨ q = 8 ∨ q = 9 ∨ q = 10 := by omega
  rcases this with rfl | rfl | rfl | rfl | rfl | rfl | rfl | rfl | rfl | rfl | rfl <;> rfl
theorem TbAt.chart {w : World} {B cb n cap : Nat} {A : Option Addr} {row : List Lt} {v : Nat → Value} {L : Nat → List Sl} (h : TbAt w cb n A cap row.length v L) (hr : RdL ltS w B (.slice A row.length cap) row) (hB : B ≤ cb) (hsm : row.length ≤ 100) (hlen : row.length = n + 1) (hL : ∀ q, q < 11 → (L q).length = n + 1) :
    ChAt w B cb A cap row n (fun q => slA (v q)) (fun q => slC (v q)) (rowA L) (fun _ _ _ => 0) := by
  have hv : ∀ q, q < 11 → ∃ g c, v q = .slice (some ⟨g, 0, none⟩) (n + 1) c ∧ cb + 1 ≤ g := by
    intro q hq
    have ho := h.own q hq
    obtain ⟨A', c, e, -, -, hc⟩ := ho.open_
    obtain ⟨g, e2, hg, _, _⟩ := hc 0 0 (by rw [hL q hq]; omega) (by decide)
    rw [hL q hq, e2] at e
    exact ⟨g, c, e, hg⟩
  have hrow : ∀ q a, q < 11 → a ≤ n → ∃ g : Nat, (L q)[a]? = some (⟨some ⟨g, 0, none⟩, n + 1, n + 1⟩ : Sl) ∧ rowA L q a = ⟨g, 0, none⟩ ∧ cb < g ∧ Blk w g 3 (zeros (n + 1)) ∧ ∀ p, p < 11 → (v p).ownBlock ≠ some g := by
    intro q a hq ha
    have hlt : a < (L q).length := by rw [hL q hq]; omega
    obtain ⟨g, e, h1, h2, h3⟩ := h.rows q a (L q)[a] hq (List.getElem?_eq_getElem hlt)
    refine ⟨g, by rw [List.getElem?_eq_getElem hlt, e], ?_, h1, h2, h3⟩
    unfold rowA
    rw [List.getElem?_eq_getElem hlt, e]; rfl
  refine ⟨⟨?_, hr, hsm⟩, hlen, hB, ?_, ?_, ?_, ?_, ?_, ?_, ?_⟩
  · rw [h.blk.cell]; rfl
  · intro q hq
    obtain ⟨g, c, e, _⟩ := hv q hq
    rw [h.blk.cell, chCells_at A cap row.length v q hq, e]
    rfl
  · intro q a hq ha
    obtain ⟨g, c, e, _⟩ := hv q hq
    obtain ⟨f, e2, e3, _, _, _⟩ := hrow q a hq ha
    have ho := h.own q hq
    have hlt : a < (L q).length := by rw [hL q hq]; omega
    have h1 := (RdL.of_own (by rw [e] at ho; exact ho)).at_ gOk hlt
    obtain ⟨b, e4, _, h5⟩ := h1
    injection e4 with e4
    have h6 := h5 0 (.slice (some ⟨f, 0, none⟩) (n + 1) (n + 1)) (by decide) (by
      rw [List.getElem?_eq_getElem hlt] at e2
      injection e2 with e2
      rw [e2]; rfl)
    have e7 : a * gS.size + 0 = a := by show a * 1 + 0 = a; omega
    rw [e7, ← e4] at h6
    rw [e3]
    show w.cell? ((slA (v q)).add a) = _
    rw [e]
    exact h6
  · intro q a hq ha
    obtain ⟨f, e2, e3, _, hb, _⟩ := hrow q a hq ha
    refine ⟨zeros (n + 1), by rw [e3]; exact hb, fun j hj => ?_⟩
    unfold zeros
    rw [Array.getElem?_replicate, if_pos (by omega)]
    rfl
  · intro q a hq ha
    obtain ⟨f, _, e3, _⟩ := hrow q a hq ha
    rw [e3]
  · intro q a hq ha
    obtain ⟨f, _, e3, hf, hb, _⟩ := hrow q a hq ha
    rw [e3]
    exact ⟨hf, hb.lt⟩
  · intro p q a hp hq ha
    obtain ⟨g, c, e, _⟩ := hv p hp
    obtain ⟨f, _, e3, _, _, hno⟩ := hrow q a hq ha
    have := hno p hp
    rw [e] at this
    rw [e3]
    show (slA (v p)).block ≠ f
    rw [e]
    intro e5
    exact this (by show some g = some f; exact congrArg some e5)
  · intro p q a b hp hq ha hb hne
    obtain ⟨f, e2, e3, _⟩ := hrow p a hp ha
    obtain ⟨g, e4, e5, _⟩ := hrow q b hq hb
    have := h.dist p a _ q b _ hp hq e2 e4 hne
    rw [e3, e5]
    intro e6
    have e7 : f = g := e6
    subst e7
    exact this rfl
end Go.Proofs.YtcomdkejpaoneaaDoor
end
