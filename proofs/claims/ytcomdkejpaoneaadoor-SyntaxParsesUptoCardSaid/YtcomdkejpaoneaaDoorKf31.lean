/- Merged for a claim by shake.py: Ya Yb Te -/
import Derived.Test.YtcomdkejpaoneaaDoorKfA
import Derived.Test.YtcomdkejpaoneaaDoorKf13
import Derived.Test.YtcomdkejpaoneaaDoorKf17
import Derived.Test.YtcomdkejpaoneaaDoorKf21
import Derived.Test.YtcomdkejpaoneaaDoorKf26
import Derived.Test.YtcomdkejpaoneaaDoorKf27
import Derived.Test.YtcomdkejpaoneaaDoorKf6
section
namespace Go.Proofs.YtcomdkejpaoneaaDoor
set_option maxRecDepth 100000
set_option linter.unusedSimpArgs false
set_option linter.unusedVariables false
def stopB (z : UInt8) : Prop := (cls z = 1 ∨ cls z = 2) ∧ isDg z = false
theorem runY_stop {z : UInt8} (hz : stopB z) (b : List UInt8) : runL (z :: b) = some ⟨[], [], 0, 0⟩ := by
 cases b <;> (unfold runL; rw [if_pos hz.1])
theorem runY_stopApp {z : UInt8} (hz : stopB z) : ∀ (a b : List UInt8) (r : Rn), runL a = some r → runL (a ++ z :: b) = some r
 | [], b, r, h => by
  unfold runL at h; cases h
  exact runY_stop hz b
 | [c], b, r, h => by
  unfold runL at h
  rw [List.singleton_append, runL]
  split at h
  ·rename_i hc; cases h; rw [if_pos hc]
  ·rename_i hc
   rw [if_neg hc]
   split at h
   ·rename_i h3; cases h; rw [if_pos h3, runY_stop hz]; rfl
   ·rename_i h3
    rw [if_neg h3]
    split at h
    ·cases h
    ·rename_i h4; cases h; rw [if_neg h4, runY_stop hz]; rfl
 | c :: d :: t, b, r, h => by
  rw [runL] at h
  rw [List.cons_append, List.cons_append, runL]
  split at h
  ·rename_i hc; cases h; rw [if_pos hc]
  ·rename_i hc
   rw [if_neg hc]
   split at h
   ·rename_i h3
    obtain ⟨y, hy, rfl⟩ := Option.map_eq_some_iff.1 h
    have := runY_stopApp hz (d :: t) b y hy
    rw [List.cons_append] at this
    rw [if_pos h3, this]; rfl
   ·rename_i h3
    rw [if_neg h3]
    split at h
    ·rename_i h4
     obtain ⟨y, hy, rfl⟩ := Option.map_eq_some_iff.1 h
     rw [if_pos h4, runY_stopApp hz t b y hy]; rfl
    ·rename_i h4
     obtain ⟨y, hy, rfl⟩ := Option.map_eq_some_iff.1 h
     have := runY_stopApp hz (d :: t) b y hy
     rw [List.cons_append] at this
     rw [if_neg h4, this]; rfl
theorem digs_stopApp {z : UInt8} (hz : stopB z) (a b : List UInt8) : digs (a ++ z :: b) = digs a := by
 unfold digs
 induction a with
 | nil => rw [List.nil_append, List.takeWhile_cons, hz.2]; rfl
 | cons c a ih => rw [List.cons_append, List.takeWhile_cons, List.takeWhile_cons, ih]
theorem numTk_stopApp {z : UInt8} (hz : stopB z) (kind : Int) (a b : List UInt8) (m : Nat) : numTk kind (a ++ z :: b) m = numTk kind a m := by
 unfold numTk numOkB
 rw [digs_stopApp hz]
theorem tok_stopApp {z : UInt8} (hz : stopB z) {c : UInt8} {a b : List UInt8} {k : Tk} (h : tokOf (c :: a) = some k) : tokOf (c :: (a ++ z :: b)) = some k := by
 simp only [tokOf] at h ⊢
 split at h
 ·rename_i hs; rw [if_pos hs]; exact h
 ·rename_i hs
  rw [if_neg hs]
  split at h
  ·rename_i hc
   obtain ⟨y, hy, rfl⟩ := Option.map_eq_some_iff.1 h
   rw [if_pos hc, quotedL_app a _ y hy]; rfl
  ·rename_i hc
   rw [if_neg hc]
   split at h
   ·rename_i h94
    rw [if_pos h94]
    cases a with
    | nil =>
     have : numTk 18 [] 1 = none := by decide
     rw [if_neg (by simp)] at h
     rw [this] at h; cases h
    | cons d a =>
     simp only [List.cons_append, List.head?_cons, List.drop_succ_cons, List.drop_zero] at h ⊢
     rw [numTk_stopApp hz, ← List.cons_append, numTk_stopApp hz]
     exact h
   ·rename_i h94
    rw [if_neg h94]
    split at h
    ·rename_i h126
     rw [if_pos h126, digs_stopApp hz, numTk_stopApp hz]
     exact h
    ·rename_i h126
     rw [if_neg h126]
     split at h
     ·rename_i h64
      rw [if_pos h64, numTk_stopApp hz]; exact h
     ·rename_i h64
      rw [if_neg h64]
      unfold runTk at h ⊢
      obtain ⟨r, hr, rfl⟩ := Option.map_eq_some_iff.1 h
      have hlen := runL_len _ _ hr
      have := runY_stopApp hz (c :: a) b r hr
      rw [List.cons_append] at this
      rw [this]
      simp only [Option.map_some]
      rw [← List.cons_append, List.take_append_of_le_length hlen]
theorem scan_stopApp {z : UInt8} (hz : stopB z) : ∀ (f : Nat) (p q : List UInt8) (i f' : Nat) (la : List Lx), p.length < f → scanF f p i = (la, none) → p.length + q.length + 1 < f' →
  scanF f' (p ++ z :: q) i = ahead la.dropLast (scanF (q.length + 2) (z :: q) (i + p.length))
 | 0, p, q, i, f', la, h, _, _ => by omega
 | _, p, q, i, 0, la, _, _, h => by omega
 | f + 1, [], q, i, f' + 1, la, h, h2, h3 => by
  cases h2
  rw [List.nil_append, List.dropLast_singleton, ahead_nil _ (scanF_or _ _ _)]
  exact scanF_fuel _ _ _ _ (by simp only [List.length_nil, List.length_cons] at h3 ⊢; omega) (by simp only [List.length_cons]; omega)
 | f + 1, c :: t, q, i, f' + 1, la, h, h2, h3 => by
  simp only [List.length_cons] at h h3
  rw [scanF] at h2
  rw [List.cons_append, scanF]
  split at h2
  ·rename_i hc
   rw [if_pos hc, scan_stopApp hz f t q (i + 1) f' la (by omega) h2 (by omega), List.length_cons, show i + 1 + t.length = i + (t.length + 1) from by omega]
  ·rename_i hc
   rw [if_neg hc]
   split at h2
   ·cases h2
   ·rename_i k ht
    have hk := tok_len ht (fun d hd => by cases hd; exact hc)
    simp only [List.length_cons] at hk
    rw [tok_stopApp hz ht]
    rcases hr : scanF f ((c :: t).drop k.len) (i + k.len) with ⟨u, _ | z⟩
    ·rw [hr] at h2
     cases h2
     have hd : ((c :: t).drop k.len).length = t.length + 1 - k.len := by rw [List.length_drop, List.length_cons]
     have := scan_stopApp hz f _ q (i + k.len) f' u (by omega) hr (by omega)
     simp only []
     rw [← List.cons_append, List.drop_append_of_le_length (by rw [List.length_cons]; omega), this, ahead_ahead]
     simp only [List.singleton_append]
     rw [List.dropLast_cons_of_ne_nil (scanF_ne _ _ _ _ hr), hd, List.length_cons,
      show i + k.len + (t.length + 1 - k.len) = i + (t.length + 1) from by omega]
    ·rw [hr] at h2; cases h2
theorem scanL_stopApp {z : UInt8} (hz : stopB z) {p q : List UInt8} {la : List Lx} (h : scanL p = (la, none)) : scanL (p ++ z :: q) = ahead la.dropLast (upAll p.length (scanL (z :: q))) := by
 unfold scanL at h ⊢
 rw [scan_stopApp hz _ p q 0 _ la (by omega) h (by rw [List.length_append, List.length_cons]; omega), ← scanF_up, List.length_cons]
theorem scanL_single {c : UInt8} (h : singleK c ≠ 0) (t : List UInt8) : scanL (c :: t) = ahead [⟨singleK c, [], 0, 0, 1⟩] (upAll 1 (scanL t)) := by
 have hc : cls c ≠ 1 := by
  have := all_bytes' (p := fun c => decide (singleK c ≠ 0 → cls c ≠ 1)) (by decide +kernel) c
  exact of_decide_eq_true this h
 unfold scanL
 rw [List.length_cons, scanF, if_neg hc, ← scanF_up, tokOf, if_pos h]
 rfl
def lk (x : Lt) : Int × List UInt8 × Int := (x.kind, x.text, x.n)
def lkX (x : Lx) : Int × List UInt8 × Int := (x.kind, x.text, x.n)
theorem lkX_up (d : Nat) (l : List Lx) : (l.map (Lx.up d)).map lkX = l.map lkX := by rw [List.map_map]; rfl
theorem lk_lt (l : List Lx) : (l.map Lx.lt).map lk = l.map lkX := by rw [List.map_map]; rfl
def Toks (l : List UInt8) (T : List Lt) : Prop := ∃ (la : List Lx) (e : Lx), scanL l = (la ++ [e], none) ∧ e.kind = 0 ∧ la.map lkX = T.map lk
theorem Toks.nil : Toks [] [] := ⟨[], _, scanL_nil', rfl, rfl⟩
 where scanL_nil' : scanL [] = ([] ++ [⟨0, [], 0, 0, 0⟩], none) := rfl
theorem Toks.app {z : UInt8} (hz : stopB z) {p q : List UInt8} {A B : List Lt} (h : Toks p A) (h2 : Toks (z :: q) B) : Toks (p ++ z :: q) (A ++ B) := by
 obtain ⟨la, e, hs, he, hl⟩ := h
 obtain ⟨lb, e2, hs2, he2, hl2⟩ := h2
 refine ⟨la ++ lb.map (Lx.up p.length), e2.up p.length, ?_, he2, ?_⟩
 ·rw [scanL_stopApp hz hs, hs2, List.dropLast_concat]
  simp [upAll, ahead]
 ·rw [List.map_append, List.map_append, hl, lkX_up, hl2]
theorem Toks.blank {z : UInt8} (hz : cls z = 1) {q : List UInt8} {B : List Lt} (h : Toks q B) : Toks (z :: q) B := by
 obtain ⟨la, e, hs, he, hl⟩ := h
 refine ⟨la.map (Lx.up 1), e.up 1, ?_, he, by rw [lkX_up, hl]⟩
 have : scanL (z :: q) = upAll 1 (scanL q) := by
  unfold scanL
  rw [List.length_cons, scanF, if_pos hz, ← scanF_up]
 rw [this, hs]; simp [upAll]
theorem Toks.single {c : UInt8} {k : Int} (hk : singleK c = k) (h0 : k ≠ 0) {q : List UInt8} {B : List Lt} (h : Toks q B) : Toks (c :: q) (⟨k, [], 0, 0, 0⟩ :: B) := by
 obtain ⟨la, e, hs, he, hl⟩ := h
 refine ⟨⟨k, [], 0, 0, 1⟩ :: la.map (Lx.up 1), e.up 1, ?_, he, ?_⟩
 ·rw [scanL_single (by rw [hk]; exact h0), hs, hk]; simp [upAll, ahead]
 ·rw [List.map_cons, List.map_cons, lkX_up, hl]; rfl
theorem Toks.one {l : List UInt8} {x e : Lx} (h : scanL l = ([x, e], none)) (he : e.kind = 0) : Toks l [⟨x.kind, x.text, x.n, 0, 0⟩] := ⟨[x], e, h, he, rfl⟩
theorem Toks.lk {l : List UInt8} {A B : List Lt} (h : Toks l A) (hb : B.map lk = A.map lk) : Toks l B := by
 obtain ⟨la, e, hs, he, hl⟩ := h
 exact ⟨la, e, hs, he, by rw [hl, hb]⟩
theorem lk_split {A1 A2 B : List Lt} (h : B.map lk = (A1 ++ A2).map lk) : ∃ B1 B2, B = B1 ++ B2 ∧ B1.map lk = A1.map lk ∧ B2.map lk = A2.map lk := by
 rw [List.map_append, List.map_eq_append_iff] at h
 exact h
theorem lk_head {a : Lt} {A B : List Lt} (h : B.map lk = (a :: A).map lk) : ∃ b B', B = b :: B' ∧ b.kind = a.kind ∧ b.text = a.text ∧ b.n = a.n ∧ B'.map lk = A.map lk := by
 rw [List.map_cons, List.map_eq_cons_iff] at h
 obtain ⟨b, B', e, hb, hB⟩ := h
 unfold Go.Proofs.YtcomdkejpaoneaaDoor.lk at hb
 simp only [Prod.mk.injEq] at hb
 exact ⟨b, B', e, hb.1, hb.2.1, hb.2.2, hB⟩
theorem lk_none {B : List Lt} (h : B.map lk = ([] : List Lt).map lk) : B = [] := by simpa using h
theorem starT_lk {a b : Lt} (h : b.kind = a.kind) (h2 : b.text = a.text) : starT b = starT a := by unfold starT; rw [h, h2]
theorem sideT_lk {a b : Lt} (h : b.kind = a.kind) (h2 : b.text = a.text) : sideT b = sideT a := by unfold sideT; rw [starT_lk h h2, h]
theorem sideN_lk {a b : Lt} (h : b.kind = a.kind) (h2 : b.text = a.text) (i : Bool) : sideN b i = sideN a i := by unfold sideN; rw [h, h2]
theorem D.lk {p : Pt} {A : List Lt} {n : Nat} {v : Vl} (h : D p A n v) : ∀ B : List Lt, B.map lk = A.map lk → D p B n v := by
 induction h with
 | word ht =>
  intro B hB
  obtain ⟨b, B', rfl, h1, h2, h3, h4⟩ := lk_head hB
  obtain rfl := lk_none h4
  rw [← h2]; exact .word (h1.trans ht)
 | edits ht hu hn =>
  intro B hB
  obtain ⟨b, B', rfl, h1, h2, h3, h4⟩ := lk_head hB
  obtain ⟨c, B', rfl, g1, g2, g3, g4⟩ := lk_head h4
  obtain rfl := lk_none g4
  rw [← h2, ← g3]; exact .edits (h1.trans ht) (g1.trans hu) (by rw [g3]; exact hn)
 | pat ht =>
  intro B hB
  obtain ⟨b, B', rfl, h1, h2, h3, h4⟩ := lk_head hB
  obtain rfl := lk_none h4
  rw [← h2]; exact .pat (h1.trans ht)
 | quo ht =>
  intro B hB
  obtain ⟨b, B', rfl, h1, h2, h3, h4⟩ := lk_head hB
  obtain rfl := lk_none h4
  rw [← h2]; exact .quo (h1.trans ht)
 | slop ht hu hn =>
  intro B hB
  obtain ⟨b, B', rfl, h1, h2, h3, h4⟩ := lk_head hB
  obtain ⟨c, B', rfl, g1, g2, g3, g4⟩ := lk_head h4
  obtain rfl := lk_none g4
  rw [← h2, ← g3]; exact .slop (h1.trans ht) (g1.trans hu) (by rw [g3]; exact hn)
 | span ha hb hc hd he =>
  intro B hB
  obtain ⟨a1, B', rfl, p1, p2, p3, p4⟩ := lk_head hB
  obtain ⟨a2, B', rfl, q1, q2, q3, q4⟩ := lk_head p4
  obtain ⟨a3, B', rfl, r1, r2, r3, r4⟩ := lk_head q4
  obtain ⟨a4, B', rfl, s1, s2, s3, s4⟩ := lk_head r4
  obtain ⟨a5, B', rfl, t1, t2, t3, t4⟩ := lk_head s4
  obtain rfl := lk_none t4
  rw [← p1, ← t1, ← sideN_lk q1 q2, ← sideN_lk s1 s2]
  exact .span (by rw [p1]; exact ha) (by rw [sideT_lk q1 q2]; exact hb) (by rw [r1]; exact hc) (by rw [sideT_lk s1 s2]; exact hd) (by rw [t1]; exact he)
 | group ho _ hc ih =>
  intro B hB
  obtain ⟨o1, B', rfl, h1, h2, h3, h4⟩ := lk_head hB
  obtain ⟨B1, B2, rfl, g1, g2⟩ := lk_split h4
  obtain ⟨c1, B', rfl, k1, k2, k3, k4⟩ := lk_head g2
  obtain rfl := lk_none k4
  exact .group (h1.trans ho) (ih B1 g1) (k1.trans hc)
 | least ho _ hc hl ih =>
  intro B hB
  obtain ⟨o1, B', rfl, h1, h2, h3, h4⟩ := lk_head hB
  obtain ⟨B1, B2, rfl, g1, g2⟩ := lk_split h4
  obtain ⟨c1, B', rfl, k1, k2, k3, k4⟩ := lk_head g2
  obtain ⟨l1, B', rfl, m1, m2, m3, m4⟩ := lk_head k4
  obtain rfl := lk_none m4
  rw [← m3]
  exact .least (h1.trans ho) (ih B1 g1) (k1.trans hc) (m1.trans hl)
 | leafB _ ih => exact fun B hB => .leafB (ih B hB)
 | groupB _ ih => exact fun B hB => .groupB (ih B hB)
 | bodyA _ ih => exact fun B hB => .bodyA (ih B hB)
 | field hw hc _ ih =>
  intro B hB
  obtain ⟨w1, B', rfl, h1, h2, h3, h4⟩ := lk_head hB
  obtain ⟨c1, B', rfl, g1, g2, g3, g4⟩ := lk_head h4
  rw [← h2]
  exact .field (h1.trans hw) (g1.trans hc) (ih _ g4)
 | all hs hc ht =>
  intro B hB
  obtain ⟨w1, B', rfl, h1, h2, h3, h4⟩ := lk_head hB
  obtain ⟨c1, B', rfl, g1, g2, g3, g4⟩ := lk_head h4
  obtain ⟨t1, B', rfl, k1, k2, k3, k4⟩ := lk_head g4
  obtain rfl := lk_none k4
  exact .all (by rw [starT_lk h1 h2]; exact hs) (g1.trans hc) (by rw [starT_lk k1 k2]; exact ht)
 | atomP _ ih => exact fun B hB => .atomP (ih B hB)
 | sfx _ hb ih =>
  intro B hB
  obtain ⟨B1, B2, rfl, g1, g2⟩ := lk_split hB
  obtain ⟨c1, B', rfl, k1, k2, k3, k4⟩ := lk_head g2
  obtain rfl := lk_none k4
  rw [← k1, ← k3]
  exact .sfx (ih B1 g1) (by rw [k1]; exact hb)
 | pieceU _ ih => exact fun B hB => .pieceU (ih B hB)
 | not ht _ ih =>
  intro B hB
  obtain ⟨w1, B', rfl, h1, h2, h3, h4⟩ := lk_head hB
  exact .not (h1.trans ht) (ih _ h4)
 | maxU _ ih => exact fun B hB => .maxU (ih B hB)
 | bar _ hb _ ih1 ih2 =>
  intro B hB
  obtain ⟨B1, B2, rfl, g1, g2⟩ := lk_split hB
  obtain ⟨c1, B', rfl, k1, k2, k3, k4⟩ := lk_head g2
  exact .bar (ih1 B1 g1) (k1.trans hb) (ih2 _ k4)
 | andM _ ih => exact fun B hB => .andM (ih B hB)
 | and _ hb _ ih1 ih2 =>
  intro B hB
  obtain ⟨B1, B2, rfl, g1, g2⟩ := lk_split hB
  obtain ⟨c1, B', rfl, k1, k2, k3, k4⟩ := lk_head g2
  exact .and (ih1 B1 g1) (k1.trans hb) (ih2 _ k4)
 | orA _ ih => exact fun B hB => .orA (ih B hB)
 | or _ hb _ ih1 ih2 =>
  intro B hB
  obtain ⟨B1, B2, rfl, g1, g2⟩ := lk_split hB
  obtain ⟨c1, B', rfl, k1, k2, k3, k4⟩ := lk_head g2
  exact .or (ih1 B1 g1) (k1.trans hb) (ih2 _ k4)
 | clauseO _ ih => exact fun B hB => .clauseO (ih B hB)
 | sign hs _ ih =>
  intro B hB
  obtain ⟨w1, B', rfl, h1, h2, h3, h4⟩ := lk_head hB
  rw [← h1]
  exact .sign (by rw [h1]; exact hs) (ih _ h4)
 | one _ ih => exact fun B hB => .one (ih B hB)
 | more _ _ ih1 ih2 =>
  intro B hB
  obtain ⟨B1, B2, rfl, g1, g2⟩ := lk_split hB
  exact .more (ih1 B1 g1) (ih2 B2 g2)
theorem D.list2 {A B : List Lt} {n m : Nat} {v u : Vl} (h : D .list A n v) (h2 : D .list B m u) : D .list (A ++ B) (max n m) fun f => v f ++ u f := by
 generalize hp : Pt.list = p at h2
 induction h2 with
 | one h2 => exact .more h h2
 | more _ h2 ih _ =>
  rw [← List.append_assoc, ← Nat.max_assoc]
  have := D.more (ih hp) h2
  simpa only [List.append_assoc] using this
 | _ => cases hp
end Go.Proofs.YtcomdkejpaoneaaDoor
end
section
namespace Go.Proofs.YtcomdkejpaoneaaDoor
set_option maxRecDepth 100000
set_option linter.unusedSimpArgs false
set_option linter.unusedVariables false
def Der (l : List UInt8) (n : Nat) (t : Nd) : Prop := ∃ (A : List Lt) (v : Vl), Toks l A ∧ D .list A n v ∧ t = treeN (v [])
theorem runI_of {l : List Lt} : ∀ {m m' : Mc} (i : Nat), runM m l = some m' → runI m i l = .inl m' := by
 induction l with
 | nil => intro m m' i h; rw [runM] at h; injection h with h; subst h; rfl
 | cons t r ih =>
  intro m m' i h
  rw [runM] at h
  rw [runI]
  cases hs : stepM m t with
  | none => rw [hs] at h; cases h
  | some m2 => rw [hs] at h; exact ih (i + 1) h
theorem Der.check {l : List UInt8} {n : Nat} {t : Nd} (h : Der l n t) : checkS l = .inl n := by
 obtain ⟨A, v, ⟨la, e, hs, he, hl⟩, hD, _⟩ := h
 have hD2 := hD.lk (la.map Lx.lt) (by rw [lk_lt]; exact hl)
 obtain ⟨m, hm, _, hn⟩ := hD2.run (e := e.lt) he
 unfold checkS
 rw [hs]
 simp only [List.map_append, List.map_cons, List.map_nil]
 rw [runI_of 0 hm]
 simp only [hn]
theorem der_mk {l : List UInt8} {A : List Lt} {n : Nat} {v : Vl} {t : Nd} (hT : Toks l A) (hD : D .list A n v) (ht : t = treeN (v [])) : Der l n t := ⟨A, v, hT, hD, ht⟩
theorem Der.toks {l : List UInt8} {n : Nat} {t : Nd} (h : Der l n t) : ∃ (la : List Lx) (A : List Lt) (e : Lt) (v : Vl), scanL l = (la, none) ∧ la.map Lx.lt = A ++ [e] ∧ e.kind = 0 ∧ D .list A n v ∧ t = treeN (v []) := by
 obtain ⟨A, v, ⟨la, e, hs, he, hl⟩, hD, ht⟩ := h
 exact ⟨la ++ [e], la.map Lx.lt, e.lt, v, hs, by simp, he, hD.lk _ (by rw [lk_lt]; exact hl), ht⟩
theorem der_of {l : List UInt8} {n : Nat} (h : checkS l = .inl n) : ∃ t, Der l n t := by
 unfold checkS at h
 rcases hs : scanL l with ⟨la, _ | p⟩
 ·rw [hs] at h
  simp only [] at h
  cases hr : runI mc0 0 (la.map Lx.lt) with
  | inr i => rw [hr] at h; cases h
  | inl m =>
   rw [hr] at h
   simp only [Sum.inl.injEq] at h
   obtain ⟨l0, e, hle, he⟩ := scanF_end hs
   have hr2 := hr
   rw [hle, List.map_append, List.map_cons, List.map_nil] at hr2
   have h14 := runI_last inv0 (e := e.lt) he hr2
   obtain ⟨A, e', v, hA, he', hD⟩ := run_D (runI_inv inv0 hr) h14
   rw [hle, List.map_append, List.map_cons, List.map_nil] at hA
   obtain ⟨h1, h2⟩ := List.append_inj' hA rfl
   refine ⟨treeN (v []), A, v, ⟨l0, e, by rw [hs, hle], he, ?_⟩, by rw [← h]; exact hD, rfl⟩
   rw [← lk_lt, h1]
 ·rw [hs] at h; cases h
def one1 (g : List UInt8 → Nd) : Vl := fun f => [(0, g f)]
theorem D.single {A : List Lt} {n : Nat} {g : List UInt8 → Nd} (h : D .unary A n (one1 g)) : D .list A n (one1 g) := .one (.clauseO (.orA (.andM (.maxU h))))
def tkOpen : Lt := ⟨8, [], 0, 0, 0⟩
def tkClose : Lt := ⟨9, [], 0, 0, 0⟩
theorem D.paren {A : List Lt} {n : Nat} {v : Vl} (h : D .list A n v) : D .piece (tkOpen :: (A ++ [tkClose])) (n + 1) (one1 fun f => treeN (v f)) :=
 .atomP (.bodyA (.groupB (.group rfl h rfl)))
theorem stop41 : stopB 41 := ⟨.inr (by decide), by decide⟩
theorem stop32 : stopB 32 := ⟨.inl (by decide), by decide⟩
theorem blank32 : cls 32 = 1 := by decide
theorem toks_close {q : List UInt8} {B : List Lt} (h : Toks q B) : Toks (41 :: q) (tkClose :: B) := .single (by decide) (by decide) h
theorem toks_open {q : List UInt8} {B : List Lt} (h : Toks q B) : Toks (40 :: q) (tkOpen :: B) := .single (by decide) (by decide) h
theorem toks_paren {p q : List UInt8} {A B : List Lt} (h : Toks p A) (h2 : Toks q B) : Toks (40 :: (p ++ 41 :: q)) (tkOpen :: (A ++ tkClose :: B)) :=
 toks_open (.app stop41 h (toks_close h2))
theorem Der.paren {q : List UInt8} {n : Nat} {t : Nd} (h : Der q n t) : Der (40 :: (q ++ [41])) (n + 1) t := by
 obtain ⟨A, v, hT, hD, rfl⟩ := h
 exact ⟨_, _, toks_paren hT .nil, (D.pieceU hD.paren).single, rfl⟩
theorem Der.blank {p q : List UInt8} {n m : Nat} {x y : Nd} (h : Der p n x) (h2 : Der q m y) : ∃ t, Der (p ++ 32 :: q) (max n m) t := by
 obtain ⟨A, v, hT, hD, rfl⟩ := h
 obtain ⟨B, u, hT2, hD2, rfl⟩ := h2
 exact ⟨_, _, _, .app stop32 hT (.blank blank32 hT2), hD.list2 hD2, rfl⟩
def tkMark (k : Int) : Lt := ⟨k, [], 0, 0, 0⟩
theorem toks_or : Toks [79, 82] [tkMark 5] := ⟨[⟨5, [], 0, 0, 2⟩], ⟨0, [], 0, 2, 2⟩, by rfl, rfl, rfl⟩
theorem toks_and : Toks [65, 78, 68] [tkMark 4] := ⟨[⟨4, [], 0, 0, 3⟩], ⟨0, [], 0, 3, 3⟩, by rfl, rfl, rfl⟩
theorem toks_bar : Toks [124] [tkMark 17] := ⟨[⟨17, [], 0, 0, 1⟩], ⟨0, [], 0, 1, 1⟩, by rfl, rfl, rfl⟩
theorem toks_joined {p q mk : List UInt8} {A B M : List Lt} (hp : Toks p A) (hq : Toks q B) (hm : Toks mk M) :
  Toks (40 :: (p ++ 41 :: 32 :: (mk ++ 32 :: 40 :: (q ++ [41])))) (tkOpen :: (A ++ tkClose :: (M ++ (tkOpen :: (B ++ [tkClose]))))) :=
 toks_paren hp (.blank blank32 (.app stop32 hm (.blank blank32 (toks_paren hq .nil))))
theorem joined_app {A B : List Lt} {m : Lt} : tkOpen :: (A ++ tkClose :: ([m] ++ (tkOpen :: (B ++ [tkClose])))) = tkOpen :: (A ++ [tkClose]) ++ m :: (tkOpen :: (B ++ [tkClose])) := by simp
theorem Der.or {p q : List UInt8} {n m : Nat} {x y : Nd} (h : Der p n x) (h2 : Der q m y) : Der (40 :: (p ++ 41 :: 32 :: ([79, 82] ++ 32 :: 40 :: (q ++ [41])))) (max (n + 1) (m + 1)) (ndKids 11 0 [x, y]) := by
 obtain ⟨A, v, hT, hD, rfl⟩ := h
 obtain ⟨B, u, hT2, hD2, rfl⟩ := h2
 have ht := toks_joined hT hT2 toks_or
 rw [joined_app] at ht
 refine der_mk ht (.one (.clauseO (.or (b := tkMark 5) (.orA (.andM (.maxU (.pieceU hD.paren)))) rfl (.andM (.maxU (.pieceU hD2.paren)))))) rfl
theorem Der.and {p q : List UInt8} {n m : Nat} {x y : Nd} (h : Der p n x) (h2 : Der q m y) : Der (40 :: (p ++ 41 :: 32 :: ([65, 78, 68] ++ 32 :: 40 :: (q ++ [41])))) (max (n + 1) (m + 1)) (ndKids 10 0 [x, y]) := by
 obtain ⟨A, v, hT, hD, rfl⟩ := h
 obtain ⟨B, u, hT2, hD2, rfl⟩ := h2
 have ht := toks_joined hT hT2 toks_and
 rw [joined_app] at ht
 refine der_mk ht (.one (.clauseO (.orA (.and (b := tkMark 4) (.andM (.maxU (.pieceU hD.paren))) rfl (.maxU (.pieceU hD2.paren)))))) rfl
theorem Der.bar {p q : List UInt8} {n m : Nat} {x y : Nd} (h : Der p n x) (h2 : Der q m y) : Der (40 :: (p ++ 41 :: 32 :: ([124] ++ 32 :: 40 :: (q ++ [41])))) (max (n + 1) (m + 1)) (ndKids 12 0 [x, y]) := by
 obtain ⟨A, v, hT, hD, rfl⟩ := h
 obtain ⟨B, u, hT2, hD2, rfl⟩ := h2
 have ht := toks_joined hT hT2 toks_bar
 rw [joined_app] at ht
 refine der_mk ht (.one (.clauseO (.orA (.andM (.bar (b := tkMark 17) (.maxU (.pieceU hD.paren)) rfl (.pieceU hD2.paren)))))) rfl
def tkPlus : Lt := ⟨15, [], 0, 0, 0⟩
def tkMinus : Lt := ⟨16, [], 0, 0, 0⟩
theorem Der.signs {p q : List UInt8} {n m : Nat} {x y : Nd} (h : Der p n x) (h2 : Der q m y) : Der (43 :: 40 :: (p ++ 41 :: 32 :: 45 :: 40 :: (q ++ [41]))) (max (n + 1) (m + 1)) (ndList 0 [(1, x), (2, y)]) := by
 obtain ⟨A, v, hT, hD, rfl⟩ := h
 obtain ⟨B, u, hT2, hD2, rfl⟩ := h2
 have h1 : Toks (45 :: 40 :: (q ++ 41 :: [])) (tkMinus :: _) := .single (by decide) (by decide) (toks_paren hT2 .nil)
 have h2 : Toks (43 :: 40 :: (p ++ 41 :: 32 :: 45 :: 40 :: (q ++ 41 :: []))) (tkPlus :: _) := .single (by decide) (by decide) (toks_paren hT (.blank blank32 h1))
 have e : tkPlus :: tkOpen :: (A ++ tkClose :: tkMinus :: tkOpen :: (B ++ [tkClose])) = tkPlus :: (tkOpen :: (A ++ [tkClose])) ++ tkMinus :: (tkOpen :: (B ++ [tkClose])) := by simp
 rw [e] at h2
 exact der_mk h2 (.more (.one (.sign (s := tkPlus) (.inl rfl) (.pieceU hD.paren))) (.sign (s := tkMinus) (.inr rfl) (.pieceU hD2.paren))) rfl
end Go.Proofs.YtcomdkejpaoneaaDoor
end
section
namespace Go.Proofs.YtcomdkejpaoneaaDoor
open Go.RowKit
set_option maxRecDepth 100000
set_option maxHeartbeats 4000000
set_option linter.unusedSimpArgs false
set_option linter.unusedVariables false
def SufRel (ts : List Lt) (w : World) (n : Nat) (iv cv : Value) (wr : World) : Prop :=
 wr = w ∧ ∃ k c : Nat, k ≤ ts.length ∧ c ≤ k ∧ iv = .int .i64 (k : Int) ∧ cv = .int .i64 (c : Int) ∧ c + cntS (ts.drop k) = n
theorem cntS_end (ts : List Lt) (k : Nat) (h : ¬ k < ts.length) : cntS (ts.drop k) = 0 := by
 rw [List.drop_eq_nil_of_le (by omega)]; rfl
theorem rsuf_loop {ts : List Lt} (k : Nat) (h : k < ts.length) : cntS (ts.drop k) = if ts[k].kind = 18 ∨ ts[k].kind = 19 then cntS (ts.drop (k + 1)) + 1 else 0 := by
 rw [List.drop_eq_getElem_cons h]
 rw [cntS]
theorem rsuf_any (x : Value) (ts : List Lt) (i : Nat) (w : World) (hx : RdL ltS w w.heap.size x ts) (hi : i ≤ ts.length) (hl : ts.length ≤ 1000000000) :
  Calls Tryd.prog 53 #[x, .int .i64 (i : Int)] w fun e w' => e = .returned (.int .i64 (sfxS (ts.drop i) : Nat)) ∧ w' = w := by
 obtain ⟨A, cap, rfl, h1, h2⟩ := hx.open_
 have HX := LH hx
 clear hx
 have hwk : IntKind.i64.wrap ((i : Int) + 1) = (i : Int) + 1 := IntWalk.i64_in _ (by omega)
 obtain ⟨n, hn⟩ : ∃ n, n = sfxS (ts.drop i) := ⟨_, rfl⟩
 rw [← hn]
 have hways : (¬ i < ts.length ∧ n = 0) ∨ (∃ h : i < ts.length, (ts[i].kind = 21 ∧ n = cntS (ts.drop (i + 1))) ∨ (ts[i].kind ≠ 21 ∧ ts[i].kind = 20 ∧ n = cntS (ts.drop (i + 1))) ∨ (ts[i].kind ≠ 21 ∧ ts[i].kind ≠ 20 ∧ n = cntS (ts.drop i))) := by
  by_cases h : i < ts.length
  ·right
   refine ⟨h, ?_⟩
   rw [List.drop_eq_getElem_cons h] at hn ⊢
   rw [sfxS] at hn
   by_cases h21 : ts[i].kind = 21
   ·exact .inl ⟨h21, by rw [hn, if_pos (.inl h21)]⟩
   ·by_cases h20 : ts[i].kind = 20
    ·exact .inr (.inl ⟨h21, h20, by rw [hn, if_pos (.inr h20)]⟩)
    ·exact .inr (.inr ⟨h21, h20, by rw [hn, if_neg (by omega)]⟩)
  ·left
   exact ⟨h, by rw [hn, List.drop_eq_nil_of_le (by omega)]; rfl⟩
 clear hn
 have HW := LH hways
 clear hways
 have H0 := LH (show ∃ k0 : Nat, k0 ≤ ts.length ∧ cntS (ts.drop k0) = n from by
  rcases HW.out with ⟨h, e⟩ | ⟨h, ⟨_, e⟩ | ⟨_, _, e⟩ | ⟨_, _, e⟩⟩
  ·exact ⟨i, hi, by rw [cntS_end _ _ h, e]⟩
  ·exact ⟨i + 1, h, e.symm⟩
  ·exact ⟨i + 1, h, e.symm⟩
  ·exact ⟨i, hi, e.symm⟩)
 go_enter Tryd.func53, Tryd.ntmps53
 rcases HW.out with ⟨h, e⟩ | ⟨h, ⟨e1, e⟩ | ⟨e1, e2, e⟩ | ⟨e1, e2, e⟩⟩
 all_goals clear HW H0
 case' inl =>
  have HS := LH (show cntS (ts.drop i) = n from by rw [cntS_end _ _ h, e])
 case' inr.inl =>
  obtain ⟨a, rfl, hab, q0, -⟩ := at_lt HX.out h
  have HS := LH e.symm
  rw [e1] at q0
 case' inr.inr.inl =>
  obtain ⟨a, rfl, hab, q0, -⟩ := at_lt HX.out h
  have HS := LH e.symm
  rw [e2] at q0
 case' inr.inr.inr =>
  obtain ⟨a, rfl, hab, q0, -⟩ := at_lt HX.out h
  have HS := LH e.symm
  have f1 : (ts[i].kind == 21) = false := by simpa using e1
  have f2 : (ts[i].kind == 20) = false := by simpa using e2
  generalize ts[i].kind = kd at *
  clear e1 e2
 all_goals
  clear e
  go_wp2
  go_loopw [1, 5] (fun iv cv wr => SufRel ts w n iv cv wr) (fun iv _ _ => ts.length - (intOf iv).toNat)
  case atStart =>
   first
    | exact ⟨rfl, i, 0, hi, Nat.zero_le _, rfl, rfl, by rw [HS.out]; omega⟩
    | exact ⟨rfl, i + 1, 0, h, Nat.zero_le _, by go_num, rfl, by rw [HS.out]; omega⟩
  case round =>
   obtain ⟨rfl, k, c, hk, hck, rfl, rfl, hc⟩ := hrel
   have hwk2 : IntKind.i64.wrap ((k : Int) + 1) = (k : Int) + 1 := IntWalk.i64_in _ (by omega)
   have hwc : IntKind.i64.wrap ((c : Int) + 1) = (c : Int) + 1 := IntWalk.i64_in _ (by omega)
   by_cases hlt : k < ts.length
   ·have hst := rsuf_loop k hlt
    obtain ⟨a2, ha2, hab2, p0, -⟩ := at_lt HX.out hlt
    cases ha2
    generalize ts[k].kind = kk at *
    by_cases h18 : kk = 18
    ·have g1 : (kk == 18) = true := by simpa using h18
     rw [if_pos (.inl h18)] at hst
     clear h18
     go_wp2
     go_roundw
     case rel => exact ⟨rfl, k + 1, c + 1, hlt, by omega, by go_num, by go_num, by omega⟩
     case measure => simp [intOf]; omega
    ·have g1 : (kk == 18) = false := by simpa using h18
     by_cases h19 : kk = 19
     ·have g2 : (kk == 19) = true := by simpa using h19
      rw [if_pos (.inr h19)] at hst
      clear h18 h19
      go_wp2
      go_roundw
      case rel => exact ⟨rfl, k + 1, c + 1, hlt, by omega, by go_num, by go_num, by omega⟩
      case measure => simp [intOf]; omega
     ·have g2 : (kk == 19) = false := by simpa using h19
      rw [if_neg (by omega)] at hst
      have hcn : c = n := by omega
      subst hcn
      clear h18 h19
      go_wp2
      go_ret
      exact ⟨rfl, rfl⟩
   ·have hcn : c = n := by rw [cntS_end _ _ hlt] at hc; omega
    subst hcn
    go_wp2
    go_ret
    exact ⟨rfl, rfl⟩
end Go.Proofs.YtcomdkejpaoneaaDoor
end
