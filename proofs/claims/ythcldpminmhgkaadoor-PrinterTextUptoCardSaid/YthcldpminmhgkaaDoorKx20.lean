/- Merged for a claim by shake.py: Ul Mq -/
import Derived.Test.YthcldpminmhgkaaDoorKxA
import Derived.Test.YthcldpminmhgkaaDoorKx12
import Derived.Test.YthcldpminmhgkaaDoorKx19
import Derived.Test.YthcldpminmhgkaaDoorKx2
import Derived.Test.YthcldpminmhgkaaDoorKx5
set_option maxRecDepth 100000
set_option maxHeartbeats 8000000
set_option linter.unusedSimpArgs false
set_option linter.unusedVariables false
section
namespace Go.Proofs.YthcldpminmhgkaaDoor
open Go.RowKit
structure KL (n1 : Nat) (w : World) (kv : Value) (nl : List NV) (tl : List Nd) (ov : Value) (ol : List Int) : Prop where
 own : OwnL ndS w n1 kv nl
 occ : OwnL folS w n1 ov ol
 trees : NdRs w (fun b => n1 ≤ b ∧ b < w.heap.size ∧ kv.ownBlock ≠ some b ∧ ov.ownBlock ≠ some b) nl tl
 hB : n1 ≤ w.heap.size
theorem KL.nil {n1 : Nat} {w : World} (h : n1 ≤ w.heap.size) : KL n1 w (.slice none 0 0) [] [] (.slice none 0 0) [] := ⟨OwnL.nil _ _ _, OwnL.nil _ _ _, NdRs.nil _ _, h⟩
section
variable {n1 pb c : Nat} {w w' : World} {kv ov v' : Value} {nl : List NV} {tl : List Nd} {ol : List Int} {x : NV} {t : Nd}
theorem KL.keep (h : KL n1 w kv nl tl ov ol) (hb : PB pb w w') (hp : pb < n1) : KL n1 w' kv nl tl ov ol :=
 ⟨h.own.pb hb hp, h.occ.pb hb hp, (h.trees.pb hb (fun b hb => by omega)).mono (fun b hb2 => ⟨hb2.1, Nat.lt_of_lt_of_le hb2.2.1 hb.size, hb2.2.2⟩), Nat.le_trans h.hB hb.size⟩
theorem KL.app1 (h : KL n1 w kv nl tl ov ol) (hx : NdR w (rng c w.heap.size) x t) (hc : n1 ≤ c) (hg : ∀ g, kv.ownBlock = some g → g < c) (ho : ∀ g, ov.ownBlock = some g → g < c) (h1 : OwnL ndS w' n1 v' (nl ++ [x])) (h2 : Below n1 w w') (h3 : KeptBut w w' kv) (h4 : ∀ g, v'.ownBlock = some g → kv.ownBlock = some g ∨ w.heap.size ≤ g) : KL n1 w' v' (nl ++ [x]) (tl ++ [t]) ov ol := by
 have hk : ∀ p : Addr, kv.ownBlock ≠ some p.block → p.block < w.heap.size → w'.cell? p = w.cell? p := fun p hp hlt => World.cell?_of_block (h3 p.block hlt hp)
 refine ⟨h1, h.occ.keptL h.own (by decide) h3, NdRs.snoc ?_ ?_, Nat.le_trans h.hB h2.size⟩
 ·refine (h.trees.keep fun p hp hlt => hk p hp.2.2.1 hlt).mono fun b hb => ⟨hb.1, Nat.lt_of_lt_of_le hb.2.1 h2.size, fun e => ?_, hb.2.2.2⟩
  rcases h4 b e with h5 | h5
  ·exact hb.2.2.1 h5
  ·have := hb.2.1; omega
 ·refine (hx.keep fun p hp hlt => hk p (fun e => by have := hg _ e; have := hp.1; omega) hlt).mono fun b hb => ⟨Nat.le_trans hc hb.1, Nat.lt_of_lt_of_le hb.2 h2.size, fun e => ?_, fun e => ?_⟩
  ·rcases h4 b e with h5 | h5
   ·have := hg _ h5; have := hb.1; omega
   ·have := hb.2; omega
  ·have := ho _ e; have := hb.1; omega
theorem KL.app2 {o : Int} (h : KL n1 w kv nl tl ov ol) (h1 : OwnL folS w' n1 v' (ol ++ [o])) (h2 : Below n1 w w') (h3 : KeptBut w w' ov) (h4 : ∀ g, v'.ownBlock = some g → ov.ownBlock = some g ∨ w.heap.size ≤ g) : KL n1 w' kv nl tl v' (ol ++ [o]) := by
 have hk : ∀ p : Addr, ov.ownBlock ≠ some p.block → p.block < w.heap.size → w'.cell? p = w.cell? p := fun p hp hlt => World.cell?_of_block (h3 p.block hlt hp)
 refine ⟨h.own.keptL h.occ (by decide) h3, h1, ?_, Nat.le_trans h.hB h2.size⟩
 refine (h.trees.keep fun p hp hlt => hk p hp.2.2.2 hlt).mono fun b hb => ⟨hb.1, Nat.lt_of_lt_of_le hb.2.1 h2.size, hb.2.2.1, fun e => ?_⟩
 rcases h4 b e with h5 | h5
 ·exact hb.2.2.2 h5
 ·have := hb.2.1; omega
end
def clL (l : List Cl) : List Lt := l.flatMap (·.A)
def clV (l : List Cl) (f : List UInt8) : List (Int × Nd) := l.flatMap fun x => x.v f
theorem clL_succ {l : List Cl} {i : Nat} {x : Cl} (h : l[i]? = some x) : (clL (l.take (i + 1))).length = (clL (l.take i)).length + x.A.length := by
 obtain ⟨hi, rfl⟩ := List.getElem?_eq_some_iff.1 h
 rw [List.take_succ_eq_append_getElem hi]
 unfold clL
 rw [List.flatMap_append]
 simp
theorem clV_succ {l : List Cl} {i : Nat} {x : Cl} (h : l[i]? = some x) (f : List UInt8) : clV (l.take (i + 1)) f = clV (l.take i) f ++ x.v f := by
 obtain ⟨hi, rfl⟩ := List.getElem?_eq_some_iff.1 h
 rw [List.take_succ_eq_append_getElem hi]
 unfold clV
 rw [List.flatMap_append]
 simp
theorem clL_drop {l : List Cl} {i : Nat} {x : Cl} {ts post : List Lt} {k : Nat} (hd : ts.drop k = clL l ++ post) (h : l[i]? = some x) : ts.drop (k + (clL (l.take i)).length) = x.A ++ (clL (l.drop (i + 1)) ++ post) := by
 obtain ⟨hi, rfl⟩ := List.getElem?_eq_some_iff.1 h
 refine dropk (X := clL (l.take i)) ?_
 rw [hd]
 unfold clL
 have e : l = l.take i ++ (l[i] :: l.drop (i + 1)) := by rw [← List.drop_eq_getElem_cons hi, List.take_append_drop]
 conv => lhs; rw [e]
 rw [List.flatMap_append, List.flatMap_cons]
 simp [List.append_assoc]
theorem clL_le {l : List Cl} {i : Nat} {x : Cl} (h : l[i]? = some x) : x.A.length ≤ (clL l).length := by
 obtain ⟨hi, rfl⟩ := List.getElem?_eq_some_iff.1 h
 unfold clL
 have e : l = l.take i ++ (l[i] :: l.drop (i + 1)) := by rw [← List.drop_eq_getElem_cons hi, List.take_append_drop]
 have e2 : l.flatMap (·.A) = (l.take i).flatMap (·.A) ++ (l[i].A ++ (l.drop (i + 1)).flatMap (·.A)) := by
  conv => lhs; rw [e]
  rw [List.flatMap_append, List.flatMap_cons]
 rw [e2]
 simp only [List.length_append]
 omega
theorem clL_n {l : List Cl} (h : ∀ x ∈ l, x.A ≠ []) : l.length ≤ (clL l).length := by
 unfold clL
 induction l with
 | nil => simp
 | cons x l ih =>
  rw [List.flatMap_cons, List.length_append, List.length_cons]
  have h1 := List.length_pos_iff.2 (h x List.mem_cons_self)
  have := ih (fun y hy => h y (List.mem_cons_of_mem _ hy))
  omega
def LpRel (w : World) (pb : Nat) (PA : Option Addr) (cap : Nat) (ts : List Lt) (k0 : Nat) (l : List Cl) (f : List UInt8) (gh : Nat) (kv ov : Value) (W : World) : Prop :=
 ∃ (i : Nat) (nl : List NV), gh = l.length - i ∧ i ≤ l.length ∧ (clV (l.take i) f).length ≤ i ∧ PsAt W pb PA cap ts (k0 + (clL (l.take i)).length) ∧ KL w.heap.size W kv nl ((clV (l.take i) f).map (·.2)) ov ((clV (l.take i) f).map (·.1)) ∧ PB pb w W
theorem plist_of {pb : Nat} {PA : Option Addr} {cap : Nat} {ts : List Lt} {M : Nat} (hok : TkOk ts) (hU : UnOk pb PA cap ts M) (hR : RwOk pb PA cap ts M 0) : LsOk pb PA cap ts M := by
 intro A n v hD hlen w k f post hd hp h
 obtain ⟨l, hl0, hA, rfl, hcl⟩ := hD.listC
 have hA2 : A = clL l := hA
 subst hA2
 clear hA
 have HLT := LH h.lt
 have hl : ts.length ≤ 920000000000 := by have := hok.1; omega
 have HCL := LH hcl; have HDD := LH hd; have HPP := LH hp; have HLE := LH hlen
 have HNE := LH (show ∀ x ∈ l, x.A ≠ [] from fun x hx => by
  obtain ⟨m, hm⟩ := hcl x hx
  obtain ⟨⟨t, r, e, _⟩, _⟩ := hm.okk
  rw [e]; simp)
 have HLL := LH (show l.length ≤ 920000000000 from by
  have h1 := clL_n HNE.out
  have h2 := congrArg List.length hd
  rw [List.length_drop, List.length_append] at h2
  omega)
 have HNX := LH (show ∀ i, Hd (clL (l.drop i) ++ post) [14, 20, 21, 18, 19, 17, 4, 5] from by
  intro i
  cases hri : l.drop i with
  | nil =>
   obtain ⟨p, r, e, hpk⟩ := hp
   exact ⟨p, r, e, by rcases hpk with h | h <;> rw [h] <;> decide⟩
  | cons y s =>
   obtain ⟨m, hm⟩ := hcl y (List.mem_of_mem_drop (by rw [hri]; exact List.mem_cons_self))
   obtain ⟨⟨t, r, e, hb⟩, _⟩ := hm.okk
   refine ⟨t, r ++ (clL s ++ post), by unfold clL; rw [List.flatMap_cons, e]; simp [List.append_assoc], ?_⟩
   unfold begT at hb
   simp only [List.mem_cons, List.not_mem_nil, or_false]
   omega)
 have HR0 := LH (show LpRel w pb PA cap ts k l f l.length (.slice none 0 0) (.slice none 0 0) w from ⟨0, [], rfl, Nat.zero_le _, Nat.le_refl _, h, KL.nil (Nat.le_refl _), PB.refl _ _⟩)
 clear hD hcl hd hp hlen h hl0
 go_enter Tryd.func45, Tryd.ntmps45
 go_wp2
 go_loopg [4, 5] (l.length) (fun gh kv ov wr => LpRel w pb PA cap ts k l f gh kv ov wr)
 case atStart => exact HR0.out
 case round =>
  clear HR0
  obtain ⟨wo, rfl⟩ : ∃ wo : World, wo = wr := ⟨_, rfl⟩
  obtain ⟨i, nl, hgh, hi, hvl, hps, hkl, hpb⟩ := hrel
  have HGH := LH hgh; have HIR := LH hi; have HVL := LH hvl; have HPS := LH hps; have HKL := LH hkl; have HPB := LH hpb
  have HNL := LH (show nl.length ≤ i from by rw [hkl.trees.1, List.length_map]; exact hvl)
  obtain ⟨KA_, KC_, rfl, -, -⟩ := hkl.own.form
  obtain ⟨OA_, OC_, rfl, -, -⟩ := hkl.occ.form
  have hol : ((clV (l.take i) f).map (·.1)).length = nl.length := by rw [List.length_map, hkl.trees.1, List.length_map]
  rw [hol] at HKL ⊢
  clear hgh hi hvl hps hkl hpb
  have HOL := LH hol
  clear hol
  by_cases hlt : i < l.length
  ·obtain ⟨y, hy⟩ : ∃ y, l[i]? = some y := ⟨_, List.getElem?_eq_getElem hlt⟩
   have hyr := HCL.out y (List.mem_of_getElem? hy)
   have HDK := LH (clL_drop HDD.out hy)
   have HYL := LH (show y.A.length < M from Nat.lt_of_le_of_lt (clL_le hy) HLE.out)
   have HPOS := LH (clL_succ hy)
   have HVS := LH (clV_succ hy f)
   have HNEW := LH (show l.length - (i + 1) < l.length - i from by omega)
   obtain ⟨ny, hny⟩ := hyr
   clear hy
   obtain ⟨ya, yv⟩ := y
   simp only [] at hny HDK HYL HPOS HVS
   have hcase : (∃ n v, D .ors ya n v ∧ yv = fun f => wrapN 11 (v f)) ∨ (∃ s A2 n v, ya = s :: A2 ∧ D .unary A2 n v ∧ s.kind = 15 ∧ yv = fun f => (v f).map fun x => ((1 : Int), x.2)) ∨ (∃ s A2 n v, ya = s :: A2 ∧ D .unary A2 n v ∧ s.kind = 16 ∧ yv = fun f => (v f).map fun x => ((2 : Int), x.2)) := by
    cases hny with
    | clauseO h => exact .inl ⟨_, _, h, rfl⟩
    | sign hs hu =>
     rcases hs with hs | hs
     ·exact .inr (.inl ⟨_, _, _, _, rfl, hu, hs, by funext f; rw [if_pos hs]⟩)
     ·exact .inr (.inr ⟨_, _, _, _, rfl, hu, hs, by funext f; rw [if_neg (by omega)]⟩)
   clear hny
   rcases hcase with ⟨m, u, hD, rfl⟩ | ⟨s, A2, m, u, rfl, hD, hs, rfl⟩ | ⟨s, A2, m, u, rfl, hD, hs, rfl⟩
   ·skip
    obtain ⟨⟨t, r, hA, hbeg, h15, h16⟩, _⟩ := hD.okk
    have HT0 := LH (show ts[k + (clL (l.take i)).length]? = some t from by have := tk_at HDK.out 0 (t := t) (by rw [hA]; rfl); simpa using this)
    have HT15 := LH (show decide (t.kind = 15) = false from decide_eq_false h15)
    have HT16 := LH (show decide (t.kind = 16) = false from decide_eq_false h16)
    have e0 : ((t.kind : Int) != 0) = true := by unfold begT at hbeg; simp; omega
    have e9 : ((t.kind : Int) != 9) = true := by unfold begT at hbeg; simp; omega
    have HDD2 := LH hD
    have HHX := LH (HNX.out (i + 1))
    clear hA hbeg h15 h16 hD
    go_wp2_with fail
    refine (pkind_at HPS.out HT0.out hl).mono ?_
    rintro e wa ⟨rfl, hb6, hs6⟩
    have HPa := LH (HPS.out.belowW hb6); have HBa := LH (HPB.out.trans (PB.of hb6 (Nat.le_of_lt HPS.out.lt))); have HKa := LH (HKL.out.keep (PB.of hb6 (Nat.le_of_lt HPS.out.lt)) HLT.out)
    have HSa := LH hb6.size
    clear hb6 hs6
    go_wp2_with fail
    refine (pkind_at HPa.out HT0.out hl).mono ?_
    rintro e wb ⟨rfl, hb6, hs6⟩
    have HPb := LH (HPa.out.belowW hb6); have HBb := LH (HBa.out.trans (PB.of hb6 (Nat.le_of_lt HPa.out.lt))); have HKb := LH (HKa.out.keep (PB.of hb6 (Nat.le_of_lt HPa.out.lt)) HLT.out)
    have HSb := LH (Nat.le_trans HSa.out hb6.size)
    clear hb6 hs6
    go_wp2_with fail
    refine (ptakes_at 15 HPb.out HT0.out hl).mono ?_
    rintro e wc ⟨rfl, hb6, hp6⟩
    rw [HT15.out] at hp6 ⊢
    simp only [Bool.false_eq_true, if_false, if_true] at hp6
    have HPc := LH hp6; have HBc := LH (HBb.out.trans hb6); have HKc := LH (HKb.out.keep hb6 HLT.out)
    have HSc := LH (Nat.le_trans HSb.out hb6.size)
    clear hb6 hp6
    go_wp2_with fail
    refine (ptakes_at 16 HPc.out HT0.out hl).mono ?_
    rintro e wd ⟨rfl, hb6, hp6⟩
    rw [HT16.out] at hp6 ⊢
    simp only [Bool.false_eq_true, if_false, if_true] at hp6
    have HPd := LH hp6; have HBd := LH (HBc.out.trans hb6); have HKd := LH (HKc.out.keep hb6 HLT.out)
    have HSd := LH (Nat.le_trans HSc.out hb6.size)
    clear hb6 hp6
    go_wp2_with fail
    refine (hR ya m u HDD2.out HYL.out wd _ f _ HDK.out HHX.out HPd.out).mono ?_
    rintro e w7 ⟨hb7, hp7, x, t7, rfl, hv, hx⟩
    obtain ⟨kd, fl, tx, xn, ⟨l1, l2, l3⟩, ⟨r1, r2, r3⟩, ⟨oa, on, oc⟩, ⟨ka, kn, kc⟩⟩ := x
    unfold NV.val
    simp only []
    have HV7 := LH (show wrapN 11 (u f) = [((0 : Int), t7)] from by exact hv)
    have HP7 := LH hp7; have HB7 := LH (HBd.out.trans hb7); have HK7 := LH (HKd.out.keep hb7 HLT.out); have HX7 := LH hx
    have HE7 := LH (show w.heap.size ≤ wd.heap.size from HKd.out.hB)
    have HGK := LH (fun (g : Nat) (hg : (Value.slice KA_ nl.length KC_).ownBlock = some g) => Nat.lt_of_lt_of_le (World.ownsRow.lt HKL.out.own g hg).2 HSd.out)
    have HGO := LH (fun (g : Nat) (hg : (Value.slice OA_ nl.length OC_).ownBlock = some g) => Nat.lt_of_lt_of_le (World.ownsRow.lt HKL.out.occ g hg).2 HSd.out)
    clear hb7 hp7 hx hv
    go_wp2_with (at_builtin; refine OwnL.appendL ndOk HK7.out.own ⟨kd, fl, tx, xn, ⟨l1, l2, l3⟩, ⟨r1, r2, r3⟩, ⟨oa, on, oc⟩, ⟨ka, kn, kc⟩⟩ w7.heap.size rfl _ _ rfl rfl rfl #[.int .i64 kd, .string (str fl), .string (str tx), .int .i64 xn, .bool l1, .bool l2, .string (str l3), .bool r1, .bool r2, .string (str r3), .slice oa on oc, .slice ka kn kc] rfl rfl HK7.out.hB (by have := HNL.out; have := HLL.out; have := HIR.out; omega) ?_)
    intro v8 w8 ho8 hb8 hk8 hg8
    have HK8 := LH (HK7.out.app1 HX7.out HE7.out HGK.out HGO.out ho8 hb8 hk8 hg8)
    have hgp := fun (g : Nat) (hlt : g < w.heap.size) => (show (Value.slice KA_ nl.length KC_).ownBlock ≠ some g from fun e => by have := (World.ownsRow.lt HK7.out.own g e).1; omega)
    have HP8 := LH (HP7.out.keptN (hb8.mono (Nat.le_of_lt HLT.out)) hk8 (hgp pb HLT.out))
    have HB8 := LH (HB7.out.low hb8 (Nat.le_refl _) (Nat.le_of_lt HLT.out))
    obtain ⟨A8, c8, rfl, -, -⟩ := ho8.form
    have HO8L := LH (show ((clV (l.take i) f).map (·.1)).length + 1 ≤ 970000000000 from by rw [HOL.out]; have := HNL.out; have := HLL.out; have := HIR.out; omega)
    clear ho8 hb8 hk8 hg8 hgp
    go_wp2_with (at_builtin; refine OwnL.appendL folOk HK8.out.occ (0 : Int) w8.heap.size rfl _ _ rfl rfl rfl #[.int .i64 0] rfl rfl HK8.out.hB HO8L.out ?_)
    intro v9 w9 ho9 hb9 hk9 hg9
    have HK9 := LH (HK8.out.app2 ho9 hb9 hk9 hg9)
    have hgp := fun (g : Nat) (hlt : g < w.heap.size) => (show (Value.slice OA_ nl.length OC_).ownBlock ≠ some g from fun e => by have := (World.ownsRow.lt HK8.out.occ g e).1; omega)
    have HP9 := LH (HP8.out.keptN (hb9.mono (Nat.le_of_lt HLT.out)) hk9 (hgp pb HLT.out))
    have HB9 := LH (HB8.out.low hb9 (Nat.le_refl _) (Nat.le_of_lt HLT.out))
    clear ho9 hb9 hk9 hg9 hgp
    have HVN := LH (show clV (l.take (i + 1)) f = clV (l.take i) f ++ [((0 : Int), t7)] from HVS.out.trans (congrArg (clV (l.take i) f ++ ·) HV7.out))
    go_wp2
    go_roundg (l.length - (i + 1))
    case measure => rw [HGH.out]; exact HNEW.out
    case rel =>
     refine ⟨i + 1, nl ++ [⟨kd, fl, tx, xn, ⟨l1, l2, l3⟩, ⟨r1, r2, r3⟩, ⟨oa, on, oc⟩, ⟨ka, kn, kc⟩⟩], rfl, hlt, ?_, ?_, ?_, HB9.out⟩
     ·rw [HVN.out, List.length_append, List.length_singleton]; have := HVL.out; omega
     ·rw [HPOS.out]
      have h := HP9.out
      rw [← Nat.add_assoc]; exact h
     ·have h := HK9.out
      rw [List.length_append, List.length_singleton] at h
      rw [HVN.out, List.map_append, List.map_append]; exact h
   ·skip
    have HT0 := LH (show ts[k + (clL (l.take i)).length]? = some s from by have := tk_at HDK.out 0 (t := s) rfl; simpa using this)
    have HT15 := LH (show decide (s.kind = 15) = true from by rw [hs]; decide)
    have HT16 := LH (show decide (s.kind = 16) = false from by rw [hs]; decide)
    have e0 : ((s.kind : Int) != 0) = true := by rw [hs]; rfl
    have e9 : ((s.kind : Int) != 9) = true := by rw [hs]; rfl
    have HDD2 := LH hD
    have HHX := LH ((HNX.out (i + 1)).less (b := [14, 20, 21, 18, 19]) (by decide))
    have HDN := LH (show ts.drop (k + (clL (l.take i)).length + 1) = A2 ++ (clL (l.drop (i + 1)) ++ post) from dropk (X := [s]) HDK.out)
    have HYL2 := LH (show A2.length < M from by have h := HYL.out; rw [List.length_cons] at h; omega)
    clear hs hD
    go_wp2_with fail
    refine (pkind_at HPS.out HT0.out hl).mono ?_
    rintro e wa ⟨rfl, hb6, hs6⟩
    have HPa := LH (HPS.out.belowW hb6); have HBa := LH (HPB.out.trans (PB.of hb6 (Nat.le_of_lt HPS.out.lt))); have HKa := LH (HKL.out.keep (PB.of hb6 (Nat.le_of_lt HPS.out.lt)) HLT.out)
    have HSa := LH hb6.size
    clear hb6 hs6
    go_wp2_with fail
    refine (pkind_at HPa.out HT0.out hl).mono ?_
    rintro e wb ⟨rfl, hb6, hs6⟩
    have HPb := LH (HPa.out.belowW hb6); have HBb := LH (HBa.out.trans (PB.of hb6 (Nat.le_of_lt HPa.out.lt))); have HKb := LH (HKa.out.keep (PB.of hb6 (Nat.le_of_lt HPa.out.lt)) HLT.out)
    have HSb := LH (Nat.le_trans HSa.out hb6.size)
    clear hb6 hs6
    go_wp2_with fail
    refine (ptakes_at 15 HPb.out HT0.out hl).mono ?_
    rintro e wc ⟨rfl, hb6, hp6⟩
    rw [HT15.out] at hp6 ⊢
    simp only [Bool.false_eq_true, if_false, if_true] at hp6
    have HPc := LH hp6; have HBc := LH (HBb.out.trans hb6); have HKc := LH (HKb.out.keep hb6 HLT.out)
    have HSc := LH (Nat.le_trans HSb.out hb6.size)
    clear hb6 hp6
    go_wp2_with fail
    refine (hU A2 m u HDD2.out HYL2.out wc _ f _ HDN.out HHX.out HPc.out).mono ?_
    rintro e w7 ⟨hb7, hp7, x, t7, rfl, hv, hx⟩
    obtain ⟨kd, fl, tx, xn, ⟨l1, l2, l3⟩, ⟨r1, r2, r3⟩, ⟨oa, on, oc⟩, ⟨ka, kn, kc⟩⟩ := x
    unfold NV.val
    simp only []
    have HV7 := LH (show ((u f).map fun x => ((1 : Int), x.2)) = [((1 : Int), t7)] from by rw [hv]; rfl)
    have HP7 := LH hp7; have HB7 := LH (HBc.out.trans hb7); have HK7 := LH (HKc.out.keep hb7 HLT.out); have HX7 := LH hx
    have HE7 := LH (show w.heap.size ≤ wc.heap.size from HKc.out.hB)
    have HGK := LH (fun (g : Nat) (hg : (Value.slice KA_ nl.length KC_).ownBlock = some g) => Nat.lt_of_lt_of_le (World.ownsRow.lt HKL.out.own g hg).2 HSc.out)
    have HGO := LH (fun (g : Nat) (hg : (Value.slice OA_ nl.length OC_).ownBlock = some g) => Nat.lt_of_lt_of_le (World.ownsRow.lt HKL.out.occ g hg).2 HSc.out)
    clear hb7 hp7 hx hv
    go_wp2_with (at_builtin; refine OwnL.appendL ndOk HK7.out.own ⟨kd, fl, tx, xn, ⟨l1, l2, l3⟩, ⟨r1, r2, r3⟩, ⟨oa, on, oc⟩, ⟨ka, kn, kc⟩⟩ w7.heap.size rfl _ _ rfl rfl rfl #[.int .i64 kd, .string (str fl), .string (str tx), .int .i64 xn, .bool l1, .bool l2, .string (str l3), .bool r1, .bool r2, .string (str r3), .slice oa on oc, .slice ka kn kc] rfl rfl HK7.out.hB (by have := HNL.out; have := HLL.out; have := HIR.out; omega) ?_)
    intro v8 w8 ho8 hb8 hk8 hg8
    have HK8 := LH (HK7.out.app1 HX7.out HE7.out HGK.out HGO.out ho8 hb8 hk8 hg8)
    have hgp := fun (g : Nat) (hlt : g < w.heap.size) => (show (Value.slice KA_ nl.length KC_).ownBlock ≠ some g from fun e => by have := (World.ownsRow.lt HK7.out.own g e).1; omega)
    have HP8 := LH (HP7.out.keptN (hb8.mono (Nat.le_of_lt HLT.out)) hk8 (hgp pb HLT.out))
    have HB8 := LH (HB7.out.low hb8 (Nat.le_refl _) (Nat.le_of_lt HLT.out))
    obtain ⟨A8, c8, rfl, -, -⟩ := ho8.form
    have HO8L := LH (show ((clV (l.take i) f).map (·.1)).length + 1 ≤ 970000000000 from by rw [HOL.out]; have := HNL.out; have := HLL.out; have := HIR.out; omega)
    clear ho8 hb8 hk8 hg8 hgp
    go_wp2_with (at_builtin; refine OwnL.appendL folOk HK8.out.occ (1 : Int) w8.heap.size rfl _ _ rfl rfl rfl #[.int .i64 1] rfl rfl HK8.out.hB HO8L.out ?_)
    intro v9 w9 ho9 hb9 hk9 hg9
    have HK9 := LH (HK8.out.app2 ho9 hb9 hk9 hg9)
    have hgp := fun (g : Nat) (hlt : g < w.heap.size) => (show (Value.slice OA_ nl.length OC_).ownBlock ≠ some g from fun e => by have := (World.ownsRow.lt HK8.out.occ g e).1; omega)
    have HP9 := LH (HP8.out.keptN (hb9.mono (Nat.le_of_lt HLT.out)) hk9 (hgp pb HLT.out))
    have HB9 := LH (HB8.out.low hb9 (Nat.le_refl _) (Nat.le_of_lt HLT.out))
    clear ho9 hb9 hk9 hg9 hgp
    have HVN := LH (show clV (l.take (i + 1)) f = clV (l.take i) f ++ [((1 : Int), t7)] from HVS.out.trans (congrArg (clV (l.take i) f ++ ·) HV7.out))
    go_wp2
    go_roundg (l.length - (i + 1))
    case measure => rw [HGH.out]; exact HNEW.out
    case rel =>
     refine ⟨i + 1, nl ++ [⟨kd, fl, tx, xn, ⟨l1, l2, l3⟩, ⟨r1, r2, r3⟩, ⟨oa, on, oc⟩, ⟨ka, kn, kc⟩⟩], rfl, hlt, ?_, ?_, ?_, HB9.out⟩
     ·rw [HVN.out, List.length_append, List.length_singleton]; have := HVL.out; omega
     ·rw [HPOS.out]
      have h := HP9.out
      rw [List.length_cons]; rw [show k + ((clL (l.take i)).length + (A2.length + 1)) = k + (clL (l.take i)).length + 1 + A2.length from by omega]; exact h
     ·have h := HK9.out
      rw [List.length_append, List.length_singleton] at h
      rw [HVN.out, List.map_append, List.map_append]; exact h
   ·skip
    have HT0 := LH (show ts[k + (clL (l.take i)).length]? = some s from by have := tk_at HDK.out 0 (t := s) rfl; simpa using this)
    have HT15 := LH (show decide (s.kind = 15) = false from by rw [hs]; decide)
    have HT16 := LH (show decide (s.kind = 16) = true from by rw [hs]; decide)
    have e0 : ((s.kind : Int) != 0) = true := by rw [hs]; rfl
    have e9 : ((s.kind : Int) != 9) = true := by rw [hs]; rfl
    have HDD2 := LH hD
    have HHX := LH ((HNX.out (i + 1)).less (b := [14, 20, 21, 18, 19]) (by decide))
    have HDN := LH (show ts.drop (k + (clL (l.take i)).length + 1) = A2 ++ (clL (l.drop (i + 1)) ++ post) from dropk (X := [s]) HDK.out)
    have HYL2 := LH (show A2.length < M from by have h := HYL.out; rw [List.length_cons] at h; omega)
    clear hs hD
    go_wp2_with fail
    refine (pkind_at HPS.out HT0.out hl).mono ?_
    rintro e wa ⟨rfl, hb6, hs6⟩
    have HPa := LH (HPS.out.belowW hb6); have HBa := LH (HPB.out.trans (PB.of hb6 (Nat.le_of_lt HPS.out.lt))); have HKa := LH (HKL.out.keep (PB.of hb6 (Nat.le_of_lt HPS.out.lt)) HLT.out)
    have HSa := LH hb6.size
    clear hb6 hs6
    go_wp2_with fail
    refine (pkind_at HPa.out HT0.out hl).mono ?_
    rintro e wb ⟨rfl, hb6, hs6⟩
    have HPb := LH (HPa.out.belowW hb6); have HBb := LH (HBa.out.trans (PB.of hb6 (Nat.le_of_lt HPa.out.lt))); have HKb := LH (HKa.out.keep (PB.of hb6 (Nat.le_of_lt HPa.out.lt)) HLT.out)
    have HSb := LH (Nat.le_trans HSa.out hb6.size)
    clear hb6 hs6
    go_wp2_with fail
    refine (ptakes_at 15 HPb.out HT0.out hl).mono ?_
    rintro e wc ⟨rfl, hb6, hp6⟩
    rw [HT15.out] at hp6 ⊢
    simp only [Bool.false_eq_true, if_false, if_true] at hp6
    have HPc := LH hp6; have HBc := LH (HBb.out.trans hb6); have HKc := LH (HKb.out.keep hb6 HLT.out)
    have HSc := LH (Nat.le_trans HSb.out hb6.size)
    clear hb6 hp6
    go_wp2_with fail
    refine (ptakes_at 16 HPc.out HT0.out hl).mono ?_
    rintro e wd ⟨rfl, hb6, hp6⟩
    rw [HT16.out] at hp6 ⊢
    simp only [Bool.false_eq_true, if_false, if_true] at hp6
    have HPd := LH hp6; have HBd := LH (HBc.out.trans hb6); have HKd := LH (HKc.out.keep hb6 HLT.out)
    have HSd := LH (Nat.le_trans HSc.out hb6.size)
    clear hb6 hp6
    go_wp2_with fail
    refine (hU A2 m u HDD2.out HYL2.out wd _ f _ HDN.out HHX.out HPd.out).mono ?_
    rintro e w7 ⟨hb7, hp7, x, t7, rfl, hv, hx⟩
    obtain ⟨kd, fl, tx, xn, ⟨l1, l2, l3⟩, ⟨r1, r2, r3⟩, ⟨oa, on, oc⟩, ⟨ka, kn, kc⟩⟩ := x
    unfold NV.val
    simp only []
    have HV7 := LH (show ((u f).map fun x => ((2 : Int), x.2)) = [((2 : Int), t7)] from by rw [hv]; rfl)
    have HP7 := LH hp7; have HB7 := LH (HBd.out.trans hb7); have HK7 := LH (HKd.out.keep hb7 HLT.out); have HX7 := LH hx
    have HE7 := LH (show w.heap.size ≤ wd.heap.size from HKd.out.hB)
    have HGK := LH (fun (g : Nat) (hg : (Value.slice KA_ nl.length KC_).ownBlock = some g) => Nat.lt_of_lt_of_le (World.ownsRow.lt HKL.out.own g hg).2 HSd.out)
    have HGO := LH (fun (g : Nat) (hg : (Value.slice OA_ nl.length OC_).ownBlock = some g) => Nat.lt_of_lt_of_le (World.ownsRow.lt HKL.out.occ g hg).2 HSd.out)
    clear hb7 hp7 hx hv
    go_wp2_with (at_builtin; refine OwnL.appendL ndOk HK7.out.own ⟨kd, fl, tx, xn, ⟨l1, l2, l3⟩, ⟨r1, r2, r3⟩, ⟨oa, on, oc⟩, ⟨ka, kn, kc⟩⟩ w7.heap.size rfl _ _ rfl rfl rfl #[.int .i64 kd, .string (str fl), .string (str tx), .int .i64 xn, .bool l1, .bool l2, .string (str l3), .bool r1, .bool r2, .string (str r3), .slice oa on oc, .slice ka kn kc] rfl rfl HK7.out.hB (by have := HNL.out; have := HLL.out; have := HIR.out; omega) ?_)
    intro v8 w8 ho8 hb8 hk8 hg8
    have HK8 := LH (HK7.out.app1 HX7.out HE7.out HGK.out HGO.out ho8 hb8 hk8 hg8)
    have hgp := fun (g : Nat) (hlt : g < w.heap.size) => (show (Value.slice KA_ nl.length KC_).ownBlock ≠ some g from fun e => by have := (World.ownsRow.lt HK7.out.own g e).1; omega)
    have HP8 := LH (HP7.out.keptN (hb8.mono (Nat.le_of_lt HLT.out)) hk8 (hgp pb HLT.out))
    have HB8 := LH (HB7.out.low hb8 (Nat.le_refl _) (Nat.le_of_lt HLT.out))
    obtain ⟨A8, c8, rfl, -, -⟩ := ho8.form
    have HO8L := LH (show ((clV (l.take i) f).map (·.1)).length + 1 ≤ 970000000000 from by rw [HOL.out]; have := HNL.out; have := HLL.out; have := HIR.out; omega)
    clear ho8 hb8 hk8 hg8 hgp
    go_wp2_with (at_builtin; refine OwnL.appendL folOk HK8.out.occ (2 : Int) w8.heap.size rfl _ _ rfl rfl rfl #[.int .i64 2] rfl rfl HK8.out.hB HO8L.out ?_)
    intro v9 w9 ho9 hb9 hk9 hg9
    have HK9 := LH (HK8.out.app2 ho9 hb9 hk9 hg9)
    have hgp := fun (g : Nat) (hlt : g < w.heap.size) => (show (Value.slice OA_ nl.length OC_).ownBlock ≠ some g from fun e => by have := (World.ownsRow.lt HK8.out.occ g e).1; omega)
    have HP9 := LH (HP8.out.keptN (hb9.mono (Nat.le_of_lt HLT.out)) hk9 (hgp pb HLT.out))
    have HB9 := LH (HB8.out.low hb9 (Nat.le_refl _) (Nat.le_of_lt HLT.out))
    clear ho9 hb9 hk9 hg9 hgp
    have HVN := LH (show clV (l.take (i + 1)) f = clV (l.take i) f ++ [((2 : Int), t7)] from HVS.out.trans (congrArg (clV (l.take i) f ++ ·) HV7.out))
    go_wp2
    go_roundg (l.length - (i + 1))
    case measure => rw [HGH.out]; exact HNEW.out
    case rel =>
     refine ⟨i + 1, nl ++ [⟨kd, fl, tx, xn, ⟨l1, l2, l3⟩, ⟨r1, r2, r3⟩, ⟨oa, on, oc⟩, ⟨ka, kn, kc⟩⟩], rfl, hlt, ?_, ?_, ?_, HB9.out⟩
     ·rw [HVN.out, List.length_append, List.length_singleton]; have := HVL.out; omega
     ·rw [HPOS.out]
      have h := HP9.out
      rw [List.length_cons]; rw [show k + ((clL (l.take i)).length + (A2.length + 1)) = k + (clL (l.take i)).length + 1 + A2.length from by omega]; exact h
     ·have h := HK9.out
      rw [List.length_append, List.length_singleton] at h
      rw [HVN.out, List.map_append, List.map_append]; exact h
  ·have hie : i = l.length := by have := HIR.out; omega
   obtain ⟨p, pr, hpp, hpk⟩ := HPP.out
   have HT0 := LH (show ts[k + (clL (l.take i)).length]? = some p from by
    have h1 : ts.drop (k + (clL l).length) = post := dropk HDD.out
    rw [hie, List.take_length]
    have := tk_at (A := []) (j := 0) (h1.trans (List.nil_append post).symm) (t := p) (by rw [hpp]; rfl)
    simpa using this)
   have HTE := LH (show l.take i = l from by rw [hie, List.take_length])
   clear hpp hie
   have hfin : ∀ W : World, PsAt W pb PA cap ts (k + (clL (l.take i)).length) → KL w.heap.size W (.slice KA_ nl.length KC_) nl ((clV (l.take i) f).map (·.2)) (.slice OA_ nl.length OC_) ((clV (l.take i) f).map (·.1)) → PB pb w W →
     LsRet pb PA cap ts (k + (clL l).length) (clV l f) w (.returned (.tuple #[.slice KA_ nl.length KC_, .slice OA_ nl.length OC_])) W := by
    intro W hP hK hB
    rw [HTE.out] at hP hK
    refine ⟨hB, hP, ⟨KA_, nl.length, KC_⟩, ⟨OA_, nl.length, OC_⟩, nl, rfl, RdF.of_own hK.own fun g _ h1 h2 => ⟨h1, h2⟩, RdF.of_own hK.occ fun g _ h1 h2 => ⟨h1, h2⟩, hK.trees.mono fun b hb => ⟨hb.1, hb.2.1⟩⟩
   have HFIN := LH hfin
   clear hfin
   rcases hpk with hpk | hpk
   ·have e0 : ((p.kind : Int) != 0) = false := by rw [hpk]; rfl
    clear hpk
    go_wp2_with fail
    refine (pkind_at HPS.out HT0.out hl).mono ?_
    rintro e wa ⟨rfl, hb6, hs6⟩
    have HPa := LH (HPS.out.belowW hb6); have HBa := LH (HPB.out.trans (PB.of hb6 (Nat.le_of_lt HPS.out.lt))); have HKa := LH (HKL.out.keep (PB.of hb6 (Nat.le_of_lt HPS.out.lt)) HLT.out)
    have HSa := LH hb6.size
    clear hb6 hs6
    go_wp2
    go_ret2
    exact HFIN.out _ HPa.out HKa.out HBa.out
   ·have e0 : ((p.kind : Int) != 0) = true := by rw [hpk]; rfl
    have e9 : ((p.kind : Int) != 9) = false := by rw [hpk]; rfl
    clear hpk
    go_wp2_with fail
    refine (pkind_at HPS.out HT0.out hl).mono ?_
    rintro e wa ⟨rfl, hb6, hs6⟩
    have HPa := LH (HPS.out.belowW hb6); have HBa := LH (HPB.out.trans (PB.of hb6 (Nat.le_of_lt HPS.out.lt))); have HKa := LH (HKL.out.keep (PB.of hb6 (Nat.le_of_lt HPS.out.lt)) HLT.out)
    have HSa := LH hb6.size
    clear hb6 hs6
    go_wp2_with fail
    refine (pkind_at HPa.out HT0.out hl).mono ?_
    rintro e wb ⟨rfl, hb6, hs6⟩
    have HPb := LH (HPa.out.belowW hb6); have HBb := LH (HBa.out.trans (PB.of hb6 (Nat.le_of_lt HPa.out.lt))); have HKb := LH (HKa.out.keep (PB.of hb6 (Nat.le_of_lt HPa.out.lt)) HLT.out)
    have HSb := LH (Nat.le_trans HSa.out hb6.size)
    clear hb6 hs6
    go_wp2
    go_ret2
    exact HFIN.out _ HPb.out HKb.out HBb.out
theorem parts_ok {pb : Nat} {PA : Option Addr} {cap : Nat} {ts : List Lt} (hok : TkOk ts) : ∀ M, LsOk pb PA cap ts M := by
 intro M
 induction M with
 | zero => intro A n v hD hlen; omega
 | succ M ih =>
  have hA := patom_of hok ih
  have hU := punary_of hok hA (M + 1) (Nat.le_refl _)
  exact plist_of hok hU (prow_of hok hU)
def checkS (l : List UInt8) : Sum Nat Nat :=
 match scanL l with
 | (_, some p) => .inr p
 | (la, none) => match runI mc0 0 (la.map Lx.lt) with
  | .inl m => .inl m.at_.most
  | .inr i => .inr ((la[i]?.map Lx.at_).getD 0)
def ChkRet (v : Value) (r : Sum Nat Nat) (w : World) (e : Ending) (w' : World) : Prop :=
 Below w.heap.size w w' ∧ e = .returned (match r with
  | .inl n => .tuple #[.int .i64 (n : Int), .int .i64 0, .nilIface]
  | .inr p => .tuple #[.int .i64 0, .int .i64 (p : Int), v])
theorem scanF_count (f : Nat) (l : List UInt8) (i : Nat) : (scanF f l i).1.length ≤ l.length + 1 := by
 induction f generalizing l i with
 | zero => simp [scanF]
 | succ f ih =>
  cases l with
  | nil => simp [scanF]
  | cons c t =>
   rw [scanF, List.length_cons]
   split
   ·have := ih t (i + 1); omega
   ·rename_i hc
    split
    ·simp
    ·rename_i k ht
     have hk := tok_len ht (fun d hd => by cases hd; exact hc)
     rw [List.length_cons] at hk
     have hrec := ih ((c :: t).drop k.len) (i + k.len)
     rw [List.length_drop, List.length_cons] at hrec
     rcases hr : scanF f ((c :: t).drop k.len) (i + k.len) with ⟨u, _ | z⟩
     ·rw [hr] at hrec
      simp only [ahead, List.singleton_append, List.length_cons] at hrec ⊢
      omega
     ·simp [ahead]
theorem scanL_count (l : List UInt8) : (scanL l).1.length ≤ l.length + 1 := by unfold scanL; exact scanF_count _ _ _
theorem scheck_any (s : ByteArray) (w : World) (ea : List Addr) (ei : Nat) (hs : s.size ≤ 900000000000) (hE : ClsEnv w) (hv : ErrAt w 1 (errI ea ei)) :
  Calls Tryd.prog 25 #[.string s] w (ChkRet (errI ea ei) (checkS s.data.toList) w) := by
 have hz1 := fun W => errI_nnil ea ei W
 have hz2 := fun op x y W => errI_guard0 ea ei op x y W
 generalize errI ea ei = v at *
 have HSC := LH (Scan_any s w v hs hE hv)
 have HV := LH hv
 have hcnt := scanL_count s.data.toList
 have hsl : s.data.toList.length = s.size := by rw [Array.length_toList]; rfl
 rw [hsl] at hcnt
 clear hE hv
 go_enter Tryd.func25, Tryd.ntmps25
 go_wp2_with fail
 refine HSC.out.mono ?_
 rintro e w2 ⟨hb2, hm⟩
 cases hr : scanL s.data.toList with
 | mk la r =>
  rw [hr] at hm hcnt
  simp only [] at hm hcnt
  have HV2 := LH (HV.out.below HV.out.2 hb2)
  have hv2 := HV2.out.1
  have hg2 := HV2.out.2
  cases r with
  | some p =>
   simp only [] at hm
   subst hm
   have HR := LH (show checkS s.data.toList = .inr p from by unfold checkS; rw [hr])
   have HB2 := LH hb2
   clear hr hb2
   go_wp2
   go_region
   go_wp2
   go_ret3
   refine ⟨?_, ?_⟩
   ·first | exact HB2.out | exact HB2.out.drew
   ·rw [HR.out]
    first | exact rfl | (show _ = _; simp [go_sem])
  | none =>
   simp only [] at hm
   obtain ⟨sl, rfl, ho⟩ := hm
   have HB2 := LH hb2
   have hrd : RdL ltS w2 w2.heap.size sl (la.map Lx.lt) := RdL.of_own ho.lt
   have HRD := LH hrd
   have HRN := LH (mrun_any sl (la.map Lx.lt) w2 hrd (by rw [List.length_map]; omega))
   have hsz2 : w.heap.size ≤ w2.heap.size := hb2.size
   have HQ := LH hr
   clear hr hb2 ho hrd
   go_wp2_with fail
   refine HRN.out.mono ?_
   rintro e w3 ⟨hb3, hm3⟩
   have HB3 := LH (HB2.out.trans (hb3.mono hsz2))
   have HV3 := LH (HV2.out.below HV2.out.2 hb3)
   have HRD3 := LH (HRD.out.below hb3)
   have hv3 := HV3.out.1
   have hg3 := HV3.out.2
   cases hrn : runI mc0 0 (la.map Lx.lt) with
   | inl m =>
    rw [hrn] at hm3
    obtain ⟨hi, mb, vb, rfl, hm4⟩ := hm3
    have HR := LH (show checkS s.data.toList = .inl m.at_.most from by unfold checkS; rw [HQ.out]; simp only []; rw [hrn])
    obtain ⟨-, ⟨f0, f1, f2, f3, f4, f5⟩, hlt⟩ := hm4.facts
    obtain ⟨⟨c0, c1, c2, c3, c4, c5⟩, -, -⟩ := hm4.facts
    clear hi hm4 hrn hb3
    go_wp2
    go_ret3
    exact ⟨HB3.out, by rw [HR.out]; first | exact rfl | (show _ = _; simp [go_sem])⟩
   | inr i =>
    rw [hrn] at hm3
    obtain ⟨hi, mb, rfl⟩ := hm3
    rw [List.length_map] at hi
    have HR := LH (show checkS s.data.toList = .inr (la[i].at_) from by unfold checkS; rw [HQ.out]; simp only []; rw [hrn]; simp only []; rw [List.getElem?_eq_getElem hi]; rfl)
    obtain ⟨A, cap, rfl, h1, h2⟩ := HRD3.out.open_
    obtain ⟨a, rfl, hab, q0, q1, q2, q3, q4⟩ := at_lt HRD3.out (k := i) (by rw [List.length_map]; exact hi)
    have q3' : w3.cell? ⟨(a.add (i * 5)).block, (a.add (i * 5)).off + 3, none⟩ = some (.int .i64 ((la[i].at_ : Nat) : Int)) := by
     rw [q3, List.getElem_map]; rfl
    have hi2 : i < (la.map Lx.lt).length := by rw [List.length_map]; exact hi
    clear hrn hb3 q0 q1 q2 q3 q4
    go_wp2
    go_region
    go_wp2
    go_ret3
    refine ⟨?_, ?_⟩
    ·first | exact HB3.out | exact HB3.out.drew
    ·rw [HR.out]
     first | exact rfl | (show _ = _; simp [go_sem])
end Go.Proofs.YthcldpminmhgkaaDoor
end
