/- Merged for a claim by shake.py: Uc Ud -/
import Derived.Test.YtcomdkejpaoneaaDoorKe18
section
namespace Go.Proofs.YtcomdkejpaoneaaDoor
open Go.RowKit
set_option maxRecDepth 100000
set_option maxHeartbeats 4000000
set_option linter.unusedSimpArgs false
set_option linter.unusedVariables false
def nvLeaf (kind : Int) (field text : List UInt8) (n : Int) : NV := ⟨kind, field, text, n, bd0, bd0, ⟨none, 0, 0⟩, ⟨none, 0, 0⟩⟩
theorem nd_leaf (w : World) (F : Nat → Prop) (kind : Int) (field text : List UInt8) (n : Int) : NdR w F (nvLeaf kind field text n) (ndLeaf kind field text n) :=
  .mk (RdF.nil _ _ _) (RdF.nil _ _ _) rfl fun i x t hx _ => by simp at hx
def TrRet (F : Nat → Prop) (t : Nd) (w : World) (e : Ending) (w' : World) : Prop := Below w.heap.size w w' ∧ ∃ x : NV, e = .returned x.val ∧ NdR w' F x t
theorem NdR.belowW {w w' : World} {F : Nat → Prop} {x : NV} {t : Nd} (h : NdR w F x t) (hb : Below w.heap.size w w') : NdR w' F x t := h.keep fun p _ hlt => hb.cell hlt
theorem NdRs.belowW {w w' : World} {F : Nat → Prop} {nl : List NV} {ts : List Nd} (h : NdRs w F nl ts) (hb : Below w.heap.size w w') : NdRs w' F nl ts := h.keep fun p _ hlt => hb.cell hlt
theorem RdF.belowW {α : Type} {S : Shape α} {w w' : World} {F : Nat → Prop} {s : Sl} {l : List α} (h : RdF S w F s l) (hb : Below w.heap.size w w') : RdF S w' F s l := h.keep fun p _ hlt => hb.cell hlt
theorem treeN_ne {l : List (Int × Nd)} (h : ∀ x, l ≠ [(0, x)]) : treeN l = ndList 0 l := by
  cases l with
  | nil => rfl
  | cons a r =>
    obtain ⟨o, x⟩ := a
    cases r with
    | nil =>
      by_cases ho : o = 0
      · subst ho; exact absurd rfl (h x)
      · unfold treeN
        split
        · rename_i heq; injection heq with h1 _; injection h1 with h1 _; exact absurd h1 ho
        · rfl
    | cons b r =>
      unfold treeN
      split
      · rename_i heq; injection heq with _ h2; cases h2
      · rfl
theorem RdF.nd0 {w : World} {F : Nat → Prop} {A : Option Addr} {n c : Nat} {x : NV} {l : List NV} (h : RdF ndS w F ⟨A, n, c⟩ (x :: l)) : ∃ a, A = some a ∧ F a.block ∧ a.block < w.heap.size ∧ w.cell? a = some (.int .i64 x.kind) ∧ (∀ j u, x.cells[j + 1]? = some u → w.cell? ⟨a.block, a.off + (j + 1), none⟩ = some u) := by
  obtain ⟨-, -, -, h4, -⟩ := h
  obtain ⟨a, e, hb, hc⟩ := h4 (by simp)
  have hcs : ∀ j u, x.cells[j]? = some u → w.cell? (a.add j) = some u := fun j u hu => hc j u (by
    have e2 : ndS.cells (x :: l) = x.cells ++ ndS.cells l := rfl
    rw [e2, List.getElem?_append_left (List.getElem?_eq_some_iff.1 hu).1]; exact hu)
  have h0 := hcs 0 _ (by rfl)
  have e0 : a.add 0 = a := by unfold Addr.add; rfl
  rw [e0] at h0
  refine ⟨a, e, hb, World.block_lt_of_cell? w a h0, h0, fun j u hu => ?_⟩
  have := hcs (j + 1) u hu
  rw [show a.add (j + 1) = ⟨a.block, a.off + (j + 1), none⟩ from by rw [Addr.add, if_neg (by omega)]] at this
  exact this
theorem ptree_any (w : World) (F : Nat → Prop) (sk so : Sl) (nl : List NV) (l : List (Int × Nd)) (hk : RdF ndS w F sk nl) (ho : RdF folS w F so (l.map (·.1))) (hn : NdRs w F nl (l.map (·.2))) (hF : ∀ b, F b → b < w.heap.size) :
    Calls Tryd.prog 36 #[.slice sk.a sk.n sk.c, .slice so.a so.n so.c] w (TrRet F (treeN l) w) := by
  have hlen : nl.length = l.length := by rw [hn.1, List.length_map]
  have hkn : sk.n = nl.length := hk.1
  have hon : so.n = l.length := by rw [ho.1, List.length_map]
  have HK := Lib.hid hk; have HO := Lib.hid ho; have HN := Lib.hid hn
  obtain ⟨ka, kn, kc⟩ := sk
  obtain ⟨oa, on, oc⟩ := so
  simp only [] at hkn hon
  have HB1 := Lib.hid (show Below w.heap.size w (w.alloc (.cells #[.int .i64 9, .string ⟨#[]⟩, .string ⟨#[]⟩, .int .i64 0, .bool false, .bool false, .string ⟨#[]⟩, .bool false, .bool false, .string ⟨#[]⟩, .slice oa on oc, .slice ka kn kc] 36)) from (Below.refl _ _).alloc (Nat.le_refl _) _)
  have hfin : ∀ {e : Ending}, treeN l = ndList 0 l → e = .returned (.agg #[.int .i64 9, .string ⟨#[]⟩, .string ⟨#[]⟩, .int .i64 0, .bool false, .bool false, .string ⟨#[]⟩, .bool false, .bool false, .string ⟨#[]⟩, .slice oa on oc, .slice ka kn kc]) → TrRet F (treeN l) w e (w.alloc (.cells #[.int .i64 9, .string ⟨#[]⟩, .string ⟨#[]⟩, .int .i64 0, .bool false, .bool false, .string ⟨#[]⟩, .bool false, .bool false, .string ⟨#[]⟩, .slice oa on oc, .slice ka kn kc] 36)) := by
    intro e hT he
    refine ⟨HB1.out, ⟨9, [], [], 0, bd0, bd0, ⟨oa, on, oc⟩, ⟨ka, kn, kc⟩⟩, he, ?_⟩
    rw [hT]
    exact .mk (HO.out.belowW HB1.out) (HK.out.belowW HB1.out) HN.out.1 (HN.out.belowW HB1.out).2
  have HFIN : Hid (∀ e : Ending, treeN l = ndList 0 l → e = .returned (.agg #[.int .i64 9, .string ⟨#[]⟩, .string ⟨#[]⟩, .int .i64 0, .bool false, .bool false, .string ⟨#[]⟩, .bool false, .bool false, .string ⟨#[]⟩, .slice oa on oc, .slice ka kn kc]) → TrRet F (treeN l) w e (w.alloc (.cells #[.int .i64 9, .string ⟨#[]⟩, .string ⟨#[]⟩, .int .i64 0, .bool false, .bool false, .string ⟨#[]⟩, .bool false, .bool false, .string ⟨#[]⟩, .slice oa on oc, .slice ka kn kc] 36))) := Lib.hid fun e h1 h2 => hfin h1 h2
  clear hk ho hn hfin
  by_cases h1 : l.length = 1
  · obtain ⟨⟨o, x⟩, rfl⟩ := List.length_eq_one_iff.1 h1
    obtain ⟨nv, rfl⟩ := List.length_eq_one_iff.1 hlen
    have hka : kn = 1 := by rw [hkn]; rfl
    have hoa : on = 1 := by rw [hon]; rfl
    subst hka hoa
    have h4 := HO.out.2.2.2.1 (by simp)
    obtain ⟨a, rfl, hab, hac⟩ := h4
    have hoc := hac 0 (.int .i64 o) (by rfl)
    rw [show a.add 0 = a from by unfold Addr.add; rfl] at hoc
    have hal : a.block < w.heap.size := hF _ hab
    by_cases ho0 : o = 0
    · subst ho0
      obtain ⟨b, rfl, hbF, hbl, hc0, hc⟩ := HK.out.nd0
      obtain ⟨kd, fl, tx, n, ⟨l1, l2, l3⟩, ⟨r1, r2, r3⟩, ⟨sa, sn, sc⟩, ⟨ta, tn, tc⟩⟩ := nv
      have d1 := hc 0 _ rfl; have d2 := hc 1 _ rfl; have d3 := hc 2 _ rfl; have d4 := hc 3 _ rfl; have d5 := hc 4 _ rfl; have d6 := hc 5 _ rfl
      have d7 := hc 6 _ rfl; have d8 := hc 7 _ rfl; have d9 := hc 8 _ rfl; have d10 := hc 9 _ rfl; have d11 := hc 10 _ rfl
      simp only [Nat.zero_add, Nat.reduceAdd] at d1 d2 d3 d4 d5 d6 d7 d8 d9 d10 d11 hc0
      have HR := Lib.hid (HN.out.2 0 _ x rfl rfl)
      clear hc hac h1 hlen hkn hon
      go_enter Tryd.func36, Tryd.ntmps36
      go_wp2
      refine bodyPost_ret (v := NV.val ⟨kd, fl, tx, n, ⟨l1, l2, l3⟩, ⟨r1, r2, r3⟩, ⟨sa, sn, sc⟩, ⟨ta, tn, tc⟩⟩) ?_ rfl ?_
      · simp [results, Tryd.results36, go_sem, World.cell?_alloc_new, NV.val]
      · have hb := (Below.refl w.heap.size w).alloc (Nat.le_refl _) (.cells #[.int .i64 kd, .string (str fl), .string (str tx), .int .i64 n, .bool l1, .bool l2, .string (str l3), .bool r1, .bool r2, .string (str r3), .slice sa sn sc, .slice ta tn tc] 36)
        exact ⟨hb, _, rfl, HR.out.belowW hb⟩
    · have HT := Lib.hid (treeN_ne (l := [(o, x)]) (fun y h => by injection h with h _; injection h with h _; exact ho0 h))
      have e0 : (o == 0) = false := by simpa using ho0
      clear hac h1 hlen hkn hon ho0
      go_enter Tryd.func36, Tryd.ntmps36
      go_wp2
      refine bodyPost_ret (v := .agg #[.int .i64 9, .string ⟨#[]⟩, .string ⟨#[]⟩, .int .i64 0, .bool false, .bool false, .string ⟨#[]⟩, .bool false, .bool false, .string ⟨#[]⟩, .slice (some a) 1 oc, .slice ka 1 kc]) ?_ rfl ?_
      · simp [results, Tryd.results36, go_sem, World.cell?_alloc_new]
      · exact HFIN.out _ HT.out rfl
  · have HT := Lib.hid (treeN_ne (l := l) (fun y h => h1 (by rw [h]; rfl)))
    have e0 : ((kn : Int) == 1) = false := by rw [hkn, hlen]; simp; omega
    clear h1 hlen hkn hon
    go_enter Tryd.func36, Tryd.ntmps36
    go_wp2
    refine bodyPost_ret (v := .agg #[.int .i64 9, .string ⟨#[]⟩, .string ⟨#[]⟩, .int .i64 0, .bool false, .bool false, .string ⟨#[]⟩, .bool false, .bool false, .string ⟨#[]⟩, .slice oa on oc, .slice ka kn kc]) ?_ rfl ?_
    · simp [results, Tryd.results36, go_sem, World.cell?_alloc_new]
    · exact HFIN.out _ HT.out rfl
def bdVal (b : Bd) : Value := .agg #[.bool b.open_, .bool b.in_, .string (str b.text)]
theorem pside_any (t : Lt) (i : Bool) (w : World) : Calls Tryd.prog 107 #[ltVal t, .bool i] w fun e w' => e = .returned (bdVal (sideN t i)) ∧ Below w.heap.size w w' := by
  obtain ⟨k, tx, n, a, b⟩ := t
  unfold ltVal
  simp only []
  by_cases hk : k = 2
  · have e2 : (k == 2) = true := by simpa using hk
    have HR := Lib.hid (show sideN ⟨k, tx, n, a, b⟩ i = ⟨true, false, []⟩ from by unfold sideN; rw [if_pos hk])
    clear hk
    rw [HR.out]
    go_enter Tryd.func107, Tryd.ntmps107
    go_wp2
    refine bodyPost_ret (v := .agg #[.bool true, .bool false, .string ⟨#[]⟩]) ?_ rfl ?_
    · simp [results, Tryd.results107, go_sem, World.cell?_alloc_new]
    · exact ⟨rfl, ((Below.refl _ _).alloc (Nat.le_refl _) _).alloc (by rw [World.size_alloc]; omega) _⟩
  · have e2 : (k == 2) = false := by simpa using hk
    have HR := Lib.hid (show sideN ⟨k, tx, n, a, b⟩ i = ⟨false, i, tx⟩ from by unfold sideN; rw [if_neg hk])
    clear hk
    rw [HR.out]
    go_enter Tryd.func107, Tryd.ntmps107
    go_wp2
    refine bodyPost_ret (v := .agg #[.bool false, .bool i, .string (str tx)]) ?_ rfl ?_
    · simp [results, Tryd.results107, go_sem, World.cell?_alloc_new]
    · exact ⟨rfl, ((Below.refl _ _).alloc (Nat.le_refl _) _).alloc (by rw [World.size_alloc]; omega) _⟩
end Go.Proofs.YtcomdkejpaoneaaDoor
end
section
namespace Go.Proofs.YtcomdkejpaoneaaDoor
open Go.RowKit
set_option maxRecDepth 100000
set_option maxHeartbeats 4000000
set_option linter.unusedSimpArgs false
set_option linter.unusedVariables false
def patOk : List UInt8 → Prop
  | [] => True
  | [c] => c ≠ 92
  | c :: d :: r => if c = 92 then patOk r else patOk (d :: r)
def PatRet (t : Nd) (w : World) (e : Ending) (w' : World) : Prop := Below w.heap.size w w' ∧ ∃ (kd : Int) (f tx : List UInt8), t = ndLeaf kd f tx 0 ∧ e = .returned (nvLeaf kd f tx 0).val
theorem ownB_frm {w : World} {B : Nat} {v : Value} {l : List UInt8} (h : OwnB w B v l) : ∃ A cp, v = .slice A l.length cp := by
  rcases h.2 with ⟨rfl, h0⟩ | ⟨g, cap, cur, rfl, _⟩
  · exact ⟨none, 0, by rw [h0]⟩
  · exact ⟨_, _, rfl⟩
def PatRel (f : List UInt8) (s : ByteArray) (w1 : World) (lv iv : Value) (wr : World) : Prop :=
  ∃ (i : Nat) (L : List UInt8), i ≤ s.size ∧ iv = .int .i64 (i : Int) ∧ OwnB wr w1.heap.size lv L ∧ L.length ≤ i ∧ patF f s.data.toList [] s.data.toList = patF f s.data.toList L (s.data.toList.drop i) ∧ patOk (s.data.toList.drop i) ∧ Below w1.heap.size w1 wr
theorem u8_eq (c : UInt8) (k : Nat) (hk : k < 256) : ((c.toNat : Int) == (k : Int)) = decide (c = UInt8.ofNat k) := by
  by_cases h : c = UInt8.ofNat k
  · subst h
    rw [decide_eq_true rfl]
    have : (UInt8.ofNat k).toNat = k := by rw [UInt8.toNat_ofNat']; omega
    rw [this]; simp
  · rw [decide_eq_false h]
    have : c.toNat ≠ k := fun e => h (by rw [← e]; simp)
    simpa using fun e : (c.toNat : Int) = (k : Int) => this (by omega)
theorem ppattern_any (f : List UInt8) (s : ByteArray) (w : World) (hs : s.size ≤ 10000000) (hok : patOk s.data.toList) :
    Calls Tryd.prog 106 #[.string (str f), .string s] w (PatRet (patN f s.data.toList) w) := by
  by_cases hst : s.data.toList = [42]
  · have e1 : (s.toList == [42]) = true := by rw [ba_toList, hst]; rfl
    have HR := Lib.hid (show patN f s.data.toList = ndLeaf 7 f [] 0 from by unfold patN; rw [if_pos hst])
    clear hst hok
    go_enter Tryd.func106, Tryd.ntmps106
    go_wp2
    refine bodyPost_ret (v := (nvLeaf 7 f [] 0).val) ?_ rfl ?_
    · simp [results, Tryd.results106, go_sem, World.cell?_alloc_new, NV.val, nvLeaf, bd0, str]
    · exact ⟨(Below.refl _ _).alloc (Nat.le_refl _) _, _, _, _, HR.out, rfl⟩
  have e1 : (s.toList == [42]) = false := by rw [ba_toList]; simpa using hst
  have HPN := Lib.hid (show patN f s.data.toList = patF f s.data.toList [] s.data.toList from by unfold patN; rw [if_neg hst])
  have HOK := Lib.hid hok
  have HSL := Lib.hid (ba_size s)
  have HSTR := Lib.hid (show str s.data.toList = s from rfl)
  clear hst hok
  have HB1 := Lib.hid (show Below w.heap.size w (w.alloc (.cells #[.int .i64 0, .string ⟨#[]⟩, .string ⟨#[]⟩, .int .i64 0, .bool false, .bool false, .string ⟨#[]⟩, .bool false, .bool false, .string ⟨#[]⟩, .slice none 0 0, .slice none 0 0] 36)) from (Below.refl _ _).alloc (Nat.le_refl _) _)
  have HZ := Lib.hid (Blk.new w 36 #[.int .i64 0, .string ⟨#[]⟩, .string ⟨#[]⟩, .int .i64 0, .bool false, .bool false, .string ⟨#[]⟩, .bool false, .bool false, .string ⟨#[]⟩, .slice none 0 0, .slice none 0 0])
  go_enter Tryd.func106, Tryd.ntmps106
  go_upto_region 3 with (fail)
  generalize w.alloc (.cells #[.int .i64 0, .string ⟨#[]⟩, .string ⟨#[]⟩, .int .i64 0, .bool false, .bool false, .string ⟨#[]⟩, .bool false, .bool false, .string ⟨#[]⟩, .slice none 0 0, .slice none 0 0] 36) = w1 at *
  have HO1 := Lib.hid (OwnB.lit0 w1 (Nat.le_refl _))
  have HB0 := Lib.hid (show Below w1.heap.size w1 (w1.alloc (.cells #[] 5)) from (Below.refl _ _).alloc (Nat.le_refl _) _)
  go_wp2
  go_loopw [5, 6] (fun lv iv wr => PatRel f s w1 lv iv wr) (fun _ iv _ => s.size - (intOf iv).toNat)
  case atStart => exact ⟨0, [], Nat.zero_le _, rfl, HO1.out, Nat.zero_le _, rfl, HOK.out, HB0.out⟩
  case round =>
    obtain ⟨i, L, hi, rfl, ho, hLi, hp, hpo, hb⟩ := hrel
    have HO := Lib.hid ho; have HP := Lib.hid hp; have HB := Lib.hid hb; have HPO := Lib.hid hpo
    have HBW := Lib.hid (HB1.out.trans (hb.mono HB1.out.size))
    have hsz : w1.heap.size ≤ wr.heap.size := hb.size
    have hzz := HZ.out.below hb HZ.out.lt
    have hzc := fun j => hzz.cell j
    have z0 := hzz.cell 0; have z1 := hzz.cell 1; have z2 := hzz.cell 2; have z3 := hzz.cell 3; have z4 := hzz.cell 4; have z5 := hzz.cell 5; have z6 := hzz.cell 6; have z7 := hzz.cell 7; have z8 := hzz.cell 8; have z9 := hzz.cell 9; have z10 := hzz.cell 10; have z11 := hzz.cell 11
    have fz0 := hzz.frozen 0; have fz1 := hzz.frozen 1; have fz2 := hzz.frozen 2; have fz3 := hzz.frozen 3; have fz4 := hzz.frozen 4; have fz5 := hzz.frozen 5; have fz6 := hzz.frozen 6; have fz7 := hzz.frozen 7; have fz8 := hzz.frozen 8; have fz9 := hzz.frozen 9; have fz10 := hzz.frozen 10; have fz11 := hzz.frozen 11
    have lz := hzz.lt
    simp only [List.getElem?_toArray, List.getElem?_cons_zero, List.getElem?_cons_succ] at z0 z1 z2 z3 z4 z5 z6 z7 z8 z9 z10 z11
    have hwk : IntKind.i64.wrap ((i : Int) + 1) = (i : Int) + 1 := IntWalk.i64_in _ (by omega)
    obtain ⟨A5, c5, rfl⟩ := ownB_frm ho
    clear ho hp hb hpo hzz hzc
    by_cases hlt : i < s.size
    · skip
      have hbx := u8_lt s[i]
      have HD := Lib.hid (show s.data.toList.drop i = s[i] :: s.data.toList.drop (i + 1) from by rw [List.drop_eq_getElem_cons (show i < s.data.toList.length from by rw [← ba_size]; exact hlt)]; rfl)
      have u63 := u8_eq s[i] 63 (by omega)
      have u42 := u8_eq s[i] 42 (by omega)
      have u92 := u8_eq s[i] 92 (by omega)
      have HPD := Lib.hid (show patF f s.data.toList [] s.data.toList = patF f s.data.toList L (s[i] :: s.data.toList.drop (i + 1)) from by rw [HP.out, HD.out])
      have HPOD := Lib.hid (show patOk (s[i] :: s.data.toList.drop (i + 1)) from by rw [← HD.out]; exact HPO.out)
      have HU := Lib.hid (And.intro u63 (And.intro u42 u92))
      clear u63 u42 u92
      have hnil : (s.data.toList.drop (i + 1) = [] ∧ ¬ i + 1 < s.size) ∨ (∃ d r, i + 1 < s.size ∧ s.data.toList.drop (i + 1) = d :: r) := by
        by_cases h : i + 1 < s.size
        · right
          have h2 : i + 1 < s.data.toList.length := by rw [← ba_size]; exact h
          exact ⟨_, _, h, List.drop_eq_getElem_cons h2⟩
        · left
          exact ⟨List.drop_eq_nil_of_le (by rw [← ba_size]; omega), h⟩
      have HNIL := Lib.hid hnil
      clear hnil
      by_cases h63 : s[i] = 63
      · have e63 : ((s[i].toNat : Int) == 63) = true := by have := HU.out.1; rw [h63] at this ⊢; rfl
        have HR := Lib.hid (show patN f s.data.toList = ndLeaf 4 f s.data.toList 0 from by
          rw [HPN.out, HPD.out]
          rcases HNIL.out with ⟨h, _⟩ | ⟨d, r, _, h⟩
          · rw [h, patF, if_neg (by rw [h63]; decide)]
          · rw [h, patF, if_pos (.inl h63)])
        clear h63
        go_wp2
        refine bodyPost_ret (v := (nvLeaf 4 f s.data.toList 0).val) ?_ rfl ?_
        · simp [results, Tryd.results106, go_sem, NV.val, nvLeaf, bd0, str, lz, fz0, fz1, fz2, fz3, fz4, fz5, fz6, fz7, fz8, fz9, fz10, fz11, z0, z1, z2, z3, z4, z5, z6, z7, z8, z9, z10, z11]
        · refine ⟨?_, _, _, _, HR.out, rfl⟩
          repeat (first | with_reducible exact HBW.out | with_reducible refine Below.setCell ?_ (by show w.heap.size ≤ w.heap.size; exact Nat.le_refl _) _)
      have e63 : ((s[i].toNat : Int) == 63) = false := HU.out.1.trans (decide_eq_false h63)
      by_cases h42 : s[i] = 42
      · have e42 : ((s[i].toNat : Int) == 42) = true := by rw [h42]; rfl
        rcases HNIL.out with ⟨hd, hn⟩ | ⟨d, r, hn, hd⟩
        · have HR := Lib.hid (show patN f s.data.toList = ndLeaf 3 f L 0 from by rw [HPN.out, HPD.out, hd, patF, if_pos h42])
          have HC := Lib.hid HO.out.conv
          have hcv := fun (W : World) (hW : OwnB W w1.heap.size (.slice A5 L.length c5) L) => hW.conv
          have hcv2 := HC.out
          clear h42 h63 hd hcv
          have e3 : decide ((i : Int) + 1 < (s.size : Int)) = false := by simp; omega
          go_wp2
          refine bodyPost_ret (v := (nvLeaf 3 f L 0).val) ?_ rfl ?_
          · simp [results, Tryd.results106, go_sem, NV.val, nvLeaf, bd0, str, lz, fz0, fz1, fz2, fz3, fz4, fz5, fz6, fz7, fz8, fz9, fz10, fz11, z0, z1, z2, z3, z4, z5, z6, z7, z8, z9, z10, z11]
          · refine ⟨?_, _, _, _, HR.out, rfl⟩
            repeat (first | with_reducible exact HBW.out | with_reducible refine Below.setCell ?_ (by show w.heap.size ≤ w.heap.size; exact Nat.le_refl _) _)
        · have HR := Lib.hid (show patN f s.data.toList = ndLeaf 4 f s.data.toList 0 from by rw [HPN.out, HPD.out, hd, patF, if_pos (.inr h42)])
          clear h42 h63 hd
          go_wp2
          refine bodyPost_ret (v := (nvLeaf 4 f s.data.toList 0).val) ?_ rfl ?_
          · simp [results, Tryd.results106, go_sem, NV.val, nvLeaf, bd0, str, lz, fz0, fz1, fz2, fz3, fz4, fz5, fz6, fz7, fz8, fz9, fz10, fz11, z0, z1, z2, z3, z4, z5, z6, z7, z8, z9, z10, z11]
          · refine ⟨?_, _, _, _, HR.out, rfl⟩
            repeat (first | with_reducible exact HBW.out | with_reducible refine Below.setCell ?_ (by show w.heap.size ≤ w.heap.size; exact Nat.le_refl _) _)
      have e42 : ((s[i].toNat : Int) == 42) = false := HU.out.2.1.trans (decide_eq_false h42)
      by_cases h92 : s[i] = 92
      · have e92 : ((s[i].toNat : Int) == 92) = true := by rw [h92]; rfl
        rcases HNIL.out with ⟨hd, hn⟩ | ⟨d, r, hn, hd⟩
        · exact absurd h92 (by have h := HPOD.out; rw [hd] at h; exact h)
        · have hdv : d = s[i + 1] ∧ r = s.data.toList.drop (i + 2) := by
            have h := hd
            rw [List.drop_eq_getElem_cons (show i + 1 < s.data.toList.length from by rw [← ba_size]; exact hn)] at h
            injection h with h1 h2
            exact ⟨h1.symm, h2.symm⟩
          have HN2 := Lib.hid (show patF f s.data.toList [] s.data.toList = patF f s.data.toList (L ++ [s[i + 1]]) (s.data.toList.drop (i + 2)) from by
            rw [HPD.out, hd, patF, if_neg (by rw [not_or]; exact ⟨h63, h42⟩), if_pos h92, ← hdv.1, ← hdv.2])
          have HK2 := Lib.hid (show patOk (s.data.toList.drop (i + 2)) from by
            have h := HPOD.out
            rw [hd, patOk, if_pos h92] at h
            rw [← hdv.2]; exact h)
          have hbx2 := u8_lt s[i + 1]
          have hwk2 : IntKind.i64.wrap ((i : Int) + 1 + 1) = (i : Int) + 1 + 1 := IntWalk.i64_in _ (by omega)
          clear h92 h63 h42 hd hdv
          go_wp2_with (at_builtin; refine OwnB.append HO.out s[i + 1].toNat (by omega) (by omega) rfl _ _ rfl rfl rfl hsz ?_ ?_)
          · omega
          · intro v' w' h2 h3
            have H2 := Lib.hid h2; have HB3 := Lib.hid (HB.out.trans h3)
            clear h2 h3
            go_wp2
            go_roundw
            case rel => exact ⟨i + 2, L ++ [s[i + 1]], by omega, by go_num, by have h := H2.out; simpa using h, by rw [List.length_append, List.length_singleton]; omega, HN2.out, HK2.out, HB3.out⟩
            case measure => simp [intOf]; omega
      have e92 : ((s[i].toNat : Int) == 92) = false := HU.out.2.2.trans (decide_eq_false h92)
      have HN2 := Lib.hid (show patF f s.data.toList [] s.data.toList = patF f s.data.toList (L ++ [s[i]]) (s.data.toList.drop (i + 1)) from by
        rw [HPD.out]
        rcases HNIL.out with ⟨hd, _⟩ | ⟨d, r, _, hd⟩
        · rw [hd]; unfold patF; rw [if_neg h42]
        · rw [hd, patF, if_neg (by rw [not_or]; exact ⟨h63, h42⟩), if_neg h92])
      have HK2 := Lib.hid (show patOk (s.data.toList.drop (i + 1)) from by
        have h := HPOD.out
        rcases HNIL.out with ⟨hd, _⟩ | ⟨d, r, _, hd⟩
        · rw [hd]; trivial
        · rw [hd, patOk, if_neg h92] at h
          rw [hd]; exact h)
      clear h92 h63 h42
      go_wp2_with (at_builtin; refine OwnB.append HO.out s[i].toNat (by omega) (by omega) rfl _ _ rfl rfl rfl hsz ?_ ?_)
      · omega
      · intro v' w' h2 h3
        have H2 := Lib.hid h2; have HB3 := Lib.hid (HB.out.trans h3)
        clear h2 h3
        go_wp2
        go_roundw
        case rel => exact ⟨i + 1, L ++ [s[i]], by omega, by go_num, by have h := H2.out; simpa using h, by rw [List.length_append, List.length_singleton]; omega, HN2.out, HK2.out, HB3.out⟩
        case measure => simp [intOf]; omega
    · have HR := Lib.hid (show patN f s.data.toList = ndLeaf 4 f s.data.toList 0 from by rw [HPN.out, HP.out, List.drop_eq_nil_of_le (by rw [← ba_size]; omega), patF])
      go_wp2
      refine bodyPost_ret (v := (nvLeaf 4 f s.data.toList 0).val) ?_ rfl ?_
      · simp [results, Tryd.results106, go_sem, NV.val, nvLeaf, bd0, str, lz, fz0, fz1, fz2, fz3, fz4, fz5, fz6, fz7, fz8, fz9, fz10, fz11, z0, z1, z2, z3, z4, z5, z6, z7, z8, z9, z10, z11]
      · refine ⟨?_, _, _, _, HR.out, rfl⟩
        repeat (first | with_reducible exact HBW.out | with_reducible refine Below.setCell ?_ (by show w.heap.size ≤ w.heap.size; exact Nat.le_refl _) _)
end Go.Proofs.YtcomdkejpaoneaaDoor
end
