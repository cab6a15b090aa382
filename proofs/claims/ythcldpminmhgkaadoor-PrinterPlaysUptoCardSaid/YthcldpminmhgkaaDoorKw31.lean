/- Merged for a claim by shake.py: Jbc Jao Jbg Jap -/
import Derived.Test.YthcldpminmhgkaaDoorKwA
import Derived.Test.YthcldpminmhgkaaDoorKw29
import Derived.Test.YthcldpminmhgkaaDoorKw30
set_option maxRecDepth 100000
set_option maxHeartbeats 4000000
set_option linter.unusedSimpArgs false
set_option linter.unusedVariables false
section
namespace Go.Proofs.YthcldpminmhgkaaDoor
open Go.RowKit
theorem first_good : goodN firstN = true := by simp [firstN, orN, termN, goodN, goodNs, ownN, bd0, Bd.nil]
theorem first_canon : canonN firstN = firstN := by simp [firstN, orN, termN, canonN, canonNs, canTop]
theorem first_nest : nestN firstN = 1 := by simp [firstN, orN, termN, nestN, nestNs, levN, levK, barK, deepK]
theorem first_size : sizeN firstN = 5 := by simp [firstN, orN, termN, sizeN, sizeNs]
theorem first_bk : bkN firstN ≤ 300000000000 := by simp [firstN, orN, termN, bkN, bkNs, bd0]
theorem first_form : formN firstN = [97, 32, 65, 78, 68, 32, 40, 98, 32, 79, 82, 32, 99, 41] := by
 have e1 : wordL [97] = [97] := by decide
 have e2 : wordL [98] = [98] := by decide
 have e3 : wordL [99] = [99] := by decide
 simp [firstN, orN, termN, formN, formNs, levN, levK, barK, brF, sepF, aroundF, headF, leafF, e1, e2, e3]
theorem first_print (w : World) (ea : List Addr) (hE : LawEnv w ea) (F : Nat → Prop) (y : NV) (hy : NdR w F y firstN) : Calls Tryd.prog 19 #[y.val] w fun e w' => Below w.heap.size w w' ∧ e = .returned (.tuple #[.string ⟨#[97, 32, 65, 78, 68, 32, 40, 98, 32, 79, 82, 32, 99, 41]⟩, .nilIface]) := by
 have h := pprint_yes firstN first_good w F y ea 17 hy first_bk hE.pr hE.node
 rw [first_canon, first_form] at h
 exact h
theorem first_nestc (w : World) (ea : List Addr) (hE : LawEnv w ea) (F : Nat → Prop) (y : NV) (hy : NdR w F y firstN) : Calls Tryd.prog 20 #[y.val] w fun e w' => Below w.heap.size w w' ∧ e = .returned (.tuple #[.int .i64 1, .nilIface]) := by
 have h := pnestw_yes firstN first_good w F y ea 17 hy (Nat.le_trans first_bk (by decide)) hE.pr hE.node
 rw [first_canon, first_nest] at h
 exact h
theorem first_sizec (w : World) (F : Nat → Prop) (y : NV) (hy : NdR w F y firstN) : Calls Tryd.prog 18 #[y.val] w fun e w' => e = .returned (.int .i64 5) ∧ Below w.heap.size w w' := by
 have h := psize_any firstN w F y hy (Nat.le_trans first_bk (by decide))
 unfold SzRet at h
 rw [first_size] at h
 exact h
theorem first_samec (w : World) (F G : Nat → Prop) (x y : NV) (hx : NdR w F x firstN) (hy : NdR w G y firstN) : Calls Tryd.prog 14 #[x.val, y.val] w (BoolRet true w) := by
 have h := psame_any firstN firstN w F G x y hx hy
 rw [show sameN firstN firstN = true from (same_iff _ _).2 rfl] at h
 exact h
def zeroN : Nd := .mk 0 [] [] 0 bd0 bd0 [] []
theorem zero_bad : goodN zeroN = false := by simp [zeroN, goodN, ownN]
theorem zero_check (w : World) (ea : List Addr) (hE : LawEnv w ea) : Calls Tryd.prog 17 #[.agg zA] w fun e w' => e = .returned (errI ea 17) ∧ Below w.heap.size w w' := by
 have h := pcheck_any zeroN w (fun _ => False) ⟨0, [], [], 0, bd0, bd0, ⟨none, 0, 0⟩, ⟨none, 0, 0⟩⟩ ea 17 (.mk (RdF.nil _ _ _) (RdF.nil _ _ _) rfl fun i x t hx _ => by simp at hx) (by simp [zeroN, bkN, bkNs, bd0]) hE.pr.asks hE.node
 refine h.mono fun e w' h2 => ?_
 obtain ⟨h3, h4⟩ := h2.ino zero_bad
 exact ⟨h4, h3⟩
theorem fixed_any (w : World) (ea : List Addr) (hE : LawEnv w ea) : Calls Tryd.prog 9 #[] w (BoolRet true w) := by
 have HE := LH hE
 have HF := LH (fun W => first_any W)
 have HB0 := LH (Below.refl w.heap.size w)
 clear hE
 go_enter Tryd.func9, Tryd.ntmps9
 go_wp2_with fail
 refine (HF.out _).mono ?_
 rintro e w1 ⟨hb1, kdA, xnA, flA, txA, laA, lbA, lcA, raA, rbA, rcA, oaA, onA, ocA, kaA, knA, kcA, rfl, hx⟩
 have HXA := LH hx
 have HB1 := LH (HB0.out.trans (hb1.mono HB0.out.size))
 have HE1 := LH (HE.out.below HB1.out)
 clear hb1 hx
 have HC := LH (first_print w1 ea HE1.out _ _ HXA.out)
 unfold NV.val at HC
 simp only [] at HC
 go_wp2_with fail
 refine HC.out.mono ?_
 rintro e w2 ⟨hb2, rfl⟩
 have HB2 := LH (HB1.out.trans (hb2.mono HB1.out.size))
 have HE2 := LH (HE.out.below HB2.out)
 clear HC
 go_wp2_with fail
 refine (HF.out _).mono ?_
 rintro e w3 ⟨hb3, kdB, xnB, flB, txB, laB, lbB, lcB, raB, rbB, rcB, oaB, onB, ocB, kaB, knB, kcB, rfl, hx⟩
 have HXB := LH hx
 have HB3 := LH (HB2.out.trans (hb3.mono HB2.out.size))
 have HE3 := LH (HE.out.below HB3.out)
 clear hb3 hx
 have HC := LH (first_nestc w3 ea HE3.out _ _ HXB.out)
 unfold NV.val at HC
 simp only [] at HC
 go_wp2_with fail
 refine HC.out.mono ?_
 rintro e w4 ⟨hb4, rfl⟩
 have HB4 := LH (HB3.out.trans (hb4.mono HB3.out.size))
 have HE4 := LH (HE.out.below HB4.out)
 clear HC
 go_wp2_with fail
 refine (HF.out _).mono ?_
 rintro e w5 ⟨hb5, kdC, xnC, flC, txC, laC, lbC, lcC, raC, rbC, rcC, oaC, onC, ocC, kaC, knC, kcC, rfl, hx⟩
 have HXC := LH hx
 have HB5 := LH (HB4.out.trans (hb5.mono HB4.out.size))
 have HE5 := LH (HE.out.below HB5.out)
 clear hb5 hx
 have HC := LH (first_sizec w5 _ _ HXC.out)
 unfold NV.val at HC
 simp only [] at HC
 go_wp2_with fail
 refine HC.out.mono ?_
 rintro e w6 ⟨rfl, hb6⟩
 have HB6 := LH (HB5.out.trans (hb6.mono HB5.out.size))
 have HE6 := LH (HE.out.below HB6.out)
 clear HC
 have HC := LH (zero_check w6 ea HE6.out)
 go_wp2_with fail
 refine HC.out.mono ?_
 rintro e w7 ⟨rfl, hb7⟩
 have HB7 := LH (HB6.out.trans (hb7.mono HB6.out.size))
 have HE7 := LH (HE.out.below HB7.out)
 clear HC
 have HNM := LH (Num_17 ea w7 HE7.out.er)
 go_wp2_with fail
 refine HNM.out.mono ?_
 rintro e w8 ⟨rfl, rfl⟩
 go_wp2_with fail
 refine (HF.out _).mono ?_
 rintro e w9 ⟨hb9, kdD, xnD, flD, txD, laD, lbD, lcD, raD, rbD, rcD, oaD, onD, ocD, kaD, knD, kcD, rfl, hx⟩
 have HXD := LH hx
 have HB9 := LH (HB7.out.trans (hb9.mono HB7.out.size))
 have HE9 := LH (HE.out.below HB9.out)
 have HLT := LH hb9
 clear hb9 hx
 go_wp2_with fail
 refine (HF.out _).mono ?_
 rintro e w10 ⟨hb10, kdE, xnE, flE, txE, laE, lbE, lcE, raE, rbE, rcE, oaE, onE, ocE, kaE, knE, kcE, rfl, hx⟩
 have HXE := LH hx
 have HB10 := LH (HB9.out.trans (hb10.mono HB9.out.size))
 have HE10 := LH (HE.out.below HB10.out)
 have HXD2 := LH (HXD.out.belowW hb10)
 clear hb10 hx
 have HC := LH (first_samec w10 _ _ _ _ HXD2.out HXE.out)
 unfold NV.val at HC
 simp only [] at HC
 go_wp2_with fail
 refine HC.out.mono ?_
 rintro e w11 ⟨rfl, hb11⟩
 have HB11 := LH (HB10.out.trans (hb11.mono HB10.out.size))
 have HE11 := LH (HE.out.below HB11.out)
 clear HC
 go_wp2
 go_ret
 exact ⟨rfl, HB11.out⟩
theorem decN_small {n : Nat} (h : n < 10) : decN n = [UInt8.ofNat (48 + n)] := by unfold decN; exact Lib.decDigits_one h
theorem decN_big {n : Nat} (h : ¬ n < 10) : decN n = decN (n / 10) ++ [UInt8.ofNat (48 + n % 10)] := by
 unfold decN
 rw [Lib.decDigits, dif_neg h]
def dgP (m : Nat) : List UInt8 := if m = 0 then [] else decN m
theorem dgP_step {m : Nat} (h : 0 < m) : dgP m = dgP (m / 10) ++ [UInt8.ofNat (48 + m % 10)] := by
 unfold dgP
 rw [if_neg (by omega)]
 by_cases h2 : m < 10
 ·rw [if_pos (by omega), decN_small h2, Nat.mod_eq_of_lt h2]; rfl
 ·rw [if_neg (by omega), decN_big h2]
theorem chr_dig15 (m : Nat) : (chr (48 + (m : Int) % 10)).data.toList = [UInt8.ofNat (48 + m % 10)] := by
 rw [chr_data]
 congr 2
def strSz : Value → Nat
 | .string s => s.size
 | _ => 0
def RdgRel (n : Nat) (w : World) (nv sv : Value) (wr : World) : Prop :=
 ∃ (m : Nat) (s : ByteArray), m ≤ n ∧ nv = .int .i64 (m : Int) ∧ sv = .string s ∧ ((s = ⟨#[]⟩ ∧ m = n) ∨ (0 < s.size ∧ decN n = dgP m ++ s.data.toList)) ∧ Below w.heap.size w wr
theorem rdg_size {n m : Nat} {s : ByteArray} (hn : n < 9223372036854775808) (h : decN n = dgP m ++ s.data.toList) : s.size ≤ 20 := by
 have h1 := decN_len n hn
 rw [h, List.length_append, ← ba_size] at h1
 omega
theorem rdigits_any (n : Nat) (hn : n < 9223372036854775808) (w : World) :
  Calls Tryd.prog 95 #[.int .i64 (n : Int)] w (StrRet (str (decN n)) w) := by
 have hcv := fun (W : World) (x : Int) => conv_one (P := Tryd.prog) 64 5 5 Tryd.underlying64 Tryd.underlying5 9 Tryd.underlying9 W x
 go_enter Tryd.func95, Tryd.ntmps95
 go_wp2
 go_loopw [0, 3] (fun nv sv wr => RdgRel n w nv sv wr) (fun nv sv _ => (intOf nv).toNat + (1 - strSz sv))
 case atStart => exact ⟨n, ⟨#[]⟩, Nat.le_refl _, rfl, rfl, .inl ⟨rfl, rfl⟩, Below.refl _ _⟩
 case round =>
  obtain ⟨m, s, hm, rfl, rfl, hd, hb⟩ := hrel
  have HB := LH hb
  have hBr := hb.size
  clear hb
  have hcs := chr_size (48 + (m : Int) % 10)
  have hm1 : 0 ≤ (m : Int) % 10 ∧ (m : Int) % 10 ≤ 9 := by omega
  have hm3 : 0 ≤ (m : Int) ∧ (m : Int) ≤ 9223372036854775807 := by omega
  have hm2 : 0 ≤ (m : Int) / 10 ∧ (m : Int) / 10 ≤ 9223372036854775807 := by omega
  by_cases hlt : 0 < m
  ·have hszs : s.size ≤ 20 := by
    rcases hd with ⟨rfl, _⟩ | ⟨_, h⟩
    ·exact Nat.zero_le _
    ·exact rdg_size hn h
   have HN := LH (show 0 < (chr (48 + (m : Int) % 10) ++ s).size ∧ decN n = dgP (m / 10) ++ (chr (48 + (m : Int) % 10) ++ s).data.toList from by
    refine ⟨by rw [ba_append_size, hcs]; omega, ?_⟩
    rw [ba_append, chr_dig15, ← List.append_assoc, ← dgP_step hlt]
    rcases hd with ⟨rfl, rfl⟩ | ⟨_, h⟩
    ·unfold dgP; rw [if_neg (by omega)]; simp
    ·exact h)
   have hszz : (chr (48 + (m : Int) % 10)).size + s.size ≤ 100 := by rw [hcs]; omega
   have hd1 : decide ((0 : Int) < (m : Int)) = true := decide_eq_true (by omega)
   have hd2 : decide (0 < m) = true := decide_eq_true hlt
   have HLT := LH hlt
   have HCS := LH hcs
   have HM := LH hm
   clear hd hcs hm
   go_wp2
   go_roundw
   case rel => exact ⟨m / 10, chr (48 + (m : Int) % 10) ++ s, by have := HM.out; omega, by go_num, rfl, .inr HN.out, HB.out.alloc hBr _⟩
   case measure => have := HLT.out; have := HN.out.1; simp [intOf, strSz]; omega
  ·obtain rfl : m = 0 := by omega
   rcases hd with ⟨rfl, rfl⟩ | ⟨hs, h⟩
   ·have HN := LH (show 0 < (chr 48 ++ ⟨#[]⟩ : ByteArray).size ∧ decN 0 = dgP 0 ++ (chr 48 ++ ⟨#[]⟩ : ByteArray).data.toList from ⟨by decide, by rw [decN_small (by decide)]; rfl⟩)
    go_wp2
    go_roundw
    case rel => exact ⟨0, _, Nat.le_refl _, by go_num, rfl, .inr HN.out, HB.out.alloc hBr _⟩
    case measure => first | decide | (simp [intOf, strSz, chr_size]) | (have := HN.out.1; simp [intOf, strSz]; omega)
   ·have HF := LH (show s = str (decN n) from ba_ext (by rw [str_data, h]; rfl))
    have h0 : s.toList ≠ [] := by rw [ba_toList]; intro e; rw [ba_size, e] at hs; exact absurd hs (by decide)
    have e1 : (s.toList == []) = false := by rw [beq_eq_false_iff_ne]; exact h0
    have e2 : s.toList.isEmpty = false := by cases hq : s.toList with | nil => exact absurd hq h0 | cons c q => rfl
    clear h hs hcs
    go_wp2
    go_ret
    exact ⟨congrArg (fun z => Ending.returned (.string z)) HF.out, HB.out⟩
theorem pprint_as {ar c : Nd} {fs : ByteArray} (hg : goodN ar = true) (hc : canonN ar = c) (hf : str (formN c) = fs) {w : World} {F : Nat → Prop} {x : NV} {ea : List Addr} (hx : NdR w F x ar) (hbk : bkN ar ≤ 300000000000) (hE : LawEnv w ea) :
  Calls Tryd.prog 19 #[x.val] w fun e w' => Below w.heap.size w w' ∧ e = .returned (.tuple #[.string fs, .nilIface]) := by
 have h := pprint_yes ar hg w F x ea 17 hx hbk hE.pr hE.node
 rw [hc, hf] at h
 exact h
theorem pcanon_as {ar c : Nd} (hg : goodN ar = true) (hc : canonN ar = c) {w : World} {F : Nat → Prop} {x : NV} {ea : List Addr} (hx : NdR w F x ar) (hbk : bkN ar ≤ 300000000000) (hE : LawEnv w ea) :
  Calls Tryd.prog 16 #[x.val] w (TrE2 c .nilIface w) := by
 have h := pcanonw_yes ar hg w F x ea 17 hx (Nat.le_trans hbk (by decide)) hE.pr.asks hE.node
 rw [hc] at h
 exact h
theorem pnest_as {ar c : Nd} {d : Nat} (hg : goodN ar = true) (hc : canonN ar = c) (hd : nestN c = d) {w : World} {F : Nat → Prop} {x : NV} {ea : List Addr} (hx : NdR w F x ar) (hbk : bkN ar ≤ 300000000000) (hE : LawEnv w ea) :
  Calls Tryd.prog 20 #[x.val] w fun e w' => Below w.heap.size w w' ∧ e = .returned (.tuple #[.int .i64 (d : Int), .nilIface]) := by
 have h := pnestw_yes ar hg w F x ea 17 hx (Nat.le_trans hbk (by decide)) hE.pr hE.node
 rw [hc, hd] at h
 exact h
theorem psame_as {t u : Nd} {b : Bool} (h : sameN t u = b) {w : World} {F G : Nat → Prop} {x y : NV} (hx : NdR w F x t) (hy : NdR w G y u) :
  Calls Tryd.prog 14 #[x.val, y.val] w fun e w' => e = .returned (.bool b) ∧ Below w.heap.size w w' := by
 have h2 := psame_any t u w F G x y hx hy
 rw [h] at h2
 exact h2
theorem rsame_as {t u : Nd} {b : Bool} (h : sameN t u = b) {w : World} {F G : Nat → Prop} {x y : NV} (hx : NdR w F x t) (hy : NdR w G y u) :
  Calls Tryd.prog 13 #[x.val, y.val] w fun e w' => e = .returned (.bool b) ∧ Below w.heap.size w w' := by
 have h2 := rsame_any t u w F G x y hx hy
 rw [h] at h2
 exact h2
theorem same_self (t : Nd) : sameN t t = true := (same_iff _ _).2 rfl
theorem rside_any (a b : Bool) (l : List UInt8) (w : World) (hl : l.length ≤ 300000000000) :
  Calls Tryd.prog 117 #[.agg #[.bool a, .bool b, .string (str l)]] w (StrRet (str (sideF ⟨a, b, l⟩)) w) := by
 have HB := LH ((Below.refl w.heap.size w).alloc (Nat.le_refl _) (.cells #[.bool a, .bool b, .string (str l)] 23))
 cases a with
 | true =>
  go_enter Tryd.func117, Tryd.ntmps117
  go_wp2
  go_ret
  exact ⟨ret_strx (by unfold sideF; rw [if_pos rfl]; rfl), HB.out⟩
 | false =>
  by_cases h0 : l = []
  ·subst h0
   have t0 : ((str []).toList == []) = true := by rw [ba_toList]; rfl
   have HQ := LH (fun W => refQuote_any (str []) W (by show (0 : Nat) ≤ _; omega))
   go_enter Tryd.func117, Tryd.ntmps117
   go_wp2_with fail
   refine (HQ.out _).mono ?_
   rintro e w2 ⟨rfl, hb2⟩
   have HB2 := LH (HB.out.trans (hb2.mono HB.out.size))
   clear hb2
   go_wp2
   go_ret
   exact ⟨ret_strx (by unfold sideF; rw [if_neg (by simp), if_pos rfl]; rfl), HB2.out⟩
  ·have t0 : ((str l).toList == []) = false := by rw [ba_toList, str_data]; cases l with | nil => exact absurd rfl h0 | cons c l => rfl
   have HQ := LH (fun W => refWord_any (str l) W (by rw [str_size]; omega))
   have HF := LH (show sideF ⟨false, b, l⟩ = wordL l from by unfold sideF; rw [if_neg (by simp), if_neg h0])
   simp only [str_data] at HQ
   clear h0
   go_enter Tryd.func117, Tryd.ntmps117
   go_wp2_with fail
   refine (HQ.out _).mono ?_
   rintro e w2 ⟨rfl, hb2⟩
   have HB2 := LH (HB.out.trans (hb2.mono HB.out.size))
   clear hb2
   go_wp2
   go_ret
   exact ⟨ret_strx (by rw [HF.out]), HB2.out⟩
theorem slice_one15 (s : ByteArray) (k : Nat) (h : k < s.size) : (s.extract k (k + 1)).data.toList = [s[k]] ∧ (s.extract k (k + 1)).size = 1 := by
 constructor
 ·rw [ByteArray.data_extract, Array.toList_extract]
  have h2 : k < s.data.toList.length := by rw [Array.length_toList]; exact h
  rw [List.extract_eq_take_drop, show k + 1 - k = 1 by omega, List.drop_eq_getElem_cons h2]
  rfl
 ·rw [ByteArray.size_extract]; omega
def StRel (s : ByteArray) (w : World) (pv iv : Value) (wr : World) : Prop := ∃ (k : Nat) (p : ByteArray), k ≤ s.size ∧ iv = .int .i64 (k : Int) ∧ pv = .string p ∧ p.data.toList = litL (s.data.toList.take k) ∧ Below w.heap.size w wr
theorem starred_any (s : ByteArray) (w : World) (hs : s.size ≤ 900000000000) :
  Calls Tryd.prog 104 #[.string s] w (StrRet (str (litL s.data.toList ++ [42])) w) := by
 go_enter Tryd.func104, Tryd.ntmps104
 go_wp2
 go_loopw [3, 4] (fun v i wr => StRel s w v i wr) (fun _ i _ => s.size - (RowKit.intOf i).toNat)
 case atStart => exact ⟨0, ⟨#[]⟩, by omega, rfl, rfl, rfl, Below.refl _ _⟩
 case round =>
  obtain ⟨k, p, hk, rfl, rfl, hp, hb⟩ := hrel
  have HB := LH hb; have HP := LH hp
  have hll : p.size ≤ 1800000000000 := by
   have h1 := litL_length (s.data.toList.take k)
   have h2 := List.length_take_le k s.data.toList
   rw [ba_size, hp]
   omega
  clear hb hp
  by_cases hlt : k < s.size
  ·have hbx := u8_lt s[k]
   have hkl : k < s.data.toList.length := by rw [← ba_size]; exact hlt
   have HT := LH (show litL (s.data.toList.take (k + 1)) = litL (s.data.toList.take k) ++ pesc s[k] from litL_take hkl)
   have HS1 := LH (slice_one15 s k hlt)
   have hx1 : (s.extract k (k + 1)).size = 1 := HS1.out.2
   have hx2 : p.size + (s.extract k (k + 1)).size ≤ 140737488355328 := by omega
   have hx3 : (p ++ ⟨#[92]⟩ : ByteArray).size + (s.extract k (k + 1)).size ≤ 140737488355328 := by rw [ba_append_size, show (⟨#[92]⟩ : ByteArray).size = 1 from rfl]; omega
   rcases pesc_cases s[k] with ⟨g1, g2⟩ | ⟨g1, g3, g2⟩ | ⟨g1, g3, g4, g2⟩ | ⟨g1, g3, g4, g2⟩
   ·have HX := LH g2; clear g2
    go_wp2
    go_roundw
    case rel =>
     refine ⟨k + 1, _, by omega, by go_num, rfl, ?_, HB.out⟩
     rw [HT.out, HX.out, ba_append, HS1.out.1]
     rw [ba_append, HP.out, List.append_assoc]; rfl
    case measure => simp [RowKit.intOf]; omega
   ·have HX := LH g2; clear g2
    go_wp2
    go_roundw
    case rel =>
     refine ⟨k + 1, _, by omega, by go_num, rfl, ?_, HB.out⟩
     rw [HT.out, HX.out, ba_append, HS1.out.1]
     rw [ba_append, HP.out, List.append_assoc]; rfl
    case measure => simp [RowKit.intOf]; omega
   ·have HX := LH g2; clear g2
    go_wp2
    go_roundw
    case rel =>
     refine ⟨k + 1, _, by omega, by go_num, rfl, ?_, HB.out⟩
     rw [HT.out, HX.out, ba_append, HS1.out.1]
     rw [ba_append, HP.out, List.append_assoc]; rfl
    case measure => simp [RowKit.intOf]; omega
   ·have HX := LH g2; clear g2
    go_wp2
    go_roundw
    case rel =>
     refine ⟨k + 1, _, by omega, by go_num, rfl, ?_, HB.out⟩
     rw [HT.out, HX.out, ba_append, HS1.out.1]
     rw [HP.out]
    case measure => simp [RowKit.intOf]; omega
  ·obtain rfl : k = s.size := by omega
   have HF := LH (show p ++ ⟨#[42]⟩ = str (litL s.data.toList ++ [42]) from ba_ext (by rw [ba_append, str_data, HP.out, List.take_of_length_le (by rw [← ba_size]; exact Nat.le_refl _)]))
   go_wp2
   go_ret
   exact ⟨ret_strx HF.out, HB.out⟩
theorem rspan_any (la lb ra rb : Bool) (n : Nat) (field text : List UInt8) (lc rc : List UInt8) (oa ka : Option Addr) (on oc kn kc : Nat) (w : World) (hlc : lc.length ≤ 300000000000) (hrc : rc.length ≤ 300000000000) :
  Calls Tryd.prog 105 #[.agg #[.int .i64 6, .string (str field), .string (str text), .int .i64 (n : Int), .bool la, .bool lb, .string (str lc), .bool ra, .bool rb, .string (str rc), .slice oa on oc, .slice ka kn kc]] w (StrRet (str (leafF 6 text n ⟨la, lb, lc⟩ ⟨ra, rb, rc⟩)) w) := by
 have HB := LH ((Below.refl w.heap.size w).alloc (Nat.le_refl _) (.cells #[.int .i64 6, .string (str field), .string (str text), .int .i64 (n : Int), .bool la, .bool lb, .string (str lc), .bool ra, .bool rb, .string (str rc), .slice oa on oc, .slice ka kn kc] 27))
 have HW := LH (Blk.new w 27 #[.int .i64 6, .string (str field), .string (str text), .int .i64 (n : Int), .bool la, .bool lb, .string (str lc), .bool ra, .bool rb, .string (str rc), .slice oa on oc, .slice ka kn kc])
 have HSF := LH (fun (W : World) (hW : Below (w.alloc (.cells #[.int .i64 6, .string (str field), .string (str text), .int .i64 (n : Int), .bool la, .bool lb, .string (str lc), .bool ra, .bool rb, .string (str rc), .slice oa on oc, .slice ka kn kc] 27)).heap.size (w.alloc (.cells #[.int .i64 6, .string (str field), .string (str text), .int .i64 (n : Int), .bool la, .bool lb, .string (str lc), .bool ra, .bool rb, .string (str rc), .slice oa on oc, .slice ka kn kc] 27)) W) => (show W.cell? ⟨w.heap.size, 0, none⟩ = some (.int .i64 6) ∧ W.cell? ⟨w.heap.size, 1, none⟩ = some (.string (str field)) ∧ W.cell? ⟨w.heap.size, 2, none⟩ = some (.string (str text)) ∧ W.cell? ⟨w.heap.size, 3, none⟩ = some (.int .i64 (n : Int)) ∧ W.cell? ⟨w.heap.size, 4, none⟩ = some (.bool la) ∧ W.cell? ⟨w.heap.size, 5, none⟩ = some (.bool lb) ∧ W.cell? ⟨w.heap.size, 6, none⟩ = some (.string (str lc)) ∧ W.cell? ⟨w.heap.size, 7, none⟩ = some (.bool ra) ∧ W.cell? ⟨w.heap.size, 8, none⟩ = some (.bool rb) ∧ W.cell? ⟨w.heap.size, 9, none⟩ = some (.string (str rc)) ∧ Below (w.alloc (.cells #[.int .i64 6, .string (str field), .string (str text), .int .i64 (n : Int), .bool la, .bool lb, .string (str lc), .bool ra, .bool rb, .string (str rc), .slice oa on oc, .slice ka kn kc] 27)).heap.size (w.alloc (.cells #[.int .i64 6, .string (str field), .string (str text), .int .i64 (n : Int), .bool la, .bool lb, .string (str lc), .bool ra, .bool rb, .string (str rc), .slice oa on oc, .slice ka kn kc] 27)) W from by
  have hb := HW.out.belowW hW
  refine ⟨hb.cell 0, hb.cell 1, hb.cell 2, hb.cell 3, hb.cell 4, hb.cell 5, hb.cell 6, hb.cell 7, hb.cell 8, hb.cell 9, hW⟩))
 have HC1 := LH (fun (W : World) (hW : Below (w.alloc (.cells #[.int .i64 6, .string (str field), .string (str text), .int .i64 (n : Int), .bool la, .bool lb, .string (str lc), .bool ra, .bool rb, .string (str rc), .slice oa on oc, .slice ka kn kc] 27)).heap.size (w.alloc (.cells #[.int .i64 6, .string (str field), .string (str text), .int .i64 (n : Int), .bool la, .bool lb, .string (str lc), .bool ra, .bool rb, .string (str rc), .slice oa on oc, .slice ka kn kc] 27)) W) => (show Calls Tryd.prog 117 #[.agg #[.bool la, .bool lb, .string (str lc)]] W fun e w' => e = .returned (.string (str (sideF ⟨la, lb, lc⟩))) ∧ Below (w.alloc (.cells #[.int .i64 6, .string (str field), .string (str text), .int .i64 (n : Int), .bool la, .bool lb, .string (str lc), .bool ra, .bool rb, .string (str rc), .slice oa on oc, .slice ka kn kc] 27)).heap.size (w.alloc (.cells #[.int .i64 6, .string (str field), .string (str text), .int .i64 (n : Int), .bool la, .bool lb, .string (str lc), .bool ra, .bool rb, .string (str rc), .slice oa on oc, .slice ka kn kc] 27)) w' from (rside_any la lb lc W (by omega)).mono (fun e w' h => ⟨h.1, hW.trans (h.2.mono hW.size)⟩)))
 have HC2 := LH (fun (W : World) (hW : Below (w.alloc (.cells #[.int .i64 6, .string (str field), .string (str text), .int .i64 (n : Int), .bool la, .bool lb, .string (str lc), .bool ra, .bool rb, .string (str rc), .slice oa on oc, .slice ka kn kc] 27)).heap.size (w.alloc (.cells #[.int .i64 6, .string (str field), .string (str text), .int .i64 (n : Int), .bool la, .bool lb, .string (str lc), .bool ra, .bool rb, .string (str rc), .slice oa on oc, .slice ka kn kc] 27)) W) => (show Calls Tryd.prog 117 #[.agg #[.bool ra, .bool rb, .string (str rc)]] W fun e w' => e = .returned (.string (str (sideF ⟨ra, rb, rc⟩))) ∧ Below (w.alloc (.cells #[.int .i64 6, .string (str field), .string (str text), .int .i64 (n : Int), .bool la, .bool lb, .string (str lc), .bool ra, .bool rb, .string (str rc), .slice oa on oc, .slice ka kn kc] 27)).heap.size (w.alloc (.cells #[.int .i64 6, .string (str field), .string (str text), .int .i64 (n : Int), .bool la, .bool lb, .string (str lc), .bool ra, .bool rb, .string (str rc), .slice oa on oc, .slice ka kn kc] 27)) w' from (rside_any ra rb rc W (by omega)).mono (fun e w' h => ⟨h.1, hW.trans (h.2.mono hW.size)⟩)))
 have HF := LH (fun (o z : UInt8) (ho : (if lb = true ∨ la = true then 91 else 123) = o) (hz : (if rb = true ∨ ra = true then 93 else 125) = z) => (show str [o] ++ str (sideF ⟨la, lb, lc⟩) ++ ⟨#[32, 84, 79, 32]⟩ ++ str (sideF ⟨ra, rb, rc⟩) ++ str [z] = str (leafF 6 text n ⟨la, lb, lc⟩ ⟨ra, rb, rc⟩) from by
  rw [← ho, ← hz, show (⟨#[32, 84, 79, 32]⟩ : ByteArray) = str [32, 84, 79, 32] from rfl, cat15, cat15, cat15, cat15]
  unfold leafF
  simp))
 have g1 := sideF_len ⟨la, lb, lc⟩
 have g2 := sideF_len ⟨ra, rb, rc⟩
 simp only [] at g1 g2
 rw [← str_size] at g1 g2
 generalize str (sideF ⟨la, lb, lc⟩) = sa at *
 generalize str (sideF ⟨ra, rb, rc⟩) = sb at *
 have HOR := LH (fun (a b : Bool) (v : Bool) (h : (b || a) = v) (x y : UInt8) => (show (if b = true ∨ a = true then x else y) = (if v = true then x else y) from by rw [← h]; cases a <;> cases b <;> rfl))
 go_enter Tryd.func105, Tryd.ntmps105
 go_upto_region 2 with (fail)
 go_cut [11] (fun v wx => v = .bool (lb || la) ∧ wx = (w.alloc (.cells #[.int .i64 6, .string (str field), .string (str text), .int .i64 (n : Int), .bool la, .bool lb, .string (str lc), .bool ra, .bool rb, .string (str rc), .slice oa on oc, .slice ka kn kc] 27)))
 case first =>
  cases la <;> cases lb
  all_goals
   go_wp2
   go_meet
   exact ⟨rfl, rfl⟩
 case rest =>
 obtain ⟨rfl, rfl⟩ := hcut
 cases hlo : (lb || la)
 ·have H1 := LH (HOR.out la lb _ hlo 91 123)
  clear hlo
  have q1 := fun W => str_add (P := Tryd.prog) ⟨#[123]⟩ sa (by rw [show (⟨#[123]⟩ : ByteArray).size = 1 from rfl]; omega) W
  have q2 := fun W => str_add (P := Tryd.prog) (⟨#[123]⟩ ++ sa) ⟨#[32, 84, 79, 32]⟩ (by rw [ba_append_size, show (⟨#[123]⟩ : ByteArray).size = 1 from rfl, show (⟨#[32, 84, 79, 32]⟩ : ByteArray).size = 4 from rfl]; omega) W
  have q3 := fun W => str_add (P := Tryd.prog) (⟨#[123]⟩ ++ sa ++ ⟨#[32, 84, 79, 32]⟩) sb (by rw [ba_append_size, ba_append_size, show (⟨#[123]⟩ : ByteArray).size = 1 from rfl, show (⟨#[32, 84, 79, 32]⟩ : ByteArray).size = 4 from rfl]; omega) W
  obtain ⟨s1, h1⟩ : ∃ s1, s1 = (⟨#[123]⟩ ++ sa : ByteArray) := ⟨_, rfl⟩
  obtain ⟨s2, h2⟩ : ∃ s2, s2 = (s1 ++ ⟨#[32, 84, 79, 32]⟩ : ByteArray) := ⟨_, rfl⟩
  obtain ⟨s3, h3⟩ : ∃ s3, s3 = (s2 ++ sb : ByteArray) := ⟨_, rfl⟩
  simp only [← h1] at q1 q2 q3
  simp only [← h2] at q2 q3
  simp only [← h3] at q3
  have hs3 : s3.size ≤ 1400000000000 := by rw [h3, h2, h1, ba_append_size, ba_append_size, ba_append_size, show (⟨#[123]⟩ : ByteArray).size = 1 from rfl, show (⟨#[32, 84, 79, 32]⟩ : ByteArray).size = 4 from rfl]; omega
  have HS3 := LH (show s3 = ⟨#[123]⟩ ++ sa ++ ⟨#[32, 84, 79, 32]⟩ ++ sb from by rw [h3, h2, h1])
  clear h1 h2 h3 g1 g2
  go_wp2_with fail
  go_region_held3 (fun W => W.cell? ⟨w.heap.size, 0, none⟩ = some (.int .i64 6) ∧ W.cell? ⟨w.heap.size, 1, none⟩ = some (.string (str field)) ∧ W.cell? ⟨w.heap.size, 2, none⟩ = some (.string (str text)) ∧ W.cell? ⟨w.heap.size, 3, none⟩ = some (.int .i64 (n : Int)) ∧ W.cell? ⟨w.heap.size, 4, none⟩ = some (.bool la) ∧ W.cell? ⟨w.heap.size, 5, none⟩ = some (.bool lb) ∧ W.cell? ⟨w.heap.size, 6, none⟩ = some (.string (str lc)) ∧ W.cell? ⟨w.heap.size, 7, none⟩ = some (.bool ra) ∧ W.cell? ⟨w.heap.size, 8, none⟩ = some (.bool rb) ∧ W.cell? ⟨w.heap.size, 9, none⟩ = some (.string (str rc)) ∧ Below (w.alloc (.cells #[.int .i64 6, .string (str field), .string (str text), .int .i64 (n : Int), .bool la, .bool lb, .string (str lc), .bool ra, .bool rb, .string (str rc), .slice oa on oc, .slice ka kn kc] 27)).heap.size (w.alloc (.cells #[.int .i64 6, .string (str field), .string (str text), .int .i64 (n : Int), .bool la, .bool lb, .string (str lc), .bool ra, .bool rb, .string (str rc), .slice oa on oc, .slice ka kn kc] 27)) W) (exact HSF.out _ (by repeat (first | assumption | exact Below.refl _ _ | with_reducible refine Below.drew ?_))) (first | ((with_reducible refine (HC1.out _ ?_).mono ?_); (repeat (first | assumption | exact Below.refl _ _ | with_reducible refine Below.drew ?_)); (rintro e w5 ⟨rfl, hk0⟩)) | ((with_reducible refine (HC2.out _ ?_).mono ?_); (repeat (first | assumption | exact Below.refl _ _ | with_reducible refine Below.drew ?_)); (rintro e w5 ⟨rfl, hk1⟩)))
  all_goals
   rename_i hfin
   have HBF := LH (show Below w.heap.size w _ from HB.out.trans (hfin.2.2.2.2.2.2.2.2.2.2.mono HB.out.size))
   obtain ⟨y0, y1, y2, y3, y4, y5, y6, y7, y8, y9, -⟩ := hfin
   go_upto_region 5 with (fail)
   go_cut [29] (fun v wx => v = .bool (rb || ra) ∧ Below w.heap.size w wx)
   case first =>
    cases ra <;> cases rb
    all_goals
     go_wp2
     go_meet
     exact ⟨rfl, HBF.out⟩
   case rest =>
   obtain ⟨rfl, hbf⟩ := hcut
   have HBG := LH hbf
   clear hbf
   cases hhi : (rb || ra)
   ·have H2 := LH (HOR.out ra rb _ hhi 93 125)
    clear hhi
    have q4 := fun W => str_add (P := Tryd.prog) s3 ⟨#[125]⟩ (by rw [show (⟨#[125]⟩ : ByteArray).size = 1 from rfl]; omega) W
    have HR := LH (show s3 ++ ⟨#[125]⟩ = str (leafF 6 text n ⟨la, lb, lc⟩ ⟨ra, rb, rc⟩) from by rw [HS3.out]; exact HF.out 123 125 H1.out H2.out)
    go_wp2
    go_ret
    exact ⟨ret_strx HR.out, HBG.out⟩
   ·have H2 := LH (HOR.out ra rb _ hhi 93 125)
    clear hhi
    have q4 := fun W => str_add (P := Tryd.prog) s3 ⟨#[93]⟩ (by rw [show (⟨#[93]⟩ : ByteArray).size = 1 from rfl]; omega) W
    have HR := LH (show s3 ++ ⟨#[93]⟩ = str (leafF 6 text n ⟨la, lb, lc⟩ ⟨ra, rb, rc⟩) from by rw [HS3.out]; exact HF.out 123 93 H1.out H2.out)
    go_wp2
    go_ret
    exact ⟨ret_strx HR.out, HBG.out⟩
 ·have H1 := LH (HOR.out la lb _ hlo 91 123)
  clear hlo
  have q1 := fun W => str_add (P := Tryd.prog) ⟨#[91]⟩ sa (by rw [show (⟨#[91]⟩ : ByteArray).size = 1 from rfl]; omega) W
  have q2 := fun W => str_add (P := Tryd.prog) (⟨#[91]⟩ ++ sa) ⟨#[32, 84, 79, 32]⟩ (by rw [ba_append_size, show (⟨#[91]⟩ : ByteArray).size = 1 from rfl, show (⟨#[32, 84, 79, 32]⟩ : ByteArray).size = 4 from rfl]; omega) W
  have q3 := fun W => str_add (P := Tryd.prog) (⟨#[91]⟩ ++ sa ++ ⟨#[32, 84, 79, 32]⟩) sb (by rw [ba_append_size, ba_append_size, show (⟨#[91]⟩ : ByteArray).size = 1 from rfl, show (⟨#[32, 84, 79, 32]⟩ : ByteArray).size = 4 from rfl]; omega) W
  obtain ⟨s1, h1⟩ : ∃ s1, s1 = (⟨#[91]⟩ ++ sa : ByteArray) := ⟨_, rfl⟩
  obtain ⟨s2, h2⟩ : ∃ s2, s2 = (s1 ++ ⟨#[32, 84, 79, 32]⟩ : ByteArray) := ⟨_, rfl⟩
  obtain ⟨s3, h3⟩ : ∃ s3, s3 = (s2 ++ sb : ByteArray) := ⟨_, rfl⟩
  simp only [← h1] at q1 q2 q3
  simp only [← h2] at q2 q3
  simp only [← h3] at q3
  have hs3 : s3.size ≤ 1400000000000 := by rw [h3, h2, h1, ba_append_size, ba_append_size, ba_append_size, show (⟨#[91]⟩ : ByteArray).size = 1 from rfl, show (⟨#[32, 84, 79, 32]⟩ : ByteArray).size = 4 from rfl]; omega
  have HS3 := LH (show s3 = ⟨#[91]⟩ ++ sa ++ ⟨#[32, 84, 79, 32]⟩ ++ sb from by rw [h3, h2, h1])
  clear h1 h2 h3 g1 g2
  go_wp2_with fail
  go_region_held3 (fun W => W.cell? ⟨w.heap.size, 0, none⟩ = some (.int .i64 6) ∧ W.cell? ⟨w.heap.size, 1, none⟩ = some (.string (str field)) ∧ W.cell? ⟨w.heap.size, 2, none⟩ = some (.string (str text)) ∧ W.cell? ⟨w.heap.size, 3, none⟩ = some (.int .i64 (n : Int)) ∧ W.cell? ⟨w.heap.size, 4, none⟩ = some (.bool la) ∧ W.cell? ⟨w.heap.size, 5, none⟩ = some (.bool lb) ∧ W.cell? ⟨w.heap.size, 6, none⟩ = some (.string (str lc)) ∧ W.cell? ⟨w.heap.size, 7, none⟩ = some (.bool ra) ∧ W.cell? ⟨w.heap.size, 8, none⟩ = some (.bool rb) ∧ W.cell? ⟨w.heap.size, 9, none⟩ = some (.string (str rc)) ∧ Below (w.alloc (.cells #[.int .i64 6, .string (str field), .string (str text), .int .i64 (n : Int), .bool la, .bool lb, .string (str lc), .bool ra, .bool rb, .string (str rc), .slice oa on oc, .slice ka kn kc] 27)).heap.size (w.alloc (.cells #[.int .i64 6, .string (str field), .string (str text), .int .i64 (n : Int), .bool la, .bool lb, .string (str lc), .bool ra, .bool rb, .string (str rc), .slice oa on oc, .slice ka kn kc] 27)) W) (exact HSF.out _ (by repeat (first | assumption | exact Below.refl _ _ | with_reducible refine Below.drew ?_))) (first | ((with_reducible refine (HC1.out _ ?_).mono ?_); (repeat (first | assumption | exact Below.refl _ _ | with_reducible refine Below.drew ?_)); (rintro e w5 ⟨rfl, hk0⟩)) | ((with_reducible refine (HC2.out _ ?_).mono ?_); (repeat (first | assumption | exact Below.refl _ _ | with_reducible refine Below.drew ?_)); (rintro e w5 ⟨rfl, hk1⟩)))
  all_goals
   rename_i hfin
   have HBF := LH (show Below w.heap.size w _ from HB.out.trans (hfin.2.2.2.2.2.2.2.2.2.2.mono HB.out.size))
   obtain ⟨y0, y1, y2, y3, y4, y5, y6, y7, y8, y9, -⟩ := hfin
   go_upto_region 5 with (fail)
   go_cut [29] (fun v wx => v = .bool (rb || ra) ∧ Below w.heap.size w wx)
   case first =>
    cases ra <;> cases rb
    all_goals
     go_wp2
     go_meet
     exact ⟨rfl, HBF.out⟩
   case rest =>
   obtain ⟨rfl, hbf⟩ := hcut
   have HBG := LH hbf
   clear hbf
   cases hhi : (rb || ra)
   ·have H2 := LH (HOR.out ra rb _ hhi 93 125)
    clear hhi
    have q4 := fun W => str_add (P := Tryd.prog) s3 ⟨#[125]⟩ (by rw [show (⟨#[125]⟩ : ByteArray).size = 1 from rfl]; omega) W
    have HR := LH (show s3 ++ ⟨#[125]⟩ = str (leafF 6 text n ⟨la, lb, lc⟩ ⟨ra, rb, rc⟩) from by rw [HS3.out]; exact HF.out 91 125 H1.out H2.out)
    go_wp2
    go_ret
    exact ⟨ret_strx HR.out, HBG.out⟩
   ·have H2 := LH (HOR.out ra rb _ hhi 93 125)
    clear hhi
    have q4 := fun W => str_add (P := Tryd.prog) s3 ⟨#[93]⟩ (by rw [show (⟨#[93]⟩ : ByteArray).size = 1 from rfl]; omega) W
    have HR := LH (show s3 ++ ⟨#[93]⟩ = str (leafF 6 text n ⟨la, lb, lc⟩ ⟨ra, rb, rc⟩) from by rw [HS3.out]; exact HF.out 91 93 H1.out H2.out)
    go_wp2
    go_ret
    exact ⟨ret_strx HR.out, HBG.out⟩
end Go.Proofs.YthcldpminmhgkaaDoor
end
