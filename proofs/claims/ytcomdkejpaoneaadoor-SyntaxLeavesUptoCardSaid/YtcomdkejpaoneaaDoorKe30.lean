/- Merged for a claim by shake.py: Zj -/
import Derived.Test.YtcomdkejpaoneaaDoorKe1
import Derived.Test.YtcomdkejpaoneaaDoorKe2
import Derived.Test.YtcomdkejpaoneaaDoorKe29
section
namespace Go.Proofs.YtcomdkejpaoneaaDoor
open Go.RowKit
set_option maxRecDepth 100000
set_option maxHeartbeats 8000000
set_option linter.unusedSimpArgs false
set_option linter.unusedVariables false
theorem leaves_walk (F Wd : List UInt8) (n : Int) (w : World) (ea : List Addr) (hF : F.length ≤ 1048576) (hW : Wd.length ≤ 1048576) (hE : SynEnv w ea) (hc : ClsEnv w) :
    Calls Tryd.prog 10 #[.string (str F), .string (str Wd), .int .i64 n] w fun e w' => e = .returned (.bool true) ∧ Below w.heap.size w w' := by
  have HLV := Lib.hid (slives_at w ea 0 hE.1 hc)
  have HE := Lib.hid (fun (W : World) (hW : Below w.heap.size w W) => And.intro (hc.belowB hc.2 hW) (hE.1.below hE.1.2 hW))
  have hfs : (str F).size ≤ 1048576 := by rw [str_size]; exact hF
  have hws : (str Wd).size ≤ 1048576 := by rw [str_size]; exact hW
  clear hE hc
  by_cases hf0 : F = []
  · have q1 : (str F).toList = [] := by rw [ba_toList, str_data]; exact hf0
    have q2 : (str F).toList.isEmpty = true := by rw [q1]; rfl
    have q3 : ((str F).toList == []) = true := by rw [q1]; rfl
    clear hf0 HE
    generalize str F = fs at *
    generalize str Wd = ws at *
    go_enter Tryd.func10, Tryd.ntmps10
    go_wp2_with fail
    refine HLV.out.mono ?_
    rintro e w1 ⟨rfl, hb1⟩
    have HB1 := Lib.hid hb1
    clear hb1
    go_wp2
    go_ret
    exact ⟨rfl, HB1.out⟩
  have q1 : ¬ (str F).toList = [] := by rw [ba_toList, str_data]; exact hf0
  have q2 : (str F).toList.isEmpty = false := by
    cases h : (str F).toList with
    | nil => exact absurd h q1
    | cons a b => rfl
  have q3 : ((str F).toList == []) = false := by simpa using q1
  by_cases hw0 : Wd = []
  · have r1 : (str Wd).toList = [] := by rw [ba_toList, str_data]; exact hw0
    have r2 : (str Wd).toList.isEmpty = true := by rw [r1]; rfl
    have r3 : ((str Wd).toList == []) = true := by rw [r1]; rfl
    clear hf0 hw0 HE
    generalize str F = fs at *
    generalize str Wd = ws at *
    go_enter Tryd.func10, Tryd.ntmps10
    go_wp2_with fail
    refine HLV.out.mono ?_
    rintro e w1 ⟨rfl, hb1⟩
    have HB1 := Lib.hid hb1
    clear hb1
    go_wp2
    go_ret
    exact ⟨rfl, HB1.out⟩
  have r1 : ¬ (str Wd).toList = [] := by rw [ba_toList, str_data]; exact hw0
  have r2 : (str Wd).toList.isEmpty = false := by
    cases h : (str Wd).toList with
    | nil => exact absurd h r1
    | cons a b => rfl
  have r3 : ((str Wd).toList == []) = false := by simpa using r1
  obtain ⟨sl, hsl, hn1⟩ := and_small n 1023 (by decide)
  obtain ⟨eb, heb, hn2⟩ := and_small n 1 (by decide)
  have hn1' : bits .and .i64 n 1023 = (sl : Int) := hn1
  have hn2' : bits .and .i64 n 1 = (eb : Int) := hn2
  have HF0 := Lib.hid hf0; have HW0 := Lib.hid hw0
  have HLE := Lib.hid (fun (i : Nat) (s : ByteArray) (g : List UInt8 → Nd) (hx : (lvT Wd (1 + eb) sl)[i]? = some s) (hg : (lvG Wd (1 + eb) sl)[i]? = some g) => lv_leaf (ed := 1 + eb) hw0 (by omega) (show sl < 1024 by omega) i s g hx hg)
  have HFW := Lib.hid (fun (W : World) (hW : Below w.heap.size w W) => refWord_any (str F) W (by omega))
  have HWW := Lib.hid (fun (W : World) (hW : Below w.heap.size w W) => refWord_any (str Wd) W (by omega))
  have HQW := Lib.hid (fun (W : World) (hW : Below w.heap.size w W) => refQuote_any (str Wd) W (by omega))
  have HD1 := Lib.hid (fun (W : World) (hW : Below w.heap.size w W) => digits_any (1 + eb) (by omega) W)
  have HD2 := Lib.hid (fun (W : World) (hW : Below w.heap.size w W) => digits_any sl (by omega) W)
  have hz1 : (str (wordL F)).size ≤ 2200000 := by rw [str_size]; have := word_len F; omega
  have hz2 : (str (wordL Wd)).size ≤ 2200000 := by rw [str_size]; have := word_len Wd; omega
  have hz3 : (str (quoteL Wd)).size ≤ 2200000 := by rw [str_size]; have := quote_len Wd; omega
  have hz4 : (str (dgN (1 + eb))).size ≤ 5 := by rw [str_size]; exact dg_len _
  have hz5 : (str (dgN sl)).size ≤ 5 := by rw [str_size]; exact dg_len _
  have hei : 0 ≤ (eb : Int) ∧ (eb : Int) ≤ 1 := by omega
  have e1 : ((1 + eb : Nat) : Int) = 1 + (eb : Int) := by omega
  have E1 := Lib.hid e1
  simp only [str_data] at HFW HWW HQW
  simp only [e1] at HD1
  clear hn1 hn2 hf0 hw0
  go_enter Tryd.func10, Tryd.ntmps10
  go_wp2_with fail
  refine HLV.out.mono ?_
  rintro e w1 ⟨rfl, hb1⟩
  have HB1 := Lib.hid hb1
  clear hb1
  go_wp2_with fail
  refine (HFW.out w1 HB1.out).mono ?_
  rintro e w2 ⟨rfl, hb⟩
  have HB2 := Lib.hid (HB1.out.trans (hb.mono HB1.out.size))
  clear hb
  go_wp2_with fail
  refine (HWW.out w2 HB2.out).mono ?_
  rintro e w3 ⟨rfl, hb⟩
  have HB3 := Lib.hid (HB2.out.trans (hb.mono HB2.out.size))
  clear hb
  have HW4 := Lib.hid (lv_blk (F := F) (Wd := Wd) (ed := 1 + eb) (sl := sl) (Blk.new w3 36 #[.int .i64 1, .string (str F), .string (str Wd), .int .i64 0, .bool false, .bool false, .string ⟨#[]⟩, .bool false, .bool false, .string ⟨#[]⟩, .slice none 0 0, .slice none 0 0, .int .i64 5, .string (str F), .string (str Wd), .int .i64 (1 + (eb : Int)), .bool false, .bool false, .string ⟨#[]⟩, .bool false, .bool false, .string ⟨#[]⟩, .slice none 0 0, .slice none 0 0, .int .i64 2, .string (str F), .string (str Wd), .int .i64 (sl : Int), .bool false, .bool false, .string ⟨#[]⟩, .bool false, .bool false, .string ⟨#[]⟩, .slice none 0 0, .slice none 0 0, .int .i64 6, .string (str F), .string ⟨#[]⟩, .int .i64 0, .bool false, .bool true, .string (str Wd), .bool true, .bool false, .string ⟨#[]⟩, .slice none 0 0, .slice none 0 0, .int .i64 3, .string (str F), .string (str Wd), .int .i64 0, .bool false, .bool false, .string ⟨#[]⟩, .bool false, .bool false, .string ⟨#[]⟩, .slice none 0 0, .slice none 0 0, .int .i64 7, .string (str F), .string ⟨#[]⟩, .int .i64 0, .bool false, .bool false, .string ⟨#[]⟩, .bool false, .bool false, .string ⟨#[]⟩, .slice none 0 0, .slice none 0 0]) (by unfold lvN; rw [E1.out]; rfl))
  have HB4 := Lib.hid (HB3.out.alloc HB3.out.size (.cells #[.int .i64 1, .string (str F), .string (str Wd), .int .i64 0, .bool false, .bool false, .string ⟨#[]⟩, .bool false, .bool false, .string ⟨#[]⟩, .slice none 0 0, .slice none 0 0, .int .i64 5, .string (str F), .string (str Wd), .int .i64 (1 + (eb : Int)), .bool false, .bool false, .string ⟨#[]⟩, .bool false, .bool false, .string ⟨#[]⟩, .slice none 0 0, .slice none 0 0, .int .i64 2, .string (str F), .string (str Wd), .int .i64 (sl : Int), .bool false, .bool false, .string ⟨#[]⟩, .bool false, .bool false, .string ⟨#[]⟩, .slice none 0 0, .slice none 0 0, .int .i64 6, .string (str F), .string ⟨#[]⟩, .int .i64 0, .bool false, .bool true, .string (str Wd), .bool true, .bool false, .string ⟨#[]⟩, .slice none 0 0, .slice none 0 0, .int .i64 3, .string (str F), .string (str Wd), .int .i64 0, .bool false, .bool false, .string ⟨#[]⟩, .bool false, .bool false, .string ⟨#[]⟩, .slice none 0 0, .slice none 0 0, .int .i64 7, .string (str F), .string ⟨#[]⟩, .int .i64 0, .bool false, .bool false, .string ⟨#[]⟩, .bool false, .bool false, .string ⟨#[]⟩, .slice none 0 0, .slice none 0 0] 36))
  go_wp2_with fail
  generalize w3.alloc (.cells #[.int .i64 1, .string (str F), .string (str Wd), .int .i64 0, .bool false, .bool false, .string ⟨#[]⟩, .bool false, .bool false, .string ⟨#[]⟩, .slice none 0 0, .slice none 0 0, .int .i64 5, .string (str F), .string (str Wd), .int .i64 (1 + (eb : Int)), .bool false, .bool false, .string ⟨#[]⟩, .bool false, .bool false, .string ⟨#[]⟩, .slice none 0 0, .slice none 0 0, .int .i64 2, .string (str F), .string (str Wd), .int .i64 (sl : Int), .bool false, .bool false, .string ⟨#[]⟩, .bool false, .bool false, .string ⟨#[]⟩, .slice none 0 0, .slice none 0 0, .int .i64 6, .string (str F), .string ⟨#[]⟩, .int .i64 0, .bool false, .bool true, .string (str Wd), .bool true, .bool false, .string ⟨#[]⟩, .slice none 0 0, .slice none 0 0, .int .i64 3, .string (str F), .string (str Wd), .int .i64 0, .bool false, .bool false, .string ⟨#[]⟩, .bool false, .bool false, .string ⟨#[]⟩, .slice none 0 0, .slice none 0 0, .int .i64 7, .string (str F), .string ⟨#[]⟩, .int .i64 0, .bool false, .bool false, .string ⟨#[]⟩, .bool false, .bool false, .string ⟨#[]⟩, .slice none 0 0, .slice none 0 0] 36) = w4 at *
  refine (HD1.out w4 HB4.out).mono ?_
  rintro e w5 ⟨rfl, hb⟩
  have HB5 := Lib.hid (HB4.out.trans (hb.mono HB4.out.size))
  have HW5 := Lib.hid (HW4.out.belowW hb)
  clear hb
  go_wp2_with fail
  refine (HQW.out w5 HB5.out).mono ?_
  rintro e w6 ⟨rfl, hb⟩
  have HB6 := Lib.hid (HB5.out.trans (hb.mono HB5.out.size))
  have HW6 := Lib.hid (HW5.out.belowW hb)
  clear hb
  go_wp2_with fail
  refine (HD2.out w6 HB6.out).mono ?_
  rintro e w7 ⟨rfl, hb⟩
  have HB7 := Lib.hid (HB6.out.trans (hb.mono HB6.out.size))
  have HW7 := Lib.hid (HW6.out.belowW hb)
  clear hb
  have HB8 := Lib.hid (HB7.out.alloc HB7.out.size (.cells #[.string (str (wordL Wd)), .string (str (wordL Wd) ++ ⟨#[126]⟩ ++ str (dgN (1 + eb))), .string (str (quoteL Wd) ++ ⟨#[126]⟩ ++ str (dgN sl)), .string (⟨#[91]⟩ ++ str (wordL Wd) ++ ⟨#[32, 84, 79, 32, 42, 125]⟩), .string (str (wordL Wd) ++ ⟨#[42]⟩), .string ⟨#[42]⟩] 9))
  have HW8 := Lib.hid (HW7.out.belowW ((Below.refl w7.heap.size w7).alloc (Nat.le_refl _) (.cells #[.string (str (wordL Wd)), .string (str (wordL Wd) ++ ⟨#[126]⟩ ++ str (dgN (1 + eb))), .string (str (quoteL Wd) ++ ⟨#[126]⟩ ++ str (dgN sl)), .string (⟨#[91]⟩ ++ str (wordL Wd) ++ ⟨#[32, 84, 79, 32, 42, 125]⟩), .string (str (wordL Wd) ++ ⟨#[42]⟩), .string ⟨#[42]⟩] 9)))
  have HT8 := Lib.hid (show Blk (w7.alloc (.cells #[.string (str (wordL Wd)), .string (str (wordL Wd) ++ ⟨#[126]⟩ ++ str (dgN (1 + eb))), .string (str (quoteL Wd) ++ ⟨#[126]⟩ ++ str (dgN sl)), .string (⟨#[91]⟩ ++ str (wordL Wd) ++ ⟨#[32, 84, 79, 32, 42, 125]⟩), .string (str (wordL Wd) ++ ⟨#[42]⟩), .string ⟨#[42]⟩] 9)) w7.heap.size 9 ((lvT Wd (1 + eb) sl).map Value.string).toArray from Blk.new w7 _ _)
  go_wp2_with fail
  generalize w7.alloc (.cells #[.string (str (wordL Wd)), .string (str (wordL Wd) ++ ⟨#[126]⟩ ++ str (dgN (1 + eb))), .string (str (quoteL Wd) ++ ⟨#[126]⟩ ++ str (dgN sl)), .string (⟨#[91]⟩ ++ str (wordL Wd) ++ ⟨#[32, 84, 79, 32, 42, 125]⟩), .string (str (wordL Wd) ++ ⟨#[42]⟩), .string ⟨#[42]⟩] 9) = w8 at *
  have HLX := Lib.hid (show (str (wordL F)).size ≤ 2200000 from hz1)
  clear hz2 hz3 hz4 hz5 hn1' hn2' r1 r2 r3 q1 q2 q3
  go_loopw [78] (fun iv wr => LvRel w8 iv wr) (fun iv _ => 6 - (intOf iv).toNat)
  case atStart => exact ⟨0, by omega, rfl, Below.refl _ _⟩
  case round =>
    obtain ⟨i, hi, rfl, hb⟩ := hrel
    have HBR := Lib.hid hb
    have HWR := Lib.hid (HB8.out.trans (hb.mono HB8.out.size))
    clear hb
    by_cases hlt : i < 6
    · obtain ⟨tx, g, x, ht, hg, hx⟩ := lv_get Wd F (1 + eb) sl hlt
      have hz := lv_size hW i tx ht
      have hL := HLE.out i tx g ht hg
      have c0 := lv_txt (HT8.out.belowW HBR.out) ht
      have HXR := Lib.hid (fun (W : World) => lv_rd W F Wd (1 + eb) sl i x g hx hg)
      have HIX := Lib.hid hx
      have hD1 : Der (str (wordL F) ++ ⟨#[58]⟩ ++ tx : ByteArray).data.toList 0 (g F) := by rw [lv_s1]; exact hL.alone HF0.out
      have hD2 : Der (str (wordL F) ++ ⟨#[58, 40, 122, 32]⟩ ++ tx ++ ⟨#[32, 111, 116, 104, 101, 114, 58]⟩ ++ tx ++ ⟨#[41]⟩ : ByteArray).data.toList 1 (ndList 0 [(0, ndLeaf 1 F [122] 0), (0, g F), (0, g [111, 116, 104, 101, 114])]) := by rw [lv_s2]; exact hL.group HF0.out
      have HP1 := Lib.hid (parse_der hD1 (Nat.zero_le _) wr ea 0 (lv_z1 F tx hz1 hz) (HE.out wr HWR.out).1 (HE.out wr HWR.out).2)
      have HP2 := Lib.hid (fun (W : World) (hW : Below w.heap.size w W) => parse_der hD2 (by decide) W ea 0 (lv_z2 F tx hz1 hz) (HE.out W hW).1 (HE.out W hW).2)
      clear hD1 hD2
      have HGF := Lib.hid (lv_field F Wd (1 + eb) sl i g hg)
      have hil : i < (lvN F Wd (1 + eb) sl).length := hlt
      have hxe : (lvN F Wd (1 + eb) sl)[i]'hil = x := by
        rw [List.getElem?_eq_getElem hil] at hx
        injection hx
      obtain ⟨b, hbb, hab, q0, q1, q2, q3, q4, q5, q6, q7, q8, q9, q10, q11⟩ := at_ndk (HW8.out.belowW HBR.out) hil
      injection hbb with hbb
      subst hbb
      have eAd : (⟨w3.heap.size, 0, none⟩ : Addr).add (i * 12) = ⟨w3.heap.size, i * 12, none⟩ := by unfold Addr.add; split <;> simp_all
      rw [eAd] at q0 q1 q2 q3 q4 q5 q6 q7 q8 q9 q10 q11 hab
      clear eAd
      rw [hxe] at q0 q1 q2 q3 q4 q5 q6 q7 q8 q9 q10 q11
      have HTX := Lib.hid ht
      clear hxe ht hg hx hL hil
      obtain ⟨kd2, fl2, tx2, xn2, ⟨la2, lb2, lc2⟩, ⟨ra2, rb2, rc2⟩, ⟨oa2, on2, oc2⟩, ⟨ka2, kn2, kc2⟩⟩ := x
      simp only [] at q0 q1 q2 q3 q4 q5 q6 q7 q8 q9 q10 q11
      have HQ := Lib.hid (show wr.cell? ⟨w3.heap.size, i * 12, none⟩ = some (.int .i64 kd2) ∧ wr.cell? ⟨w3.heap.size, i * 12 + 1, none⟩ = some (.string (str fl2)) ∧ wr.cell? ⟨w3.heap.size, i * 12 + 2, none⟩ = some (.string (str tx2)) ∧ wr.cell? ⟨w3.heap.size, i * 12 + 3, none⟩ = some (.int .i64 xn2) ∧ wr.cell? ⟨w3.heap.size, i * 12 + 4, none⟩ = some (.bool la2) ∧ wr.cell? ⟨w3.heap.size, i * 12 + 5, none⟩ = some (.bool lb2) ∧ wr.cell? ⟨w3.heap.size, i * 12 + 6, none⟩ = some (.string (str lc2)) ∧ wr.cell? ⟨w3.heap.size, i * 12 + 7, none⟩ = some (.bool ra2) ∧ wr.cell? ⟨w3.heap.size, i * 12 + 8, none⟩ = some (.bool rb2) ∧ wr.cell? ⟨w3.heap.size, i * 12 + 9, none⟩ = some (.string (str rc2)) ∧ wr.cell? ⟨w3.heap.size, i * 12 + 10, none⟩ = some (.slice oa2 on2 oc2) ∧ wr.cell? ⟨w3.heap.size, i * 12 + 11, none⟩ = some (.slice ka2 kn2 kc2) ∧ w3.heap.size < wr.heap.size from ⟨q0, q1, q2, q3, q4, q5, q6, q7, q8, q9, q10, q11, hab⟩)
      clear q0 q1 q2 q3 q4 q5 q6 q7 q8 q9 q10 q11 hab
      go_wp2_with fail
      refine HP1.out.mono ?_
      rintro e u1 ⟨hb, x, rfl, hx⟩
      obtain ⟨kd1, fl1, tx1, xn1, ⟨la1, lb1, lc1⟩, ⟨ra1, rb1, rc1⟩, ⟨oa1, on1, oc1⟩, ⟨ka1, kn1, kc1⟩⟩ := x
      unfold NV.val
      simp only []
      have HU1 := Lib.hid (HWR.out.trans (hb.mono HWR.out.size))
      have HV1 := Lib.hid (HU1.out.alloc HU1.out.size (.cells #[.int .i64 kd1, .string (str fl1), .string (str tx1), .int .i64 xn1, .bool la1, .bool lb1, .string (str lc1), .bool ra1, .bool rb1, .string (str rc1), .slice oa1 on1 oc1, .slice ka1 kn1 kc1] 36))
      have HN1 := Lib.hid (Blk.new u1 36 #[.int .i64 kd1, .string (str fl1), .string (str tx1), .int .i64 xn1, .bool la1, .bool lb1, .string (str lc1), .bool ra1, .bool rb1, .string (str rc1), .slice oa1 on1 oc1, .slice ka1 kn1 kc1])
      have HA1 := Lib.hid (show Below wr.heap.size wr (u1.alloc (.cells #[.int .i64 kd1, .string (str fl1), .string (str tx1), .int .i64 xn1, .bool la1, .bool lb1, .string (str lc1), .bool ra1, .bool rb1, .string (str rc1), .slice oa1 on1 oc1, .slice ka1 kn1 kc1] 36)) from hb.alloc hb.size _)
      have HX1 := Lib.hid (hx.belowW ((Below.refl u1.heap.size u1).alloc (Nat.le_refl _) (.cells #[.int .i64 kd1, .string (str fl1), .string (str tx1), .int .i64 xn1, .bool la1, .bool lb1, .string (str lc1), .bool ra1, .bool rb1, .string (str rc1), .slice oa1 on1 oc1, .slice ka1 kn1 kc1] 36)))
      clear hb hx
      go_wp2_with fail
      generalize u1.alloc (.cells #[.int .i64 kd1, .string (str fl1), .string (str tx1), .int .i64 xn1, .bool la1, .bool lb1, .string (str lc1), .bool ra1, .bool rb1, .string (str rc1), .slice oa1 on1 oc1, .slice ka1 kn1 kc1] 36) = v1 at *
      have HSF := Lib.hid (fun (W : World) (hW : Below v1.heap.size v1 W) => (show W.cell? ⟨u1.heap.size, 0, none⟩ = some (.int .i64 kd1) ∧ W.cell? ⟨u1.heap.size, 1, none⟩ = some (.string (str fl1)) ∧ W.cell? ⟨u1.heap.size, 2, none⟩ = some (.string (str tx1)) ∧ W.cell? ⟨u1.heap.size, 3, none⟩ = some (.int .i64 xn1) ∧ W.cell? ⟨u1.heap.size, 4, none⟩ = some (.bool la1) ∧ W.cell? ⟨u1.heap.size, 5, none⟩ = some (.bool lb1) ∧ W.cell? ⟨u1.heap.size, 6, none⟩ = some (.string (str lc1)) ∧ W.cell? ⟨u1.heap.size, 7, none⟩ = some (.bool ra1) ∧ W.cell? ⟨u1.heap.size, 8, none⟩ = some (.bool rb1) ∧ W.cell? ⟨u1.heap.size, 9, none⟩ = some (.string (str rc1)) ∧ W.cell? ⟨u1.heap.size, 10, none⟩ = some (.slice oa1 on1 oc1) ∧ W.cell? ⟨u1.heap.size, 11, none⟩ = some (.slice ka1 kn1 kc1) ∧ W.cell? ⟨w3.heap.size, i * 12, none⟩ = some (.int .i64 kd2) ∧ W.cell? ⟨w3.heap.size, i * 12 + 1, none⟩ = some (.string (str fl2)) ∧ W.cell? ⟨w3.heap.size, i * 12 + 2, none⟩ = some (.string (str tx2)) ∧ W.cell? ⟨w3.heap.size, i * 12 + 3, none⟩ = some (.int .i64 xn2) ∧ W.cell? ⟨w3.heap.size, i * 12 + 4, none⟩ = some (.bool la2) ∧ W.cell? ⟨w3.heap.size, i * 12 + 5, none⟩ = some (.bool lb2) ∧ W.cell? ⟨w3.heap.size, i * 12 + 6, none⟩ = some (.string (str lc2)) ∧ W.cell? ⟨w3.heap.size, i * 12 + 7, none⟩ = some (.bool ra2) ∧ W.cell? ⟨w3.heap.size, i * 12 + 8, none⟩ = some (.bool rb2) ∧ W.cell? ⟨w3.heap.size, i * 12 + 9, none⟩ = some (.string (str rc2)) ∧ W.cell? ⟨w3.heap.size, i * 12 + 10, none⟩ = some (.slice oa2 on2 oc2) ∧ W.cell? ⟨w3.heap.size, i * 12 + 11, none⟩ = some (.slice ka2 kn2 kc2) ∧ Below v1.heap.size v1 W from by
        have hU : Below wr.heap.size wr W := HA1.out.trans (hW.mono HA1.out.size)
        have hn1 := HN1.out.belowW hW
        obtain ⟨i0, i1, i2, i3, i4, i5, i6, i7, i8, i9, i10, i11, il⟩ := HQ.out
        exact ⟨hn1.cell 0, hn1.cell 1, hn1.cell 2, hn1.cell 3, hn1.cell 4, hn1.cell 5, hn1.cell 6, hn1.cell 7, hn1.cell 8, hn1.cell 9, hn1.cell 10, hn1.cell 11, (hU.cell (p := ⟨w3.heap.size, i * 12, none⟩) il).trans i0, (hU.cell (p := ⟨w3.heap.size, i * 12 + 1, none⟩) il).trans i1, (hU.cell (p := ⟨w3.heap.size, i * 12 + 2, none⟩) il).trans i2, (hU.cell (p := ⟨w3.heap.size, i * 12 + 3, none⟩) il).trans i3, (hU.cell (p := ⟨w3.heap.size, i * 12 + 4, none⟩) il).trans i4, (hU.cell (p := ⟨w3.heap.size, i * 12 + 5, none⟩) il).trans i5, (hU.cell (p := ⟨w3.heap.size, i * 12 + 6, none⟩) il).trans i6, (hU.cell (p := ⟨w3.heap.size, i * 12 + 7, none⟩) il).trans i7, (hU.cell (p := ⟨w3.heap.size, i * 12 + 8, none⟩) il).trans i8, (hU.cell (p := ⟨w3.heap.size, i * 12 + 9, none⟩) il).trans i9, (hU.cell (p := ⟨w3.heap.size, i * 12 + 10, none⟩) il).trans i10, (hU.cell (p := ⟨w3.heap.size, i * 12 + 11, none⟩) il).trans i11, hW⟩))
      have HSM := Lib.hid (fun (W : World) (hW : Below v1.heap.size v1 W) => (same_all (g F) W _ _ _ _ (HX1.out.belowW hW) (HXR.out W)).mono (fun e w' (h : SamRet W e w') => (show e = .returned (.bool true) ∧ Below v1.heap.size v1 w' from ⟨h.1, hW.trans (h.2.mono hW.size)⟩)))
      unfold NV.val at HSM
      simp only [] at HSM
      go_region_held3 (fun W => W.cell? ⟨u1.heap.size, 0, none⟩ = some (.int .i64 kd1) ∧ W.cell? ⟨u1.heap.size, 1, none⟩ = some (.string (str fl1)) ∧ W.cell? ⟨u1.heap.size, 2, none⟩ = some (.string (str tx1)) ∧ W.cell? ⟨u1.heap.size, 3, none⟩ = some (.int .i64 xn1) ∧ W.cell? ⟨u1.heap.size, 4, none⟩ = some (.bool la1) ∧ W.cell? ⟨u1.heap.size, 5, none⟩ = some (.bool lb1) ∧ W.cell? ⟨u1.heap.size, 6, none⟩ = some (.string (str lc1)) ∧ W.cell? ⟨u1.heap.size, 7, none⟩ = some (.bool ra1) ∧ W.cell? ⟨u1.heap.size, 8, none⟩ = some (.bool rb1) ∧ W.cell? ⟨u1.heap.size, 9, none⟩ = some (.string (str rc1)) ∧ W.cell? ⟨u1.heap.size, 10, none⟩ = some (.slice oa1 on1 oc1) ∧ W.cell? ⟨u1.heap.size, 11, none⟩ = some (.slice ka1 kn1 kc1) ∧ W.cell? ⟨w3.heap.size, i * 12, none⟩ = some (.int .i64 kd2) ∧ W.cell? ⟨w3.heap.size, i * 12 + 1, none⟩ = some (.string (str fl2)) ∧ W.cell? ⟨w3.heap.size, i * 12 + 2, none⟩ = some (.string (str tx2)) ∧ W.cell? ⟨w3.heap.size, i * 12 + 3, none⟩ = some (.int .i64 xn2) ∧ W.cell? ⟨w3.heap.size, i * 12 + 4, none⟩ = some (.bool la2) ∧ W.cell? ⟨w3.heap.size, i * 12 + 5, none⟩ = some (.bool lb2) ∧ W.cell? ⟨w3.heap.size, i * 12 + 6, none⟩ = some (.string (str lc2)) ∧ W.cell? ⟨w3.heap.size, i * 12 + 7, none⟩ = some (.bool ra2) ∧ W.cell? ⟨w3.heap.size, i * 12 + 8, none⟩ = some (.bool rb2) ∧ W.cell? ⟨w3.heap.size, i * 12 + 9, none⟩ = some (.string (str rc2)) ∧ W.cell? ⟨w3.heap.size, i * 12 + 10, none⟩ = some (.slice oa2 on2 oc2) ∧ W.cell? ⟨w3.heap.size, i * 12 + 11, none⟩ = some (.slice ka2 kn2 kc2) ∧ Below v1.heap.size v1 W) (exact HSF.out _ (by repeat (first | assumption | exact Below.refl _ _ | with_reducible refine Below.drew ?_))) (((with_reducible refine (HSM.out _ ?_).mono ?_); (repeat (first | assumption | exact Below.refl _ _ | with_reducible refine Below.drew ?_)); (rintro e w' ⟨rfl, hk1⟩)))
      clear HSF HSM
      rename_i hfin
      clear hfin
      have HB9 := Lib.hid (HV1.out.trans (hk1.mono HV1.out.size))
      have HA9 := Lib.hid (HA1.out.trans (hk1.mono HA1.out.size))
      obtain ⟨w9, rfl⟩ : ∃ w9, w9 = w' := ⟨_, rfl⟩
      have HC9 := Lib.hid (HBR.out.trans (HA9.out.mono HBR.out.size))
      have HTL := Lib.hid (HT8.out.belowW HC9.out).lt
      have HSF := Lib.hid (fun (W : World) (hW : Below w9.heap.size w9 W) => (show W.cell? ⟨w7.heap.size, i, none⟩ = some (.string tx) ∧ Below w9.heap.size w9 W from ⟨lv_txt ((HT8.out.belowW HC9.out).belowW hW) HTX.out, hW⟩))
      have b1 : (⟨#[58, 40, 122, 32]⟩ : ByteArray).size = 4 := rfl
      have b2 : (⟨#[32, 111, 116, 104, 101, 114, 58]⟩ : ByteArray).size = 7 := rfl
      have b3 : (⟨#[41]⟩ : ByteArray).size = 1 := rfl
      have ad1 := fun W => str_add (P := Tryd.prog) (str (wordL F)) ⟨#[58, 40, 122, 32]⟩ (by rw [b1]; omega) W
      have ad2 := fun W => str_add (P := Tryd.prog) (str (wordL F) ++ ⟨#[58, 40, 122, 32]⟩) tx (by simp only [ba_append_size]; rw [b1]; omega) W
      have ad3 := fun W => str_add (P := Tryd.prog) (str (wordL F) ++ ⟨#[58, 40, 122, 32]⟩ ++ tx) ⟨#[32, 111, 116, 104, 101, 114, 58]⟩ (by simp only [ba_append_size]; rw [b1, b2]; omega) W
      have ad4 := fun W => str_add (P := Tryd.prog) (str (wordL F) ++ ⟨#[58, 40, 122, 32]⟩ ++ tx ++ ⟨#[32, 111, 116, 104, 101, 114, 58]⟩) tx (by simp only [ba_append_size]; rw [b1, b2]; omega) W
      have ad5 := fun W => str_add (P := Tryd.prog) (str (wordL F) ++ ⟨#[58, 40, 122, 32]⟩ ++ tx ++ ⟨#[32, 111, 116, 104, 101, 114, 58]⟩ ++ tx) ⟨#[41]⟩ (by simp only [ba_append_size]; rw [b1, b2, b3]; omega) W
      clear b1 b2 b3
      obtain ⟨gk, gt, gn, glo, ghi, hgf⟩ := HGF.out
      have HG3 := Lib.hid (hgf [111, 116, 104, 101, 114])
      clear hgf
      have HPP := Lib.hid (fun (W : World) (hW : Below w9.heap.size w9 W) => (HP2.out W (HB9.out.trans (hW.mono HB9.out.size))).mono (fun e w' (h : ParRet _ W e w') => (show Below w9.heap.size w9 w' ∧ Below W.heap.size W w' ∧ ∃ x : NV, e = .returned (.tuple #[x.val, .int .i64 0, .nilIface]) ∧ NdR w' (fun b => W.heap.size ≤ b) x (ndList 0 [(0, ndLeaf 1 F [122] 0), (0, g F), (0, g [111, 116, 104, 101, 114])]) from by
        obtain ⟨h1, x, h2, h3⟩ := h
        exact ⟨hW.trans (h1.mono hW.size), h1, x, h2, h3.mono fun b hb => hb.1⟩)))
      go_wp2_with fail
      refine wp_region_held_drew (S := fun W => W.cell? ⟨w7.heap.size, i, none⟩ = some (.string tx) ∧ Below w9.heap.size w9 W) (by kernel_rfl) ?_ (fun hHeld => ?_)
      · exact HSF.out _ (by repeat (first | with_reducible assumption | with_reducible exact Below.refl _ _ | with_reducible exact hk2 | with_reducible refine Below.setCell ?_ (by exact Nat.le_refl _) _ | with_reducible refine Below.drew ?_ | with_reducible refine Below.alloc ?_ (by first | exact Nat.le_refl _ | exact Below.size (by assumption)) _))
      refine wpAnyH_takeD (i := 0) (d := (some 105)) (v := ?_) (by kernel_rfl) (by kernel_rfl) (fun _ _ _ h => h) (fun oi ho => ?_) (by assumption) ?_
      rotate_left
      · cases ho
        refine Or.inl ⟨by rfl, ?_⟩
        intro wq hSw
        (try dsimp only at hSw)
        go_simp
        all_goals (with_reducible rfl)
      try simp only [Act.put, List.setIfInBounds_toArray, List.set_cons_zero, List.set_cons_succ]
      refine wpAnyH_takeD (i := 1) (d := (some 106)) (v := ?_) (by kernel_rfl) (by kernel_rfl) (fun _ _ _ h => h) (fun oi ho => ?_) (by assumption) ?_
      rotate_left
      · cases ho
        refine Or.inl ⟨by rfl, ?_⟩
        intro wq hSw
        (try dsimp only at hSw)
        go_simp
        all_goals (with_reducible rfl)
      try simp only [Act.put, List.setIfInBounds_toArray, List.set_cons_zero, List.set_cons_succ]
      refine wpAnyH_takeD (i := 2) (d := (some 107)) (v := ?_) (by kernel_rfl) (by kernel_rfl) (fun _ _ _ h => h) (fun oi ho => ?_) (by assumption) ?_
      rotate_left
      · cases ho
        refine Or.inl ⟨by rfl, ?_⟩
        intro wq hSw
        (try dsimp only at hSw)
        go_simp
        all_goals (with_reducible rfl)
      try simp only [Act.put, List.setIfInBounds_toArray, List.set_cons_zero, List.set_cons_succ]
      refine wpAnyH_takeD (i := 3) (d := (some 108)) (v := ?_) (by kernel_rfl) (by kernel_rfl) (fun _ _ _ h => h) (fun oi ho => ?_) (by assumption) ?_
      rotate_left
      · cases ho
        refine Or.inl ⟨by rfl, ?_⟩
        intro wq hSw
        (try dsimp only at hSw)
        go_simp
        all_goals (with_reducible rfl)
      try simp only [Act.put, List.setIfInBounds_toArray, List.set_cons_zero, List.set_cons_succ]
      refine wpAnyH_takeD (i := 4) (d := (some 109)) (v := ?_) (by kernel_rfl) (by kernel_rfl) (fun _ _ _ h => h) (fun oi ho => ?_) (by assumption) ?_
      rotate_left
      · cases ho
        refine Or.inl ⟨by rfl, ?_⟩
        intro wq hSw
        (try dsimp only at hSw)
        go_simp
        all_goals (with_reducible rfl)
      try simp only [Act.put, List.setIfInBounds_toArray, List.set_cons_zero, List.set_cons_succ]
      refine wpAnyH_takeD (i := 8) (d := (some 113)) (v := ?_) (by kernel_rfl) (by kernel_rfl) (fun _ _ _ h => h) (fun oi ho => ?_) (by assumption) ?_
      rotate_left
      · cases ho
        refine Or.inl ⟨by rfl, ?_⟩
        intro wq hSw
        (try dsimp only at hSw)
        go_simp
        all_goals (with_reducible rfl)
      try simp only [Act.put, List.setIfInBounds_toArray, List.set_cons_zero, List.set_cons_succ]
      refine wpAnyH_takeD (i := 9) (d := (some 114)) (v := ?_) (by kernel_rfl) (by kernel_rfl) (fun _ _ _ h => h) (fun oi ho => ?_) (by assumption) ?_
      rotate_left
      · cases ho
        refine Or.inl ⟨by rfl, ?_⟩
        intro wq hSw
        (try dsimp only at hSw)
        go_simp
        all_goals (with_reducible rfl)
      try simp only [Act.put, List.setIfInBounds_toArray, List.set_cons_zero, List.set_cons_succ]
      refine wpAnyH_takeD (i := 10) (d := (some 115)) (v := ?_) (by kernel_rfl) (by kernel_rfl) (fun _ _ _ h => h) (fun oi ho => ?_) (by assumption) ?_
      rotate_left
      · cases ho
        refine Or.inl ⟨by rfl, ?_⟩
        intro wq hSw
        (try dsimp only at hSw)
        go_simp
        all_goals (with_reducible rfl)
      try simp only [Act.put, List.setIfInBounds_toArray, List.set_cons_zero, List.set_cons_succ]
      refine wpAnyH_takeD (i := 5) (d := (some 110)) (v := ?_) (by kernel_rfl) (by kernel_rfl) (fun _ _ _ h => h) (fun oi ho => ?_) (by assumption) ?_
      rotate_left
      · cases ho
        refine Or.inl ⟨by rfl, ?_⟩
        intro wq hSw
        (try dsimp only at hSw)
        go_simp
        all_goals (with_reducible rfl)
      try simp only [Act.put, List.setIfInBounds_toArray, List.set_cons_zero, List.set_cons_succ]
      refine wpAnyH_takeD (i := 6) (d := (some 111)) (v := ?_) (by kernel_rfl) (by kernel_rfl) (fun _ _ _ h => h) (fun oi ho => ?_) (by assumption) ?_
      rotate_left
      · cases ho
        refine Or.inl ⟨by rfl, ?_⟩
        intro wq hSw
        (try dsimp only at hSw)
        go_simp
        all_goals (with_reducible rfl)
      try simp only [Act.put, List.setIfInBounds_toArray, List.set_cons_zero, List.set_cons_succ]
      refine wpAnyH_takeD (i := 7) (d := (some 112)) (v := ?_) (by kernel_rfl) (by kernel_rfl) (fun _ _ _ h => h) (fun oi ho => ?_) (by assumption) ?_
      rotate_left
      · cases ho
        refine Or.inl ⟨by rfl, ?_⟩
        intro wq hSw
        (try dsimp only at hSw)
        go_simp
        all_goals (with_reducible rfl)
      try simp only [Act.put, List.setIfInBounds_toArray, List.set_cons_zero, List.set_cons_succ]
      refine wpAnyH_takeD (i := 11) (d := (some 116)) (v := ?_) (by kernel_rfl) (by kernel_rfl) (fun _ _ _ h => h) (fun oi ho => ?_) (by assumption) ?_
      rotate_left
      · cases ho
        refine Or.inl ⟨by rfl, ?_⟩
        intro wq hSw
        (try dsimp only at hSw)
        go_simp
        all_goals (with_reducible rfl)
      try simp only [Act.put, List.setIfInBounds_toArray, List.set_cons_zero, List.set_cons_succ]
      refine wpAnyH_takeD (i := 12) (d := (some 117)) (v := ?_) (by kernel_rfl) (by kernel_rfl) (fun _ _ _ h => h) (fun oi ho => ?_) (by assumption) ?_
      rotate_left
      · cases ho
        refine Or.inl ⟨by rfl, ?_⟩
        intro wq hSw
        (try dsimp only at hSw)
        go_simp
        all_goals (with_reducible rfl)
      try simp only [Act.put, List.setIfInBounds_toArray, List.set_cons_zero, List.set_cons_succ]
      refine wpAnyH_takeD (i := 13) (d := (some 118)) (v := ?_) (by kernel_rfl) (by kernel_rfl) (fun _ _ _ h => h) (fun oi ho => ?_) (by assumption) ?_
      rotate_left
      · cases ho
        refine Or.inl ⟨by rfl, ?_⟩
        intro wq hSw
        (try dsimp only at hSw)
        go_simp
        all_goals (with_reducible rfl)
      try simp only [Act.put, List.setIfInBounds_toArray, List.set_cons_zero, List.set_cons_succ]
      refine wpAnyH_ready (rs := [14, 19]) (by kernel_rfl) (by simp) ?_
      refine AllReadyH.cons rfl (fun K hK => ?_) ?_
      · skip
        go_simp
        refine (HPP.out _ ?_).mono ?_
        · repeat (first | with_reducible assumption | with_reducible exact Below.refl _ _ | with_reducible exact hk2 | with_reducible refine Below.setCell ?_ (by exact Nat.le_refl _) _ | with_reducible refine Below.drew ?_ | with_reducible refine Below.alloc ?_ (by first | exact Nat.le_refl _ | exact Below.size (by assumption)) _)
        rintro e w' ⟨hk2, hkW, x, rfl, hx⟩
        have hx2 : NdR w' (fun b => w9.heap.size ≤ b) x (.mk 9 [] [] 0 bd0 bd0 [0, 0, 0] [ndLeaf 1 F [122] 0, g F, g [111, 116, 104, 101, 114]]) := hx.mono (fun b hb => hb)
        clear hx
        rcases hx2 with ⟨h1, h2, h3, h4⟩
        rename_i so sk nl
        obtain ⟨oa3, on3, oc3⟩ := so
        obtain ⟨ka3, kn3, kc3⟩ := sk
        obtain rfl : on3 = 3 := h1.1
        obtain rfl : kn3 = 3 := h2.1.trans h3
        have HSK := Lib.hid h2; have HNL := Lib.hid h3; have HKS := Lib.hid h4
        
        have HK2 := Lib.hid hk2
        clear h1 h2 h3 h4 hkW
        unfold NV.val bd0
        simp only [str_nil]
        (try go_wp2_with fail)
        refine hK.out _ _ ?_ (fun hHeld => ?_)
        · exact HSF.out _ (by repeat (first | with_reducible assumption | with_reducible exact Below.refl _ _ | with_reducible exact hk2 | with_reducible refine Below.setCell ?_ (by exact Nat.le_refl _) _ | with_reducible refine Below.drew ?_ | with_reducible refine Below.alloc ?_ (by first | exact Nat.le_refl _ | exact Below.size (by assumption)) _))
        clear hK K
        try simp only [Act.put, List.setIfInBounds_toArray, List.set_cons_zero, List.set_cons_succ]
        refine wpAnyH_takeD (i := 15) (d := (some 104)) (v := ?_) (by kernel_rfl) (by kernel_rfl) (fun _ _ _ h => h) (fun oi ho => ?_) (by assumption) ?_
        rotate_left
        · cases ho
          refine Or.inl ⟨by rfl, ?_⟩
          intro wq hSw
          (try dsimp only at hSw)
          go_simp
          all_goals (with_reducible rfl)
        try simp only [Act.put, List.setIfInBounds_toArray, List.set_cons_zero, List.set_cons_succ]
        refine wpAnyH_takeD (i := 16) (d := (some 120)) (v := ?_) (by kernel_rfl) (by kernel_rfl) (fun _ _ _ h => h) (fun oi ho => ?_) (by assumption) ?_
        rotate_left
        · cases ho
          refine Or.inl ⟨by rfl, ?_⟩
          intro wq hSw
          (try dsimp only at hSw)
          go_simp
          all_goals (with_reducible rfl)
        try simp only [Act.put, List.setIfInBounds_toArray, List.set_cons_zero, List.set_cons_succ]
        refine wpAnyH_takeD (i := 17) (d := (some 121)) (v := ?_) (by kernel_rfl) (by kernel_rfl) (fun _ _ _ h => h) (fun oi ho => ?_) (by assumption) ?_
        rotate_left
        · cases ho
          refine Or.inl ⟨by rfl, ?_⟩
          intro wq hSw
          (try dsimp only at hSw)
          go_simp
          all_goals (with_reducible rfl)
        try simp only [Act.put, List.setIfInBounds_toArray, List.set_cons_zero, List.set_cons_succ]
        refine wpAnyH_takeD (i := 18) (d := (some 122)) (v := ?_) (by kernel_rfl) (by kernel_rfl) (fun _ _ _ h => h) (fun oi ho => ?_) (by assumption) ?_
        rotate_left
        · cases ho
          refine Or.inl ⟨by rfl, ?_⟩
          intro wq hSw
          (try dsimp only at hSw)
          go_simp
          all_goals (with_reducible rfl)
        try simp only [Act.put, List.setIfInBounds_toArray, List.set_cons_zero, List.set_cons_succ]
        refine wpAnyH_ready (rs := [19]) (by kernel_rfl) (by simp) ?_
        refine AllReadyH.cons rfl (fun K hK => ?_) AllReadyH.nil
        go_simp
        refine hK.out _ _ ?_ (fun hHeld => ?_)
        · exact HSF.out _ (by repeat (first | with_reducible assumption | with_reducible exact Below.refl _ _ | with_reducible exact hk2 | with_reducible refine Below.setCell ?_ (by exact Nat.le_refl _) _ | with_reducible refine Below.drew ?_ | with_reducible refine Below.alloc ?_ (by first | exact Nat.le_refl _ | exact Below.size (by assumption)) _))
        clear hK K
        try simp only [Act.put, List.setIfInBounds_toArray, List.set_cons_zero, List.set_cons_succ]
        refine wpAnyH_ready (rs := [20]) (by kernel_rfl) (by simp) ?_
        refine AllReadyH.cons rfl (fun K hK => ?_) AllReadyH.nil
        go_simp
        refine hK.out _ _ ?_ (fun hHeld => ?_)
        · exact HSF.out _ (by repeat (first | with_reducible assumption | with_reducible exact Below.refl _ _ | with_reducible exact hk2 | with_reducible refine Below.setCell ?_ (by exact Nat.le_refl _) _ | with_reducible refine Below.drew ?_ | with_reducible refine Below.alloc ?_ (by first | exact Nat.le_refl _ | exact Below.size (by assumption)) _))
        clear hK K
        try simp only [Act.put, List.setIfInBounds_toArray, List.set_cons_zero, List.set_cons_succ]
        refine wpAnyH_takeD (i := 21) (d := (some 18)) (v := ?_) (by kernel_rfl) (by kernel_rfl) (fun _ _ _ h => h) (fun oi ho => ?_) (by assumption) ?_
        rotate_left
        · cases ho
          refine Or.inl ⟨by rfl, ?_⟩
          intro wq hSw
          (try dsimp only at hSw)
          go_simp
          all_goals (with_reducible rfl)
        try simp only [Act.put, List.setIfInBounds_toArray, List.set_cons_zero, List.set_cons_succ]
        refine wpAnyH_takeD (i := 22) (d := (some 16)) (v := ?_) (by kernel_rfl) (by kernel_rfl) (fun _ _ _ h => h) (fun oi ho => ?_) (by assumption) ?_
        rotate_left
        · cases ho
          refine Or.inl ⟨by rfl, ?_⟩
          intro wq hSw
          (try dsimp only at hSw)
          go_simp
          all_goals (with_reducible rfl)
        try simp only [Act.put, List.setIfInBounds_toArray, List.set_cons_zero, List.set_cons_succ]
        refine wpAnyH_done (by kernel_rfl) ?_ _
        have HBN := Lib.hid (Blk.new w' 36 #[.int .i64 9, .string ⟨#[]⟩, .string ⟨#[]⟩, .int .i64 0, .bool false, .bool false, .string ⟨#[]⟩, .bool false, .bool false, .string ⟨#[]⟩, .slice oa3 3 oc3, .slice ka3 3 kc3])
        have HKN := Lib.hid (HK2.out.alloc HK2.out.size (.cells #[.int .i64 9, .string ⟨#[]⟩, .string ⟨#[]⟩, .int .i64 0, .bool false, .bool false, .string ⟨#[]⟩, .bool false, .bool false, .string ⟨#[]⟩, .slice oa3 3 oc3, .slice ka3 3 kc3] 36))
        have HAL := Lib.hid (show Below w'.heap.size w' (w'.alloc (.cells #[.int .i64 9, .string ⟨#[]⟩, .string ⟨#[]⟩, .int .i64 0, .bool false, .bool false, .string ⟨#[]⟩, .bool false, .bool false, .string ⟨#[]⟩, .slice oa3 3 oc3, .slice ka3 3 kc3] 36)) from (Below.refl w'.heap.size w').alloc (Nat.le_refl _) (.cells #[.int .i64 9, .string ⟨#[]⟩, .string ⟨#[]⟩, .int .i64 0, .bool false, .bool false, .string ⟨#[]⟩, .bool false, .bool false, .string ⟨#[]⟩, .slice oa3 3 oc3, .slice ka3 3 kc3] 36))
        have HSN := Lib.hid ((HSK.out.belowW HAL.out).mono (G := fun _ => True) (fun _ _ => trivial))
        have HTN := Lib.hid (fun (q : Nat) (y : NV) (u : Nd) (g1 : nl[q]? = some y) (g2 : [ndLeaf 1 F [122] 0, g F, g [111, 116, 104, 101, 114]][q]? = some u) => ((HKS.out q y u g1 g2).belowW HAL.out).mono (G := fun _ => True) (fun _ _ => trivial))
        clear HAL HSK HKS HK2
        generalize w'.alloc (.cells #[.int .i64 9, .string ⟨#[]⟩, .string ⟨#[]⟩, .int .i64 0, .bool false, .bool false, .string ⟨#[]⟩, .bool false, .bool false, .string ⟨#[]⟩, .slice oa3 3 oc3, .slice ka3 3 kc3] 36) = w10 at *
        obtain ⟨y1, y2, y3, rfl⟩ := len_three HNL.out
        have d1 : NdR w10 (fun _ => True) y1 (.mk 1 F [122] 0 bd0 bd0 [] []) := HTN.out 0 y1 _ rfl rfl
        have d2 := HTN.out 1 y2 _ rfl rfl
        have d3 := HTN.out 2 y3 _ rfl rfl
        rw [HG3.out] at d3
        have f1 : y1.field = F := by cases d1; rfl
        have f3 : y3.field = [111, 116, 104, 101, 114] := by cases d3; rfl
        obtain ⟨b, rfl, hbl, -, p1, -, -, -, -, -, -, -, -, -, -⟩ := at_ndk HSN.out (show 0 < [y1, y2, y3].length from by simp)
        obtain ⟨b2, hb2, -, m0, m1, m2, m3, m4, m5, m6, m7, m8, m9, m10, m11⟩ := at_ndk HSN.out (show 1 < [y1, y2, y3].length from by simp)
        obtain ⟨b3, hb3, -, -, r1, -, -, -, -, -, -, -, -, -, -⟩ := at_ndk HSN.out (show 2 < [y1, y2, y3].length from by simp)
        obtain rfl : b = b2 := by injection hb2
        obtain rfl : b = b3 := by injection hb3
        have ea0 : b.add (0 * 12) = b := by simp [Addr.add]
        have ea1 : b.add (1 * 12) = ⟨b.block, b.off + 12, none⟩ := rfl
        have ea2 : b.add (2 * 12) = ⟨b.block, b.off + 24, none⟩ := rfl
        rw [ea0] at p1 hbl
        rw [ea1] at m0 m1 m2 m3 m4 m5 m6 m7 m8 m9 m10 m11
        rw [ea2] at r1
        simp only [List.getElem_cons_zero, List.getElem_cons_succ] at p1 m0 m1 m2 m3 m4 m5 m6 m7 m8 m9 m10 m11 r1
        rw [f1] at p1
        rw [f3] at r1
        have HD2 := Lib.hid d2
        clear d1 d2 d3 f1 f3 hb2 hb3 ea0 ea1 ea2
        obtain ⟨kd6, fl6, tx6, xn6, ⟨la6, lb6, lc6⟩, ⟨ra6, rb6, rc6⟩, ⟨oa6, on6, oc6⟩, ⟨ka6, kn6, kc6⟩⟩ := y2
        simp only [] at m0 m1 m2 m3 m4 m5 m6 m7 m8 m9 m10 m11
        have HR10 := Lib.hid (show Below wr.heap.size wr w10 from HA9.out.trans (HKN.out.mono HA9.out.size))
        have HSF2 := Lib.hid (fun (W : World) (hW : Below w10.heap.size w10 W) => (show W.cell? ⟨w'.heap.size, 0, none⟩ = some (.int .i64 9) ∧ W.cell? ⟨w'.heap.size, 11, none⟩ = some (.slice (some b) 3 kc3) ∧ W.cell? ⟨b.block, b.off + 1, none⟩ = some (.string (str F)) ∧ W.cell? ⟨b.block, b.off + 24 + 1, none⟩ = some (.string ⟨#[111, 116, 104, 101, 114]⟩) ∧ W.cell? ⟨b.block, b.off + 12, none⟩ = some (.int .i64 kd6) ∧ W.cell? ⟨b.block, b.off + 12 + 1, none⟩ = some (.string (str fl6)) ∧ W.cell? ⟨b.block, b.off + 12 + 2, none⟩ = some (.string (str tx6)) ∧ W.cell? ⟨b.block, b.off + 12 + 3, none⟩ = some (.int .i64 xn6) ∧ W.cell? ⟨b.block, b.off + 12 + 4, none⟩ = some (.bool la6) ∧ W.cell? ⟨b.block, b.off + 12 + 5, none⟩ = some (.bool lb6) ∧ W.cell? ⟨b.block, b.off + 12 + 6, none⟩ = some (.string (str lc6)) ∧ W.cell? ⟨b.block, b.off + 12 + 7, none⟩ = some (.bool ra6) ∧ W.cell? ⟨b.block, b.off + 12 + 8, none⟩ = some (.bool rb6) ∧ W.cell? ⟨b.block, b.off + 12 + 9, none⟩ = some (.string (str rc6)) ∧ W.cell? ⟨b.block, b.off + 12 + 10, none⟩ = some (.slice oa6 on6 oc6) ∧ W.cell? ⟨b.block, b.off + 12 + 11, none⟩ = some (.slice ka6 kn6 kc6) ∧ W.cell? ⟨w3.heap.size, i * 12, none⟩ = some (.int .i64 kd2) ∧ W.cell? ⟨w3.heap.size, i * 12 + 1, none⟩ = some (.string (str fl2)) ∧ W.cell? ⟨w3.heap.size, i * 12 + 2, none⟩ = some (.string (str tx2)) ∧ W.cell? ⟨w3.heap.size, i * 12 + 3, none⟩ = some (.int .i64 xn2) ∧ W.cell? ⟨w3.heap.size, i * 12 + 4, none⟩ = some (.bool la2) ∧ W.cell? ⟨w3.heap.size, i * 12 + 5, none⟩ = some (.bool lb2) ∧ W.cell? ⟨w3.heap.size, i * 12 + 6, none⟩ = some (.string (str lc2)) ∧ W.cell? ⟨w3.heap.size, i * 12 + 7, none⟩ = some (.bool ra2) ∧ W.cell? ⟨w3.heap.size, i * 12 + 8, none⟩ = some (.bool rb2) ∧ W.cell? ⟨w3.heap.size, i * 12 + 9, none⟩ = some (.string (str rc2)) ∧ W.cell? ⟨w3.heap.size, i * 12 + 10, none⟩ = some (.slice oa2 on2 oc2) ∧ W.cell? ⟨w3.heap.size, i * 12 + 11, none⟩ = some (.slice ka2 kn2 kc2) ∧ Below w10.heap.size w10 W from by
          have hU : Below wr.heap.size wr W := HR10.out.trans (hW.mono HR10.out.size)
          have hn := HBN.out.belowW hW
          obtain ⟨i0, i1, i2, i3, i4, i5, i6, i7, i8, i9, i10, i11, il⟩ := HQ.out
          exact ⟨hn.cell 0, hn.cell 11, (hW.cell (p := ⟨b.block, b.off + 1, none⟩) hbl).trans p1, (hW.cell (p := ⟨b.block, b.off + 24 + 1, none⟩) hbl).trans r1, (hW.cell (p := ⟨b.block, b.off + 12, none⟩) hbl).trans m0, (hW.cell (p := ⟨b.block, b.off + 12 + 1, none⟩) hbl).trans m1, (hW.cell (p := ⟨b.block, b.off + 12 + 2, none⟩) hbl).trans m2, (hW.cell (p := ⟨b.block, b.off + 12 + 3, none⟩) hbl).trans m3, (hW.cell (p := ⟨b.block, b.off + 12 + 4, none⟩) hbl).trans m4, (hW.cell (p := ⟨b.block, b.off + 12 + 5, none⟩) hbl).trans m5, (hW.cell (p := ⟨b.block, b.off + 12 + 6, none⟩) hbl).trans m6, (hW.cell (p := ⟨b.block, b.off + 12 + 7, none⟩) hbl).trans m7, (hW.cell (p := ⟨b.block, b.off + 12 + 8, none⟩) hbl).trans m8, (hW.cell (p := ⟨b.block, b.off + 12 + 9, none⟩) hbl).trans m9, (hW.cell (p := ⟨b.block, b.off + 12 + 10, none⟩) hbl).trans m10, (hW.cell (p := ⟨b.block, b.off + 12 + 11, none⟩) hbl).trans m11, (hU.cell (p := ⟨w3.heap.size, i * 12, none⟩) il).trans i0, (hU.cell (p := ⟨w3.heap.size, i * 12 + 1, none⟩) il).trans i1, (hU.cell (p := ⟨w3.heap.size, i * 12 + 2, none⟩) il).trans i2, (hU.cell (p := ⟨w3.heap.size, i * 12 + 3, none⟩) il).trans i3, (hU.cell (p := ⟨w3.heap.size, i * 12 + 4, none⟩) il).trans i4, (hU.cell (p := ⟨w3.heap.size, i * 12 + 5, none⟩) il).trans i5, (hU.cell (p := ⟨w3.heap.size, i * 12 + 6, none⟩) il).trans i6, (hU.cell (p := ⟨w3.heap.size, i * 12 + 7, none⟩) il).trans i7, (hU.cell (p := ⟨w3.heap.size, i * 12 + 8, none⟩) il).trans i8, (hU.cell (p := ⟨w3.heap.size, i * 12 + 9, none⟩) il).trans i9, (hU.cell (p := ⟨w3.heap.size, i * 12 + 10, none⟩) il).trans i10, (hU.cell (p := ⟨w3.heap.size, i * 12 + 11, none⟩) il).trans i11, hW⟩))
        have HSM2 := Lib.hid (fun (W : World) (hW : Below w10.heap.size w10 W) => (same_all (g F) W _ _ _ _ (HD2.out.belowW hW) (HXR.out W)).mono (fun e w' (h : SamRet W e w') => (show e = .returned (.bool true) ∧ Below w10.heap.size w10 w' from ⟨h.1, hW.trans (h.2.mono hW.size)⟩)))
        unfold NV.val at HSM2
        simp only [] at HSM2
        clear p1 r1 m0 m1 m2 m3 m4 m5 m6 m7 m8 m9 m10 m11
        go_wp2_with fail
        go_region_held3 (fun W => W.cell? ⟨w'.heap.size, 0, none⟩ = some (.int .i64 9) ∧ W.cell? ⟨w'.heap.size, 11, none⟩ = some (.slice (some b) 3 kc3) ∧ W.cell? ⟨b.block, b.off + 1, none⟩ = some (.string (str F)) ∧ W.cell? ⟨b.block, b.off + 24 + 1, none⟩ = some (.string ⟨#[111, 116, 104, 101, 114]⟩) ∧ W.cell? ⟨b.block, b.off + 12, none⟩ = some (.int .i64 kd6) ∧ W.cell? ⟨b.block, b.off + 12 + 1, none⟩ = some (.string (str fl6)) ∧ W.cell? ⟨b.block, b.off + 12 + 2, none⟩ = some (.string (str tx6)) ∧ W.cell? ⟨b.block, b.off + 12 + 3, none⟩ = some (.int .i64 xn6) ∧ W.cell? ⟨b.block, b.off + 12 + 4, none⟩ = some (.bool la6) ∧ W.cell? ⟨b.block, b.off + 12 + 5, none⟩ = some (.bool lb6) ∧ W.cell? ⟨b.block, b.off + 12 + 6, none⟩ = some (.string (str lc6)) ∧ W.cell? ⟨b.block, b.off + 12 + 7, none⟩ = some (.bool ra6) ∧ W.cell? ⟨b.block, b.off + 12 + 8, none⟩ = some (.bool rb6) ∧ W.cell? ⟨b.block, b.off + 12 + 9, none⟩ = some (.string (str rc6)) ∧ W.cell? ⟨b.block, b.off + 12 + 10, none⟩ = some (.slice oa6 on6 oc6) ∧ W.cell? ⟨b.block, b.off + 12 + 11, none⟩ = some (.slice ka6 kn6 kc6) ∧ W.cell? ⟨w3.heap.size, i * 12, none⟩ = some (.int .i64 kd2) ∧ W.cell? ⟨w3.heap.size, i * 12 + 1, none⟩ = some (.string (str fl2)) ∧ W.cell? ⟨w3.heap.size, i * 12 + 2, none⟩ = some (.string (str tx2)) ∧ W.cell? ⟨w3.heap.size, i * 12 + 3, none⟩ = some (.int .i64 xn2) ∧ W.cell? ⟨w3.heap.size, i * 12 + 4, none⟩ = some (.bool la2) ∧ W.cell? ⟨w3.heap.size, i * 12 + 5, none⟩ = some (.bool lb2) ∧ W.cell? ⟨w3.heap.size, i * 12 + 6, none⟩ = some (.string (str lc2)) ∧ W.cell? ⟨w3.heap.size, i * 12 + 7, none⟩ = some (.bool ra2) ∧ W.cell? ⟨w3.heap.size, i * 12 + 8, none⟩ = some (.bool rb2) ∧ W.cell? ⟨w3.heap.size, i * 12 + 9, none⟩ = some (.string (str rc2)) ∧ W.cell? ⟨w3.heap.size, i * 12 + 10, none⟩ = some (.slice oa2 on2 oc2) ∧ W.cell? ⟨w3.heap.size, i * 12 + 11, none⟩ = some (.slice ka2 kn2 kc2) ∧ Below w10.heap.size w10 W) (exact HSF2.out _ (by repeat (first | with_reducible assumption | with_reducible exact Below.refl _ _ | with_reducible refine Below.drew ?_))) (((with_reducible refine (HSM2.out _ ?_).mono ?_); (repeat (first | with_reducible assumption | with_reducible exact Below.refl _ _ | with_reducible refine Below.drew ?_)); (rintro e w' ⟨rfl, hk5⟩)))
        have HBZ := Lib.hid (HC9.out.trans ((HKN.out.trans (hk5.mono HKN.out.size)).mono HC9.out.size))
        go_wp2
        go_roundw
        case rel => exact ⟨i + 1, by omega, by go_num, HBZ.out⟩
        case measure => simp [intOf]; omega
      refine AllReadyH.cons rfl (fun K hK => ?_) AllReadyH.nil
      go_simp
      refine hK.out _ _ ?_ (fun hHeld => ?_)
      · exact HSF.out _ (by repeat (first | with_reducible assumption | with_reducible exact Below.refl _ _ | with_reducible exact hk2 | with_reducible refine Below.setCell ?_ (by exact Nat.le_refl _) _ | with_reducible refine Below.drew ?_ | with_reducible refine Below.alloc ?_ (by first | exact Nat.le_refl _ | exact Below.size (by assumption)) _))
      clear hK K
      try simp only [Act.put, List.setIfInBounds_toArray, List.set_cons_zero, List.set_cons_succ]
      refine wpAnyH_ready (rs := [14]) (by kernel_rfl) (by simp) ?_
      refine AllReadyH.cons rfl (fun K hK => ?_) AllReadyH.nil
      go_simp
      refine (HPP.out _ ?_).mono ?_
      · repeat (first | with_reducible assumption | with_reducible exact Below.refl _ _ | with_reducible exact hk2 | with_reducible refine Below.setCell ?_ (by exact Nat.le_refl _) _ | with_reducible refine Below.drew ?_ | with_reducible refine Below.alloc ?_ (by first | exact Nat.le_refl _ | exact Below.size (by assumption)) _)
      rintro e w' ⟨hk2, hkW, x, rfl, hx⟩
      have hx2 : NdR w' (fun b => w9.heap.size < b) x (.mk 9 [] [] 0 bd0 bd0 [0, 0, 0] [ndLeaf 1 F [122] 0, g F, g [111, 116, 104, 101, 114]]) := hx.mono (fun b hb => by have hq : (w9.drew.alloc (.cells #[.int .i64 0, .string ⟨#[]⟩, .string ⟨#[]⟩, .int .i64 0, .bool false, .bool false, .string ⟨#[]⟩, .bool false, .bool false, .string ⟨#[]⟩, .slice none 0 0, .slice none 0 0] 36)).heap.size ≤ b := hb; rw [World.size_alloc] at hq; exact hq)
      clear hx
      rcases hx2 with ⟨h1, h2, h3, h4⟩
      rename_i so sk nl
      obtain ⟨oa3, on3, oc3⟩ := so
      obtain ⟨ka3, kn3, kc3⟩ := sk
      obtain rfl : on3 = 3 := h1.1
      obtain rfl : kn3 = 3 := h2.1.trans h3
      have HSK := Lib.hid h2; have HNL := Lib.hid h3; have HKS := Lib.hid h4
      have HZB := Lib.hid (show Blk w' w9.heap.size 36 #[.int .i64 0, .string ⟨#[]⟩, .string ⟨#[]⟩, .int .i64 0, .bool false, .bool false, .string ⟨#[]⟩, .bool false, .bool false, .string ⟨#[]⟩, .slice none 0 0, .slice none 0 0] from Blk.belowW (Blk.new w9.drew 36 #[.int .i64 0, .string ⟨#[]⟩, .string ⟨#[]⟩, .int .i64 0, .bool false, .bool false, .string ⟨#[]⟩, .bool false, .bool false, .string ⟨#[]⟩, .slice none 0 0, .slice none 0 0]) hkW)
      have HK2 := Lib.hid hk2
      clear h1 h2 h3 h4 hkW
      unfold NV.val bd0
      simp only [str_nil]
      (try go_wp2_with fail)
      refine hK.out _ _ ?_ (fun hHeld => ?_)
      · exact HSF.out _ (by repeat (first | with_reducible assumption | with_reducible exact Below.refl _ _ | with_reducible exact hk2 | with_reducible refine Below.setCell ?_ (by exact Nat.le_refl _) _ | with_reducible refine Below.drew ?_ | with_reducible refine Below.alloc ?_ (by first | exact Nat.le_refl _ | exact Below.size (by assumption)) _))
      clear hK K
      try simp only [Act.put, List.setIfInBounds_toArray, List.set_cons_zero, List.set_cons_succ]
      refine wpAnyH_takeD (i := 15) (d := (some 104)) (v := ?_) (by kernel_rfl) (by kernel_rfl) (fun _ _ _ h => h) (fun oi ho => ?_) (by assumption) ?_
      rotate_left
      · cases ho
        refine Or.inl ⟨by rfl, ?_⟩
        intro wq hSw
        (try dsimp only at hSw)
        go_simp
        all_goals (with_reducible rfl)
      try simp only [Act.put, List.setIfInBounds_toArray, List.set_cons_zero, List.set_cons_succ]
      refine wpAnyH_takeD (i := 16) (d := (some 120)) (v := ?_) (by kernel_rfl) (by kernel_rfl) (fun _ _ _ h => h) (fun oi ho => ?_) (by assumption) ?_
      rotate_left
      · cases ho
        refine Or.inl ⟨by rfl, ?_⟩
        intro wq hSw
        (try dsimp only at hSw)
        go_simp
        all_goals (with_reducible rfl)
      try simp only [Act.put, List.setIfInBounds_toArray, List.set_cons_zero, List.set_cons_succ]
      refine wpAnyH_takeD (i := 17) (d := (some 121)) (v := ?_) (by kernel_rfl) (by kernel_rfl) (fun _ _ _ h => h) (fun oi ho => ?_) (by assumption) ?_
      rotate_left
      · cases ho
        refine Or.inl ⟨by rfl, ?_⟩
        intro wq hSw
        (try dsimp only at hSw)
        go_simp
        all_goals (with_reducible rfl)
      try simp only [Act.put, List.setIfInBounds_toArray, List.set_cons_zero, List.set_cons_succ]
      refine wpAnyH_takeD (i := 18) (d := (some 122)) (v := ?_) (by kernel_rfl) (by kernel_rfl) (fun _ _ _ h => h) (fun oi ho => ?_) (by assumption) ?_
      rotate_left
      · cases ho
        refine Or.inl ⟨by rfl, ?_⟩
        intro wq hSw
        (try dsimp only at hSw)
        go_simp
        all_goals (with_reducible rfl)
      try simp only [Act.put, List.setIfInBounds_toArray, List.set_cons_zero, List.set_cons_succ]
      refine wpAnyH_ready (rs := [20]) (by kernel_rfl) (by simp) ?_
      refine AllReadyH.cons rfl (fun K hK => ?_) AllReadyH.nil
      have hzz := HZB.out
      have lz := hzz.lt
      have z0 := hzz.cell 0; have z1 := hzz.cell 1; have z2 := hzz.cell 2; have z3 := hzz.cell 3; have z4 := hzz.cell 4; have z5 := hzz.cell 5; have z6 := hzz.cell 6; have z7 := hzz.cell 7; have z8 := hzz.cell 8; have z9 := hzz.cell 9; have z10 := hzz.cell 10; have z11 := hzz.cell 11
      have fz0 := hzz.frozen 0; have fz1 := hzz.frozen 1; have fz2 := hzz.frozen 2; have fz3 := hzz.frozen 3; have fz4 := hzz.frozen 4; have fz5 := hzz.frozen 5; have fz6 := hzz.frozen 6; have fz7 := hzz.frozen 7; have fz8 := hzz.frozen 8; have fz9 := hzz.frozen 9; have fz10 := hzz.frozen 10; have fz11 := hzz.frozen 11
      simp only [List.getElem?_toArray, List.getElem?_cons_zero, List.getElem?_cons_succ] at z0 z1 z2 z3 z4 z5 z6 z7 z8 z9 z10 z11
      clear hzz
      go_simp
      clear z0 z1 z2 z3 z4 z5 z6 z7 z8 z9 z10 z11 fz0 fz1 fz2 fz3 fz4 fz5 fz6 fz7 fz8 fz9 fz10 fz11 lz
      refine hK.out _ _ ?_ (fun hHeld => ?_)
      · exact HSF.out _ (by repeat (first | with_reducible assumption | with_reducible exact Below.refl _ _ | with_reducible exact hk2 | with_reducible refine Below.setCell ?_ (by exact Nat.le_refl _) _ | with_reducible refine Below.drew ?_ | with_reducible refine Below.alloc ?_ (by first | exact Nat.le_refl _ | exact Below.size (by assumption)) _))
      clear hK K
      try simp only [Act.put, List.setIfInBounds_toArray, List.set_cons_zero, List.set_cons_succ]
      refine wpAnyH_takeD (i := 21) (d := (some 18)) (v := ?_) (by kernel_rfl) (by kernel_rfl) (fun _ _ _ h => h) (fun oi ho => ?_) (by assumption) ?_
      rotate_left
      · cases ho
        refine Or.inl ⟨by rfl, ?_⟩
        intro wq hSw
        (try dsimp only at hSw)
        go_simp
        all_goals (with_reducible rfl)
      try simp only [Act.put, List.setIfInBounds_toArray, List.set_cons_zero, List.set_cons_succ]
      refine wpAnyH_takeD (i := 22) (d := (some 16)) (v := ?_) (by kernel_rfl) (by kernel_rfl) (fun _ _ _ h => h) (fun oi ho => ?_) (by assumption) ?_
      rotate_left
      · cases ho
        refine Or.inl ⟨by rfl, ?_⟩
        intro wq hSw
        (try dsimp only at hSw)
        go_simp
        all_goals (with_reducible rfl)
      try simp only [Act.put, List.setIfInBounds_toArray, List.set_cons_zero, List.set_cons_succ]
      refine wpAnyH_done (by kernel_rfl) ?_ _
      have HBN := Lib.hid (Blk.set12 (x := ⟨0, [], [], 0, bd0, bd0, ⟨none, 0, 0⟩, ⟨none, 0, 0⟩⟩) (y := ⟨9, [], [], 0, bd0, bd0, ⟨oa3, 3, oc3⟩, ⟨ka3, 3, kc3⟩⟩) HZB.out)
      have HKN := Lib.hid (lv_bel (z := w9.heap.size) (y := ⟨9, [], [], 0, bd0, bd0, ⟨oa3, 3, oc3⟩, ⟨ka3, 3, kc3⟩⟩) HK2.out)
      have HSN := Lib.hid ((HSK.out.keep (w' := set12 w' w9.heap.size ⟨9, [], [], 0, bd0, bd0, ⟨oa3, 3, oc3⟩, ⟨ka3, 3, kc3⟩⟩) (fun p hp _ => set12_cell (Nat.ne_of_gt hp))).mono (G := fun _ => True) (fun _ _ => trivial))
      have HTN := Lib.hid (fun (q : Nat) (y : NV) (u : Nd) (g1 : nl[q]? = some y) (g2 : [ndLeaf 1 F [122] 0, g F, g [111, 116, 104, 101, 114]][q]? = some u) => ((HKS.out q y u g1 g2).keep (w' := set12 w' w9.heap.size ⟨9, [], [], 0, bd0, bd0, ⟨oa3, 3, oc3⟩, ⟨ka3, 3, kc3⟩⟩) (fun p hp _ => set12_cell (Nat.ne_of_gt hp))).mono (G := fun _ => True) (fun _ _ => trivial))
      clear HSK HKS HK2 HZB
      have hwe : set12 w' w9.heap.size ⟨9, [], [], 0, bd0, bd0, ⟨oa3, 3, oc3⟩, ⟨ka3, 3, kc3⟩⟩ = ((((((((((((w'.setCell ⟨w9.heap.size, 0, none⟩ (.int .i64 9)).setCell ⟨w9.heap.size, 1, none⟩ (.string ⟨#[]⟩)).setCell ⟨w9.heap.size, 2, none⟩ (.string ⟨#[]⟩)).setCell ⟨w9.heap.size, 3, none⟩ (.int .i64 0)).setCell ⟨w9.heap.size, 4, none⟩ (.bool false)).setCell ⟨w9.heap.size, 5, none⟩ (.bool false)).setCell ⟨w9.heap.size, 6, none⟩ (.string ⟨#[]⟩)).setCell ⟨w9.heap.size, 7, none⟩ (.bool false)).setCell ⟨w9.heap.size, 8, none⟩ (.bool false)).setCell ⟨w9.heap.size, 9, none⟩ (.string ⟨#[]⟩)).setCell ⟨w9.heap.size, 10, none⟩ (.slice oa3 3 oc3)).setCell ⟨w9.heap.size, 11, none⟩ (.slice ka3 3 kc3)) := rfl
      rw [← hwe]
      clear hwe
      generalize set12 w' w9.heap.size ⟨9, [], [], 0, bd0, bd0, ⟨oa3, 3, oc3⟩, ⟨ka3, 3, kc3⟩⟩ = w10 at *
      have HBM := Lib.hid (show Blk w10 w9.heap.size 36 #[.int .i64 9, .string ⟨#[]⟩, .string ⟨#[]⟩, .int .i64 0, .bool false, .bool false, .string ⟨#[]⟩, .bool false, .bool false, .string ⟨#[]⟩, .slice oa3 3 oc3, .slice ka3 3 kc3] from HBN.out)
      clear HBN
      have HBN := HBM
      clear HBM
      obtain ⟨y1, y2, y3, rfl⟩ := len_three HNL.out
      have d1 : NdR w10 (fun _ => True) y1 (.mk 1 F [122] 0 bd0 bd0 [] []) := HTN.out 0 y1 _ rfl rfl
      have d2 := HTN.out 1 y2 _ rfl rfl
      have d3 := HTN.out 2 y3 _ rfl rfl
      rw [HG3.out] at d3
      have f1 : y1.field = F := by cases d1; rfl
      have f3 : y3.field = [111, 116, 104, 101, 114] := by cases d3; rfl
      obtain ⟨b, rfl, hbl, -, p1, -, -, -, -, -, -, -, -, -, -⟩ := at_ndk HSN.out (show 0 < [y1, y2, y3].length from by simp)
      obtain ⟨b2, hb2, -, m0, m1, m2, m3, m4, m5, m6, m7, m8, m9, m10, m11⟩ := at_ndk HSN.out (show 1 < [y1, y2, y3].length from by simp)
      obtain ⟨b3, hb3, -, -, r1, -, -, -, -, -, -, -, -, -, -⟩ := at_ndk HSN.out (show 2 < [y1, y2, y3].length from by simp)
      obtain rfl : b = b2 := by injection hb2
      obtain rfl : b = b3 := by injection hb3
      have ea0 : b.add (0 * 12) = b := by simp [Addr.add]
      have ea1 : b.add (1 * 12) = ⟨b.block, b.off + 12, none⟩ := rfl
      have ea2 : b.add (2 * 12) = ⟨b.block, b.off + 24, none⟩ := rfl
      rw [ea0] at p1 hbl
      rw [ea1] at m0 m1 m2 m3 m4 m5 m6 m7 m8 m9 m10 m11
      rw [ea2] at r1
      simp only [List.getElem_cons_zero, List.getElem_cons_succ] at p1 m0 m1 m2 m3 m4 m5 m6 m7 m8 m9 m10 m11 r1
      rw [f1] at p1
      rw [f3] at r1
      have HD2 := Lib.hid d2
      clear d1 d2 d3 f1 f3 hb2 hb3 ea0 ea1 ea2
      obtain ⟨kd6, fl6, tx6, xn6, ⟨la6, lb6, lc6⟩, ⟨ra6, rb6, rc6⟩, ⟨oa6, on6, oc6⟩, ⟨ka6, kn6, kc6⟩⟩ := y2
      simp only [] at m0 m1 m2 m3 m4 m5 m6 m7 m8 m9 m10 m11
      have HR10 := Lib.hid (show Below wr.heap.size wr w10 from HA9.out.trans (HKN.out.mono HA9.out.size))
      have HSF2 := Lib.hid (fun (W : World) (hW : Below w10.heap.size w10 W) => (show W.cell? ⟨w9.heap.size, 0, none⟩ = some (.int .i64 9) ∧ W.cell? ⟨w9.heap.size, 11, none⟩ = some (.slice (some b) 3 kc3) ∧ W.cell? ⟨b.block, b.off + 1, none⟩ = some (.string (str F)) ∧ W.cell? ⟨b.block, b.off + 24 + 1, none⟩ = some (.string ⟨#[111, 116, 104, 101, 114]⟩) ∧ W.cell? ⟨b.block, b.off + 12, none⟩ = some (.int .i64 kd6) ∧ W.cell? ⟨b.block, b.off + 12 + 1, none⟩ = some (.string (str fl6)) ∧ W.cell? ⟨b.block, b.off + 12 + 2, none⟩ = some (.string (str tx6)) ∧ W.cell? ⟨b.block, b.off + 12 + 3, none⟩ = some (.int .i64 xn6) ∧ W.cell? ⟨b.block, b.off + 12 + 4, none⟩ = some (.bool la6) ∧ W.cell? ⟨b.block, b.off + 12 + 5, none⟩ = some (.bool lb6) ∧ W.cell? ⟨b.block, b.off + 12 + 6, none⟩ = some (.string (str lc6)) ∧ W.cell? ⟨b.block, b.off + 12 + 7, none⟩ = some (.bool ra6) ∧ W.cell? ⟨b.block, b.off + 12 + 8, none⟩ = some (.bool rb6) ∧ W.cell? ⟨b.block, b.off + 12 + 9, none⟩ = some (.string (str rc6)) ∧ W.cell? ⟨b.block, b.off + 12 + 10, none⟩ = some (.slice oa6 on6 oc6) ∧ W.cell? ⟨b.block, b.off + 12 + 11, none⟩ = some (.slice ka6 kn6 kc6) ∧ W.cell? ⟨w3.heap.size, i * 12, none⟩ = some (.int .i64 kd2) ∧ W.cell? ⟨w3.heap.size, i * 12 + 1, none⟩ = some (.string (str fl2)) ∧ W.cell? ⟨w3.heap.size, i * 12 + 2, none⟩ = some (.string (str tx2)) ∧ W.cell? ⟨w3.heap.size, i * 12 + 3, none⟩ = some (.int .i64 xn2) ∧ W.cell? ⟨w3.heap.size, i * 12 + 4, none⟩ = some (.bool la2) ∧ W.cell? ⟨w3.heap.size, i * 12 + 5, none⟩ = some (.bool lb2) ∧ W.cell? ⟨w3.heap.size, i * 12 + 6, none⟩ = some (.string (str lc2)) ∧ W.cell? ⟨w3.heap.size, i * 12 + 7, none⟩ = some (.bool ra2) ∧ W.cell? ⟨w3.heap.size, i * 12 + 8, none⟩ = some (.bool rb2) ∧ W.cell? ⟨w3.heap.size, i * 12 + 9, none⟩ = some (.string (str rc2)) ∧ W.cell? ⟨w3.heap.size, i * 12 + 10, none⟩ = some (.slice oa2 on2 oc2) ∧ W.cell? ⟨w3.heap.size, i * 12 + 11, none⟩ = some (.slice ka2 kn2 kc2) ∧ Below w10.heap.size w10 W from by
        have hU : Below wr.heap.size wr W := HR10.out.trans (hW.mono HR10.out.size)
        have hn := HBN.out.belowW hW
        obtain ⟨i0, i1, i2, i3, i4, i5, i6, i7, i8, i9, i10, i11, il⟩ := HQ.out
        exact ⟨hn.cell 0, hn.cell 11, (hW.cell (p := ⟨b.block, b.off + 1, none⟩) hbl).trans p1, (hW.cell (p := ⟨b.block, b.off + 24 + 1, none⟩) hbl).trans r1, (hW.cell (p := ⟨b.block, b.off + 12, none⟩) hbl).trans m0, (hW.cell (p := ⟨b.block, b.off + 12 + 1, none⟩) hbl).trans m1, (hW.cell (p := ⟨b.block, b.off + 12 + 2, none⟩) hbl).trans m2, (hW.cell (p := ⟨b.block, b.off + 12 + 3, none⟩) hbl).trans m3, (hW.cell (p := ⟨b.block, b.off + 12 + 4, none⟩) hbl).trans m4, (hW.cell (p := ⟨b.block, b.off + 12 + 5, none⟩) hbl).trans m5, (hW.cell (p := ⟨b.block, b.off + 12 + 6, none⟩) hbl).trans m6, (hW.cell (p := ⟨b.block, b.off + 12 + 7, none⟩) hbl).trans m7, (hW.cell (p := ⟨b.block, b.off + 12 + 8, none⟩) hbl).trans m8, (hW.cell (p := ⟨b.block, b.off + 12 + 9, none⟩) hbl).trans m9, (hW.cell (p := ⟨b.block, b.off + 12 + 10, none⟩) hbl).trans m10, (hW.cell (p := ⟨b.block, b.off + 12 + 11, none⟩) hbl).trans m11, (hU.cell (p := ⟨w3.heap.size, i * 12, none⟩) il).trans i0, (hU.cell (p := ⟨w3.heap.size, i * 12 + 1, none⟩) il).trans i1, (hU.cell (p := ⟨w3.heap.size, i * 12 + 2, none⟩) il).trans i2, (hU.cell (p := ⟨w3.heap.size, i * 12 + 3, none⟩) il).trans i3, (hU.cell (p := ⟨w3.heap.size, i * 12 + 4, none⟩) il).trans i4, (hU.cell (p := ⟨w3.heap.size, i * 12 + 5, none⟩) il).trans i5, (hU.cell (p := ⟨w3.heap.size, i * 12 + 6, none⟩) il).trans i6, (hU.cell (p := ⟨w3.heap.size, i * 12 + 7, none⟩) il).trans i7, (hU.cell (p := ⟨w3.heap.size, i * 12 + 8, none⟩) il).trans i8, (hU.cell (p := ⟨w3.heap.size, i * 12 + 9, none⟩) il).trans i9, (hU.cell (p := ⟨w3.heap.size, i * 12 + 10, none⟩) il).trans i10, (hU.cell (p := ⟨w3.heap.size, i * 12 + 11, none⟩) il).trans i11, hW⟩))
      have HSM2 := Lib.hid (fun (W : World) (hW : Below w10.heap.size w10 W) => (same_all (g F) W _ _ _ _ (HD2.out.belowW hW) (HXR.out W)).mono (fun e w' (h : SamRet W e w') => (show e = .returned (.bool true) ∧ Below w10.heap.size w10 w' from ⟨h.1, hW.trans (h.2.mono hW.size)⟩)))
      unfold NV.val at HSM2
      simp only [] at HSM2
      clear p1 r1 m0 m1 m2 m3 m4 m5 m6 m7 m8 m9 m10 m11
      go_wp2_with fail
      go_region_held3 (fun W => W.cell? ⟨w9.heap.size, 0, none⟩ = some (.int .i64 9) ∧ W.cell? ⟨w9.heap.size, 11, none⟩ = some (.slice (some b) 3 kc3) ∧ W.cell? ⟨b.block, b.off + 1, none⟩ = some (.string (str F)) ∧ W.cell? ⟨b.block, b.off + 24 + 1, none⟩ = some (.string ⟨#[111, 116, 104, 101, 114]⟩) ∧ W.cell? ⟨b.block, b.off + 12, none⟩ = some (.int .i64 kd6) ∧ W.cell? ⟨b.block, b.off + 12 + 1, none⟩ = some (.string (str fl6)) ∧ W.cell? ⟨b.block, b.off + 12 + 2, none⟩ = some (.string (str tx6)) ∧ W.cell? ⟨b.block, b.off + 12 + 3, none⟩ = some (.int .i64 xn6) ∧ W.cell? ⟨b.block, b.off + 12 + 4, none⟩ = some (.bool la6) ∧ W.cell? ⟨b.block, b.off + 12 + 5, none⟩ = some (.bool lb6) ∧ W.cell? ⟨b.block, b.off + 12 + 6, none⟩ = some (.string (str lc6)) ∧ W.cell? ⟨b.block, b.off + 12 + 7, none⟩ = some (.bool ra6) ∧ W.cell? ⟨b.block, b.off + 12 + 8, none⟩ = some (.bool rb6) ∧ W.cell? ⟨b.block, b.off + 12 + 9, none⟩ = some (.string (str rc6)) ∧ W.cell? ⟨b.block, b.off + 12 + 10, none⟩ = some (.slice oa6 on6 oc6) ∧ W.cell? ⟨b.block, b.off + 12 + 11, none⟩ = some (.slice ka6 kn6 kc6) ∧ W.cell? ⟨w3.heap.size, i * 12, none⟩ = some (.int .i64 kd2) ∧ W.cell? ⟨w3.heap.size, i * 12 + 1, none⟩ = some (.string (str fl2)) ∧ W.cell? ⟨w3.heap.size, i * 12 + 2, none⟩ = some (.string (str tx2)) ∧ W.cell? ⟨w3.heap.size, i * 12 + 3, none⟩ = some (.int .i64 xn2) ∧ W.cell? ⟨w3.heap.size, i * 12 + 4, none⟩ = some (.bool la2) ∧ W.cell? ⟨w3.heap.size, i * 12 + 5, none⟩ = some (.bool lb2) ∧ W.cell? ⟨w3.heap.size, i * 12 + 6, none⟩ = some (.string (str lc2)) ∧ W.cell? ⟨w3.heap.size, i * 12 + 7, none⟩ = some (.bool ra2) ∧ W.cell? ⟨w3.heap.size, i * 12 + 8, none⟩ = some (.bool rb2) ∧ W.cell? ⟨w3.heap.size, i * 12 + 9, none⟩ = some (.string (str rc2)) ∧ W.cell? ⟨w3.heap.size, i * 12 + 10, none⟩ = some (.slice oa2 on2 oc2) ∧ W.cell? ⟨w3.heap.size, i * 12 + 11, none⟩ = some (.slice ka2 kn2 kc2) ∧ Below w10.heap.size w10 W) (exact HSF2.out _ (by repeat (first | with_reducible assumption | with_reducible exact Below.refl _ _ | with_reducible refine Below.drew ?_))) (((with_reducible refine (HSM2.out _ ?_).mono ?_); (repeat (first | with_reducible assumption | with_reducible exact Below.refl _ _ | with_reducible refine Below.drew ?_)); (rintro e w' ⟨rfl, hk5⟩)))
      have HBZ := Lib.hid (HC9.out.trans ((HKN.out.trans (hk5.mono HKN.out.size)).mono HC9.out.size))
      go_wp2
      go_roundw
      case rel => exact ⟨i + 1, by omega, by go_num, HBZ.out⟩
      case measure => simp [intOf]; omega
    · go_wp2
      go_ret
      exact ⟨rfl, HWR.out⟩
end Go.Proofs.YtcomdkejpaoneaaDoor
end
