/- Merged for a claim: Il Dm Dw Pa Se -/
import Derived.Test.YtmdpfikalekmlaaGreatDoorTx
import Derived.Test.YtmdpfikalekmlaaGreatDoorIf
import Derived.KernelRfl
import Derived.Test.YtmdpfikalekmlaaGreatDoorRow
import Derived.Test.YtmdpfikalekmlaaGreatDoorSf
import Derived.Test.YtmdpfikalekmlaaGreatDoorQu
import Derived.Test.YtmdpfikalekmlaaGreatDoorPo
import Derived.Test.YtmdpfikalekmlaaGreatDoorCv
section
/- Layer 20: the laws' lives. -/
namespace Go.Proofs.YtmdpfikalekmlaaGreatDoor
open Go.RowKit
set_option maxRecDepth 100000
set_option maxHeartbeats 4000000
set_option linter.unusedSimpArgs false
set_option linter.unusedVariables false

def lvI : List Ins := [⟨2, 0, 0⟩, ⟨12, 300, 0⟩, ⟨0, 0, 0⟩]
def lvP : Pg := ⟨[3], [], [], true, [], [2, 12, 172, 2, 0]⟩
theorem lv_ok : lvI.all insOk = true := by kernel_rfl
theorem lv_small : SmallIns lvI := by
  intro x hx
  simp only [lvI, List.mem_cons, List.not_mem_nil, or_false] at hx
  rcases hx with rfl | rfl | rfl <;> decide
theorem lv_enc : encI lvI = [2, 12, 172, 2, 0] := by
  have h : uvL 300 = [172, 2] := by rw [uvL_big (by decide), uvL_small (by decide)]; rfl
  unfold encI lvI
  simp only [List.flatMap_cons, List.flatMap_nil, insB]
  rw [show argsN 2 = some 0 from rfl, show argsN 12 = some 1 from rfl, show argsN 0 = some 0 from rfl]
  simp only []
  rw [h]; rfl
theorem lv_dec : decI lvP.code = some lvI := by
  have h := decI_encI lv_ok lv_small
  rw [lv_enc] at h
  exact h
theorem lv_text : textP lvP = some [97, 118, 103, 115, 32, 51, 10, 101, 118, 101, 114, 121, 10, 97, 108, 108, 10, 115, 99, 97, 108, 101, 32, 51, 48, 48, 10, 101, 110, 100, 10] := by
  have h3 : dgt 3 = [51] := dgt_small (by decide)
  have h30 : dgt 30 = [51, 48] := by rw [dgt_big (by decide), show 30 / 10 = 3 from rfl, h3]; rfl
  have h300 : dgt 300 = [51, 48, 48] := by rw [dgt_big (by decide), show 300 / 10 = 30 from rfl, h30]; rfl
  have hu := (textP_some (p := lvP) (code := lvI) (by rw [if_pos (by decide), lv_dec])).2.2
  rw [hu]
  have e1 : lineL [97, 118, 103, 115] lvP.avgs = [97, 118, 103, 115, 32, 51] := by
    unfold lineL lvP numC
    simp only [List.flatMap_cons, List.flatMap_nil]
    rw [show (3 : Int).toNat = 3 from rfl, h3]; rfl
  have e2 : insL ⟨2, 0, 0⟩ = [97, 108, 108] := insL_0 (o := 2) rfl
  have e3 : insL ⟨12, 300, 0⟩ = [115, 99, 97, 108, 101, 32, 51, 48, 48] := by rw [show insL ⟨12, 300, 0⟩ = _ from insL_1 (o := 12) rfl, h300]; rfl
  have e4 : insL ⟨0, 0, 0⟩ = [101, 110, 100] := insL_0 (o := 0) rfl
  unfold linesL headL
  rw [e1]
  unfold lvI
  simp only [List.map_cons, List.map_nil, e2, e3, e4]
  rfl
theorem lives_any (w : World) (ea : List Addr) (hE : ErrFew w ea) (hT : TabEnv w) (hP : Pow10 w) :
    Calls Tryz.prog 5 #[] w fun e w' => e = .returned (.bool true) ∧ Below w.heap.size w w' := by
  have HE := Lib.hid hE; have HT := Lib.hid hT; have HP := Lib.hid hP
  clear hE hT hP
  go_enter Tryz.func5, Tryz.ntmps5
  go_wp2_with fail
  have hb0 : Below w.heap.size w (w.alloc (.cells #[.int .i64 2, .int .u64 0, .int .u64 0, .int .i64 12, .int .u64 300, .int .u64 0, .int .i64 0, .int .u64 0, .int .u64 0] 43)) := (Below.refl _ _).alloc (Nat.le_refl _) _
  have hr0 : RdL insS (w.alloc (.cells #[.int .i64 2, .int .u64 0, .int .u64 0, .int .i64 12, .int .u64 300, .int .u64 0, .int .i64 0, .int .u64 0, .int .u64 0] 43)) (w.alloc (.cells #[.int .i64 2, .int .u64 0, .int .u64 0, .int .i64 12, .int .u64 300, .int .u64 0, .int .i64 0, .int .u64 0, .int .u64 0] 43)).heap.size (.slice (some ⟨w.heap.size, 0, none⟩) 3 3) lvI :=
    RdL.of_own (B := w.heap.size) (World.ownsRow_lit w #[.int .i64 2, .int .u64 0, .int .u64 0, .int .i64 12, .int .u64 300, .int .u64 0, .int .i64 0, .int .u64 0, .int .u64 0] 3 (Nat.le_refl _) (by unfold maxLen; omega) rfl)
  refine (iencode_any _ lvI ea _ _ (Nat.le_refl _) hr0 (by decide) lv_small (HE.out.below hb0) (HT.out.below hb0)).mono ?_
  rintro e w1 ⟨v, rfl, ho, hb1⟩
  rw [show lvI.all insOk = true from lv_ok, if_pos rfl, lv_enc] at ho
  obtain ⟨A, cap, rfl⟩ := ownB_form ho
  have HB1 := Lib.hid (hb0.trans (hb1.mono hb0.size))
  have hcv := ho.conv
  have HO := Lib.hid ho
  rw [show lvI.all insOk = true from lv_ok, if_pos rfl]
  have hs : str [2, 12, 172, 2, 0] = ⟨#[2, 12, 172, 2, 0]⟩ := rfl
  rw [hs] at hcv
  clear hb0 hr0 ho hb1 hs
  simp only [List.length_cons, List.length_nil] at hcv HO ⊢
  go_wp2_with fail
  have hb2 : Below w1.heap.size w1 (w1.alloc (.cells #[.int .i64 3] 3)) := (Below.refl _ _).alloc (Nat.le_refl _) _
  have hb3 := HB1.out.trans (hb2.mono HB1.out.size)
  have hr1 : RdL intS (w1.alloc (.cells #[.int .i64 3] 3)) (w1.alloc (.cells #[.int .i64 3] 3)).heap.size (.slice (some ⟨w1.heap.size, 0, none⟩) 1 1) [3] := rdl_one (by rw [World.cell?_alloc_new]; rfl)
  have hr2 := RdL.ofB (HO.out.below hb2)
  refine (Text_any ⟨.slice (some ⟨w1.heap.size, 0, none⟩) 1 1, .slice none 0 0, .slice none 0 0, .slice none 0 0, .slice A 5 cap, []⟩ lvP _ ea ⟨hr1, RdL.nil _ _ _, RdL.nil _ _ _, rfl, (fun y hy => absurd hy List.not_mem_nil), RdL.nil _ _ _, hr2⟩ ⟨⟨by intro x hx; obtain rfl := List.mem_singleton.1 hx; decide, by decide⟩, ⟨(fun y hy => absurd hy List.not_mem_nil), by decide⟩, ⟨(fun y hy => absurd hy List.not_mem_nil), by decide⟩, ⟨(fun y hy => absurd hy List.not_mem_nil), by decide⟩, by decide⟩ (HE.out.below hb3) (HT.out.below hb3) (HP.out.below hb3)).mono ?_
  rintro e w4 ⟨hb4, rfl⟩
  have HB4 := Lib.hid (hb3.trans (hb4.mono hb3.size))
  rw [lv_text]
  clear hb2 hb3 hr1 hr2 hb4
  simp only [str]
  go_wp2
  go_ret
  exact ⟨rfl, HB4.out⟩
end Go.Proofs.YtmdpfikalekmlaaGreatDoor
end
section
/- Layer 20, the document: decimal. -/
namespace Go.Proofs.YtmdpfikalekmlaaGreatDoor
open Go.RowKit
set_option maxRecDepth 100000
set_option maxHeartbeats 1000000
set_option linter.unusedSimpArgs false
set_option linter.unusedVariables false

def preD (u : Nat) : List UInt8 := if u < 10 then [] else dgt (u / 10)
theorem dgt_pre (u : Nat) : dgt u = preD u ++ [UInt8.ofNat (48 + u % 10)] := by
  unfold preD
  by_cases h : u < 10
  · rw [if_pos h, dgt_small h, Nat.mod_eq_of_lt h]; rfl
  · rw [if_neg h, dgt_big h]
theorem preD_small {u : Nat} (h : u < 10) : preD u = [] := by unfold preD; rw [if_pos h]
theorem preD_big {u : Nat} (h : ¬ u < 10) : preD u = preD (u / 10) ++ [UInt8.ofNat (48 + u / 10 % 10)] := by
  rw [← dgt_pre]; unfold preD; rw [if_neg h]
def DmRel (v : Nat) (w : World) (nv sv : Value) (wr : World) : Prop := ∃ (u : Nat) (s : List UInt8), u ≤ v ∧ nv = .int .u64 (u : Int) ∧ sv = .string (str s) ∧ dgt v = preD u ++ s ∧ Below w.heap.size w wr
theorem chr_dig (u : Nat) : chr (48 + (u : Int) % 10) = str [UInt8.ofNat (48 + u % 10)] := by
  have e : (48 + (u : Int) % 10).toNat = 48 + u % 10 := by omega
  show strOfNums [48 + (u : Int) % 10] = _
  unfold strOfNums str
  simp [e]
theorem decimal_any (v : Nat) (hv : v < 18446744073709551616) (w : World) :
    Calls Tryz.prog 64 #[.int .u64 (v : Int)] w fun e w' => e = .returned (.string (str (dgt v))) ∧ Below w.heap.size w w' := by
  go_enter Tryz.func64, Tryz.ntmps64
  have cv := fun (x : Int) W => conv_one (P := Tryz.prog) 26 5 5 Tryz.underlying26 Tryz.underlying5 9 Tryz.underlying9 W x
  go_wp2
  go_loopw [0, 3] (fun nv sv wr => DmRel v w nv sv wr) (fun nv _ _ => (intOf nv).toNat)
  case atStart => exact ⟨v, [UInt8.ofNat (48 + v % 10)], Nat.le_refl _, rfl, by rw [chr_dig], dgt_pre v, (Below.refl _ _).alloc (Nat.le_refl _) _⟩
  case round =>
    obtain ⟨u, s, hu, rfl, rfl, hd, hb⟩ := hrel
    have HD := Lib.hid hd; have HB := Lib.hid hb
    have hsl : s.length ≤ 20 := by
      have h := dgt_len v hv
      rw [hd, List.length_append] at h
      omega
    clear hd hb
    by_cases hlt : 10 ≤ u
    · have q := fun W => str_add (P := Tryz.prog) (chr (48 + (u : Int) / 10 % 10)) (str s) (by rw [chr_size, str_size]; omega) W
      have HN := Lib.hid (show dgt v = preD (u / 10) ++ ([UInt8.ofNat (48 + u / 10 % 10)] ++ s) from by rw [← List.append_assoc, ← preD_big (by omega)]; exact HD.out)
      have HE := Lib.hid (show chr (48 + ((u / 10 : Nat) : Int) % 10) ++ str s = str ([UInt8.ofNat (48 + u / 10 % 10)] ++ s) from by rw [chr_dig, str_cat2])
      go_wp2
      go_roundw
      case rel =>
        refine ⟨u / 10, [UInt8.ofNat (48 + u / 10 % 10)] ++ s, by omega, by go_num, ?_, HN.out, HB.out.alloc HB.out.size _⟩
        rw [← HE.out]; rfl
      case measure => simp [intOf]; omega
    · have HE := Lib.hid (show str s = str (dgt v) from by rw [HD.out, preD_small (by omega)]; rfl)
      go_wp2
      go_ret
      exact ⟨by rw [HE.out]; rfl, HB.out⟩
end Go.Proofs.YtmdpfikalekmlaaGreatDoor
end
section
/- Layer 20, the document: words, quoted. -/
namespace Go.Proofs.YtmdpfikalekmlaaGreatDoor
open Go.RowKit
set_option maxRecDepth 100000
set_option maxHeartbeats 2000000
set_option linter.unusedSimpArgs false
set_option linter.unusedVariables false

def WdRel (wd : List UInt8) (l : List Int) (w : World) (ov iv : Value) (wr : World) : Prop :=
  ∃ k : Nat, k ≤ l.length ∧ iv = .int .i64 (k : Int) ∧ OwnX wr w.heap.size ov (lineL wd (l.take k)) ∧ Below w.heap.size w wr
theorem words_any (wd : List UInt8) (v : Value) (l : List Int) (w : World) (B : Nat) (hB : B ≤ w.heap.size) (h : RdL intS w B v l) (hs : SmallInts l) (hn : neg l = false) (hw : wd.length ≤ 100) (hl : l.length ≤ 10000000) :
    Calls Tryz.prog 51 #[.string (str wd), v] w fun e w' => e = .returned (.string (str (lineL wd l))) ∧ Below w.heap.size w w' := by
  obtain ⟨A, cap, rfl, hc, hc2⟩ := h.open_
  have H := Lib.hid h; have HS := Lib.hid hs; have HN := Lib.hid (neg_false hn)
  have HO0 := Lib.hid (bytes_own (str wd) w (by rw [str_size]; unfold maxLen; omega))
  have HB0 := Lib.hid (bytes_below (str wd) w)
  have cb := fun W => bytes_conv (str wd) W
  clear h hs hn hc hc2
  go_enter Tryz.func51, Tryz.ntmps51
  go_wp2
  go_loopw [5, 12] (fun ov iv wr => WdRel wd l w ov iv wr) (fun _ iv _ => l.length - (intOf iv).toNat)
  case atStart => exact ⟨0, Nat.zero_le _, rfl, by have h := HO0.out; rw [str_data] at h; simpa [lineL] using h, HB0.out⟩
  case round =>
    obtain ⟨k, hk, rfl, ho, hb⟩ := hrel
    have HO := Lib.hid ho; have HB := Lib.hid hb
    have hsz := hb.size
    have hll : (lineL wd (l.take k)).length ≤ 100 + 21 * k := by
      have h := lineL_len wd (l.take k) (fun x hx => (HS.out x (List.mem_of_mem_take hx)).2)
      rw [List.length_take] at h
      omega
    clear ho hb
    by_cases hlt : k < l.length
    · obtain ⟨a, rfl, hab, c0⟩ := at_int (H.out.below (HB.out.mono hB)) hlt
      have hx1 := HN.out _ (List.getElem_mem hlt)
      have hx2 := HS.out _ (List.getElem_mem hlt)
      have HNX := Lib.hid (show lineL wd (l.take (k + 1)) = lineL wd (l.take k) ++ (32 :: numC l[k]) from by
        rw [List.take_succ_eq_append_getElem hlt, lineL_snoc])
      generalize l[k] = x at *
      obtain ⟨n, rfl⟩ : ∃ n : Nat, x = (n : Int) := ⟨x.toNat, by omega⟩
      have hn : n < 18446744073709551616 := by omega
      have hdl := dgt_len n hn
      have hal0 : (lineL wd (l.take k)).length ≤ 300000000 := by omega
      have hal1 : (lineL wd (l.take k)).length + 1 ≤ 140737488355328 := by omega
      have HLL := Lib.hid hll
      clear hll
      generalize hpre : lineL wd (l.take k) = pre at *
      have HPRE := Lib.hid hpre
      clear hpre
      go_wp2_with (at_builtin; refine OwnX.appendI HO.out 32 (by decide) (by decide) rfl _ _ rfl rfl rfl hsz hal1 ?_; intro v1 w1 ho1 hb1; have HO1 := Lib.hid ho1; have HB1 := Lib.hid (HB.out.trans hb1); have hsz1 := (HB.out.trans hb1).size; clear ho1 hb1)
      refine (decimal_any n hn w1).mono ?_
      rintro e w2 ⟨rfl, hb2⟩
      have HO2 := Lib.hid (HO1.out.below hb2)
      have HB2 := Lib.hid (HB1.out.trans (hb2.mono hsz1))
      have hsz2 := HB2.out.size
      have hal2 : (pre ++ [UInt8.ofNat (32 : Int).toNat]).length + (str (dgt n)).size ≤ 140737488355328 := by rw [str_size, List.length_append]; simp; omega
      clear hb2
      go_wp2_with (at_builtin; refine OwnX.appendStr HO2.out (str (dgt n)) rfl _ _ rfl rfl rfl hsz2 hal2 ?_; intro v3 w3 ho3 hb3; have HO3 := Lib.hid ho3; have HB3 := Lib.hid (HB2.out.trans hb3); clear ho3 hb3)
      go_roundw
      case rel =>
        refine ⟨k + 1, by omega, by go_num, ?_, HB3.out⟩
        rw [HNX.out]
        have h := HO3.out
        rw [str_data, List.append_assoc] at h
        exact h
      case measure => simp [intOf]; omega
    · have HE := Lib.hid (show lineL wd (l.take k) = lineL wd l from by rw [List.take_of_length_le (by omega)])
      have cv := HO.out.conv
      rw [HE.out] at cv
      clear hll
      go_wp2
      go_ret
      exact ⟨rfl, HB.out⟩
theorem rplain (b : UInt8) : plainC b = (!(decide (b.toNat < 32) || decide (126 < b.toNat) || decide (b.toNat = 34) || decide (b.toNat = 92))) := by
  have h1 : (b = 34) ↔ b.toNat = 34 := ⟨fun e => by rw [e]; rfl, fun e => UInt8.toNat_inj.1 e⟩
  have h2 : (b = 92) ↔ b.toNat = 92 := ⟨fun e => by rw [e]; rfl, fun e => UInt8.toNat_inj.1 e⟩
  unfold plainC
  simp only [ne_eq, h1, h2]
  by_cases a1 : b.toNat < 32 <;> by_cases a2 : 126 < b.toNat <;> by_cases a3 : b.toNat = 34 <;> by_cases a4 : b.toNat = 92 <;> simp [a1, a2, a3, a4] <;> omega
theorem wrap_u8n (n : Nat) (h : n < 256) : IntKind.u8.wrap (n : Int) = (n : Int) := by
  simp [IntKind.wrap, IntKind.bits, IntKind.signed]
  omega
theorem rquoted_any (s : ByteArray) (w : World) (hs : s.size ≤ 10000000) :
    Calls Tryz.prog 65 #[.string s] w fun e w' => e = .returned (.string (str (quoL s.data.toList))) ∧ Below w.heap.size w w' := by
  go_enter Tryz.func65, Tryz.ntmps65
  go_wp2
  go_loopw [4, 5] (fun ov iv wr => QuRel s w ov iv wr) (fun _ iv _ => s.size - (intOf iv).toNat)
  case atStart => exact ⟨0, Nat.zero_le _, rfl, OwnB.lit1 w (Nat.le_refl _) 34, (Below.refl _ _).alloc (Nat.le_refl _) _⟩
  case round =>
    obtain ⟨k, hk, rfl, ho, hb⟩ := hrel
    have HO := Lib.hid ho; have HB := Lib.hid hb
    have hbd := quo_bd s k
    have hBr : w.heap.size ≤ wr.heap.size := hb.size
    clear ho hb
    by_cases hlt : k < s.size
    · have hbx := u8_lt s[k]
      have HT := Lib.hid (take_quo hlt)
      have HPL := Lib.hid (rplain s[k])
      go_upto_region 7 with (fail)
      go_cut [30] (fun s30 wx => s30 = .bool (!plainC s[k]) ∧ wr = wx)
      case first =>
        by_cases g1 : s[k].toNat < 32
        · have hp := Lib.hid (show plainC s[k] = false from by rw [HPL.out]; simp [g1])
          go_wp2
          go_meet
          exact ⟨by rw [hp.out]; rfl, rfl⟩
        · by_cases g2 : 126 < s[k].toNat
          · have hp := Lib.hid (show plainC s[k] = false from by rw [HPL.out]; simp [g2])
            go_wp2
            go_meet
            exact ⟨by rw [hp.out]; rfl, rfl⟩
          · by_cases g3 : s[k].toNat = 34
            · have hp := Lib.hid (show plainC s[k] = false from by rw [HPL.out]; simp [g3])
              have e3 : (s[k].toNat : Int) = 34 := by omega
              go_wp2
              go_meet
              exact ⟨by rw [hp.out]; rfl, rfl⟩
            · by_cases g4 : s[k].toNat = 92
              · have hp := Lib.hid (show plainC s[k] = false from by rw [HPL.out]; simp [g4])
                have e3 : ((s[k].toNat : Int) == 34) = false := by simp; omega
                have e4 : (s[k].toNat : Int) = 92 := by omega
                go_wp2
                go_meet
                exact ⟨by rw [hp.out]; rfl, rfl⟩
              · have hp := Lib.hid (show plainC s[k] = true from by rw [HPL.out]; simp [g1, g2, g3, g4])
                have e3 : ((s[k].toNat : Int) == 34) = false := by simp; omega
                have e4 : ((s[k].toNat : Int) == 92) = false := by simp; omega
                go_wp2
                go_meet
                exact ⟨by rw [hp.out]; simp; omega, rfl⟩
      case rest =>
        obtain ⟨rfl, rfl⟩ := hcut
        by_cases hp : plainC s[k] = true
        · have HQ := Lib.hid (show quoC s[k] = [s[k]] from by unfold quoC; rw [if_pos hp])
          rw [hp]
          clear hp
          go_wp2_with (at_builtin; refine OwnB.append HO.out s[k].toNat (by omega) (by omega) rfl _ _ rfl rfl rfl hBr ?_ ?_)
          · simp at hbd ⊢; omega
          · intro v' w' h2 h3
            have H2 := Lib.hid h2; have HB3 := Lib.hid (HB.out.trans h3)
            clear h2 h3
            go_wp2
            go_roundw
            case rel =>
              refine ⟨k + 1, by omega, by go_num, ?_, HB3.out⟩
              have h := H2.out
              rw [HT.out, HQ.out]
              simpa using h
            case measure => simp [intOf]; omega
        · have hpf : plainC s[k] = false := by simpa using hp
          have HQ := Lib.hid (show quoC s[k] = [92, hexC (s[k].toNat / 16), hexC (s[k].toNat % 16)] from by unfold quoC; rw [if_neg hp])
          rw [hpf]
          have hH : ((s[k].toNat : Int) / 16) = ((s[k].toNat / 16 : Nat) : Int) := by omega
          have hL : ((s[k].toNat : Int) % 16) = ((s[k].toNat % 16 : Nat) : Int) := by omega
          have hb16 : s[k].toNat / 16 < 16 := by have := s[k].toNat_lt; omega
          have hl16 : s[k].toNat % 16 < 16 := by omega
          have hlen := HQ.out
          have hT : (s[k].toNat : Int).tmod 16 = ((s[k].toNat % 16 : Nat) : Int) := by rw [Int.tmod_eq_emod_of_nonneg (by omega)]; omega
          generalize s[k].toNat / 16 = H at *
          generalize s[k].toNat % 16 = L at *
          have q1 := fun W => hex_at H hb16 W
          have q2 := fun W => hex_at L hl16 W
          have w1 := wrap_u8n H (by omega)
          have w2 := wrap_u8n L (by omega)
          have HLEN := Lib.hid hlen
          clear hp hpf hlen
          have HX := Lib.hid (OwnB.lit3 wr hBr 92 (hexC H) (hexC L)).drew
          have HO3 := Lib.hid (HO.out.alloc (.cells #[.int .u8 (92 : UInt8).toNat, .int .u8 (hexC H).toNat, .int .u8 (hexC L).toNat] 5)).drew
          go_wp2_with fail
          have hz3 : w.heap.size ≤ (wr.alloc (.cells #[.int .u8 (92 : UInt8).toNat, .int .u8 (hexC H).toNat, .int .u8 (hexC L).toNat] 5)).drew.heap.size := by
            show _ ≤ (wr.alloc _).heap.size
            rw [World.size_alloc]; omega
          have HZ3 := Lib.hid hz3
          have HBA := Lib.hid ((HB.out.alloc hBr (.cells #[.int .u8 (92 : UInt8).toNat, .int .u8 (hexC H).toNat, .int .u8 (hexC L).toNat] 5)).drew)
          have HL3 := Lib.hid (show (34 :: (s.data.toList.take k).flatMap quoC).length + [92, hexC H, hexC L].length ≤ 140737488355328 by simp at hbd ⊢; omega)
          clear hz3
          go_region_law (refine OwnB.stepAppend HO3.out HX.out (Nat.zero_lt_succ _) rfl _ _ rfl rfl rfl HZ3.out HL3.out (fun v' w' h2 h3 => ?_))
          all_goals
            have H2 := Lib.hid h2; have HB3 := Lib.hid (HBA.out.trans h3)
            clear h2 h3
            go_wp2
            go_roundw
            case rel =>
              refine ⟨k + 1, by omega, by go_num, ?_, HB3.out⟩
              have h := H2.out
              rw [HT.out, HQ.out]
              simpa using h
            case measure => simp [intOf]; omega
    · have HT := Lib.hid (show s.data.toList.take k = s.data.toList from List.take_of_length_le (by rw [← ba_size]; omega))
      go_wp2_with (at_builtin; refine OwnB.append HO.out 34 (by omega) (by omega) rfl _ _ rfl rfl rfl hBr ?_ ?_)
      · simp at hbd ⊢; omega
      · intro v' w' h2 h3
        have HC := Lib.hid h2.conv; have HB3 := Lib.hid (HB.out.trans h3)
        clear h2 h3
        have hc := HC.out
        go_wp2
        go_ret
        refine ⟨?_, HB3.out⟩
        rw [HT.out]
        rfl
end Go.Proofs.YtmdpfikalekmlaaGreatDoor
end
section
/- Layer 20: a boxed program in memory; what Text answers. -/
namespace Go.Proofs.YtmdpfikalekmlaaGreatDoor
open Go.RowKit
set_option maxRecDepth 100000
set_option linter.unusedSimpArgs false
set_option linter.unusedVariables false

theorem TxtRet.good {bad ok : Value} {p : Pg} {w w' : World} {e : Ending} {t : List UInt8} (h : TxtRet bad ok p w e w') (ht : textP p = some t) : e = .returned (.tuple #[.string (str t), ok]) ∧ Below w.heap.size w w' := by
  obtain ⟨hb, h⟩ := h
  rw [ht] at h
  exact ⟨h, hb⟩
theorem TxtRet.bad {bad ok : Value} {p : Pg} {w w' : World} {e : Ending} (h : TxtRet bad ok p w e w') (ht : textP p = none) : e = .returned (.tuple #[.string ⟨#[]⟩, bad]) ∧ Below w.heap.size w w' := by
  obtain ⟨hb, h⟩ := h
  rw [ht] at h
  exact ⟨h, hb⟩
/-- A program's cells in memory. -/
def PgAt (w : World) (b : Nat) (x : PgV) (p : Pg) : Prop :=
  w.cell? ⟨b, 0, none⟩ = some x.av ∧ w.cell? ⟨b, 1, none⟩ = some x.cv ∧ w.cell? ⟨b, 2, none⟩ = some x.nv ∧ w.cell? ⟨b, 3, none⟩ = some (.bool p.all) ∧ w.cell? ⟨b, 4, none⟩ = some x.dv ∧ w.cell? ⟨b, 5, none⟩ = some x.kv ∧ b < w.heap.size
theorem PgAt.new (w : World) (x : PgV) (p : Pg) : PgAt (w.alloc (.cells #[x.av, x.cv, x.nv, .bool p.all, x.dv, x.kv] 28)) w.heap.size x p :=
  ⟨by rw [World.cell?_alloc_new]; rfl, by rw [World.cell?_alloc_new]; rfl, by rw [World.cell?_alloc_new]; rfl, by rw [World.cell?_alloc_new]; rfl, by rw [World.cell?_alloc_new]; rfl, by rw [World.cell?_alloc_new]; rfl, by rw [World.size_alloc]; omega⟩
theorem PgAt.below {w w' : World} {b : Nat} {x : PgV} {p : Pg} (h : PgAt w b x p) (hb : Below w.heap.size w w') : PgAt w' b x p :=
  ⟨(hb.cell (p := ⟨b, 0, none⟩) h.2.2.2.2.2.2).trans h.1, (hb.cell (p := ⟨b, 1, none⟩) h.2.2.2.2.2.2).trans h.2.1, (hb.cell (p := ⟨b, 2, none⟩) h.2.2.2.2.2.2).trans h.2.2.1, (hb.cell (p := ⟨b, 3, none⟩) h.2.2.2.2.2.2).trans h.2.2.2.1, (hb.cell (p := ⟨b, 4, none⟩) h.2.2.2.2.2.2).trans h.2.2.2.2.1, (hb.cell (p := ⟨b, 5, none⟩) h.2.2.2.2.2.2).trans h.2.2.2.2.2.1, Nat.lt_of_lt_of_le h.2.2.2.2.2.2 hb.size⟩
end Go.Proofs.YtmdpfikalekmlaaGreatDoor
end
section
/- Layer 20: two programs compared. -/
namespace Go.Proofs.YtmdpfikalekmlaaGreatDoor
open Go.RowKit
set_option maxRecDepth 100000
set_option maxHeartbeats 2000000
set_option linter.unusedSimpArgs false
set_option linter.unusedVariables false

def SiRel (l m : List Int) (iv : Value) : Prop := ∃ k : Nat, k ≤ l.length ∧ l.take k = m.take k ∧ iv = .int .i64 (k : Int)
theorem sameInts_any (a b : Value) (l m : List Int) (w : World) (B B' : Nat) (ha : RdL intS w B a l) (hb : RdL intS w B' b m) (hB : B ≤ w.heap.size) (hB' : B' ≤ w.heap.size) :
    Calls Tryz.prog 21 #[a, b] w fun e w' => e = .returned (.bool (decide (l = m))) ∧ Below w.heap.size w w' := by
  obtain ⟨A, ca, rfl, hca, hca2⟩ := ha.open_
  obtain ⟨A', cb, rfl, hcb, hcb2⟩ := hb.open_
  unfold maxLen at hca2 hcb2
  have HA := Lib.hid ha; have HB := Lib.hid hb
  clear ha hb
  by_cases hlen : l.length = m.length
  · have hlb : ((l.length : Int) != (m.length : Int)) = false := by rw [hlen]; simp
    go_enter Tryz.func21, Tryz.ntmps21
    go_wp2
    go_loopw [13] (fun iv wr => SiRel l m iv ∧ Below w.heap.size w wr) (fun iv _ => l.length - (intOf iv).toNat)
    case atStart => exact ⟨⟨0, by omega, by simp, rfl⟩, Below.refl _ _⟩
    case round =>
      obtain ⟨⟨k, hk, htk, rfl⟩, hbl⟩ := hrel
      have HT := Lib.hid htk; have HBL := Lib.hid hbl
      clear htk hbl
      by_cases hlt : k < l.length
      · have hlt2 : k < m.length := by omega
        obtain ⟨g, rfl, z0, c0⟩ := at_int (HA.out.below (HBL.out.mono hB)) hlt
        obtain ⟨g', rfl, z1, d0⟩ := at_int (HB.out.below (HBL.out.mono hB')) hlt2
        by_cases hx : l[k] = m[k]
        · have HN := Lib.hid (show l.take (k + 1) = m.take (k + 1) from by
            rw [List.take_succ_eq_append_getElem hlt, List.take_succ_eq_append_getElem hlt2, HT.out, hx])
          rw [← hx] at d0
          clear hx
          generalize l[k] = x at *
          go_wp2
          go_region
          go_wp2
          go_roundw
          case rel => exact ⟨⟨k + 1, by omega, HN.out, by go_num⟩, HBL.out.drew⟩
          case measure => simp [intOf]; omega
        · have HN := Lib.hid (show decide (l = m) = false from by rw [decide_eq_false_iff_not]; intro h; subst h; exact hx rfl)
          have hxb : (l[k] != m[k]) = true := by simpa using hx
          clear hx
          generalize l[k] = x at *
          generalize m[k] = y at *
          go_wp2
          go_region
          go_wp2
          go_ret
          exact ⟨congrArg (fun b => Ending.returned (.bool b)) HN.out.symm, HBL.out.drew⟩
      · have HN := Lib.hid (show decide (l = m) = true from by
          rw [decide_eq_true_iff]
          have h := HT.out
          rw [List.take_of_length_le (by omega), List.take_of_length_le (by omega)] at h
          exact h)
        go_wp2
        go_ret
        exact ⟨congrArg (fun b => Ending.returned (.bool b)) HN.out.symm, HBL.out⟩
  · have hlb : ((l.length : Int) != (m.length : Int)) = true := by simp; omega
    have HN := Lib.hid (show decide (l = m) = false from by rw [decide_eq_false_iff_not]; intro h; exact hlen (by rw [h]))
    go_enter Tryz.func21, Tryz.ntmps21
    go_wp2
    go_ret
    exact ⟨congrArg (fun b => Ending.returned (.bool b)) HN.out.symm, Below.refl _ _⟩
theorem ftypeLf : Tryz.prog.stoodInHeld 66 = false := by kernel_rfl
theorem guardLf : Tryz.prog.eqGuardType Tryz.prog.depth 66 = false := by kernel_rfl
theorem structLf : Tryz.prog.underlying 66 = some (.struct (Tryz.prog.fieldsOf 66)) := by kernel_rfl
def lfVal (x : Lf) : Value := .agg #[.int .i64 x.field, .string (str x.term)]
theorem lf_eqIn (x y : Lf) (W : World) : (Op.equalIn 10000 66 (lfVal x) (lfVal y)).run Tryz.prog W = .ok (decide (x = y)) W := by
  unfold lfVal
  rw [run_equalIn_agg W 9999 66 _ _ structLf ftypeLf]
  simp only [Program.fieldsOf, Tryz.underlying66]
  simp [Op.eqFields, go_sem, Tryz.underlying3, Tryz.underlying9]
  have ht : ((str x.term).toList = (str y.term).toList) ↔ x.term = y.term := by
    rw [ByteArray.toList_eq, ByteArray.toList_eq]; simp [str]
  obtain ⟨xf, xt⟩ := x
  obtain ⟨yf, yt⟩ := y
  simp only [ht, Lf.mk.injEq]
  by_cases h1 : xf = yf <;> by_cases h2 : xt = yt <;> simp [h1, h2]
theorem lf_neq (x y : Lf) (W : World) : (binOp .neq 66 (lfVal x) (lfVal y)).run Tryz.prog W = .ok (.bool (!decide (x = y))) W := by
  have h := lf_eqIn x y W
  unfold lfVal at h ⊢
  rw [run_neq_struct, h]; rfl
theorem lf_guard (x y : Lf) (op : BinOp) (a b : Operand) (W : World) : (eqGuard op 66 a b (lfVal x) (lfVal y)).run Tryz.prog W = .ok () W := by
  unfold lfVal
  exact run_eqGuard_agg W op 66 a b _ _ guardLf
theorem str_inj2 {a b : List UInt8} (e : str a = str b) : a = b := by
  have := congrArg (fun s : ByteArray => s.data.toList) e
  simpa [str] using this
theorem str_ne_beq2 {a b : List UInt8} (h : a ≠ b) : ((str a).toList == (str b).toList) = false := by
  rw [beq_eq_false_iff_ne]
  intro e
  rw [ByteArray.toList_eq, ByteArray.toList_eq] at e
  exact h (by simpa [str] using e)
end Go.Proofs.YtmdpfikalekmlaaGreatDoor
/- Layer 20: two programs compared, whole. -/
namespace Go.Proofs.YtmdpfikalekmlaaGreatDoor
open Go.RowKit
set_option maxRecDepth 100000
set_option maxHeartbeats 2000000
set_option linter.unusedSimpArgs false
set_option linter.unusedVariables false

theorem pg_ne {p q : Pg} (h : p.avgs ≠ q.avgs ∨ p.curs ≠ q.curs ∨ p.nears ≠ q.nears ∨ p.all ≠ q.all ∨ p.drive ≠ q.drive ∨ p.code ≠ q.code) : decide (p = q) = false := by
  rw [decide_eq_false_iff_not]
  rintro rfl
  rcases h with h | h | h | h | h | h <;> exact h rfl
theorem pg_eq {p q : Pg} (h1 : p.avgs = q.avgs) (h2 : p.curs = q.curs) (h3 : p.nears = q.nears) (h4 : p.all = q.all) (h5 : p.drive = q.drive) (h6 : p.code = q.code) : decide (p = q) = true := by
  rw [decide_eq_true_iff]
  obtain ⟨_, _, _, _, _, _⟩ := p
  obtain ⟨_, _, _, _, _, _⟩ := q
  simp only [] at h1 h2 h3 h4 h5 h6
  rw [h1, h2, h3, h4, h5, h6]
theorem two_new (w : World) (xs ys : Array Value) (t u : TypeId) (j : Nat) : (((w.alloc (.cells xs t)).alloc (.cells ys u)).drew).cell? ⟨w.heap.size, j, none⟩ = xs[j]? ∧ (((w.alloc (.cells xs t)).alloc (.cells ys u)).drew).cell? ⟨w.heap.size + 1, j, none⟩ = ys[j]? ∧ w.heap.size + 1 < (((w.alloc (.cells xs t)).alloc (.cells ys u)).drew).heap.size := by
  refine ⟨?_, ?_, ?_⟩
  · show ((w.alloc (.cells xs t)).alloc (.cells ys u)).cell? _ = _
    rw [World.cell?_alloc_lt _ _ _ (by rw [World.size_alloc]; exact Nat.lt_succ_self _), World.cell?_alloc_new]
  · show ((w.alloc (.cells xs t)).alloc (.cells ys u)).cell? _ = _
    have h := World.cell?_alloc_new (w.alloc (.cells xs t)) ys u j
    rw [World.size_alloc] at h
    exact h
  · show _ < ((w.alloc (.cells xs t)).alloc (.cells ys u)).heap.size
    rw [World.size_alloc, World.size_alloc]; omega
def SlRel (l m : List Lf) (w0 : World) (iv : Value) (wr : World) : Prop := ∃ k : Nat, k ≤ l.length ∧ l.take k = m.take k ∧ iv = .int .i64 (k : Int) ∧ Below w0.heap.size w0 wr
def SnRel (l m : List Nr) (w0 : World) (iv : Value) (wr : World) : Prop := ∃ k : Nat, k ≤ l.length ∧ l.take k = m.take k ∧ iv = .int .i64 (k : Int) ∧ Below w0.heap.size w0 wr
theorem same20_any (x y : PgV) (p q : Pg) (w : World) (hx : PgR w w.heap.size x p) (hy : PgR w w.heap.size y q) (hs : SmallPg p) (ht : SmallPg q) :
    Calls Tryz.prog 8 #[x.val p, y.val q] w fun e w' => e = .returned (.bool (decide (p = q))) ∧ Below w.heap.size w w' := by
  obtain ⟨av, cv, nv, dv, kv, nl⟩ := x
  obtain ⟨bv, ev, mv, fv, gv, ml⟩ := y
  obtain ⟨aA, ac, rfl, -, -⟩ := hx.avgs.open_
  obtain ⟨cA, cc, rfl, -, -⟩ := hx.curs.open_
  have hno : RdL nrS w w.heap.size nv nl := hx.nears
  obtain ⟨nA, nc, hnv, -, -⟩ := hno.open_
  subst hnv
  obtain ⟨dA, dc, rfl, -, -⟩ := hx.drive.open_
  obtain ⟨kA, kc, rfl, -, -⟩ := hx.code.open_
  obtain ⟨bA, bc, rfl, -, -⟩ := hy.avgs.open_
  obtain ⟨eA, ec, rfl, -, -⟩ := hy.curs.open_
  have hmo : RdL nrS w w.heap.size mv ml := hy.nears
  obtain ⟨mA, mc, hmv, -, -⟩ := hmo.open_
  subst hmv
  obtain ⟨fA, fc, rfl, -, -⟩ := hy.drive.open_
  obtain ⟨gA, gc, rfl, -, -⟩ := hy.code.open_
  have HX := Lib.hid hx; have HY := Lib.hid hy
  have HNM := Lib.hid (show nl.map (·.n) = p.nears from hx.nmap)
  have HMM := Lib.hid (show ml.map (·.n) = q.nears from hy.nmap)
  have hl1 := hs.curs.2
  have hl2 := ht.curs.2
  have hl3 : nl.length ≤ 1048576 := by have e := hs.nears.2; rw [← hx.nmap, List.length_map] at e; exact e
  have hl4 : ml.length ≤ 1048576 := by have e := ht.nears.2; rw [← hy.nmap, List.length_map] at e; exact e
  clear hno hmo
  have hb0 : Below w.heap.size w ((w.alloc (.cells #[.slice aA p.avgs.length ac, .slice cA p.curs.length cc, .slice nA nl.length nc, .bool p.all, .slice dA p.drive.length dc, .slice kA p.code.length kc] 28)).alloc (.cells #[.slice bA q.avgs.length bc, .slice eA q.curs.length ec, .slice mA ml.length mc, .bool q.all, .slice fA q.drive.length fc, .slice gA q.code.length gc] 28)) := (((Below.refl _ _).alloc (Nat.le_refl _) _)).alloc (by rw [World.size_alloc]; omega) _
  have P1 := (PgAt.new w ⟨.slice aA p.avgs.length ac, .slice cA p.curs.length cc, .slice nA nl.length nc, .slice dA p.drive.length dc, .slice kA p.code.length kc, nl⟩ p).below ((Below.refl _ _).alloc (Nat.le_refl _) (.cells #[.slice bA q.avgs.length bc, .slice eA q.curs.length ec, .slice mA ml.length mc, .bool q.all, .slice fA q.drive.length fc, .slice gA q.code.length gc] 28))
  have P2 := PgAt.new (w.alloc (.cells #[.slice aA p.avgs.length ac, .slice cA p.curs.length cc, .slice nA nl.length nc, .bool p.all, .slice dA p.drive.length dc, .slice kA p.code.length kc] 28)) ⟨.slice bA q.avgs.length bc, .slice eA q.curs.length ec, .slice mA ml.length mc, .slice fA q.drive.length fc, .slice gA q.code.length gc, ml⟩ q
  rw [World.size_alloc] at P2
  have HB0 := Lib.hid hb0
  have HP1 := Lib.hid P1; have HP2 := Lib.hid P2
  clear hx hy hs ht hb0 P1 P2
  simp only [PgV.val]
  go_enter Tryz.func8, Tryz.ntmps8
  go_upto_region 1 with fail
  generalize ((w.alloc (.cells #[.slice aA p.avgs.length ac, .slice cA p.curs.length cc, .slice nA nl.length nc, .bool p.all, .slice dA p.drive.length dc, .slice kA p.code.length kc] 28)).alloc (.cells #[.slice bA q.avgs.length bc, .slice eA q.curs.length ec, .slice mA ml.length mc, .bool q.all, .slice fA q.drive.length fc, .slice gA q.code.length gc] 28)) = w0 at *
  obtain ⟨a0, a1, a2, a3, a4, a5, az⟩ := HP1.out
  obtain ⟨b0, b1, b2, b3, b4, b5, bz⟩ := HP2.out
  simp only [] at a0 a1 a2 a3 a4 a5 b0 b1 b2 b3 b4 b5
  have HX0 := Lib.hid (HX.out.below HB0.out)
  have HY0 := Lib.hid (HY.out.below HB0.out)
  have hcv1 := RdL.convAll HX0.out.code
  have hcv2 := RdL.convAll HY0.out.code
  by_cases h4 : p.all = q.all
  case neg =>
    have HN := Lib.hid (pg_ne (p := p) (q := q) (.inr (.inr (.inr (.inl h4)))))
    generalize p.all = pa at *
    generalize q.all = qa at *
    rcases (by cases pa <;> cases qa <;> simp at h4 ⊢ : (pa = true ∧ qa = false) ∨ (pa = false ∧ qa = true)) with ⟨rfl, rfl⟩ | ⟨rfl, rfl⟩
    all_goals
      clear h4
      go_wp2
      go_ret
      exact ⟨congrArg (fun b => Ending.returned (.bool b)) HN.out.symm, HB0.out⟩
  have HA4 := Lib.hid h4
  rw [← h4] at b3
  clear h4
  by_cases h6 : p.code = q.code
  case neg =>
    have HN := Lib.hid (pg_ne (p := p) (q := q) (.inr (.inr (.inr (.inr (.inr h6))))))
    have hsb := str_ne_beq2 h6
    clear h6
    generalize str p.code = sp at *
    generalize str q.code = sq at *
    go_wp2
    go_ret
    exact ⟨congrArg (fun b => Ending.returned (.bool b)) HN.out.symm, HB0.out⟩
  have HA6 := Lib.hid h6
  rw [show str q.code = str p.code from by rw [h6]] at hcv2
  clear h6
  generalize str p.code = sp at *
  go_wp2_with fail
  refine (sameInts_any _ _ p.avgs q.avgs w0 w.heap.size w.heap.size HX0.out.avgs HY0.out.avgs HB0.out.size HB0.out.size).mono ?_
  rintro e w1 ⟨rfl, hb1⟩
  have HB1 := Lib.hid (HB0.out.trans (hb1.mono HB0.out.size))
  have HQ1 := Lib.hid (HP1.out.below hb1); have HQ2 := Lib.hid (HP2.out.below hb1)
  clear a0 a1 a2 a3 a4 a5 az b0 b1 b2 b3 b4 b5 bz hcv1 hcv2
  obtain ⟨a0, a1, a2, a3, a4, a5, az⟩ := HQ1.out
  obtain ⟨b0, b1, b2, b3, b4, b5, bz⟩ := HQ2.out
  simp only [] at a0 a1 a2 a3 a4 a5 b0 b1 b2 b3 b4 b5
  clear hb1
  by_cases h1 : p.avgs = q.avgs
  case neg =>
    have HN := Lib.hid (pg_ne (p := p) (q := q) (.inl h1))
    rw [decide_eq_false h1]
    clear h1
    go_wp2
    go_ret
    exact ⟨congrArg (fun b => Ending.returned (.bool b)) HN.out.symm, HB1.out⟩
  have HA1 := Lib.hid h1
  rw [decide_eq_true h1]
  clear h1
  go_wp2_with fail
  refine (sameInts_any _ _ p.drive q.drive w1 w.heap.size w.heap.size (HX.out.below HB1.out).drive (HY.out.below HB1.out).drive HB1.out.size HB1.out.size).mono ?_
  rintro e w2 ⟨rfl, hb2⟩
  have HB2 := Lib.hid (HB1.out.trans (hb2.mono HB1.out.size))
  have HR1 := Lib.hid (HQ1.out.below hb2); have HR2 := Lib.hid (HQ2.out.below hb2)
  clear a0 a1 a2 a3 a4 a5 az b0 b1 b2 b3 b4 b5 bz
  obtain ⟨a0, a1, a2, a3, a4, a5, az⟩ := HR1.out
  obtain ⟨b0, b1, b2, b3, b4, b5, bz⟩ := HR2.out
  simp only [] at a0 a1 a2 a3 a4 a5 b0 b1 b2 b3 b4 b5
  clear hb2
  by_cases h5 : p.drive = q.drive
  case neg =>
    have HN := Lib.hid (pg_ne (p := p) (q := q) (.inr (.inr (.inr (.inr (.inl h5))))))
    rw [decide_eq_false h5]
    clear h5
    go_wp2
    go_ret
    exact ⟨congrArg (fun b => Ending.returned (.bool b)) HN.out.symm, HB2.out⟩
  have HA5 := Lib.hid h5
  rw [decide_eq_true h5]
  clear h5
  by_cases hlc : p.curs.length = q.curs.length
  case neg =>
    have HN := Lib.hid (pg_ne (p := p) (q := q) (.inr (.inl (fun e => hlc (by rw [e])))))
    have hlb : ((p.curs.length : Int) != (q.curs.length : Int)) = true := by simp; omega
    clear hlc
    go_wp2
    go_ret
    exact ⟨congrArg (fun b => Ending.returned (.bool b)) HN.out.symm, HB2.out⟩
  by_cases hln : nl.length = ml.length
  case neg =>
    have HN := Lib.hid (pg_ne (p := p) (q := q) (.inr (.inr (.inl (fun e => hln (by have e1 := congrArg List.length HNM.out; have e2 := congrArg List.length HMM.out; rw [List.length_map] at e1 e2; rw [e1, e2, e]))))))
    have hlb : ((p.curs.length : Int) != (q.curs.length : Int)) = false := by rw [hlc]; simp
    have hnb : ((nl.length : Int) != (ml.length : Int)) = true := by simp; omega
    clear hln hlc
    go_wp2
    go_ret
    exact ⟨congrArg (fun b => Ending.returned (.bool b)) HN.out.symm, HB2.out⟩
  have hlb : ((p.curs.length : Int) != (q.curs.length : Int)) = false := by rw [hlc]; simp
  have hnb : ((nl.length : Int) != (ml.length : Int)) = false := by rw [hln]; simp
  have HLC := Lib.hid hlc; have HLN := Lib.hid hln
  clear hlc hln
  go_wp2
  go_loopw [58] (fun iv wr => SlRel p.curs q.curs w2 iv wr) (fun iv _ => p.curs.length - (intOf iv).toNat)
  case atStart => exact ⟨0, by omega, by simp, rfl, Below.refl _ _⟩
  case round =>
    clear a0 a1 a2 a3 a4 a5 az b0 b1 b2 b3 b4 b5 bz
    obtain ⟨k, hk, htk, rfl, hbl⟩ := hrel
    have HT := Lib.hid htk; have HBL := Lib.hid hbl
    have HBW := Lib.hid (HB2.out.trans (hbl.mono HB2.out.size))
    have HU1 := Lib.hid (HR1.out.below hbl); have HU2 := Lib.hid (HR2.out.below hbl)
    obtain ⟨a0, a1, a2, a3, a4, a5, az⟩ := HU1.out
    obtain ⟨b0, b1, b2, b3, b4, b5, bz⟩ := HU2.out
    simp only [] at a0 a1 a2 a3 a4 a5 b0 b1 b2 b3 b4 b5
    clear htk hbl
    by_cases hlt : k < p.curs.length
    · have hlt2 : k < q.curs.length := by have := HLC.out; omega
      obtain ⟨g, rfl, z0, c0, c1⟩ := at_lf (HX.out.below HBW.out).curs hlt
      obtain ⟨g', rfl, z1, d0, d1⟩ := at_lf (HY.out.below HBW.out).curs hlt2
      have hq := fun W => lf_neq p.curs[k] q.curs[k] W
      have hg := fun op a b W => lf_guard p.curs[k] q.curs[k] op a b W
      unfold lfVal at hq hg
      by_cases hx : p.curs[k] = q.curs[k]
      · have HN := Lib.hid (show p.curs.take (k + 1) = q.curs.take (k + 1) from by
          rw [List.take_succ_eq_append_getElem hlt, List.take_succ_eq_append_getElem hlt2, HT.out, hx])
        rw [show decide (p.curs[k] = q.curs[k]) = true from decide_eq_true hx] at hq
        clear hx
        generalize p.curs[k] = x at *
        generalize q.curs[k] = y at *
        go_wp2
        go_region
        go_wp2
        go_roundw
        case rel => exact ⟨k + 1, by omega, HN.out, by go_num, HBL.out.drew⟩
        case measure => simp [intOf]; omega
      · have HN := Lib.hid (pg_ne (p := p) (q := q) (.inr (.inl (fun h => hx (by simp only [h])))))
        rw [show decide (p.curs[k] = q.curs[k]) = false from decide_eq_false hx] at hq
        clear hx
        generalize p.curs[k] = x at *
        generalize q.curs[k] = y at *
        go_wp2
        go_region
        go_wp2
        go_ret
        exact ⟨congrArg (fun b => Ending.returned (.bool b)) HN.out.symm, HBW.out.drew⟩
    · have HA2 := Lib.hid (show p.curs = q.curs from by
        have h := HT.out
        rw [List.take_of_length_le (by omega), List.take_of_length_le (by have := HLC.out; omega)] at h
        exact h)
      go_wp2
      obtain ⟨wo, rfl⟩ : ∃ wo, wo = wr := ⟨_, rfl⟩
      go_loopw [76] (fun iv wx => SnRel p.nears q.nears wo iv wx) (fun iv _ => nl.length - (intOf iv).toNat)
      case atStart => exact ⟨0, by omega, by simp, rfl, Below.refl _ _⟩
      case round =>
        clear a0 a1 a2 a3 a4 a5 az b0 b1 b2 b3 b4 b5 bz
        obtain ⟨i, hi, hti, rfl, hbn⟩ := hrel
        have hpl : p.nears.length = nl.length := by rw [← HNM.out, List.length_map]
        have hql : q.nears.length = ml.length := by rw [← HMM.out, List.length_map]
        have HPL := Lib.hid hpl; have HQL := Lib.hid hql
        have HTI := Lib.hid hti; have HBN := Lib.hid hbn
        have HBV := Lib.hid (HBW.out.trans (hbn.mono HBW.out.size))
        have HV1 := Lib.hid (HU1.out.below hbn); have HV2 := Lib.hid (HU2.out.below hbn)
        obtain ⟨a0, a1, a2, a3, a4, a5, az⟩ := HV1.out
        obtain ⟨b0, b1, b2, b3, b4, b5, bz⟩ := HV2.out
        simp only [] at a0 a1 a2 a3 a4 a5 b0 b1 b2 b3 b4 b5
        have hin : i ≤ nl.length := by omega
        clear hti hbn hpl hql hi
        by_cases hlt : i < nl.length
        · --NEAR
          have hlt2 : i < ml.length := by have := HLN.out; omega
          obtain ⟨g, rfl, z0, c0, c1, c2⟩ := at_nr (HX.out.below HBV.out).nears hlt
          obtain ⟨g', rfl, z1, d0, d1, d2⟩ := at_nr (HY.out.below HBV.out).nears hlt2
          have HI1 := Lib.hid ((HX.out.below HBV.out).inner _ (List.getElem_mem hlt))
          have HI2 := Lib.hid ((HY.out.below HBV.out).inner _ (List.getElem_mem hlt2))
          have hep : p.nears[i]'(by have := HPL.out; omega) = nl[i].n := by simp only [← HNM.out, List.getElem_map]
          have heq : q.nears[i]'(by have := HQL.out; omega) = ml[i].n := by simp only [← HMM.out, List.getElem_map]
          have HNE := Lib.hid (show nl[i].n ≠ ml[i].n → decide (p = q) = false from fun hne => pg_ne (.inr (.inr (.inl (fun e => hne (by rw [← hep, ← heq]; simp only [e]))))))
          have HEQ := Lib.hid (show nl[i].n = ml[i].n → p.nears.take (i + 1) = q.nears.take (i + 1) from fun e => by
            rw [List.take_succ_eq_append_getElem (by have := HPL.out; omega), List.take_succ_eq_append_getElem (by have := HQL.out; omega), HTI.out, hep, heq, e])
          clear hep heq
          generalize nl[i] = x at *
          generalize ml[i] = y at *
          obtain ⟨xca, xcc, xoa, xoc, xn⟩ := x
          obtain ⟨yca, ycc, yoa, yoc, yn⟩ := y
          simp only [] at c0 c1 c2 d0 d1 d2 HI1 HI2 HNE HEQ
          have hsz := HBV.out.size
          have z0' : (g.add (i * 3)).block < wr.heap.size := by omega
          have z1' : (g'.add (i * 3)).block < wr.heap.size := by omega
          go_wp2
          go_region
          · have hbz : Below wr.heap.size wr (((wr.alloc (.cells #[.slice xca xn.cur.length xcc, .slice xoa xn.off.length xoc, .int .i64 xn.slop] 68)).alloc (.cells #[.slice yca yn.cur.length ycc, .slice yoa yn.off.length yoc, .int .i64 yn.slop] 68)).drew) := (((Below.refl _ _).alloc (Nat.le_refl _) _).alloc (by rw [World.size_alloc]; omega) _).drew
            have p0 : (((wr.alloc (.cells #[.slice xca xn.cur.length xcc, .slice xoa xn.off.length xoc, .int .i64 xn.slop] 68)).alloc (.cells #[.slice yca yn.cur.length ycc, .slice yoa yn.off.length yoc, .int .i64 yn.slop] 68)).drew).cell? ⟨wr.heap.size, 0, none⟩ = some (.slice xca xn.cur.length xcc) := (two_new wr _ _ _ _ 0).1.trans rfl
            have r0 : (((wr.alloc (.cells #[.slice xca xn.cur.length xcc, .slice xoa xn.off.length xoc, .int .i64 xn.slop] 68)).alloc (.cells #[.slice yca yn.cur.length ycc, .slice yoa yn.off.length yoc, .int .i64 yn.slop] 68)).drew).cell? ⟨wr.heap.size + 1, 0, none⟩ = some (.slice yca yn.cur.length ycc) := (two_new wr _ _ _ _ 0).2.1.trans rfl
            have p1 : (((wr.alloc (.cells #[.slice xca xn.cur.length xcc, .slice xoa xn.off.length xoc, .int .i64 xn.slop] 68)).alloc (.cells #[.slice yca yn.cur.length ycc, .slice yoa yn.off.length yoc, .int .i64 yn.slop] 68)).drew).cell? ⟨wr.heap.size, 1, none⟩ = some (.slice xoa xn.off.length xoc) := (two_new wr _ _ _ _ 1).1.trans rfl
            have r1 : (((wr.alloc (.cells #[.slice xca xn.cur.length xcc, .slice xoa xn.off.length xoc, .int .i64 xn.slop] 68)).alloc (.cells #[.slice yca yn.cur.length ycc, .slice yoa yn.off.length yoc, .int .i64 yn.slop] 68)).drew).cell? ⟨wr.heap.size + 1, 1, none⟩ = some (.slice yoa yn.off.length yoc) := (two_new wr _ _ _ _ 1).2.1.trans rfl
            have p2 : (((wr.alloc (.cells #[.slice xca xn.cur.length xcc, .slice xoa xn.off.length xoc, .int .i64 xn.slop] 68)).alloc (.cells #[.slice yca yn.cur.length ycc, .slice yoa yn.off.length yoc, .int .i64 yn.slop] 68)).drew).cell? ⟨wr.heap.size, 2, none⟩ = some (.int .i64 xn.slop) := (two_new wr _ _ _ _ 2).1.trans rfl
            have r2 : (((wr.alloc (.cells #[.slice xca xn.cur.length xcc, .slice xoa xn.off.length xoc, .int .i64 xn.slop] 68)).alloc (.cells #[.slice yca yn.cur.length ycc, .slice yoa yn.off.length yoc, .int .i64 yn.slop] 68)).drew).cell? ⟨wr.heap.size + 1, 2, none⟩ = some (.int .i64 yn.slop) := (two_new wr _ _ _ _ 2).2.1.trans rfl
            have vz : wr.heap.size + 1 < (((wr.alloc (.cells #[.slice xca xn.cur.length xcc, .slice xoa xn.off.length xoc, .int .i64 xn.slop] 68)).alloc (.cells #[.slice yca yn.cur.length ycc, .slice yoa yn.off.length yoc, .int .i64 yn.slop] 68)).drew).heap.size := (two_new wr _ _ _ _ 0).2.2
            have vz' : wr.heap.size < (((wr.alloc (.cells #[.slice xca xn.cur.length xcc, .slice xoa xn.off.length xoc, .int .i64 xn.slop] 68)).alloc (.cells #[.slice yca yn.cur.length ycc, .slice yoa yn.off.length yoc, .int .i64 yn.slop] 68)).drew).heap.size := Nat.lt_of_succ_lt vz
            generalize (((wr.alloc (.cells #[.slice xca xn.cur.length xcc, .slice xoa xn.off.length xoc, .int .i64 xn.slop] 68)).alloc (.cells #[.slice yca yn.cur.length ycc, .slice yoa yn.off.length yoc, .int .i64 yn.slop] 68)).drew) = w5 at *
            have HB5 := Lib.hid (HBV.out.trans (hbz.mono HBV.out.size))
            have HN5 := Lib.hid (HBN.out.trans (hbz.mono HBN.out.size))
            have HW5 := Lib.hid (hbz.mono HBV.out.size)
            clear hbz a0 a1 a2 a3 a4 a5 az b0 b1 b2 b3 b4 b5 bz c0 c1 c2 d0 d1 d2
            have i1 := Lib.hid (HX.out.below HB5.out)
            by_cases hsl : xn.slop = yn.slop
            · have HSL := Lib.hid hsl
              rw [← hsl] at r2
              clear hsl
              go_wp2_with fail
              refine (sameInts_any _ _ xn.cur yn.cur w5 w.heap.size w.heap.size (HI1.out.1.below HW5.out) (HI2.out.1.below HW5.out) HB5.out.size HB5.out.size).mono ?_
              rintro e w6 ⟨rfl, hb6⟩
              have HB6 := Lib.hid (HB5.out.trans (hb6.mono HB5.out.size))
              have HN6 := Lib.hid (HN5.out.trans (hb6.mono HN5.out.size))
              have HW6 := Lib.hid (HW5.out.trans (hb6.mono HB5.out.size))
              have s1 := (hb6.cell (p := ⟨wr.heap.size, 1, none⟩) (by omega)).trans p1
              have t1 := (hb6.cell (p := ⟨wr.heap.size + 1, 1, none⟩) (by omega)).trans r1
              clear hb6 p0 p1 p2 r0 r1 r2
              by_cases hcu : xn.cur = yn.cur
              · have HCU := Lib.hid hcu
                rw [decide_eq_true hcu]
                clear hcu
                go_wp2_with fail
                refine (sameInts_any _ _ xn.off yn.off w6 w.heap.size w.heap.size (HI1.out.2.below HW6.out) (HI2.out.2.below HW6.out) HB6.out.size HB6.out.size).mono ?_
                rintro e w7 ⟨rfl, hb7⟩
                have HB7 := Lib.hid (HB6.out.trans (hb7.mono HB6.out.size))
                have HN7 := Lib.hid (HN6.out.trans (hb7.mono HN6.out.size))
                clear hb7
                by_cases hof : xn.off = yn.off
                · have HE := Lib.hid (HEQ.out (by
                    have h1 := HSL.out; have h2 := HCU.out
                    obtain ⟨_, _, _⟩ := xn
                    obtain ⟨_, _, _⟩ := yn
                    simp only [] at h1 h2 hof
                    rw [h1, h2, hof]))
                  rw [decide_eq_true hof]
                  clear hof
                  go_wp2
                  go_roundw
                  case rel => exact ⟨i + 1, by have := HPL.out; omega, HE.out, by go_num, HN7.out⟩
                  case measure => simp [intOf]; omega
                · have HN := Lib.hid (HNE.out (fun e => hof (by rw [e])))
                  rw [decide_eq_false hof]
                  clear hof
                  go_wp2
                  go_ret
                  exact ⟨congrArg (fun b => Ending.returned (.bool b)) HN.out.symm, HB7.out⟩
              · have HN := Lib.hid (HNE.out (fun e => hcu (by rw [e])))
                rw [decide_eq_false hcu]
                clear hcu
                go_wp2
                go_ret
                exact ⟨congrArg (fun b => Ending.returned (.bool b)) HN.out.symm, HB6.out⟩
            · have HN := Lib.hid (HNE.out (fun e => hsl (by rw [e])))
              have hsb : (xn.slop != yn.slop) = true := by simpa using hsl
              clear hsl
              go_wp2
              go_ret
              exact ⟨congrArg (fun b => Ending.returned (.bool b)) HN.out.symm, HB5.out⟩
          · have hbz : Below wr.heap.size wr (((wr.alloc (.cells #[.slice yca yn.cur.length ycc, .slice yoa yn.off.length yoc, .int .i64 yn.slop] 68)).alloc (.cells #[.slice xca xn.cur.length xcc, .slice xoa xn.off.length xoc, .int .i64 xn.slop] 68)).drew) := (((Below.refl _ _).alloc (Nat.le_refl _) _).alloc (by rw [World.size_alloc]; omega) _).drew
            have p0 : (((wr.alloc (.cells #[.slice yca yn.cur.length ycc, .slice yoa yn.off.length yoc, .int .i64 yn.slop] 68)).alloc (.cells #[.slice xca xn.cur.length xcc, .slice xoa xn.off.length xoc, .int .i64 xn.slop] 68)).drew).cell? ⟨wr.heap.size, 0, none⟩ = some (.slice yca yn.cur.length ycc) := (two_new wr _ _ _ _ 0).1.trans rfl
            have r0 : (((wr.alloc (.cells #[.slice yca yn.cur.length ycc, .slice yoa yn.off.length yoc, .int .i64 yn.slop] 68)).alloc (.cells #[.slice xca xn.cur.length xcc, .slice xoa xn.off.length xoc, .int .i64 xn.slop] 68)).drew).cell? ⟨wr.heap.size + 1, 0, none⟩ = some (.slice xca xn.cur.length xcc) := (two_new wr _ _ _ _ 0).2.1.trans rfl
            have p1 : (((wr.alloc (.cells #[.slice yca yn.cur.length ycc, .slice yoa yn.off.length yoc, .int .i64 yn.slop] 68)).alloc (.cells #[.slice xca xn.cur.length xcc, .slice xoa xn.off.length xoc, .int .i64 xn.slop] 68)).drew).cell? ⟨wr.heap.size, 1, none⟩ = some (.slice yoa yn.off.length yoc) := (two_new wr _ _ _ _ 1).1.trans rfl
            have r1 : (((wr.alloc (.cells #[.slice yca yn.cur.length ycc, .slice yoa yn.off.length yoc, .int .i64 yn.slop] 68)).alloc (.cells #[.slice xca xn.cur.length xcc, .slice xoa xn.off.length xoc, .int .i64 xn.slop] 68)).drew).cell? ⟨wr.heap.size + 1, 1, none⟩ = some (.slice xoa xn.off.length xoc) := (two_new wr _ _ _ _ 1).2.1.trans rfl
            have p2 : (((wr.alloc (.cells #[.slice yca yn.cur.length ycc, .slice yoa yn.off.length yoc, .int .i64 yn.slop] 68)).alloc (.cells #[.slice xca xn.cur.length xcc, .slice xoa xn.off.length xoc, .int .i64 xn.slop] 68)).drew).cell? ⟨wr.heap.size, 2, none⟩ = some (.int .i64 yn.slop) := (two_new wr _ _ _ _ 2).1.trans rfl
            have r2 : (((wr.alloc (.cells #[.slice yca yn.cur.length ycc, .slice yoa yn.off.length yoc, .int .i64 yn.slop] 68)).alloc (.cells #[.slice xca xn.cur.length xcc, .slice xoa xn.off.length xoc, .int .i64 xn.slop] 68)).drew).cell? ⟨wr.heap.size + 1, 2, none⟩ = some (.int .i64 xn.slop) := (two_new wr _ _ _ _ 2).2.1.trans rfl
            have vz : wr.heap.size + 1 < (((wr.alloc (.cells #[.slice yca yn.cur.length ycc, .slice yoa yn.off.length yoc, .int .i64 yn.slop] 68)).alloc (.cells #[.slice xca xn.cur.length xcc, .slice xoa xn.off.length xoc, .int .i64 xn.slop] 68)).drew).heap.size := (two_new wr _ _ _ _ 0).2.2
            have vz' : wr.heap.size < (((wr.alloc (.cells #[.slice yca yn.cur.length ycc, .slice yoa yn.off.length yoc, .int .i64 yn.slop] 68)).alloc (.cells #[.slice xca xn.cur.length xcc, .slice xoa xn.off.length xoc, .int .i64 xn.slop] 68)).drew).heap.size := Nat.lt_of_succ_lt vz
            generalize (((wr.alloc (.cells #[.slice yca yn.cur.length ycc, .slice yoa yn.off.length yoc, .int .i64 yn.slop] 68)).alloc (.cells #[.slice xca xn.cur.length xcc, .slice xoa xn.off.length xoc, .int .i64 xn.slop] 68)).drew) = w5 at *
            have HB5 := Lib.hid (HBV.out.trans (hbz.mono HBV.out.size))
            have HN5 := Lib.hid (HBN.out.trans (hbz.mono HBN.out.size))
            have HW5 := Lib.hid (hbz.mono HBV.out.size)
            clear hbz a0 a1 a2 a3 a4 a5 az b0 b1 b2 b3 b4 b5 bz c0 c1 c2 d0 d1 d2
            have i1 := Lib.hid (HX.out.below HB5.out)
            by_cases hsl : xn.slop = yn.slop
            · have HSL := Lib.hid hsl
              rw [← hsl] at p2
              clear hsl
              go_wp2_with fail
              refine (sameInts_any _ _ xn.cur yn.cur w5 w.heap.size w.heap.size (HI1.out.1.below HW5.out) (HI2.out.1.below HW5.out) HB5.out.size HB5.out.size).mono ?_
              rintro e w6 ⟨rfl, hb6⟩
              have HB6 := Lib.hid (HB5.out.trans (hb6.mono HB5.out.size))
              have HN6 := Lib.hid (HN5.out.trans (hb6.mono HN5.out.size))
              have HW6 := Lib.hid (HW5.out.trans (hb6.mono HB5.out.size))
              have s1 := (hb6.cell (p := ⟨wr.heap.size + 1, 1, none⟩) (by omega)).trans r1
              have t1 := (hb6.cell (p := ⟨wr.heap.size, 1, none⟩) (by omega)).trans p1
              clear hb6 p0 p1 p2 r0 r1 r2
              by_cases hcu : xn.cur = yn.cur
              · have HCU := Lib.hid hcu
                rw [decide_eq_true hcu]
                clear hcu
                go_wp2_with fail
                refine (sameInts_any _ _ xn.off yn.off w6 w.heap.size w.heap.size (HI1.out.2.below HW6.out) (HI2.out.2.below HW6.out) HB6.out.size HB6.out.size).mono ?_
                rintro e w7 ⟨rfl, hb7⟩
                have HB7 := Lib.hid (HB6.out.trans (hb7.mono HB6.out.size))
                have HN7 := Lib.hid (HN6.out.trans (hb7.mono HN6.out.size))
                clear hb7
                by_cases hof : xn.off = yn.off
                · have HE := Lib.hid (HEQ.out (by
                    have h1 := HSL.out; have h2 := HCU.out
                    obtain ⟨_, _, _⟩ := xn
                    obtain ⟨_, _, _⟩ := yn
                    simp only [] at h1 h2 hof
                    rw [h1, h2, hof]))
                  rw [decide_eq_true hof]
                  clear hof
                  go_wp2
                  go_roundw
                  case rel => exact ⟨i + 1, by have := HPL.out; omega, HE.out, by go_num, HN7.out⟩
                  case measure => simp [intOf]; omega
                · have HN := Lib.hid (HNE.out (fun e => hof (by rw [e])))
                  rw [decide_eq_false hof]
                  clear hof
                  go_wp2
                  go_ret
                  exact ⟨congrArg (fun b => Ending.returned (.bool b)) HN.out.symm, HB7.out⟩
              · have HN := Lib.hid (HNE.out (fun e => hcu (by rw [e])))
                rw [decide_eq_false hcu]
                clear hcu
                go_wp2
                go_ret
                exact ⟨congrArg (fun b => Ending.returned (.bool b)) HN.out.symm, HB6.out⟩
            · have HN := Lib.hid (HNE.out (fun e => hsl (by rw [e])))
              have hsb : (xn.slop != yn.slop) = true := by simpa using hsl
              clear hsl
              go_wp2
              go_ret
              exact ⟨congrArg (fun b => Ending.returned (.bool b)) HN.out.symm, HB5.out⟩
        · --END
          have HN := Lib.hid (pg_eq HA1.out HA2.out (show p.nears = q.nears from by
            have h := HTI.out
            rw [List.take_of_length_le (by have := HPL.out; omega), List.take_of_length_le (by have h1 := HQL.out; have h2 := HLN.out; omega)] at h
            exact h) HA4.out HA5.out HA6.out)
          go_wp2
          go_ret
          exact ⟨congrArg (fun b => Ending.returned (.bool b)) HN.out.symm, HBV.out⟩
end Go.Proofs.YtmdpfikalekmlaaGreatDoor
end
