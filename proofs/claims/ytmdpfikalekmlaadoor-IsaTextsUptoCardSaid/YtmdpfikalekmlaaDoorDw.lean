/- Layer 20, the document: words, quoted. -/
import Derived.Test.YtmdpfikalekmlaaDoorDm
import Derived.Test.YtmdpfikalekmlaaDoorSf
import Derived.Test.YtmdpfikalekmlaaDoorQu
namespace Go.Proofs.YtmdpfikalekmlaaDoor
open Go.RowKit
set_option maxRecDepth 100000
set_option maxHeartbeats 2000000
set_option linter.unusedSimpArgs false
set_option linter.unusedVariables false

def WdRel (wd : List UInt8) (l : List Int) (w : World) (ov iv : Value) (wr : World) : Prop :=
  ∃ k : Nat, k ≤ l.length ∧ iv = .int .i64 (k : Int) ∧ OwnX wr w.heap.size ov (lineL wd (l.take k)) ∧ Below w.heap.size w wr
theorem words_any (wd : List UInt8) (v : Value) (l : List Int) (w : World) (B : Nat) (hB : B ≤ w.heap.size) (h : RdL intS w B v l) (hs : SmallInts l) (hn : neg l = false) (hw : wd.length ≤ 100) (hl : l.length ≤ 10000000) :
    Calls Tryd.prog 45 #[.string (str wd), v] w fun e w' => e = .returned (.string (str (lineL wd l))) ∧ Below w.heap.size w w' := by
  obtain ⟨A, cap, rfl, hc, hc2⟩ := h.open_
  have H := Lib.hid h; have HS := Lib.hid hs; have HN := Lib.hid (neg_false hn)
  have HO0 := Lib.hid (bytes_own (str wd) w (by rw [str_size]; unfold maxLen; omega))
  have HB0 := Lib.hid (bytes_below (str wd) w)
  have cb := fun W => bytes_conv (str wd) W
  clear h hs hn hc hc2
  go_enter Tryd.func45, Tryd.ntmps45
  go_wp2
  go_loopw [5, 12] (fun ov iv wr => WdRel wd l w ov iv wr) (fun _ iv _ => l.length - (intOf iv).toNat)
  case atStart => exact ⟨0, Nat.zero_le _, rfl, by have h := HO0.out; rw [str_data] at h; simpa [lineL] using h, HB0.out⟩
  case round =>
    obtain ⟨k, hk, rfl, ho, hb⟩ := hrel
    have HO := Lib.hid ho; have HB := Lib.hid hb
    have hsz := hb.size
    have hll : (lineL wd (l.take k)).length ≤ 100 + 21 * k := by
      have h := lineL_len wd (l.take k) (fun x hx => (HS.out x (List.mem_of_mem_take hx)).2)
      rw [List.length_take] at h
      omega
    clear ho hb
    by_cases hlt : k < l.length
    · obtain ⟨a, rfl, hab, c0⟩ := at_int (H.out.below (HB.out.mono hB)) hlt
      have hx1 := HN.out _ (List.getElem_mem hlt)
      have hx2 := HS.out _ (List.getElem_mem hlt)
      have HNX := Lib.hid (show lineL wd (l.take (k + 1)) = lineL wd (l.take k) ++ (32 :: numC l[k]) from by
        rw [List.take_succ_eq_append_getElem hlt, lineL_snoc])
      generalize l[k] = x at *
      obtain ⟨n, rfl⟩ : ∃ n : Nat, x = (n : Int) := ⟨x.toNat, by omega⟩
      have hn : n < 18446744073709551616 := by omega
      have hdl := dgt_len n hn
      have hal0 : (lineL wd (l.take k)).length ≤ 300000000 := by omega
      have hal1 : (lineL wd (l.take k)).length + 1 ≤ 140737488355328 := by omega
      have HLL := Lib.hid hll
      clear hll
      generalize hpre : lineL wd (l.take k) = pre at *
      have HPRE := Lib.hid hpre
      clear hpre
      go_wp2_with (at_builtin; refine OwnX.appendI HO.out 32 (by decide) (by decide) rfl _ _ rfl rfl rfl hsz hal1 ?_; intro v1 w1 ho1 hb1; have HO1 := Lib.hid ho1; have HB1 := Lib.hid (HB.out.trans hb1); have hsz1 := (HB.out.trans hb1).size; clear ho1 hb1)
      refine (decimal_any n hn w1).mono ?_
      rintro e w2 ⟨rfl, hb2⟩
      have HO2 := Lib.hid (HO1.out.below hb2)
      have HB2 := Lib.hid (HB1.out.trans (hb2.mono hsz1))
      have hsz2 := HB2.out.size
      have hal2 : (pre ++ [UInt8.ofNat (32 : Int).toNat]).length + (str (dgt n)).size ≤ 140737488355328 := by rw [str_size, List.length_append]; simp; omega
      clear hb2
      go_wp2_with (at_builtin; refine OwnX.appendStr HO2.out (str (dgt n)) rfl _ _ rfl rfl rfl hsz2 hal2 ?_; intro v3 w3 ho3 hb3; have HO3 := Lib.hid ho3; have HB3 := Lib.hid (HB2.out.trans hb3); clear ho3 hb3)
      go_roundw
      case rel =>
        refine ⟨k + 1, by omega, by go_num, ?_, HB3.out⟩
        rw [HNX.out]
        have h := HO3.out
        rw [str_data, List.append_assoc] at h
        exact h
      case measure => simp [intOf]; omega
    · have HE := Lib.hid (show lineL wd (l.take k) = lineL wd l from by rw [List.take_of_length_le (by omega)])
      have cv := HO.out.conv
      rw [HE.out] at cv
      clear hll
      go_wp2
      go_ret
      exact ⟨rfl, HB.out⟩
theorem rplain (b : UInt8) : plainC b = (!(decide (b.toNat < 32) || decide (126 < b.toNat) || decide (b.toNat = 34) || decide (b.toNat = 92))) := by
  have h1 : (b = 34) ↔ b.toNat = 34 := ⟨fun e => by rw [e]; rfl, fun e => UInt8.toNat_inj.1 e⟩
  have h2 : (b = 92) ↔ b.toNat = 92 := ⟨fun e => by rw [e]; rfl, fun e => UInt8.toNat_inj.1 e⟩
  unfold plainC
  simp only [ne_eq, h1, h2]
  by_cases a1 : b.toNat < 32 <;> by_cases a2 : 126 < b.toNat <;> by_cases a3 : b.toNat = 34 <;> by_cases a4 : b.toNat = 92 <;> simp [a1, a2, a3, a4] <;> omega
theorem wrap_u8n (n : Nat) (h : n < 256) : IntKind.u8.wrap (n : Int) = (n : Int) := by
  simp [IntKind.wrap, IntKind.bits, IntKind.signed]
  omega
theorem rquoted_any (s : ByteArray) (w : World) (hs : s.size ≤ 10000000) :
    Calls Tryd.prog 47 #[.string s] w fun e w' => e = .returned (.string (str (quoL s.data.toList))) ∧ Below w.heap.size w w' := by
  go_enter Tryd.func47, Tryd.ntmps47
  go_wp2
  go_loopw [4, 5] (fun ov iv wr => QuRel s w ov iv wr) (fun _ iv _ => s.size - (intOf iv).toNat)
  case atStart => exact ⟨0, Nat.zero_le _, rfl, OwnB.lit1 w (Nat.le_refl _) 34, (Below.refl _ _).alloc (Nat.le_refl _) _⟩
  case round =>
    obtain ⟨k, hk, rfl, ho, hb⟩ := hrel
    have HO := Lib.hid ho; have HB := Lib.hid hb
    have hbd := quo_bd s k
    have hBr : w.heap.size ≤ wr.heap.size := hb.size
    clear ho hb
    by_cases hlt : k < s.size
    · have hbx := u8_lt s[k]
      have HT := Lib.hid (take_quo hlt)
      have HPL := Lib.hid (rplain s[k])
      go_upto_region 7 with (fail)
      go_cut [30] (fun s30 wx => s30 = .bool (!plainC s[k]) ∧ wr = wx)
      case first =>
        by_cases g1 : s[k].toNat < 32
        · have hp := Lib.hid (show plainC s[k] = false from by rw [HPL.out]; simp [g1])
          go_wp2
          go_meet
          exact ⟨by rw [hp.out]; rfl, rfl⟩
        · by_cases g2 : 126 < s[k].toNat
          · have hp := Lib.hid (show plainC s[k] = false from by rw [HPL.out]; simp [g2])
            go_wp2
            go_meet
            exact ⟨by rw [hp.out]; rfl, rfl⟩
          · by_cases g3 : s[k].toNat = 34
            · have hp := Lib.hid (show plainC s[k] = false from by rw [HPL.out]; simp [g3])
              have e3 : (s[k].toNat : Int) = 34 := by omega
              go_wp2
              go_meet
              exact ⟨by rw [hp.out]; rfl, rfl⟩
            · by_cases g4 : s[k].toNat = 92
              · have hp := Lib.hid (show plainC s[k] = false from by rw [HPL.out]; simp [g4])
                have e3 : ((s[k].toNat : Int) == 34) = false := by simp; omega
                have e4 : (s[k].toNat : Int) = 92 := by omega
                go_wp2
                go_meet
                exact ⟨by rw [hp.out]; rfl, rfl⟩
              · have hp := Lib.hid (show plainC s[k] = true from by rw [HPL.out]; simp [g1, g2, g3, g4])
                have e3 : ((s[k].toNat : Int) == 34) = false := by simp; omega
                have e4 : ((s[k].toNat : Int) == 92) = false := by simp; omega
                go_wp2
                go_meet
                exact ⟨by rw [hp.out]; simp; omega, rfl⟩
      case rest =>
        obtain ⟨rfl, rfl⟩ := hcut
        by_cases hp : plainC s[k] = true
        · have HQ := Lib.hid (show quoC s[k] = [s[k]] from by unfold quoC; rw [if_pos hp])
          rw [hp]
          clear hp
          go_wp2_with (at_builtin; refine OwnB.append HO.out s[k].toNat (by omega) (by omega) rfl _ _ rfl rfl rfl hBr ?_ ?_)
          · simp at hbd ⊢; omega
          · intro v' w' h2 h3
            have H2 := Lib.hid h2; have HB3 := Lib.hid (HB.out.trans h3)
            clear h2 h3
            go_wp2
            go_roundw
            case rel =>
              refine ⟨k + 1, by omega, by go_num, ?_, HB3.out⟩
              have h := H2.out
              rw [HT.out, HQ.out]
              simpa using h
            case measure => simp [intOf]; omega
        · have hpf : plainC s[k] = false := by simpa using hp
          have HQ := Lib.hid (show quoC s[k] = [92, hexC (s[k].toNat / 16), hexC (s[k].toNat % 16)] from by unfold quoC; rw [if_neg hp])
          rw [hpf]
          have hH : ((s[k].toNat : Int) / 16) = ((s[k].toNat / 16 : Nat) : Int) := by omega
          have hL : ((s[k].toNat : Int) % 16) = ((s[k].toNat % 16 : Nat) : Int) := by omega
          have hb16 : s[k].toNat / 16 < 16 := by have := s[k].toNat_lt; omega
          have hl16 : s[k].toNat % 16 < 16 := by omega
          have hlen := HQ.out
          have hT : (s[k].toNat : Int).tmod 16 = ((s[k].toNat % 16 : Nat) : Int) := by rw [Int.tmod_eq_emod_of_nonneg (by omega)]; omega
          generalize s[k].toNat / 16 = H at *
          generalize s[k].toNat % 16 = L at *
          have q1 := fun W => hex_at H hb16 W
          have q2 := fun W => hex_at L hl16 W
          have w1 := wrap_u8n H (by omega)
          have w2 := wrap_u8n L (by omega)
          have HLEN := Lib.hid hlen
          clear hp hpf hlen
          have HX := Lib.hid (OwnB.lit3 wr hBr 92 (hexC H) (hexC L)).drew
          have HO3 := Lib.hid (HO.out.alloc (.cells #[.int .u8 (92 : UInt8).toNat, .int .u8 (hexC H).toNat, .int .u8 (hexC L).toNat] 5)).drew
          go_wp2_with fail
          have hz3 : w.heap.size ≤ (wr.alloc (.cells #[.int .u8 (92 : UInt8).toNat, .int .u8 (hexC H).toNat, .int .u8 (hexC L).toNat] 5)).drew.heap.size := by
            show _ ≤ (wr.alloc _).heap.size
            rw [World.size_alloc]; omega
          have HZ3 := Lib.hid hz3
          have HBA := Lib.hid ((HB.out.alloc hBr (.cells #[.int .u8 (92 : UInt8).toNat, .int .u8 (hexC H).toNat, .int .u8 (hexC L).toNat] 5)).drew)
          have HL3 := Lib.hid (show (34 :: (s.data.toList.take k).flatMap quoC).length + [92, hexC H, hexC L].length ≤ 140737488355328 by simp at hbd ⊢; omega)
          clear hz3
          go_region_law (refine OwnB.stepAppend HO3.out HX.out (Nat.zero_lt_succ _) rfl _ _ rfl rfl rfl HZ3.out HL3.out (fun v' w' h2 h3 => ?_))
          all_goals
            have H2 := Lib.hid h2; have HB3 := Lib.hid (HBA.out.trans h3)
            clear h2 h3
            go_wp2
            go_roundw
            case rel =>
              refine ⟨k + 1, by omega, by go_num, ?_, HB3.out⟩
              have h := H2.out
              rw [HT.out, HQ.out]
              simpa using h
            case measure => simp [intOf]; omega
    · have HT := Lib.hid (show s.data.toList.take k = s.data.toList from List.take_of_length_le (by rw [← ba_size]; omega))
      go_wp2_with (at_builtin; refine OwnB.append HO.out 34 (by omega) (by omega) rfl _ _ rfl rfl rfl hBr ?_ ?_)
      · simp at hbd ⊢; omega
      · intro v' w' h2 h3
        have HC := Lib.hid h2.conv; have HB3 := Lib.hid (HB.out.trans h3)
        clear h2 h3
        have hc := HC.out
        go_wp2
        go_ret
        refine ⟨?_, HB3.out⟩
        rw [HT.out]
        rfl
end Go.Proofs.YtmdpfikalekmlaaDoor
