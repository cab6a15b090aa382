/- Layer 20: below, plain, line. -/
import Derived.Test.YtmdpfikalekmlaaGreatDoorPm
import Derived.Test.YtmdpfikalekmlaaGreatDoorRd
import Derived.Test.YtmdpfikalekmlaaGreatDoorOwnL
import Derived.Test.YtmdpfikalekmlaaGreatDoorOwn
import Derived.Test.YtmdpfikalekmlaaGreatDoorOr
namespace Go.Proofs.YtmdpfikalekmlaaGreatDoor
open Go.RowKit
set_option maxRecDepth 100000
set_option maxHeartbeats 4000000
set_option linter.unusedSimpArgs false
set_option linter.unusedVariables false

def intS : Shape Int := { tS := 23, tE := 3, size := 1, bytes := 8, enc := fun x => [.int .i64 x], zero := .int .i64 0 }
theorem intSOk : intS.Ok where
  under := Tryz.underlying23
  info := by kernel_rfl
  zs := rfl
  pos := by decide
  len := fun _ => rfl
  one := fun x u hu => by
    simp only [intS, List.mem_cons, List.not_mem_nil, or_false] at hu
    subst hu; rfl
  small := by decide
theorem at_int {w : World} {B : Nat} {A : Option Addr} {n cap : Nat} {l : List Int} (h : RdL intS w B (.slice A n cap) l) {k : Nat} (hk : k < l.length) :
    ∃ a, A = some a ∧ (a.add k).block < B ∧ w.cell? (a.add k) = some (.int .i64 l[k]) := by
  obtain ⟨a, rfl, hb, h0, h⟩ := h.at2 intSOk hk
  have e : k * intS.size = k := Nat.mul_one k
  rw [e] at hb h0
  exact ⟨a, rfl, hb, h0 _ rfl⟩
def BlRel (l : List Int) (iv : Value) : Prop := ∃ k : Nat, k ≤ l.length ∧ neg (l.take k) = false ∧ iv = .int .i64 (k : Int)
theorem below_any (v : Value) (l : List Int) (w : World) (B : Nat) (h : RdL intS w B v l) :
    Calls Tryz.prog 68 #[v] w fun e w' => e = .returned (.bool (neg l)) ∧ w = w' := by
  obtain ⟨A, cap, rfl, hc, hm⟩ := h.open_
  unfold maxLen at hm
  have H := Lib.hid h
  clear h
  go_enter Tryz.func68, Tryz.ntmps68
  go_wp2
  go_loop [7] (fun iv => BlRel l iv) (fun iv => l.length - (intOf iv).toNat)
  case atStart => exact ⟨0, Nat.zero_le _, rfl, rfl⟩
  case round =>
    obtain ⟨k, hk, hn, rfl⟩ := hrel
    have HN := Lib.hid hn
    clear hn
    by_cases hlt : k < l.length
    · obtain ⟨a, rfl, hb, c0⟩ := at_int H.out hlt
      by_cases hx : l[k] < 0
      · have HQ := Lib.hid (show neg l = true from by
          unfold neg
          rw [List.any_eq_true]
          exact ⟨l[k], List.getElem_mem hlt, decide_eq_true hx⟩)
        generalize l[k] = x at *
        go_wp2
        go_ret
        exact ⟨congrArg (fun b => Ending.returned (.bool b)) HQ.out.symm, rfl⟩
      · have HQ := Lib.hid (show neg (l.take (k + 1)) = false from by rw [neg_take hlt, HN.out]; simp [hx])
        generalize l[k] = x at *
        go_wp2
        go_round
        case rel => exact ⟨k + 1, by omega, HQ.out, by go_num⟩
        case measure => simp [intOf]; omega
    · have HQ := Lib.hid (show neg l = false from by have h := HN.out; rwa [List.take_of_length_le (by omega)] at h)
      go_wp2
      go_ret
      exact ⟨congrArg (fun b => Ending.returned (.bool b)) HQ.out.symm, rfl⟩
theorem plain_any (b : UInt8) (w : World) :
    Calls Tryz.prog 69 #[.int .u8 (b.toNat : Int)] w fun e w' => e = .returned (.bool (plainC b)) ∧ w = w' := by
  have hb := u8_lt b
  have e34 : ((b.toNat : Int) == 34) = decide (b = 34) := by
    rw [Bool.eq_iff_iff, beq_iff_eq, decide_eq_true_iff]
    exact ⟨fun h => UInt8.toNat_inj.1 (by show b.toNat = 34; omega), fun h => by rw [h]; rfl⟩
  have e92 : ((b.toNat : Int) == 92) = decide (b = 92) := by
    rw [Bool.eq_iff_iff, beq_iff_eq, decide_eq_true_iff]
    exact ⟨fun h => UInt8.toNat_inj.1 (by show b.toNat = 92; omega), fun h => by rw [h]; rfl⟩
  have HP : Hid (plainC b = (decide (32 ≤ b.toNat) && decide (b.toNat ≤ 126) && !decide (b = 34) && !decide (b = 92))) := Lib.hid (by unfold plainC; simp)
  by_cases h1 : 32 ≤ b.toNat
  · by_cases h2 : b.toNat ≤ 126
    · have HQ := Lib.hid h1; have HR := Lib.hid h2
      rcases hh3 : decide (b = 34) with _ | _ <;> rcases hh4 : decide (b = 92) with _ | _
      · have h3 := hh3; have h4 := hh4
        clear hh3 hh4
        have f34 : ((b.toNat : Int) != 34) = true := by rw [bne, e34, h3]; rfl
        have f92 : ((b.toNat : Int) != 92) = true := by rw [bne, e92, h4]; rfl
        have HP2 : Hid (plainC b = true) := Lib.hid (HP.out.trans (by rw [decide_eq_true HQ.out, decide_eq_true HR.out, h3, h4]; rfl))
        clear HP h3 h4 e34 e92
        go_enter Tryz.func69, Tryz.ntmps69
        go_wp2
        go_ret
        exact ⟨congrArg (fun b => Ending.returned (.bool b)) HP2.out.symm, rfl⟩
      · have h3 := hh3; have h4 := hh4
        clear hh3 hh4
        have f34 : ((b.toNat : Int) != 34) = true := by rw [bne, e34, h3]; rfl
        have f92 : ((b.toNat : Int) != 92) = false := by rw [bne, e92, h4]; rfl
        have HP2 : Hid (plainC b = false) := Lib.hid (HP.out.trans (by rw [decide_eq_true HQ.out, decide_eq_true HR.out, h3, h4]; rfl))
        clear HP h3 h4 e34 e92
        go_enter Tryz.func69, Tryz.ntmps69
        go_wp2
        go_ret
        exact ⟨congrArg (fun b => Ending.returned (.bool b)) HP2.out.symm, rfl⟩
      · have h3 := hh3; have h4 := hh4
        clear hh3 hh4
        have f34 : ((b.toNat : Int) != 34) = false := by rw [bne, e34, h3]; rfl
        have f92 : ((b.toNat : Int) != 92) = true := by rw [bne, e92, h4]; rfl
        have HP2 : Hid (plainC b = false) := Lib.hid (HP.out.trans (by rw [decide_eq_true HQ.out, decide_eq_true HR.out, h3, h4]; rfl))
        clear HP h3 h4 e34 e92
        go_enter Tryz.func69, Tryz.ntmps69
        go_wp2
        go_ret
        exact ⟨congrArg (fun b => Ending.returned (.bool b)) HP2.out.symm, rfl⟩
      · have h3 := hh3; have h4 := hh4
        clear hh3 hh4
        have f34 : ((b.toNat : Int) != 34) = false := by rw [bne, e34, h3]; rfl
        have f92 : ((b.toNat : Int) != 92) = false := by rw [bne, e92, h4]; rfl
        have HP2 : Hid (plainC b = false) := Lib.hid (HP.out.trans (by rw [decide_eq_true HQ.out, decide_eq_true HR.out, h3, h4]; rfl))
        clear HP h3 h4 e34 e92
        go_enter Tryz.func69, Tryz.ntmps69
        go_wp2
        go_ret
        exact ⟨congrArg (fun b => Ending.returned (.bool b)) HP2.out.symm, rfl⟩
    · have HP2 : Hid (plainC b = false) := Lib.hid (HP.out.trans (by rw [decide_eq_false h2]; simp))
      clear HP
      go_enter Tryz.func69, Tryz.ntmps69
      go_wp2
      go_ret
      exact ⟨congrArg (fun b => Ending.returned (.bool b)) HP2.out.symm, rfl⟩
  · have HP2 : Hid (plainC b = false) := Lib.hid (HP.out.trans (by rw [decide_eq_false h1]; simp))
    clear HP
    go_enter Tryz.func69, Tryz.ntmps69
    go_wp2
    go_ret
    exact ⟨congrArg (fun b => Ending.returned (.bool b)) HP2.out.symm, rfl⟩
def SmallInts (l : List Int) : Prop := ∀ x ∈ l, -9223372036854775808 ≤ x ∧ x ≤ 9223372036854775807
theorem SmallInts.one {x : Int} (h : -9223372036854775808 ≤ x ∧ x ≤ 9223372036854775807) : SmallInts [x] := fun y hy => by
  obtain rfl := List.mem_singleton.1 hy; exact h
def LnRel (wd : List UInt8) (l : List Int) (w : World) (sv iv : Value) (wr : World) : Prop := ∃ k : Nat, k ≤ l.length ∧ sv = .string (str (lineL wd (l.take k))) ∧ iv = .int .i64 (k : Int) ∧ Below w.heap.size w wr
theorem str_cat2 (a b : List UInt8) : str a ++ str b = str (a ++ b) := ba_ext (by rw [ba_append, str_data, str_data, str_data])
theorem line_any (wd : List UInt8) (v : Value) (l : List Int) (w : World) (B : Nat) (hB : B ≤ w.heap.size) (h : RdL intS w B v l) (hs : SmallInts l) (hn : neg l = false) (hw : wd.length ≤ 100) (hl : l.length ≤ 10000000) (hP : Pow10 w) :
    Calls Tryz.prog 39 #[.string (str wd), v] w fun e w' => e = .returned (.string (str (lineL wd l))) ∧ Below w.heap.size w w' := by
  obtain ⟨A, cap, rfl, hc, hm⟩ := h.open_
  unfold maxLen at hm
  have H := Lib.hid h; have HP := Lib.hid hP; have HS := Lib.hid hs; have HN := Lib.hid (neg_false hn)
  clear h hP hs hn
  go_enter Tryz.func39, Tryz.ntmps39
  go_wp2
  go_loopw [0, 9] (fun sv iv wr => LnRel wd l w sv iv wr) (fun _ iv _ => l.length - (intOf iv).toNat)
  case atStart => exact ⟨0, Nat.zero_le _, by simp [lineL], rfl, Below.refl _ _⟩
  case round =>
    obtain ⟨k, hk, rfl, rfl, hb⟩ := hrel
    have HB := Lib.hid hb
    have hsz := lineL_len wd (l.take k) (fun x hx => (HS.out x (List.mem_of_mem_take hx)).2)
    rw [List.length_take] at hsz
    clear hb
    by_cases hlt : k < l.length
    · obtain ⟨a, rfl, hab, c0⟩ := at_int (H.out.belowW hB HB.out) hlt
      have hx0 := HN.out l[k] (List.getElem_mem hlt)
      have hx1 := (HS.out l[k] (List.getElem_mem hlt)).2
      obtain ⟨n, hn⟩ : ∃ n : Nat, l[k] = (n : Int) := ⟨l[k].toNat, by omega⟩
      have hnl := numC_len l[k] hx1
      have HQ := Lib.hid (show lineL wd (l.take (k + 1)) = lineL wd (l.take k) ++ (32 :: dgt n) from by
        rw [List.take_succ_eq_append_getElem hlt, lineL_snoc]; unfold numC; rw [hn]; rfl)
      have hdl : (dgt n).length ≤ 20 := by unfold numC at hnl; rw [hn] at hnl; exact hnl
      rw [hn] at c0
      have hnn : n < 9223372036854775808 := by omega
      have q1 := fun W => str_add (P := Tryz.prog) ⟨#[32]⟩ (str (dgt n)) (by rw [str_size, show (⟨#[32]⟩ : ByteArray).size = 1 from rfl]; omega) W
      have q2 := fun W => str_add (P := Tryz.prog) (str (lineL wd (l.take k))) (⟨#[32]⟩ ++ str (dgt n)) (by rw [ba_append_size, str_size, str_size, show (⟨#[32]⟩ : ByteArray).size = 1 from rfl]; omega) W
      have HE := Lib.hid (show str (lineL wd (l.take k)) ++ (⟨#[32]⟩ ++ str (dgt n)) = str (lineL wd (l.take (k + 1))) from by
        rw [HQ.out, show (⟨#[32]⟩ : ByteArray) = str [32] from rfl, str_cat2, str_cat2]; rfl)
      clear hx0 hx1 hn hnl hdl hsz
      go_wp2_with fail
      refine (Itoa_any n hnn _ (HP.out.below HB.out)).mono ?_
      rintro e w2 ⟨rfl, hb2⟩
      have HB2 := Lib.hid (HB.out.trans (hb2.mono HB.out.size))
      clear hb2
      have hstr : (⟨(dgt n).toArray⟩ : ByteArray) = str (dgt n) := rfl
      rw [hstr]
      clear hstr
      go_wp2
      go_roundw
      case rel => exact ⟨k + 1, by omega, by rw [HE.out], by go_num, HB2.out⟩
      case measure => simp [intOf]; omega
    · have HQ := Lib.hid (show l.take k = l from List.take_of_length_le (by omega))
      go_wp2
      go_ret
      refine ⟨?_, HB.out⟩
      exact congrArg (fun b => Ending.returned (.string (str (lineL wd b)))) HQ.out
end Go.Proofs.YtmdpfikalekmlaaGreatDoor
/- Layer 20: quoted. -/
namespace Go.Proofs.YtmdpfikalekmlaaGreatDoor
open Go.RowKit
set_option maxRecDepth 100000
set_option maxHeartbeats 4000000
set_option linter.unusedSimpArgs false
set_option linter.unusedVariables false

theorem OwnB.lit3 (w : World) {B : Nat} (hB : B ≤ w.heap.size) (a b c : UInt8) : OwnB (w.alloc (.cells #[.int .u8 a.toNat, .int .u8 b.toNat, .int .u8 c.toNat] 5)) B (.slice (some ⟨w.heap.size, 0, none⟩) 3 3) [a, b, c] :=
  World.ownsRow_lit w #[.int .u8 a.toNat, .int .u8 b.toNat, .int .u8 c.toNat] 3 hB (by unfold maxLen; omega) rfl
theorem and15 (x : UInt8) : bits .and .u8 (x.toNat : Int) 15 = ((x.toNat % 16 : Nat) : Int) := by
  have h := u8_and_nat x.toNat 15 x.toNat_lt (by decide)
  rw [show ((15 : Nat) : Int) = 15 from rfl] at h
  rw [h, show (15 : Nat) = 2 ^ 4 - 1 from rfl, Nat.and_two_pow_sub_one_eq_mod]
theorem all_bytesQ {p : UInt8 → Bool} (h : (List.range 256).all (fun n => p (UInt8.ofNat n)) = true) (c : UInt8) : p c = true := by
  have := List.all_eq_true.1 h c.toNat (by rw [List.mem_range]; exact c.toNat_lt)
  rwa [UInt8.ofNat_toNat] at this
def hexS : ByteArray := ⟨#[48, 49, 50, 51, 52, 53, 54, 55, 56, 57, 97, 98, 99, 100, 101, 102]⟩
theorem hex_at (n : Nat) (h : n < 16) (W : World) : (Instr.index 9 (.string ⟨#[48, 49, 50, 51, 52, 53, 54, 55, 56, 57, 97, 98, 99, 100, 101, 102]⟩) (.int .u8 (n : Int))).run Tryz.prog W = .ok (.int .u8 ((hexC n).toNat : Int)) W := by
  rw [run_index_string W 9 _ .u8 (n : Int) Tryz.underlying9, dif_pos ⟨by omega, by show (n : Int) < 16; omega⟩]
  have : ∀ m, m < 16 → (⟨#[48, 49, 50, 51, 52, 53, 54, 55, 56, 57, 97, 98, 99, 100, 101, 102]⟩ : ByteArray)[m]! = hexC m := by decide
  have h2 := this n h
  rw [getElem!_pos _ n (by show n < 16; exact h)] at h2
  rw [← h2]
  rfl
def QuRel (s : ByteArray) (w : World) (ov iv : Value) (wr : World) : Prop := ∃ k : Nat, k ≤ s.size ∧ iv = .int .i64 (k : Int) ∧ OwnB wr w.heap.size ov (34 :: (s.data.toList.take k).flatMap quoC) ∧ Below w.heap.size w wr
theorem take_quo {s : ByteArray} {k : Nat} (hk : k < s.size) : (s.data.toList.take (k + 1)).flatMap quoC = (s.data.toList.take k).flatMap quoC ++ quoC s[k] := by
  have hk2 : k < s.data.toList.length := by rw [← ba_size]; exact hk
  rw [List.take_succ_eq_append_getElem hk2, List.flatMap_append]
  simp
  rfl
theorem quo_bd (s : ByteArray) (k : Nat) : ((s.data.toList.take k).flatMap quoC).length ≤ 3 * s.size := by
  have := quoF_len (s.data.toList.take k)
  rw [List.length_take, ← ba_size] at this
  omega
theorem quoted_any (s : ByteArray) (w : World) (hs : s.size ≤ 10000000) :
    Calls Tryz.prog 40 #[.string s] w fun e w' => e = .returned (.string (str (quoL s.data.toList))) ∧ Below w.heap.size w w' := by
  go_enter Tryz.func40, Tryz.ntmps40
  go_wp2
  go_loopw [3, 4] (fun ov iv wr => QuRel s w ov iv wr) (fun _ iv _ => s.size - (intOf iv).toNat)
  case atStart => exact ⟨0, Nat.zero_le _, rfl, OwnB.lit1 w (Nat.le_refl _) 34, (Below.refl _ _).alloc (Nat.le_refl _) _⟩
  case round =>
    obtain ⟨k, hk, rfl, ho, hb⟩ := hrel
    have HO := Lib.hid ho; have HB := Lib.hid hb
    have hbd := quo_bd s k
    have hBr : w.heap.size ≤ wr.heap.size := hb.size
    clear ho hb
    by_cases hlt : k < s.size
    · have hbx := u8_lt s[k]
      have HT := Lib.hid (take_quo hlt)
      by_cases hp : plainC s[k] = true
      · have HQ := Lib.hid (show quoC s[k] = [s[k]] from by unfold quoC; rw [if_pos hp])
        go_wp2_with fail
        refine (plain_any s[k] _).mono ?_
        rintro e wc ⟨rfl, rfl⟩
        rw [hp]
        clear hp
        go_wp2_with (at_builtin; refine OwnB.append HO.out s[k].toNat (by omega) (by omega) rfl _ _ rfl rfl rfl hBr ?_ ?_)
        · simp at hbd ⊢; omega
        · intro v' w' h2 h3
          have H2 := Lib.hid h2; have HB3 := Lib.hid (HB.out.trans h3)
          clear h2 h3
          go_wp2
          go_roundw
          case rel =>
            refine ⟨k + 1, by omega, by go_num, ?_, HB3.out⟩
            have h := H2.out
            rw [HT.out, HQ.out]
            simpa using h
          case measure => simp [intOf]; omega
      · have hpf : plainC s[k] = false := by simpa using hp
        have HQ := Lib.hid (show quoC s[k] = [92, hexC (s[k].toNat / 16), hexC (s[k].toNat % 16)] from by unfold quoC; rw [if_neg hp])
        go_wp2_with fail
        refine (plain_any s[k] _).mono ?_
        rintro e wc ⟨rfl, rfl⟩
        rw [hpf]
        have hH : ((s[k].toNat : Int) / 16) = ((s[k].toNat / 16 : Nat) : Int) := by omega
        have hL := and15 s[k]
        have hb16 : s[k].toNat / 16 < 16 := by have := s[k].toNat_lt; omega
        have hl16 : s[k].toNat % 16 < 16 := by omega
        have hlen := HQ.out
        generalize s[k].toNat / 16 = H at *
        generalize s[k].toNat % 16 = L at *
        have q1 := fun W => hex_at H hb16 W
        have q2 := fun W => hex_at L hl16 W
        have HLEN := Lib.hid hlen
        clear hp hpf hlen
        have HX := Lib.hid (OwnB.lit3 wr hBr 92 (hexC H) (hexC L)).drew
        have HO3 := Lib.hid (HO.out.alloc (.cells #[.int .u8 (92 : UInt8).toNat, .int .u8 (hexC H).toNat, .int .u8 (hexC L).toNat] 5)).drew
        go_wp2_with fail
        have hz3 : w.heap.size ≤ (wr.alloc (.cells #[.int .u8 (92 : UInt8).toNat, .int .u8 (hexC H).toNat, .int .u8 (hexC L).toNat] 5)).drew.heap.size := by
          show _ ≤ (wr.alloc _).heap.size
          rw [World.size_alloc]; omega
        have HZ3 := Lib.hid hz3
        have HBA := Lib.hid ((HB.out.alloc hBr (.cells #[.int .u8 (92 : UInt8).toNat, .int .u8 (hexC H).toNat, .int .u8 (hexC L).toNat] 5)).drew)
        have HL3 := Lib.hid (show (34 :: (s.data.toList.take k).flatMap quoC).length + [92, hexC H, hexC L].length ≤ 140737488355328 by simp at hbd ⊢; omega)
        clear hz3
        go_region_law (refine OwnB.stepAppend HO3.out HX.out (Nat.zero_lt_succ _) rfl _ _ rfl rfl rfl HZ3.out HL3.out (fun v' w' h2 h3 => ?_))
        all_goals
          have H2 := Lib.hid h2; have HB3 := Lib.hid (HBA.out.trans h3)
          clear h2 h3
          go_wp2
          go_roundw
          case rel =>
            refine ⟨k + 1, by omega, by go_num, ?_, HB3.out⟩
            have h := H2.out
            rw [HT.out, HQ.out]
            simpa using h
          case measure => simp [intOf]; omega
    · have HT := Lib.hid (show s.data.toList.take k = s.data.toList from List.take_of_length_le (by rw [← ba_size]; omega))
      go_wp2_with (at_builtin; refine OwnB.append HO.out 34 (by omega) (by omega) rfl _ _ rfl rfl rfl hBr ?_ ?_)
      · simp at hbd ⊢; omega
      · intro v' w' h2 h3
        have HC := Lib.hid h2.conv; have HB3 := Lib.hid (HB.out.trans h3)
        clear h2 h3
        have hc := HC.out
        go_wp2
        go_ret
        refine ⟨?_, HB3.out⟩
        rw [HT.out]
        rfl
end Go.Proofs.YtmdpfikalekmlaaGreatDoor
