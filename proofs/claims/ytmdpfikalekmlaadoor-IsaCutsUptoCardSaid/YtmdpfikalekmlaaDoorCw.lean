/- Layer 20: the law of listings cut off and added to, walked. -/
import Derived.Test.YtmdpfikalekmlaaDoorBw
import Derived.Test.YtmdpfikalekmlaaDoorCt
namespace Go.Proofs.YtmdpfikalekmlaaDoor
open Go.RowKit
set_option maxRecDepth 100000
set_option maxHeartbeats 40000000
set_option linter.unusedSimpArgs false
set_option linter.unusedVariables false

def CtRel (s : List UInt8) (m : Nat) (lv iv : Value) : Prop := ∃ k : Nat, k ≤ m ∧ iv = .int .i64 (k : Int) ∧ lv = .int .i64 (((s.take k).count 10 + 1 : Nat) : Int)
theorem atCut (a : Int) (n : Nat) (hn : n ≤ 1000000000) (ha : -9223372036854775808 ≤ a ∧ a ≤ 9223372036854775807) : ∃ m : Nat, wrap64 ((IntKind.u64.wrap a).tmod ((n : Int) + 1)) = (m : Int) ∧ m ≤ n := by
  have h0 : 0 ≤ IntKind.u64.wrap a := by rw [IntKind.wrap_u64]; omega
  have h1 := Int.tmod_nonneg ((n : Int) + 1) h0
  have h2 : (IntKind.u64.wrap a).tmod ((n : Int) + 1) < (n : Int) + 1 := Int.tmod_lt_of_pos _ (by omega)
  refine ⟨((IntKind.u64.wrap a).tmod ((n : Int) + 1)).toNat, ?_, by omega⟩
  generalize (IntKind.u64.wrap a).tmod ((n : Int) + 1) = z at *
  rw [Int.toNat_of_nonneg h1]
  unfold wrap64
  omega
def CbRel (W7 : World) (iv : Value) (wr : World) : Prop := ∃ b : Nat, b ≤ 6 ∧ iv = .int .i64 (b : Int) ∧ Below W7.heap.size W7 wr
theorem bad_mem {b : Nat} (h : b < 6) : badLines.getD b [] ∈ badLines := by
  have : ∀ j, j < 6 → badLines.getD j [] ∈ badLines := by decide
  exact this b h
theorem bad_small {b : Nat} (h : b < 6) : (badLines.getD b [] ++ [10]).length ≤ 20 := by
  have : ∀ j, j < 6 → (badLines.getD j [] ++ [10]).length ≤ 20 := by decide
  exact this b h
theorem bad_cells (W : World) : ∀ b, b < 6 → (W.alloc (.cells #[.string ⟨#[97, 118, 103, 115, 32, 49, 10]⟩, .string ⟨#[104, 97, 108, 116, 10]⟩, .string ⟨#[10]⟩, .string ⟨#[101, 110, 100, 32, 10]⟩, .string ⟨#[100, 114, 105, 118, 101, 10]⟩, .string ⟨#[115, 99, 97, 108, 101, 32, 48, 49, 10]⟩] 9)).cell? ⟨W.heap.size, b, none⟩ = some (.string (str (badLines.getD b [] ++ [10]))) := by
  intro b hb
  rw [World.cell?_alloc_new]
  match b, hb with
  | 0, _ => rfl
  | 1, _ => rfl
  | 2, _ => rfl
  | 3, _ => rfl
  | 4, _ => rfl
  | 5, _ => rfl
theorem isaCuts_walk (w : World) (ea : List Addr) (x : PgV) (p : Pg) (a : Int) (hx : PgR w w.heap.size x p) (hs : SmallPg p) (hw : WtPg p) (ha : -9223372036854775808 ≤ a ∧ a ≤ 9223372036854775807) (hE : IsaEnvB w ea) :
    Calls Tryd.prog 10 #[x.val p, .int .i64 a] w fun e w' => e = .returned (.bool true) ∧ Below w.heap.size w w' := by
  have HX := Lib.hid hx; have HSP := Lib.hid hs; have HWP := Lib.hid hw; have HE := Lib.hid hE
  have hxv := hx
  obtain ⟨av, cv, nv, dv, kv, nl⟩ := x
  obtain ⟨aA, ac, rfl, -, -⟩ := hxv.avgs.open_
  obtain ⟨cA, cc, rfl, -, -⟩ := hxv.curs.open_
  have hno : RdL nrS w w.heap.size nv nl := hxv.nears
  obtain ⟨nA, nc, hnv, -, -⟩ := hno.open_
  subst hnv
  obtain ⟨dA, dc, rfl, -, -⟩ := hxv.drive.open_
  obtain ⟨kA, kc, rfl, -, -⟩ := hxv.code.open_
  clear hno hxv
  have hb0 : Below w.heap.size w (w.alloc (.cells #[.slice aA p.avgs.length ac, .slice cA p.curs.length cc, .slice nA nl.length nc, .bool p.all, .slice dA p.drive.length dc, .slice kA p.code.length kc] 44)) := (Below.refl _ _).alloc (Nat.le_refl _) _
  have P1 := PgAt.new w ⟨.slice aA p.avgs.length ac, .slice cA p.curs.length cc, .slice nA nl.length nc, .slice dA p.drive.length dc, .slice kA p.code.length kc, nl⟩ p
  have HB0 := Lib.hid hb0; have HP1 := Lib.hid P1
  have en1 := fun W => errI_nnil ea 20 W
  have en2 := fun W => errI_nil ea 20 W
  have en3 := fun W => errI_nnil ea 15 W
  have en4 := fun W => errI_nil ea 15 W
  have eg0 := fun op x y W => errI_guard0 ea 20 op x y W
  have eg1 := fun op x y W => errI_guard0 ea 15 op x y W
  clear hx hs hw hE hb0 P1
  simp only [PgV.val]
  go_enter Tryd.func10, Tryd.ntmps10
  go_wp2_with fail
  generalize (w.alloc (.cells #[.slice aA p.avgs.length ac, .slice cA p.curs.length cc, .slice nA nl.length nc, .bool p.all, .slice dA p.drive.length dc, .slice kA p.code.length kc] 44)) = w0 at *
  refine (lives_any _ ea (HE.out.below HB0.out).1.few (HE.out.below HB0.out).2.1 (HE.out.below HB0.out).2.2.1).mono ?_
  rintro e w1 ⟨rfl, hb1⟩
  have HB1 := Lib.hid (HB0.out.trans (hb1.mono HB0.out.size))
  have HQ1 := Lib.hid (HP1.out.below hb1)
  obtain ⟨a0, a1, a2, a3, a4, a5, az⟩ := HQ1.out
  simp only [] at a0 a1 a2 a3 a4 a5
  have HC1 := Lib.hid (Text_any ⟨.slice aA p.avgs.length ac, .slice cA p.curs.length cc, .slice nA nl.length nc, .slice dA p.drive.length dc, .slice kA p.code.length kc, nl⟩ p w1 ea ((HX.out.below HB1.out).more HB1.out.size) HSP.out (HE.out.below HB1.out).1.few (HE.out.below HB1.out).2.1 (HE.out.below HB1.out).2.2.1)
  clear hb1
  go_wp2_with fail
  refine HC1.out.mono ?_
  intro e w2 h2
  clear a0 a1 a2 a3 a4 a5 az
  have HB2 := Lib.hid (HB1.out.trans (h2.1.mono HB1.out.size))
  cases htp : textP p with
  | none =>
    obtain ⟨rfl, -⟩ := h2.bad htp
    clear htp h2
    go_wp2
    go_ret
    exact ⟨rfl, HB2.out⟩
  | some t =>
    obtain ⟨rfl, -⟩ := h2.good htp
    have hwt := (text_wt2 HSP.out HWP.out htp).1
    have hwl := (text_wt2 HSP.out HWP.out htp).2
    have HTP := Lib.hid htp
    have hsz : (str t).size = t.length := str_size t
    clear htp h2
    obtain ⟨m, hm, hml⟩ := atCut a t.length (by omega) ha
    have HM := Lib.hid hm
    have hex : (str t).extract 0 m = str (t.take m) := by rw [← str_take, str_data]
    have hrl : (t.take m).length ≤ 1000000000 := by rw [List.length_take]; omega
    have hrls : (splitS 10 (t.take m)).length ≤ 20000000 := by
      rw [splitS_length]
      have h1 : (t.take m).count 10 ≤ t.count 10 := (List.take_sublist _ _).count_le _
      rw [splitS_length] at hwl
      omega
    have hbl : (splitS 10 t).length = t.count 10 + 1 := splitS_length _ _
    have hcb : t.count 10 ≤ 10000000 := by omega
    clear hbl hwl hm
    go_wp2
    have hM := HM.out
    generalize wrap64 ((IntKind.u64.wrap a).tmod ((t.length : Int) + 1)) = M at *
    subst hM
    clear HM
    have hcm : ∀ k, (t.take k).count 10 ≤ 10000000 := fun k => Nat.le_trans ((List.take_sublist _ _).count_le _) hcb
    have HCM := Lib.hid hcm; have HRL := Lib.hid hrl; have HRS := Lib.hid hrls
    clear hcm hrl hrls
    go_loop [7, 8] (fun lv iv => CtRel t m lv iv) (fun _ iv => m - (intOf iv).toNat)
    case atStart => exact ⟨0, Nat.zero_le _, rfl, rfl⟩
    case round =>
      obtain ⟨k, hk, rfl, rfl⟩ := hrel
      have hcl := HCM.out k
      by_cases hlt : k < m
      · have hkt : k < t.length := by omega
        have hlt2 : k < (str t).size := by rw [str_size]; exact hkt
        have hgk : (str t)[k] = t[k] := rfl
        by_cases h10 : t[k] = 10
        · have e10 : (((str t)[k]).toNat : Int) = 10 := by rw [hgk, h10]; rfl
          have e11 : ((((str t)[k]).toNat : Int) == 10) = true := by rw [e10]; rfl
          have HCU := Lib.hid (count_yes hkt h10)
          clear hgk h10 e10
          go_wp2
          go_round
          case rel => exact ⟨k + 1, hlt, by go_num, by rw [HCU.out]; exact int_eq (by omega)⟩
          case measure => simp [intOf]; omega
        · have e10 : ¬ (((str t)[k]).toNat : Int) = 10 := by
            rw [hgk]; intro e
            exact h10 (UInt8.toNat_inj.1 (by show t[k].toNat = 10; omega))
          have e11 : ((((str t)[k]).toNat : Int) == 10) = false := by simpa using e10
          have HCU := Lib.hid (count_no hkt h10)
          clear hgk h10 e10
          go_wp2
          go_round
          case rel => exact ⟨k + 1, hlt, by go_num, by rw [HCU.out]⟩
          case measure => simp [intOf]; omega
      · obtain rfl : k = m := by omega
        have hrd := read_any (t.take k) w2 ea HRL.out HRS.out (HE.out.below HB2.out).1 (HE.out.below HB2.out).2.1 (HE.out.below HB2.out).2.2.2
        by_cases h0 : (t.take k).getLast? = some 10
        · obtain ⟨q, hq1, hq2, hq3⟩ := cut_good HSP.out HTP.out h0
          have hk1 : 1 ≤ k := by
            rcases Nat.eq_zero_or_pos k with e | e
            · rw [e] at h0; simp at h0
            · exact e
          have hk1' : (0 : Int) < (k : Int) := by omega
          have hkt : k - 1 < t.length := by omega
          have hlast : t[k - 1] = 10 := by
            rw [List.getLast?_eq_getElem?, List.length_take, Nat.min_eq_left hml, List.getElem?_take, if_pos (by omega), List.getElem?_eq_getElem hkt] at h0
            exact Option.some.inj h0
          have hix := fun W => str_ix (str t) (k - 1) (by rw [str_size]; exact hkt) ((k : Int) - 1) (by omega) W
          have e10 : ((((str t)[k - 1]'(by rw [str_size]; exact hkt)).toNat : Int) == 10) = true := by
            rw [show (str t)[k - 1]'(by rw [str_size]; exact hkt) = t[k - 1] from rfl, hlast]; rfl
          rw [hq1] at hrd
          have HQ2 := Lib.hid hq2; have HQ3 := Lib.hid hq3; have HRD := Lib.hid hrd
          clear hq1 hq2 hq3 hrd h0 hlast
          go_wp2_with fail
          refine HRD.out.mono ?_
          rintro e w5 ⟨hb5, y, hey, hpo⟩
          have HB5 := Lib.hid (HB2.out.trans (hb5.mono HB2.out.size))
          obtain ⟨b1, b2, b3, b4, b5, b6, b7, b8, b9, b10, hy⟩ := hpo.form
          have HY := Lib.hid hpo.read
          rw [hy] at HY
          generalize y.nl = ml at *
          have hev : e = .returned (.tuple #[.agg #[.slice b1 q.avgs.length b2, .slice b3 q.curs.length b4, .slice b5 ml.length b6, .bool q.all, .slice b7 q.drive.length b8, .slice b9 q.code.length b10], .int .i64 0, .nilIface]) := by rw [hey, hy]; rfl
          clear hey
          subst hev
          have HBA := Lib.hid ((Below.refl w5.heap.size w5).alloc (Nat.le_refl _) (.cells #[.slice b1 q.avgs.length b2, .slice b3 q.curs.length b4, .slice b5 ml.length b6, .bool q.all, .slice b7 q.drive.length b8, .slice b9 q.code.length b10] 44))
          have HB6 := Lib.hid (HB5.out.trans (HBA.out.mono HB5.out.size))
          have HTX := Lib.hid (Text_any ⟨.slice b1 q.avgs.length b2, .slice b3 q.curs.length b4, .slice b5 ml.length b6, .slice b7 q.drive.length b8, .slice b9 q.code.length b10, ml⟩ q (w5.alloc (.cells #[.slice b1 q.avgs.length b2, .slice b3 q.curs.length b4, .slice b5 ml.length b6, .bool q.all, .slice b7 q.drive.length b8, .slice b9 q.code.length b10] 44)) ea ((HY.out.below HBA.out).more HBA.out.size) HQ3.out (HE.out.below HB6.out).1.few (HE.out.below HB6.out).2.1 (HE.out.below HB6.out).2.2.1)
          clear hb5 hpo hy
          go_wp2_with fail
          refine HTX.out.mono ?_
          intro e w6 h6
          obtain ⟨rfl, hb6⟩ := h6.good HQ2.out
          have HB7 := Lib.hid (HB6.out.trans (hb6.mono HB6.out.size))
          clear h6 hb6
          generalize str (t.take k) = ss at *
          go_wp2
          go_ret
          exact ⟨rfl, HB7.out⟩
        · by_cases hk0 : k = 0
          · have hk1 : ¬ (0 : Int) < (k : Int) := by omega
            have hk2 : decide ((0 : Int) < (k : Int)) = false := decide_eq_false hk1
            clear hk0
            have hrb := cut_bad HSP.out HTP.out h0
            rw [hrb] at hrd
            have HRD := Lib.hid hrd
            clear hrb hrd
            have hcl2 := HCM.out k
            go_wp2_with fail
            refine HRD.out.mono ?_
            rintro e w5 ⟨hb5, hey⟩
            have hev : e = .returned (.tuple #[.agg #[.slice none 0 0, .slice none 0 0, .slice none 0 0, .bool false, .slice none 0 0, .slice none 0 0], .int .i64 (((t.take k).count 10 + 1 : Nat) : Int), errI ea 15]) := hey
            clear hey
            subst hev
            have HB5 := Lib.hid (HB2.out.trans (hb5.mono HB2.out.size))
            have HBA := Lib.hid ((Below.refl w5.heap.size w5).alloc (Nat.le_refl _) (.cells #[.slice none 0 0, .slice none 0 0, .slice none 0 0, .bool false, .slice none 0 0, .slice none 0 0] 44))
            have HB6 := Lib.hid (HB5.out.trans (HBA.out.mono HB5.out.size))
            clear hb5
            generalize (t.take k).count 10 = cnt at *
            go_wp2_with fail
            refine (Num_any ea 15 (by omega) _ (HE.out.below HB6.out).1).mono ?_
            rintro e w7 ⟨rfl, rfl⟩
            go_wp2
            generalize (w5.alloc (.cells #[.slice none 0 0, .slice none 0 0, .slice none 0 0, .bool false, .slice none 0 0, .slice none 0 0] 44)) = W6 at *
            go_loop [13, 14] (fun lv iv => CtRel t t.length lv iv) (fun _ iv => t.length - (intOf iv).toNat)
            case atStart => exact ⟨0, Nat.zero_le _, rfl, rfl⟩
            case round =>
              obtain ⟨j, hj, rfl, rfl⟩ := hrel
              have hcl := HCM.out j
              by_cases hjt : j < t.length
              · have hlt2 : j < (str t).size := by rw [str_size]; exact hjt
                have hgk : (str t)[j] = t[j] := rfl
                by_cases h10 : t[j] = 10
                · have e10 : (((str t)[j]).toNat : Int) = 10 := by rw [hgk, h10]; rfl
                  have e11 : ((((str t)[j]).toNat : Int) == 10) = true := by rw [e10]; rfl
                  have HCU := Lib.hid (count_yes hjt h10)
                  clear hgk h10 e10
                  go_wp2
                  go_round
                  case rel => exact ⟨j + 1, hjt, by go_num, by rw [HCU.out]; exact int_eq (by omega)⟩
                  case measure => simp [intOf]; omega
                · have e10 : ¬ (((str t)[j]).toNat : Int) = 10 := by
                    rw [hgk]; intro e
                    exact h10 (UInt8.toNat_inj.1 (by show t[j].toNat = 10; omega))
                  have e11 : ((((str t)[j]).toNat : Int) == 10) = false := by simpa using e10
                  have HCU := Lib.hid (count_no hjt h10)
                  clear hgk h10 e10
                  go_wp2
                  go_round
                  case rel => exact ⟨j + 1, hjt, by go_num, by rw [HCU.out]⟩
                  case measure => simp [intOf]; omega
              · obtain rfl : j = t.length := by omega
                have HCE := Lib.hid (show (t.take t.length).count 10 = t.count 10 from by rw [List.take_length])
                have hce := HCE.out
                generalize (t.take t.length).count 10 = call at *
                subst hce
                have HB7 := Lib.hid (HB6.out.trans (((Below.refl W6.heap.size W6).alloc (Nat.le_refl _) (.cells #[.string ⟨#[97, 118, 103, 115, 32, 49, 10]⟩, .string ⟨#[104, 97, 108, 116, 10]⟩, .string ⟨#[10]⟩, .string ⟨#[101, 110, 100, 32, 10]⟩, .string ⟨#[100, 114, 105, 118, 101, 10]⟩, .string ⟨#[115, 99, 97, 108, 101, 32, 48, 49, 10]⟩] 9)).mono HB6.out.size))
                have HC7 := Lib.hid (bad_cells W6)
                have hz7 : (W6.alloc (.cells #[.string ⟨#[97, 118, 103, 115, 32, 49, 10]⟩, .string ⟨#[104, 97, 108, 116, 10]⟩, .string ⟨#[10]⟩, .string ⟨#[101, 110, 100, 32, 10]⟩, .string ⟨#[100, 114, 105, 118, 101, 10]⟩, .string ⟨#[115, 99, 97, 108, 101, 32, 48, 49, 10]⟩] 9)).heap.size = W6.heap.size + 1 := World.size_alloc _ _
                go_wp2
                generalize (W6.alloc (.cells #[.string ⟨#[97, 118, 103, 115, 32, 49, 10]⟩, .string ⟨#[104, 97, 108, 116, 10]⟩, .string ⟨#[10]⟩, .string ⟨#[101, 110, 100, 32, 10]⟩, .string ⟨#[100, 114, 105, 118, 101, 10]⟩, .string ⟨#[115, 99, 97, 108, 101, 32, 48, 49, 10]⟩] 9)) = W7 at *
                go_loopw [104] (fun iv wr => CbRel W7 iv wr) (fun iv _ => 6 - (intOf iv).toNat)
                case atStart => exact ⟨0, by omega, rfl, Below.refl _ _⟩
                case round =>
                  obtain ⟨b, hb, rfl, hbb⟩ := hrel
                  have HBB := Lib.hid hbb
                  have hbz := hbb.size
                  by_cases hlb : b < 6
                  · have c0 : wr.cell? ⟨W6.heap.size, b, none⟩ = some (.string (str (badLines.getD b [] ++ [10]))) := (hbb.cell (p := ⟨W6.heap.size, b, none⟩) (by show W6.heap.size < _; omega)).trans (HC7.out b hlb)
                    have HBL := Lib.hid (add_bad HSP.out HTP.out (bad_mem hlb))
                    have hbs := bad_small hlb
                    have HB8 := Lib.hid (HB7.out.trans (hbb.mono HB7.out.size))
                    have hcat : str t ++ str (badLines.getD b [] ++ [10]) = str (t ++ (badLines.getD b [] ++ [10])) := str_cat2 _ _
                    have hcs : (str t).size + (str (badLines.getD b [] ++ [10])).size ≤ 9223372036854775807 := by rw [str_size, str_size]; omega
                    have hrd2 := read_any (t ++ (badLines.getD b [] ++ [10])) wr ea (by rw [List.length_append]; omega) (by
                      rw [splitS_length, List.count_append]
                      have : (badLines.getD b [] ++ [10]).count 10 ≤ (badLines.getD b [] ++ [10]).length := List.count_le_length
                      omega) (HE.out.below HB8.out).1 (HE.out.below HB8.out).2.1 (HE.out.below HB8.out).2.2.2
                    rw [HBL.out] at hrd2
                    have HRD2 := Lib.hid hrd2
                    clear hrd2 hbb
                    generalize badLines.getD b [] ++ [10] = bl at *
                    go_wp2_with fail
                    refine HRD2.out.mono ?_
                    rintro e w8 ⟨hb8, hey⟩
                    have hev : e = .returned (.tuple #[.agg #[.slice none 0 0, .slice none 0 0, .slice none 0 0, .bool false, .slice none 0 0, .slice none 0 0], .int .i64 ((t.count 10 + 1 : Nat) : Int), errI ea 15]) := hey
                    clear hey
                    subst hev
                    have HB9 := Lib.hid (HB8.out.trans (hb8.mono HB8.out.size))
                    have HBN := Lib.hid (HBB.out.trans (hb8.mono hbz))
                    clear hb8
                    go_wp2_with fail
                    refine (Num_any ea 15 (by omega) _ (HE.out.below HB9.out).1).mono ?_
                    rintro e w9 ⟨rfl, rfl⟩
                    go_wp2
                    go_roundw
                    case rel => exact ⟨b + 1, hlb, by go_num, HBN.out⟩
                    case measure => simp [intOf]; omega
                  · have HB8 := Lib.hid (HB7.out.trans (hbb.mono HB7.out.size))
                    clear hbb
                    go_wp2
                    go_ret
                    exact ⟨rfl, HB8.out⟩
          · have hk1' : (0 : Int) < (k : Int) := by omega
            have hkt : k - 1 < t.length := by omega
            have hlast : ¬ t[k - 1] = 10 := by
              intro e
              apply h0
              rw [List.getLast?_eq_getElem?, List.length_take, Nat.min_eq_left hml, List.getElem?_take, if_pos (by omega), List.getElem?_eq_getElem hkt, e]
            have hix := fun W => str_ix (str t) (k - 1) (by rw [str_size]; exact hkt) ((k : Int) - 1) (by omega) W
            have e10 : ((((str t)[k - 1]'(by rw [str_size]; exact hkt)).toNat : Int) == 10) = false := by
              rw [show (str t)[k - 1]'(by rw [str_size]; exact hkt) = t[k - 1] from rfl]
              have h2 : ¬ t[k - 1].toNat = 10 := fun e => hlast (UInt8.toNat_inj.1 (by show t[k - 1].toNat = 10; exact e))
              simp; omega
            clear hlast hk0
            have hrb := cut_bad HSP.out HTP.out h0
            rw [hrb] at hrd
            have HRD := Lib.hid hrd
            clear hrb hrd
            have hcl2 := HCM.out k
            go_wp2_with fail
            refine HRD.out.mono ?_
            rintro e w5 ⟨hb5, hey⟩
            have hev : e = .returned (.tuple #[.agg #[.slice none 0 0, .slice none 0 0, .slice none 0 0, .bool false, .slice none 0 0, .slice none 0 0], .int .i64 (((t.take k).count 10 + 1 : Nat) : Int), errI ea 15]) := hey
            clear hey
            subst hev
            have HB5 := Lib.hid (HB2.out.trans (hb5.mono HB2.out.size))
            have HBA := Lib.hid ((Below.refl w5.heap.size w5).alloc (Nat.le_refl _) (.cells #[.slice none 0 0, .slice none 0 0, .slice none 0 0, .bool false, .slice none 0 0, .slice none 0 0] 44))
            have HB6 := Lib.hid (HB5.out.trans (HBA.out.mono HB5.out.size))
            clear hb5
            generalize (t.take k).count 10 = cnt at *
            go_wp2_with fail
            refine (Num_any ea 15 (by omega) _ (HE.out.below HB6.out).1).mono ?_
            rintro e w7 ⟨rfl, rfl⟩
            go_wp2
            generalize (w5.alloc (.cells #[.slice none 0 0, .slice none 0 0, .slice none 0 0, .bool false, .slice none 0 0, .slice none 0 0] 44)) = W6 at *
            go_loop [13, 14] (fun lv iv => CtRel t t.length lv iv) (fun _ iv => t.length - (intOf iv).toNat)
            case atStart => exact ⟨0, Nat.zero_le _, rfl, rfl⟩
            case round =>
              obtain ⟨j, hj, rfl, rfl⟩ := hrel
              have hcl := HCM.out j
              by_cases hjt : j < t.length
              · have hlt2 : j < (str t).size := by rw [str_size]; exact hjt
                have hgk : (str t)[j] = t[j] := rfl
                by_cases h10 : t[j] = 10
                · have e10 : (((str t)[j]).toNat : Int) = 10 := by rw [hgk, h10]; rfl
                  have e11 : ((((str t)[j]).toNat : Int) == 10) = true := by rw [e10]; rfl
                  have HCU := Lib.hid (count_yes hjt h10)
                  clear hgk h10 e10
                  go_wp2
                  go_round
                  case rel => exact ⟨j + 1, hjt, by go_num, by rw [HCU.out]; exact int_eq (by omega)⟩
                  case measure => simp [intOf]; omega
                · have e10 : ¬ (((str t)[j]).toNat : Int) = 10 := by
                    rw [hgk]; intro e
                    exact h10 (UInt8.toNat_inj.1 (by show t[j].toNat = 10; omega))
                  have e11 : ((((str t)[j]).toNat : Int) == 10) = false := by simpa using e10
                  have HCU := Lib.hid (count_no hjt h10)
                  clear hgk h10 e10
                  go_wp2
                  go_round
                  case rel => exact ⟨j + 1, hjt, by go_num, by rw [HCU.out]⟩
                  case measure => simp [intOf]; omega
              · obtain rfl : j = t.length := by omega
                have HCE := Lib.hid (show (t.take t.length).count 10 = t.count 10 from by rw [List.take_length])
                have hce := HCE.out
                generalize (t.take t.length).count 10 = call at *
                subst hce
                have HB7 := Lib.hid (HB6.out.trans (((Below.refl W6.heap.size W6).alloc (Nat.le_refl _) (.cells #[.string ⟨#[97, 118, 103, 115, 32, 49, 10]⟩, .string ⟨#[104, 97, 108, 116, 10]⟩, .string ⟨#[10]⟩, .string ⟨#[101, 110, 100, 32, 10]⟩, .string ⟨#[100, 114, 105, 118, 101, 10]⟩, .string ⟨#[115, 99, 97, 108, 101, 32, 48, 49, 10]⟩] 9)).mono HB6.out.size))
                have HC7 := Lib.hid (bad_cells W6)
                have hz7 : (W6.alloc (.cells #[.string ⟨#[97, 118, 103, 115, 32, 49, 10]⟩, .string ⟨#[104, 97, 108, 116, 10]⟩, .string ⟨#[10]⟩, .string ⟨#[101, 110, 100, 32, 10]⟩, .string ⟨#[100, 114, 105, 118, 101, 10]⟩, .string ⟨#[115, 99, 97, 108, 101, 32, 48, 49, 10]⟩] 9)).heap.size = W6.heap.size + 1 := World.size_alloc _ _
                go_wp2
                generalize (W6.alloc (.cells #[.string ⟨#[97, 118, 103, 115, 32, 49, 10]⟩, .string ⟨#[104, 97, 108, 116, 10]⟩, .string ⟨#[10]⟩, .string ⟨#[101, 110, 100, 32, 10]⟩, .string ⟨#[100, 114, 105, 118, 101, 10]⟩, .string ⟨#[115, 99, 97, 108, 101, 32, 48, 49, 10]⟩] 9)) = W7 at *
                go_loopw [104] (fun iv wr => CbRel W7 iv wr) (fun iv _ => 6 - (intOf iv).toNat)
                case atStart => exact ⟨0, by omega, rfl, Below.refl _ _⟩
                case round =>
                  obtain ⟨b, hb, rfl, hbb⟩ := hrel
                  have HBB := Lib.hid hbb
                  have hbz := hbb.size
                  by_cases hlb : b < 6
                  · have c0 : wr.cell? ⟨W6.heap.size, b, none⟩ = some (.string (str (badLines.getD b [] ++ [10]))) := (hbb.cell (p := ⟨W6.heap.size, b, none⟩) (by show W6.heap.size < _; omega)).trans (HC7.out b hlb)
                    have HBL := Lib.hid (add_bad HSP.out HTP.out (bad_mem hlb))
                    have hbs := bad_small hlb
                    have HB8 := Lib.hid (HB7.out.trans (hbb.mono HB7.out.size))
                    have hcat : str t ++ str (badLines.getD b [] ++ [10]) = str (t ++ (badLines.getD b [] ++ [10])) := str_cat2 _ _
                    have hcs : (str t).size + (str (badLines.getD b [] ++ [10])).size ≤ 9223372036854775807 := by rw [str_size, str_size]; omega
                    have hrd2 := read_any (t ++ (badLines.getD b [] ++ [10])) wr ea (by rw [List.length_append]; omega) (by
                      rw [splitS_length, List.count_append]
                      have : (badLines.getD b [] ++ [10]).count 10 ≤ (badLines.getD b [] ++ [10]).length := List.count_le_length
                      omega) (HE.out.below HB8.out).1 (HE.out.below HB8.out).2.1 (HE.out.below HB8.out).2.2.2
                    rw [HBL.out] at hrd2
                    have HRD2 := Lib.hid hrd2
                    clear hrd2 hbb
                    generalize badLines.getD b [] ++ [10] = bl at *
                    go_wp2_with fail
                    refine HRD2.out.mono ?_
                    rintro e w8 ⟨hb8, hey⟩
                    have hev : e = .returned (.tuple #[.agg #[.slice none 0 0, .slice none 0 0, .slice none 0 0, .bool false, .slice none 0 0, .slice none 0 0], .int .i64 ((t.count 10 + 1 : Nat) : Int), errI ea 15]) := hey
                    clear hey
                    subst hev
                    have HB9 := Lib.hid (HB8.out.trans (hb8.mono HB8.out.size))
                    have HBN := Lib.hid (HBB.out.trans (hb8.mono hbz))
                    clear hb8
                    go_wp2_with fail
                    refine (Num_any ea 15 (by omega) _ (HE.out.below HB9.out).1).mono ?_
                    rintro e w9 ⟨rfl, rfl⟩
                    go_wp2
                    go_roundw
                    case rel => exact ⟨b + 1, hlb, by go_num, HBN.out⟩
                    case measure => simp [intOf]; omega
                  · have HB8 := Lib.hid (HB7.out.trans (hbb.mono HB7.out.size))
                    clear hbb
                    go_wp2
                    go_ret
                    exact ⟨rfl, HB8.out⟩
theorem isaCuts_env {W : World} (h : laidMetH Tryd.prog Rows.isaCutsUptoRow.laid W) : ∃ ea, IsaEnvB W ea :=
  isaB_env (l := Rows.isaCutsUptoRow.laid) h (by rfl) (by rfl) (by rfl) (by rfl)
theorem isaCuts_row (w : World) (x : PgV) (p : Pg) (a : Int) (hx : PgR w w.heap.size x p) (hs : SmallPg p) (hw : WtPg p) (ha : -9223372036854775808 ≤ a ∧ a ≤ 9223372036854775807) (hE : ∃ ea, IsaEnvB w ea) :
    Calls Tryd.prog 10 #[x.val p, .int .i64 a] w fun e w' => e = .returned (.bool true) ∧ Below w.heap.size w w' := by
  obtain ⟨ea, hE⟩ := hE
  exact isaCuts_walk w ea x p a hx hs hw ha hE
end Go.Proofs.YtmdpfikalekmlaaDoor
