/- The walk of the lexer's Scan. -/
import Derived.Test.YtlgcofinmpckkaaDoorSt
import Derived.Test.YtlgcofinmpckkaaDoorOwnL2
namespace Go.Proofs.YtlgcofinmpckkaaDoor
open Go.RowKit
set_option maxRecDepth 100000
set_option maxHeartbeats 1000000
set_option linter.unusedSimpArgs false

def lexS : Shape Lx := { tS := 25, tE := 35, size := 5, bytes := 48, enc := fun x => [.int .i64 x.kind, .string (str x.text), .int .i64 x.n, .int .i64 x.at_, .int .i64 x.end_], zero := .agg #[.int .i64 0, .string ⟨#[]⟩, .int .i64 0, .int .i64 0, .int .i64 0] }
theorem lexOk : lexS.Ok where
  under := Tryd.underlying25
  info := by kernel_rfl
  zs := rfl
  pos := by decide
  len := fun _ => rfl
  one := fun x u hu => by
    simp only [lexS, List.mem_cons, List.not_mem_nil, or_false] at hu
    rcases hu with rfl | rfl | rfl | rfl | rfl <;> rfl
  small := by decide

/-- What Scan hands back: the tokens in a slice of its own, or the place and the error v. -/
def RetScan (w : World) (v : Value) (r : List Lx × Option Nat) (e : Ending) (w' : World) : Prop :=
  Below w.heap.size w w' ∧ match r.2 with
    | none => ∃ sl, e = .returned (.tuple #[sl, .int .i64 0, .nilIface]) ∧ OwnL lexS w' w.heap.size sl r.1
    | some p => e = .returned (.tuple #[.slice none 0 0, .int .i64 (p : Int), v])
def ScPos (s : ByteArray) (k f : Nat) (pre : List Lx) : Prop :=
  k ≤ s.size ∧ pre.length ≤ k ∧ s.size - k < f ∧ scanL s.data.toList = ahead pre (scanF f (s.data.toList.drop k) k)
theorem scanF_or (f : Nat) (l : List UInt8) (i : Nat) : (scanF f l i).2 = none ∨ (scanF f l i).1 = [] := by
  induction f generalizing l i with
  | zero => exact .inr rfl
  | succ f ih =>
    cases l with
    | nil => exact .inl rfl
    | cons c t =>
      rw [scanF]
      split
      · exact ih _ _
      · split
        · exact .inr rfl
        · rename_i k _
          rcases hr : scanF f ((c :: t).drop k.len) (i + k.len) with ⟨a, b⟩
          cases b with
          | none => exact .inl rfl
          | some p => exact .inr rfl
theorem ScPos_start (s : ByteArray) : ScPos s 0 (s.size + 1) [] := by
  refine ⟨by omega, by simp, by omega, ?_⟩
  unfold scanL
  rw [← ba_size, List.drop_zero, ahead_nil _ (scanF_or _ _ _)]
section
variable {s : ByteArray} {k f : Nat} {pre : List Lx}
theorem ScPos_blank (h : ScPos s k f pre) (hk : k < s.size) (hc : cls s[k] = 1) : ∃ f', ScPos s (k + 1) f' pre := by
  obtain ⟨g1, g2, g3, g4⟩ := h
  obtain ⟨f, rfl⟩ : ∃ g, f = g + 1 := ⟨f - 1, by omega⟩
  refine ⟨f, by omega, by omega, by omega, ?_⟩
  rw [g4, dropB s hk, scanF, if_pos hc]
theorem sTok_len {x : Lx} (hk : k < s.size) (h : sTok s k = some x) (hc : cls s[k] ≠ 1) : k + 1 ≤ x.end_ ∧ x.end_ ≤ s.size := by
  unfold sTok at h
  obtain ⟨t, ht, rfl⟩ := Option.map_eq_some_iff.1 h
  have := tok_len ht (fun c hh => by rw [dropB s hk] at hh; cases hh; exact hc)
  rw [List.length_drop, ← ba_size] at this
  simp only [Tk.lx]
  omega
theorem ScPos_tok {x : Lx} (h : ScPos s k f pre) (hk : k < s.size) (hc : cls s[k] ≠ 1) (ht : sTok s k = some x) : ∃ f', ScPos s x.end_ f' (pre ++ [x]) := by
  obtain ⟨g1, g2, g3, g4⟩ := h
  obtain ⟨f, rfl⟩ : ∃ g, f = g + 1 := ⟨f - 1, by omega⟩
  have hl := sTok_len hk ht hc
  refine ⟨f, by omega, by simp; omega, by omega, ?_⟩
  unfold sTok at ht
  obtain ⟨t, ht2, rfl⟩ := Option.map_eq_some_iff.1 ht
  clear ht
  rw [g4]
  rw [dropB s hk] at ht2 ⊢
  rw [scanF, if_neg hc, ht2]
  simp only []
  rw [ahead_ahead, ← dropB s hk, List.drop_drop]
  rfl
theorem ScPos_bad (h : ScPos s k f pre) (hk : k < s.size) (hc : cls s[k] ≠ 1) (ht : sTok s k = none) : scanL s.data.toList = ([], some k) := by
  obtain ⟨g1, g2, g3, g4⟩ := h
  obtain ⟨f, rfl⟩ : ∃ g, f = g + 1 := ⟨f - 1, by omega⟩
  have ht := Option.map_eq_none_iff.1 ht
  rw [g4]
  rw [dropB s hk] at ht ⊢
  rw [scanF, if_neg hc, ht]
  rfl
theorem ScPos_end (h : ScPos s k f pre) (hk : ¬ k < s.size) : scanL s.data.toList = (pre ++ [⟨0, [], 0, k, k⟩], none) := by
  obtain ⟨g1, g2, g3, g4⟩ := h
  obtain ⟨f, rfl⟩ : ∃ g, f = g + 1 := ⟨f - 1, by omega⟩
  rw [g4, dropB_nil s (by omega), scanF]
  rfl
end
def ErrAt (w : World) (g : Nat) (v : Value) : Prop := w.cell? ⟨g, 0, none⟩ = some v ∧ g < w.heap.size
theorem ErrAt.below {w w' : World} {B g : Nat} {v : Value} (h : ErrAt w g v) (hB : g < B) (hb : Below B w w') : ErrAt w' g v :=
  ⟨(hb.cell (p := ⟨g, 0, none⟩) hB).trans h.1, Nat.lt_of_lt_of_le h.2 hb.size⟩
def ScRel (s : ByteArray) (w : World) (ov iv : Value) (wr : World) : Prop :=
  ∃ k f pre, ScPos s k f pre ∧ iv = .int .i64 (k : Int) ∧ OwnL lexS wr w.heap.size ov pre ∧ Below w.heap.size w wr

theorem Scan_any (s : ByteArray) (w : World) (v : Value) (hs : s.size ≤ 10000000) (hE : ClsEnv w) (hv : ErrAt w 0 v) :
    Calls Tryd.prog 16 #[.string s] w (RetScan w v (scanL s.data.toList)) := by
  have HE := Lib.hid hE; clear hE
  have HV := Lib.hid hv; clear hv
  go_enter Tryd.func16, Tryd.ntmps16
  go_wp2
  go_loopw [5, 6] (fun ov iv wr => ScRel s w ov iv wr) (fun _ iv _ => s.size - (intOf iv).toNat)
  case atStart => exact ⟨0, _, [], ScPos_start s, rfl, OwnL.nil _ _ _, Below.refl _ _⟩
  case round =>
    obtain ⟨k0, f0, pre, hp0, rfl, ho, hb⟩ := hrel
    have HP0 := Lib.hid hp0
    have HO := Lib.hid ho; have HB := Lib.hid hb
    have hBr : w.heap.size ≤ wr.heap.size := hb.size
    have HEr := Lib.hid (HE.out.belowB HE.out.2 hb)
    have HVr := Lib.hid (HV.out.below HV.out.2 hb)
    have hk0 := hp0.1
    clear hp0 ho hb
    go_wp2
    go_loopw [6] (fun iv wx => wx = wr ∧ ∃ k f, k0 ≤ k ∧ ScPos s k f pre ∧ iv = .int .i64 (k : Int)) (fun iv _ => s.size - (intOf iv).toNat)
    case atStart => exact ⟨rfl, k0, f0, Nat.le_refl _, HP0.out, rfl⟩
    case round =>
      obtain ⟨rfl, k, f, hkk, hp, rfl⟩ := hrel
      have hk := hp.1
      have hpl := hp.2.1
      have HP := Lib.hid hp; clear hp
      by_cases hlt : k < s.size
      · have hbx := u8_lt s[k]
        by_cases hc : cls s[k] = 1
        · have hcb : (cls s[k] == 1) = true := by rw [hc]; rfl
          obtain ⟨f', hp'⟩ := ScPos_blank HP.out hlt hc
          have HP' := Lib.hid hp'; clear hp' hc
          go_wp2_with fail
          refine (class_any s[k] _ HEr.out).mono ?_
          rintro e wc ⟨rfl, rfl⟩
          go_wp2
          go_roundw
          case rel => exact ⟨by trivial, k + 1, f', by omega, HP'.out, by go_num⟩
          case measure => simp [intOf]; omega
        · have hcb : (cls s[k] == 1) = false := beq_eq_false_iff_ne.2 hc
          have hne : ((k : Int) == (s.size : Int)) = false := by rw [beq_eq_false_iff_ne]; omega
          have HC := Lib.hid hc; clear hc
          go_wp2_with fail
          refine (class_any s[k] _ HEr.out).mono ?_
          rintro e wc ⟨rfl, rfl⟩
          go_wp2_with fail
          refine (scan_any s k _ hs hlt HEr.out).mono ?_
          rintro e w2 ⟨hb2, hm⟩
          have HB2 := Lib.hid hb2
          generalize hR : sTok s k = R at hm
          have HR := Lib.hid hR; clear hR
          cases R with
          | none =>
            obtain ⟨x, rfl⟩ := hm
            have HQ := Lib.hid (ScPos_bad HP.out hlt HC.out HR.out)
            have hv2 := (HVr.out.below HVr.out.2 hb2).1
            have hg2 := (HVr.out.below HVr.out.2 hb2).2
            clear hb2
            simp only [lxVal]
            go_wp2
            go_region
            go_wp2
            go_ret3
            refine ⟨?_, ?_⟩
            · have hb3 := (HB.out.trans (HB2.out.mono hBr)).alloc (Nat.le_trans hBr HB2.out.size) (.cells #[.int .i64 x.kind, .string (str x.text), .int .i64 x.n, .int .i64 x.at_, .int .i64 x.end_] 35)
              first | exact hb3 | exact hb3.drew
            · rw [HQ.out]
              first | exact rfl | (show _ = _; simp [go_sem])
          | some x =>
            cases hm
            obtain ⟨f', hp'⟩ := ScPos_tok HP.out hlt HC.out HR.out
            have hl := sTok_len hlt HR.out HC.out
            have HP' := Lib.hid hp'; clear hp'
            have ho2 := HO.out.below hb2
            have hB2 : w.heap.size ≤ w2.heap.size := Nat.le_trans hBr hb2.size
            have hnew := ho2.ne_new (Nat.le_refl _)
            have HN := Lib.hid hnew
            have HO2 := Lib.hid (ho2.alloc (.cells #[.int .i64 x.kind, .string (str x.text), .int .i64 x.n, .int .i64 x.at_, .int .i64 x.end_] 35))
            clear hb2 ho2 hnew
            simp only [lxVal]
            go_wp2_with (at_builtin; refine OwnL.appendK lexOk HO2.out x _ rfl _ _ rfl rfl rfl _ rfl ?_ ?_ ?_ ?_)
            · simp
            · simp; omega
            · omega
            · intro v' w' h2 h3 h3k
              have hk5 := Blk5.new w2 (.int .i64 x.kind) (.string (str x.text)) (.int .i64 x.n) (.int .i64 x.at_) (.int .i64 x.end_)
              have hk6 : Blk5 w' w2.heap.size (.int .i64 x.kind) (.string (str x.text)) (.int .i64 x.n) (.int .i64 x.at_) (.int .i64 x.end_) := (h3k w2.heap.size (by simp) HN.out).trans hk5
              obtain ⟨⟨c0, c1, c2, c3, c4⟩, f0, f1, f2, f3, f4⟩ := hk6.facts
              have H2 := Lib.hid h2
              have HB3 := Lib.hid (((HB.out.trans (HB2.out.mono hBr)).alloc hB2 (.cells #[.int .i64 x.kind, .string (str x.text), .int .i64 x.n, .int .i64 x.at_, .int .i64 x.end_] 35)).trans h3)
              clear h2 h3 h3k hk5 hk6
              go_wp2
              go_roundw
              case rel => exact ⟨x.end_, f', _, HP'.out, rfl, H2.out, HB3.out⟩
              case measure => simp [intOf]; omega
      · have hne : ((k : Int) == (s.size : Int)) = true := by rw [beq_iff_eq]; omega
        have HQ := Lib.hid (ScPos_end HP.out hlt)
        go_wp2_with (at_builtin; refine OwnL.append lexOk HO.out ⟨0, [], 0, k, k⟩ rfl _ _ rfl rfl rfl _ rfl hBr ?_ ?_)
        · omega
        · intro v' w' h2 h3
          have H2 := Lib.hid h2; clear h2
          go_wp2
          go_ret3
          refine ⟨HB.out.trans h3, ?_⟩
          rw [HQ.out]
          exact ⟨_, rfl, H2.out⟩
end Go.Proofs.YtlgcofinmpckkaaDoor
