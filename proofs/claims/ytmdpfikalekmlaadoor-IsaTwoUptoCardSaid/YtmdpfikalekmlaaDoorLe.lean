/- Layer 20: the law of Encode. -/
import Derived.Test.YtmdpfikalekmlaaDoorIl
import Derived.Test.YtmdpfikalekmlaaDoorIs
import Derived.Test.YtmdpfikalekmlaaDoorOi
import Derived.Test.YtmdpfikalekmlaaDoorRow
namespace Go.Proofs.YtmdpfikalekmlaaDoor
open Go.RowKit
set_option maxRecDepth 100000
set_option maxHeartbeats 4000000
set_option linter.unusedSimpArgs false
set_option linter.unusedVariables false

/-- The variables that layer 20 reads. -/
def IsaEnv (w : World) : Prop := ∃ ea, ErrEnv w ea ∧ TabEnv w ∧ Pow10 w
theorem isaTab_of {W : World} {l : List (String × DataW Unit)} (h : laidMet Tryd.prog l W) (e : l.filter (fun x => x.1 == "concord/isa.table") = [("concord/isa.table", Rows.laid_concord_isa_table)]) : TabEnv W := by
  have := h.filter (fun x => x.1 == "concord/isa.table")
  rw [e] at this
  exact tab_of_head this
theorem pow10_of {W : World} {l : List (String × DataW Unit)} (h : laidMet Tryd.prog l W) (e : l.filter (fun x => x.1 == "internal/strconv.uint64pow10") = [("internal/strconv.uint64pow10", Lib.tabData .u64 Lib.pow10Tab)]) : Pow10 W := by
  have := h.filter (fun x => x.1 == "internal/strconv.uint64pow10")
  rw [e] at this
  exact pow10_of_head this
theorem isaEncodes_env {W : World} (h : laidMetH Tryd.prog Rows.isaEncodesUptoRow.laid W) : IsaEnv W := by
  have h0 : laidMet Tryd.prog Rows.isaEncodesUptoRow.laid W := h
  obtain ⟨ea, hE⟩ := errEnv_of h0 (by rfl)
  exact ⟨ea, hE, isaTab_of h0 (by rfl), pow10_of h0 (by rfl)⟩
/-- The variables that the laws without errors' numbers read. -/
def IsaEnvF (w : World) : Prop := ∃ ea, ErrFew w ea ∧ TabEnv w ∧ Pow10 w
def fewRows : List (String × List UInt8) := [("concord/api.ErrShort", [99, 111, 110, 99, 111, 114, 100, 58, 32, 116, 111, 111, 32, 115, 104, 111, 114, 116]), ("concord/api.ErrVarint", [99, 111, 110, 99, 111, 114, 100, 58, 32, 118, 97, 114, 105, 110, 116]), ("concord/api.ErrCode", [99, 111, 110, 99, 111, 114, 100, 58, 32, 99, 111, 100, 101])]
theorem errFew_of {W : World} {l : List (String × DataW Unit)} (h : laidMet Tryd.prog l W) (e : l.filter (fun x => (fewRows.map (·.1)).contains x.1) = fewRows.map fun x => (x.1, errRow x.2)) : ∃ ea, ErrFew W ea := by
  have := h.filter (fun x => (fewRows.map (·.1)).contains x.1)
  rw [e] at this
  obtain ⟨ps, h1, h2, h3⟩ := this
  obtain ⟨ea, g1, -, -, -⟩ := errsAt_of fewRows [1, 2, 0] ps (by kernel_rfl) (by
    have h : [1, 2, 0].all (fun g => (Tryd.prog.globals[g]?).map (·.type) == some 26) = true := by kernel_rfl
    intro g hg
    exact beq_iff_eq.1 (List.all_eq_true.1 h g hg)) h1 h2 h3
  match ea, g1 with
  | [a0, a1, a2], ⟨c0, _, c1, _, c2, _⟩ => exact ⟨a0 :: a1 :: (List.replicate 18 a0 ++ [a2]), c0, c1, c2⟩
theorem OwnB.convAt {w w' : World} {B : Nat} {v : Value} {l : List UInt8} (h : OwnB w B v l) (hb : Below w.heap.size w w') : (convert 24 9 v).run Tryd.prog w' = .ok (.string (str l)) w' := (h.below hb).conv
theorem EiRet.good {l : List Ins} {bad ok : Value} {w w' : World} {e : Ending} (h : EiRet l bad ok w e w') (ha : l.all insOk = true) :
    ∃ A n cap, e = .returned (.tuple #[.slice A n cap, ok]) ∧ OwnB w' w.heap.size (.slice A n cap) (encI l) ∧ Below w.heap.size w w' := by
  obtain ⟨v, rfl, ho, hb⟩ := h
  rw [ha] at ho
  obtain ⟨A, cap, rfl⟩ := ownB_form ho
  exact ⟨A, _, cap, by rw [ha]; rfl, ho, hb⟩
theorem EiRet.bad {l : List Ins} {bad ok : Value} {w w' : World} {e : Ending} (h : EiRet l bad ok w e w') (ha : l.all insOk = false) :
    ∃ A n cap, e = .returned (.tuple #[.slice A n cap, bad]) ∧ OwnB w' w.heap.size (.slice A n cap) [] ∧ Below w.heap.size w w' := by
  obtain ⟨v, rfl, ho, hb⟩ := h
  rw [ha] at ho
  obtain ⟨A, cap, rfl⟩ := ownB_form ho
  exact ⟨A, _, cap, by rw [ha]; rfl, ho, hb⟩
theorem encodes_walk (lv : Value) (l : List Ins) (w : World) (h : RdL insS w w.heap.size lv l) (hl : l.length ≤ 1048576) (hs : SmallIns l) (ea : List Addr) (hE : ErrEnv w ea) (hT : TabEnv w) (hP : Pow10 w) :
    Calls Tryd.prog 3 #[lv] w fun e w' => e = .returned (.bool true) ∧ Below w.heap.size w w' := by
  obtain ⟨A, cap, rfl, hc, hc2⟩ := h.open_
  have H := Lib.hid h; have HE := Lib.hid hE; have HT := Lib.hid hT; have HP := Lib.hid hP; have HS := Lib.hid hs
  clear h hE hT hP hs hc hc2
  go_enter Tryd.func3, Tryd.ntmps3
  go_wp2_with fail
  refine (lives_any _ ea HE.out.few HT.out HP.out).mono ?_
  rintro e w1 ⟨rfl, hb1⟩
  have HB1 := Lib.hid hb1
  clear hb1
  go_wp2_with fail
  refine (iencode_any _ l ea w1 w.heap.size HB1.out.size (H.out.below HB1.out) (Nat.le_trans hl (by decide)) HS.out (HE.out.below HB1.out).few (HT.out.below HB1.out)).mono ?_
  intro e w2 h2
  cases ha : l.all insOk with
  | true =>
    obtain ⟨A1, n1, c1, rfl, ho1, hb2⟩ := h2.good ha
    have HB2 := Lib.hid (HB1.out.trans (hb2.mono HB1.out.size))
    have HO1 := Lib.hid ho1
    have HA := Lib.hid ha
    clear hb2 ho1 ha h2
    go_wp2_with fail
    refine (riencode_any _ l w2 w.heap.size HB2.out.size (H.out.below HB2.out) (Nat.le_trans hl (by decide)) HS.out).mono ?_
    intro e w3 h3
    obtain ⟨A2, n2, c2, rfl, ho2, hb3⟩ := h3.good HA.out
    have hc1 := HO1.out.convAt hb3
    have hc2 := ho2.conv
    have HB3 := Lib.hid (HB2.out.trans (hb3.mono HB2.out.size))
    clear hb3 ho2 h3
    generalize str _ = sx at hc1 hc2
    go_wp2_with fail
    refine (Num_nil w3).mono ?_
    rintro e w4 ⟨rfl, rfl⟩
    go_wp2
    go_ret
    exact ⟨rfl, HB3.out⟩
  | false =>
    obtain ⟨A1, n1, c1, rfl, ho1, hb2⟩ := h2.bad ha
    have HB2 := Lib.hid (HB1.out.trans (hb2.mono HB1.out.size))
    have HO1 := Lib.hid ho1
    have HA := Lib.hid ha
    clear hb2 ho1 ha h2
    go_wp2_with fail
    refine (riencode_any _ l w2 w.heap.size HB2.out.size (H.out.below HB2.out) (Nat.le_trans hl (by decide)) HS.out).mono ?_
    intro e w3 h3
    obtain ⟨A2, n2, c2, rfl, ho2, hb3⟩ := h3.bad HA.out
    have hc1 := HO1.out.convAt hb3
    have hc2 := ho2.conv
    have HB3 := Lib.hid (HB2.out.trans (hb3.mono HB2.out.size))
    clear hb3 ho2 h3
    generalize str _ = sx at hc1 hc2
    go_wp2_with fail
    refine (Num_any ea 20 (by omega) w3 (HE.out.below HB3.out)).mono ?_
    rintro e w4 ⟨rfl, rfl⟩
    go_wp2
    go_ret
    exact ⟨rfl, HB3.out⟩
theorem isaEncodes_walk (w : World) (lv : Value) (l : List Ins) (h : RdL insS w w.heap.size lv l) (hs : SmallIns l) (hl : l.length ≤ 1048576) (hE : IsaEnv w) :
    Calls Tryd.prog 3 #[lv] w fun e w' => e = .returned (.bool true) ∧ Below w.heap.size w w' := by
  obtain ⟨ea, hE, hT, hP⟩ := hE
  exact encodes_walk lv l w h hl hs ea hE hT hP
end Go.Proofs.YtmdpfikalekmlaaDoor
