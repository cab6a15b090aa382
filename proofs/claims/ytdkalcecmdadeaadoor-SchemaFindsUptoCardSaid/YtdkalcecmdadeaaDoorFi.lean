/- Layer 4: the walk of the law SchemaFinds. -/
import Derived.Test.YtdkalcecmdadeaaDoorSl
import Derived.Test.YtdkalcecmdadeaaDoorStr
import Derived.Test.YtdkalcecmdadeaaDoorOwnL2
namespace Go.Proofs.YtdkalcecmdadeaaDoor
open Go.RowKit
set_option maxRecDepth 100000
set_option maxHeartbeats 1000000
set_option linter.unusedSimpArgs false
set_option linter.unusedVariables false

def FiRel1 (l : List Fd) (ns : List ByteArray) (w : World) (cb : Value) (nv iv : Value) (wr : World) : Prop :=
  ∃ k : Nat, k ≤ l.length ∧ iv = .int .i64 (k : Int) ∧ OwnL strS wr (w.heap.size + 1) nv (ns ++ (l.take k).map (·.name)) ∧ wr.cell? ⟨w.heap.size, 0, none⟩ = some cb ∧ Below w.heap.size w wr
def FiRel2 (n : Nat) (w : World) (cb : Value) (v : Value) (ms : List ByteArray) (iv : Value) (wr : World) : Prop :=
  ∃ k : Nat, k ≤ n ∧ iv = .int .i64 (k : Int) ∧ OwnL strS wr (w.heap.size + 1) v ms ∧ wr.cell? ⟨w.heap.size, 0, none⟩ = some cb ∧ Below w.heap.size w wr
theorem finds_walk (w : World) (fs : Value) (l : List Fd) (h : RdL fdS w w.heap.size fs l) (nv : Value) (ns : List ByteArray) (hr : RdL strS w w.heap.size nv ns) (hl : l.length ≤ 2000000) (hns : ns.length ≤ 2000000) (hE : ∃ ea, SchEnv w ea) :
    Calls Tryd.prog 4 #[.agg #[fs], nv] w fun e w' => e = .returned (.bool true) ∧ Below w.heap.size w w' := by
  obtain ⟨ea, hE⟩ := hE
  obtain ⟨A, cap, rfl, hc, hc2⟩ := h.open_
  obtain ⟨A', cap', rfl, hc', hc2'⟩ := hr.open_
  unfold maxLen at hc2 hc2'
  have H := Lib.hid h; have HE := Lib.hid hE; have HR := Lib.hid hr
  clear h hE hr
  go_enter Tryd.func4, Tryd.ntmps4
  go_wp2_with fail
  refine (lives_any _ ea (HE.out.below ((Below.refl _ _).alloc (Nat.le_refl _) _))).mono ?_
  rintro e w1 ⟨rfl, hb1⟩
  have cb : w1.cell? ⟨w.heap.size, 0, none⟩ = some (.slice A l.length cap) := cellN hb1 rfl
  have hw1 : w.heap.size + 1 ≤ w1.heap.size := by have := hb1.size; rw [World.size_alloc] at this; exact this
  have HW1 := Lib.hid (((Below.refl _ _).alloc (Nat.le_refl _) _ : Below w.heap.size w (w.alloc (.cells #[.slice A l.length cap] 24))).trans (hb1.mono (by rw [World.size_alloc]; omega)))
  clear hb1
  have hap : ([] : List ByteArray).length + ns.length ≤ 100000000000 := by simp; omega
  have HL0 := Lib.hid (OwnL.lit0 strS w1 (B := w.heap.size + 1) hw1)
  have HR1 := Lib.hid ((HR.out.below HW1.out).alloc HW1.out.size (.cells #[] 9))
  have hsz1 : w.heap.size + 1 ≤ (w1.alloc (.cells #[] 9)).heap.size := by rw [World.size_alloc]; omega
  go_wp2_with (at_builtin; refine OwnL.appendRd strOk HL0.out HR1.out rfl _ _ rfl rfl rfl hsz1 hap ?_; intro v2 w2 ho2 hb2; obtain ⟨A2, cap2, rfl, hq2, hq3, -⟩ := ho2.open_; have HO2 := Lib.hid ho2; have HB2 := Lib.hid hb2; have c2 := (hb2.cell (p := ⟨w.heap.size, 0, none⟩) (show w.heap.size < w.heap.size + 1 by omega)).trans ((World.cell?_alloc_lt w1 (.cells #[] 9) ⟨w.heap.size, 0, none⟩ (show w.heap.size < w1.heap.size by omega)).trans cb); clear ho2 hb2)
  go_loopw [1, 23] (fun nv iv wr => FiRel1 l ns w (.slice A l.length cap) nv iv wr) (fun _ iv _ => l.length - (intOf iv).toNat)
  case atStart => exact ⟨0, by omega, rfl, by simpa using HO2.out, c2, (HW1.out.alloc HW1.out.size _).trans (HB2.out.mono (by omega))⟩
  case round =>
    obtain ⟨k, hk, rfl, ho, hcb, hb⟩ := hrel
    obtain ⟨A3, cap3, rfl, hq4, hq5, -⟩ := ho.open_
    have hlen : (ns ++ (l.take k).map (·.name)).length = ns.length + k := by rw [List.length_append, List.length_map, List.length_take]; omega
    have hsz : w.heap.size + 1 ≤ wr.heap.size := World.block_lt_of_cell? wr ⟨w.heap.size, 0, none⟩ hcb
    have HF := Lib.hid (H.out.below hb)
    have HO := Lib.hid ho; have HB := Lib.hid hb
    clear ho hb HO2 HB2 c2
    by_cases hlt : k < l.length
    · obtain ⟨a, rfl, hab, c0, c1, c2, c3, c4⟩ := at_fd HF.out hlt
      have hza : (a.add (k * 5)).block < wr.heap.size := by omega
      have hap2 : (ns ++ (l.take k).map (·.name)).length + 1 ≤ 100000000000 := by omega
      have HLN := Lib.hid hlen
      clear hlen
      have HN := Lib.hid (show ns ++ (l.take k).map (·.name) ++ [l[k].name] = ns ++ (l.take (k + 1)).map (·.name) from by rw [List.take_succ_eq_append_getElem hlt, List.map_append, List.append_assoc]; rfl)
      have HOA := Lib.hid (HO.out.alloc (.cells #[.string l[k].name, .int .i64 l[k].kind, .bool l[k].fold, .bool l[k].stop, .bool l[k].stem] 34))
      have hsz2 : w.heap.size + 1 ≤ (wr.alloc (.cells #[.string l[k].name, .int .i64 l[k].kind, .bool l[k].fold, .bool l[k].stop, .bool l[k].stem] 34)).heap.size := by rw [World.size_alloc]; omega
      have HNB : Hid (wr.heap.size + 1 = (wr.alloc (.cells #[.string l[k].name, .int .i64 l[k].kind, .bool l[k].fold, .bool l[k].stop, .bool l[k].stem] 34)).heap.size) := Lib.hid (by rw [World.size_alloc])
      have HCB := Lib.hid ((World.cell?_alloc_lt wr (.cells #[.string l[k].name, .int .i64 l[k].kind, .bool l[k].fold, .bool l[k].stop, .bool l[k].stem] 34) ⟨w.heap.size, 0, none⟩ hsz).trans hcb)
      have HBA := Lib.hid (HB.out.alloc (by omega) (.cells #[.string l[k].name, .int .i64 l[k].kind, .bool l[k].fold, .bool l[k].stop, .bool l[k].stem] 34))
      go_wp2_with (at_builtin; refine OwnL.appendK strOk HOA.out l[k].name (wr.heap.size + 1) rfl _ _ rfl rfl rfl _ rfl HNB.out hsz2 hap2 ?_; intro v4 w4 ho4 hb4 _; have HO4 := Lib.hid ho4; have HB4 := Lib.hid hb4; clear ho4 hb4)
      go_roundw
      case rel => exact ⟨k + 1, by omega, by go_num, by have h := HO4.out; rw [HN.out] at h; exact h, (HB4.out.cell (p := ⟨w.heap.size, 0, none⟩) (show w.heap.size < w.heap.size + 1 by omega)).trans HCB.out, HBA.out.trans (HB4.out.mono (by omega))⟩
      case measure => simp [intOf]; omega
    · obtain ⟨wo, rfl⟩ : ∃ wo : World, wo = wr := ⟨_, rfl⟩
      have hlen2 : (ns ++ (l.take k).map (·.name)).length ≤ 4000000 := by omega
      clear hlen
      generalize ns ++ (l.take k).map (·.name) = ms at *
      go_wp2
      go_loopw [35] (fun iv wr => FiRel2 ms.length w (.slice A l.length cap) (.slice A3 ms.length cap3) ms iv wr) (fun iv _ => ms.length - (intOf iv).toNat)
      case atStart => exact ⟨0, by omega, rfl, HO.out, hcb, HB.out⟩
      case round =>
        obtain ⟨j, hj, rfl, ho5, hcb5, hb5⟩ := hrel
        have hsz5 : w.heap.size < wr.heap.size := World.block_lt_of_cell? wr ⟨w.heap.size, 0, none⟩ hcb5
        have HO5 := Lib.hid ho5; have HB5 := Lib.hid hb5
        clear ho5 hb5
        by_cases hlt2 : j < ms.length
        · obtain ⟨a, ea3, hab, d0⟩ := at_str (RdL.of_own HO5.out) hlt2
          subst ea3
          go_wp2_with fail
          refine (find_any _ l ms[j] wr w.heap.size (by omega) (H.out.below HB5.out)).mono ?_
          rintro e w6 ⟨rfl, hb6⟩
          have HB6 := Lib.hid (HB5.out.trans (hb6.mono (by omega)))
          have HO6 := Lib.hid (HO5.out.below hb6)
          have hcb6 := (hb6.cell (p := ⟨w.heap.size, 0, none⟩) hsz5).trans hcb5
          have hsz6 : w.heap.size < w6.heap.size := World.block_lt_of_cell? w6 ⟨w.heap.size, 0, none⟩ hcb6
          clear hb6
          go_wp2_with fail
          refine (rfind_any _ l ms[j] w6 w.heap.size (by omega) (H.out.below HB6.out)).mono ?_
          rintro e w7 ⟨rfl, hb7⟩
          have HB7 := Lib.hid (HB6.out.trans (hb7.mono (by omega)))
          have HO7 := Lib.hid (HO6.out.below hb7)
          have hcb7 := (hb7.cell (p := ⟨w.heap.size, 0, none⟩) hsz6).trans hcb6
          clear hb7
          generalize findTo l ms[j] = r
          cases r
          all_goals
            simp only [Option.getD_none, Option.getD_some, Option.isSome_none, Option.isSome_some]
            go_wp2
            go_roundw
            case rel => exact ⟨j + 1, by omega, by go_num, HO7.out, hcb7, HB7.out⟩
            case measure => simp [intOf]; omega
        · go_wp2
          go_ret
          exact ⟨rfl, HB5.out⟩
theorem sch_of {W : World} {l : List (String × DataW Unit)} (h : laidMet Tryd.prog l W) (e : l = [("concord/api.ErrSchema", errRow [99, 111, 110, 99, 111, 114, 100, 58, 32, 115, 99, 104, 101, 109, 97])]) : ∃ ea, SchEnv W ea := by
  subst e
  obtain ⟨ps, h1, h2, h3⟩ := h
  obtain ⟨as_, g1, _, g3, _⟩ := errsAt_of [("concord/api.ErrSchema", [99, 111, 110, 99, 111, 114, 100, 58, 32, 115, 99, 104, 101, 109, 97])] [0] ps (by kernel_rfl) (by
    intro g hg
    rw [List.mem_singleton] at hg
    subst hg
    kernel_rfl) h1 h2 h3
  match as_, g3, g1 with
  | [a], _, g1 => exact ⟨List.replicate 11 a, ⟨g1.1⟩⟩
theorem schemaFinds_env {W : World} (h : laidMetH Tryd.prog Rows.schemaFindsUptoRow.laid W) : ∃ ea, SchEnv W ea := by
  have h0 : laidMet Tryd.prog Rows.schemaFindsUptoRow.laid W := h
  exact sch_of h0 (by rfl)
theorem schemaFinds_walk (w : World) (fs : Value) (l : List Fd) (h : RdL fdS w w.heap.size fs l) (nv : Value) (ns : List ByteArray) (hr : RdL strS w w.heap.size nv ns) (hl : l.length ≤ 2000000) (hns : ns.length ≤ 2000000) (hE : ∃ ea, SchEnv w ea) :
    Calls Tryd.prog 4 #[.agg #[fs], nv] w fun e w' => e = .returned (.bool true) ∧ Below w.heap.size w w' := finds_walk w fs l h nv ns hr hl hns hE
end Go.Proofs.YtdkalcecmdadeaaDoor
