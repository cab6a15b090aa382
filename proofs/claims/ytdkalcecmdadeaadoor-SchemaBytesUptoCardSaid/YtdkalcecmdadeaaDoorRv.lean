/- Layer 1: the Reader's Upto. -/
import Derived.Test.YtdkalcecmdadeaaDoorRu
namespace Go.Proofs.YtdkalcecmdadeaaDoor
open Go.RowKit
set_option maxRecDepth 100000
set_option maxHeartbeats 1000000
set_option linter.unusedSimpArgs false
set_option linter.unusedVariables false

theorem upto_any (most : Nat) (hmo : most ≤ 1000000) (g : Nat) (m : List UInt8) (k : Nat) (w : World) (ea : List Addr) (h : RdAt w g m k) (hE : ErrLow w g ea) :
    Calls Tryd.prog 50 #[.pointer (some ⟨g, 0, none⟩), .int .i64 (most : Int)] w (RdRet ea g m k (fun v : Nat => .int .i64 (v : Int)) (.int .i64 0) (uptoR most m k) w) := by
  have hk0 : k ≤ m.length ∧ m.length ≤ 10000000000 := by obtain ⟨A, cap, _, _, h3, h4⟩ := h; exact ⟨h3, h4⟩
  obtain ⟨hkm, hml⟩ := hk0
  have HE := Lib.hid hE
  have H := Lib.hid h
  obtain ⟨A, cap, h1, h2, h3, h4⟩ := h
  have c0 : w.cell? ⟨g, 0, none⟩ = some (.int .i64 (k : Int)) := h1.cell 0
  clear hE h1 h2 h3 h4
  go_enter Tryd.func50, Tryd.ntmps50
  go_wp2_with fail
  refine (ruvarint_any g m k w ea H.out HE.out).mono ?_
  rintro e w1 ⟨hf1, hm⟩
  have HF1 := Lib.hid hf1
  have cE2 : w1.cell? ⟨1, 0, none⟩ = some (errI ea 2) := (HE.out.below hf1.below).cell 2 (by decide)
  clear hf1 c0
  cases hu : uvR m k with
  | no i =>
    rw [hu] at hm
    obtain ⟨rfl, hr⟩ := hm
    have HR := Lib.hid hr
    have HU : Hid (uptoR most m k = .no i) := Lib.hid (by unfold uptoR; rw [hu])
    have k1 := fun W => errI_nnil ea i W
    have k2 := fun op x y W => errI_guard0 ea i op x y W
    clear hr hu
    go_wp2
    go_ret2
    exact rdRet_no HU.out HF1.out HR.out
  | ok v j =>
    rw [hu] at hm
    obtain ⟨rfl, hr⟩ := hm
    obtain ⟨hj1, hj2, hv⟩ := uvR_le hkm hu
    have HR := Lib.hid hr
    obtain ⟨A, cap, h1, h2, h3, h4⟩ := hr
    have hfz := h1.frozen 0
    have hc0 : w1.cell? ⟨g, 0, none⟩ = some (.int .i64 (j : Int)) := h1.cell 0
    clear h1 h2 h3 h4
    by_cases hb : most < v
    · have HU : Hid (uptoR most m k = .no 2) := Lib.hid (by unfold uptoR; rw [hu]; exact if_pos hb)
      have hset := Lib.hid (HR.out.set_ k hkm)
      have hfs := Lib.hid (HF1.out.set_ 0 (.int .i64 (k : Int)))
      have hb' : (most : Int) < (v : Int) := by omega
      have cE3 : (w1.setCell ⟨g, 0, none⟩ (.int .i64 (k : Int))).cell? ⟨1, 0, none⟩ = some (errI ea 2) := (HE.out.below hfs.out.below).cell 2 (by decide)
      clear hu
      go_wp2
      clear hfz hc0 cE2
      generalize w1.setCell ⟨g, 0, none⟩ (.int .i64 (k : Int)) = w2 at *
      go_region
      go_wp2
      go_ret2
      exact rdRet_no HU.out hfs.out.drew hset.out.drew
    · have HU : Hid (uptoR most m k = .ok v j) := Lib.hid (by unfold uptoR; rw [hu]; exact if_neg hb)
      have hb' : (v : Int) ≤ (most : Int) := by omega
      clear hu
      go_wp2
      go_ret2
      exact rdRet_ok (val := fun v : Nat => Value.int .i64 (v : Int)) HU.out HF1.out HR.out
end Go.Proofs.YtdkalcecmdadeaaDoor
