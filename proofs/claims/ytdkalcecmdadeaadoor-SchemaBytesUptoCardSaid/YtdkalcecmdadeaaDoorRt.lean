/- Layer 1: the Reader's Text. -/
import Derived.Test.YtdkalcecmdadeaaDoorRv
import Derived.Laws.IdiomStrings
namespace Go.Proofs.YtdkalcecmdadeaaDoor
open Go.RowKit
set_option maxRecDepth 100000
set_option maxHeartbeats 1000000
set_option linter.unusedSimpArgs false
set_option linter.unusedVariables false

/-- A piece of bytes as a string. -/
theorem RdL.piece {w : World} {B : Nat} {a : Addr} {n cap : Nat} {l : List UInt8} (h : RdL byteS w B (.slice (some a) n cap) l) (j k c : Nat) (hjk : j + k ≤ l.length) :
    (convert 54 9 (.slice (some (a.add j)) k c)).run Tryd.prog w = .ok (.string (str ((l.drop j).take k))) w := by
  have hl : ((l.drop j).take k).length = k := by rw [List.length_take, List.length_drop]; omega
  have := run_convert_bytes_back (P := Tryd.prog) w 54 9 5 (a.add j) c ((l.drop j).take k) Tryd.underlying54 Tryd.underlying5 Tryd.underlying9 (fun i hi => by
    rw [hl] at hi
    obtain ⟨a', e, _, hx⟩ := at_byte h (k := j + i) (by omega)
    injection e with e
    subst e
    rw [add_of_add, hx]
    congr 3
    rw [List.getElem_take, List.getElem_drop])
  rw [hl] at this
  exact this
/-- The same, as the walk spells a piece. -/
theorem RdL.piece2 {w : World} {B : Nat} {a : Addr} {cap : Nat} {l : List UInt8} (h : RdL byteS w B (.slice (some a) l.length cap) l) (j k : Nat) (hjk : j + k ≤ l.length) :
    (convert 54 9 (.slice (if cap = j then some a else some (a.add j)) (j + k - j) (cap - j))).run Tryd.prog w = .ok (.string (str ((l.drop j).take k))) w := by
  obtain ⟨A', cap', e, h1, _⟩ := h.open_
  injection e with _ _ e3
  subst e3
  rw [Nat.add_sub_cancel_left]
  split
  · have hk0 : k = 0 := by omega
    subst hk0
    have := h.piece 0 0 (cap - j) (by omega)
    rw [List.take_zero] at this ⊢
    exact this
  · exact h.piece j k _ hjk
theorem rtextR_any (most : Nat) (hmo : most ≤ 1000000) (g : Nat) (m : List UInt8) (k : Nat) (w : World) (ea : List Addr) (h : RdAt w g m k) (hE : ErrLow w g ea) :
    Calls Tryd.prog 51 #[.pointer (some ⟨g, 0, none⟩), .int .i64 (most : Int)] w (RdRet ea g m k (fun v : List UInt8 => .string (str v)) (.string ⟨#[]⟩) (textR most m k) w) := by
  have hk0 : k ≤ m.length ∧ m.length ≤ 10000000000 := by obtain ⟨A, cap, _, _, h3, h4⟩ := h; exact ⟨h3, h4⟩
  obtain ⟨hkm, hml⟩ := hk0
  have HE := Lib.hid hE
  have H := Lib.hid h
  obtain ⟨A, cap, h1, h2, h3, h4⟩ := h
  have c0 : w.cell? ⟨g, 0, none⟩ = some (.int .i64 (k : Int)) := h1.cell 0
  clear hE h1 h2 h3 h4
  go_enter Tryd.func51, Tryd.ntmps51
  go_wp2_with fail
  refine (upto_any most hmo g m k w ea H.out HE.out).mono ?_
  rintro e w1 ⟨hf1, hm⟩
  have HF1 := Lib.hid hf1
  clear hf1 c0
  cases hu : uptoR most m k with
  | no i =>
    rw [hu] at hm
    obtain ⟨rfl, hr⟩ := hm
    have HR := Lib.hid hr
    have HU : Hid (textR most m k = .no i) := Lib.hid (by unfold textR; rw [hu])
    have k1 := fun W => errI_nnil ea i W
    have k2 := fun op x y W => errI_guard0 ea i op x y W
    clear hr hu
    go_wp2
    go_ret2
    exact rdRet_no HU.out HF1.out HR.out
  | ok n j =>
    rw [hu] at hm
    obtain ⟨rfl, hr⟩ := hm
    obtain ⟨hj1, hj2, hn⟩ := uptoR_le hkm hu
    have HR := Lib.hid hr
    have HJ := Lib.hid hj1
    clear hr
    go_wp2_with fail
    refine (left_any g m j _ HR.out).mono ?_
    rintro e w2 ⟨rfl, hf2, hr2⟩
    have HF2 := Lib.hid (HF1.out.trans hf2)
    have HR2 := Lib.hid hr2
    obtain ⟨A, cap, h1, h2, h3, h4⟩ := hr2
    have hfz := h1.frozen 0
    have hc0 : w2.cell? ⟨g, 0, none⟩ = some (.int .i64 (j : Int)) := h1.cell 0
    have hc2 : w2.cell? ⟨g, 2, none⟩ = some (.slice A m.length cap) := h1.cell 2
    have HB := Lib.hid h1
    have HX := Lib.hid h2
    clear h1 h2 h3 h4 hf2
    obtain ⟨d, hd⟩ : ∃ d, d = m.length - j := ⟨_, rfl⟩
    rw [← hd]
    by_cases hb : d < n
    · have HU : Hid (textR most m k = .no 0) := Lib.hid (by unfold textR; rw [hu]; exact if_pos (by omega))
      have hset := Lib.hid (HR2.out.set_ k hkm)
      have hfs := Lib.hid (HF2.out.set_ 0 (.int .i64 (k : Int)))
      have cE3 : (w2.setCell ⟨g, 0, none⟩ (.int .i64 (k : Int))).cell? ⟨2, 0, none⟩ = some (errI ea 0) := (HE.out.below hfs.out.below).cell 0 (by decide)
      clear hu hd hc2
      go_wp2
      clear hfz hc0
      generalize w2.setCell ⟨g, 0, none⟩ (.int .i64 (k : Int)) = w3 at *
      go_region
      go_wp2
      go_ret2
      exact rdRet_no HU.out hfs.out.drew hset.out.drew
    · have HU : Hid (textR most m k = .ok ((m.drop j).take n) (j + n)) := Lib.hid (by unfold textR; rw [hu]; exact if_neg (by omega))
      obtain ⟨capn, h2l, h2c⟩ : m.length ≤ cap ∧ cap ≤ maxLen ∧ True := by obtain ⟨A', cap', e, e1, e2⟩ := HX.out.open_; injection e with _ _ e3; subst e3; exact ⟨e1, e2, trivial⟩
      unfold maxLen at h2l
      obtain ⟨a, rfl⟩ : ∃ a, A = some a := by
        obtain ⟨a, e, _⟩ := at_byte HX.out (k := 0) (by omega)
        exact ⟨a, e⟩
      have hjn : j + n ≤ m.length := by omega
      have HDD := Lib.hid hd
      have hb2 : n ≤ d := by omega
      clear hu hd hb
      go_wp2
      have hset := Lib.hid (HR2.out.set_ (j + n) hjn)
      rw [show ((j + n : Nat) : Int) = (j : Int) + (n : Int) from by omega] at hset
      have hfs := Lib.hid (HF2.out.set_ 0 (.int .i64 ((j : Int) + (n : Int))))
      have hB2 : Blk (w2.setCell ⟨g, 0, none⟩ (.int .i64 ((j : Int) + (n : Int)))) g 103 #[.int .i64 ((j : Int) + (n : Int)), .int .i64 (m.length : Int), .slice (some a) m.length cap] := by simpa using HB.out.set_ 0 (.int .i64 ((j : Int) + (n : Int)))
      have b0 := hB2.cell 0
      have b2 := hB2.cell 2
      simp only [List.getElem?_toArray, List.getElem?_cons_zero, List.getElem?_cons_succ] at b0 b2
      have HX3 : RdL byteS (w2.setCell ⟨g, 0, none⟩ (.int .i64 ((j : Int) + (n : Int)))) g (.slice (some a) m.length cap) m := HX.out.keep fun p hp => ((Below.refl g w2).setCell (p := ⟨g, 0, none⟩) (by show g ≤ g; omega) _).cell hp
      clear hc0 hc2 hB2 hfz
      generalize w2.setCell ⟨g, 0, none⟩ (.int .i64 ((j : Int) + (n : Int))) = w3 at *
      have hcv := RdL.piece2 HX3.drew j n hjn
      have hcv' := hcv
      rw [Nat.add_sub_cancel_left] at hcv'
      have HX3' := Lib.hid HX3
      clear HX3
      go_region
      go_wp2
      all_goals go_ret2
      all_goals exact rdRet_ok (val := fun v : List UInt8 => Value.string (str v)) HU.out hfs.out.drew hset.out.drew
end Go.Proofs.YtdkalcecmdadeaaDoor
