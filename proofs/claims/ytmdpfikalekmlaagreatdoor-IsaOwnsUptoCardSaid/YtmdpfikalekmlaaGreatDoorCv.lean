/- Bytes that are read, turned to a string. -/
import Derived.Test.YtmdpfikalekmlaaGreatDoorBy
namespace Go.Proofs.YtmdpfikalekmlaaGreatDoor
open Go.RowKit
set_option maxRecDepth 100000

theorem RdL.convAll {w : World} {B : Nat} {A : Option Addr} {n cap : Nat} {l : List UInt8} (h : RdL byteS w B (.slice A n cap) l) : (convert 26 9 (.slice A n cap)).run Tryz.prog w = .ok (.string (str l)) w := by
  obtain ⟨A', cap', e, h1⟩ := h.open_
  injection e with e1 e2 e3
  subst e1; subst e2; subst e3
  by_cases hl : l.length = 0
  · have hn : l = [] := List.eq_nil_of_length_eq_zero hl
    subst hn
    cases A with
    | none =>
      obtain ⟨A', cap', e, h1, h2, h3, h4⟩ := h
      injection e with e1 e2 e3
      subst e1; subst e3
      obtain rfl := h4 rfl
      exact run_convert_bytes_nil (P := Tryz.prog) w 26 5 Tryz.underlying26 Tryz.underlying5 0 0 9 Tryz.underlying9
    | some a =>
      have := run_convert_bytes_back (P := Tryz.prog) w 26 9 5 a cap [] Tryz.underlying26 Tryz.underlying5 Tryz.underlying9 (fun i hi => absurd hi (by simp))
      exact this
  · obtain ⟨a, rfl, _, _⟩ := at_byte h (k := 0) (by omega)
    refine run_convert_bytes_back (P := Tryz.prog) w 26 9 5 a cap l Tryz.underlying26 Tryz.underlying5 Tryz.underlying9 (fun i hi => ?_)
    obtain ⟨a', e, _, hx⟩ := at_byte h (k := i) hi
    injection e with e
    subst e
    exact hx
end Go.Proofs.YtmdpfikalekmlaaGreatDoor
