/-
  Closed facts of the program that the rows ask for, one theorem each. Conditions: none.
-/
import Derived.Test.YtbejdajkkoapgaaGreatDoorRows
import Derived.JoinedOf
import Derived.KernelRfl
set_option linter.unusedVariables false
set_option maxRecDepth 100000
namespace Go.Proofs.YtbejdajkkoapgaaGreatDoor.facts
open Go
theorem band {a b : Bool} (h : a = true) (k : b = true) : (a && b) = true := by rw [h, k]; rfl
theorem p1 : (fun (P : Program) => (laidOutB P : Bool)) Tryz.prog = true := by kernel_rfl
theorem p2 : (fun (P : Program) => (mapsRowed P : Bool)) Tryz.prog = true := by kernel_rfl
theorem p6 : (fun (P : Program) => ((P.stops == []) : Bool)) Tryz.prog = true := by kernel_rfl
theorem p8 : (fun (P : Program) => ((P.stopKnobs == []) : Bool)) Tryz.prog = true := by kernel_rfl
theorem p24 : (fun (P : Program) => (P.stopsHeard : Bool)) Tryz.prog = true := by kernel_rfl
theorem p25 : (fun (P : Program) => (P.mayEnter : Bool)) Tryz.prog = true := by kernel_rfl
end Go.Proofs.YtbejdajkkoapgaaGreatDoor.facts
