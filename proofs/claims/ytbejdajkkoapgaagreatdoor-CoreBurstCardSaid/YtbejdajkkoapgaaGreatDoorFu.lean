/-
  Closed facts that the row of CoreBurst asks for, one theorem each. Conditions: none.
-/
import Derived.Test.YtbejdajkkoapgaaGreatDoorFp
set_option linter.unusedVariables false
set_option maxRecDepth 100000
namespace Go.Proofs.YtbejdajkkoapgaaGreatDoor.facts.coreBurst
open Go
theorem c0 : (fun (P : Program) (f : FuncId) (fn : Func) (s : ChangeSpec) (c : OpenClaim) => (c.wf (OpenSpec.ofChange s) : Bool)) Tryz.prog 5 Tryz.f5 Rows.coreBurstSpec Rows.coreBurstRow = true := by kernel_rfl
theorem c3 : (fun (P : Program) (f : FuncId) (fn : Func) (s : ChangeSpec) (c : OpenClaim) => (fn.params.all (P.readableRec ·) : Bool)) Tryz.prog 5 Tryz.f5 Rows.coreBurstSpec Rows.coreBurstRow = true := by kernel_rfl
theorem c4 : (fun (P : Program) (f : FuncId) (fn : Func) (s : ChangeSpec) (c : OpenClaim) => (namedTie P c.named s.vars : Bool)) Tryz.prog 5 Tryz.f5 Rows.coreBurstSpec Rows.coreBurstRow = true := by kernel_rfl
theorem c5 : (fun (P : Program) (f : FuncId) (fn : Func) (s : ChangeSpec) (c : OpenClaim) => ((c.stops == []) : Bool)) Tryz.prog 5 Tryz.f5 Rows.coreBurstSpec Rows.coreBurstRow = true := by kernel_rfl
theorem c7 : (fun (P : Program) (f : FuncId) (fn : Func) (s : ChangeSpec) (c : OpenClaim) => ((c.knobs == []) : Bool)) Tryz.prog 5 Tryz.f5 Rows.coreBurstSpec Rows.coreBurstRow = true := by kernel_rfl
theorem c9 : (fun (P : Program) (f : FuncId) (fn : Func) (s : ChangeSpec) (c : OpenClaim) => ((c.inPlace == P.inPlace f) : Bool)) Tryz.prog 5 Tryz.f5 Rows.coreBurstSpec Rows.coreBurstRow = true := by kernel_rfl
theorem c10 : (fun (P : Program) (f : FuncId) (fn : Func) (s : ChangeSpec) (c : OpenClaim) => ((c.unfollowed == P.unfollowed f) : Bool)) Tryz.prog 5 Tryz.f5 Rows.coreBurstSpec Rows.coreBurstRow = true := by kernel_rfl
theorem c11 : (fun (P : Program) (f : FuncId) (fn : Func) (s : ChangeSpec) (c : OpenClaim) => ((c.recurses == P.recurses f) : Bool)) Tryz.prog 5 Tryz.f5 Rows.coreBurstSpec Rows.coreBurstRow = true := by kernel_rfl
theorem c12 : (fun (P : Program) (f : FuncId) (fn : Func) (s : ChangeSpec) (c : OpenClaim) => ((c.named == P.varsNamed f) : Bool)) Tryz.prog 5 Tryz.f5 Rows.coreBurstSpec Rows.coreBurstRow = true := by kernel_rfl
theorem c13 : (fun (P : Program) (f : FuncId) (fn : Func) (s : ChangeSpec) (c : OpenClaim) => ((c.maps == (fn.params.toList ++ s.plain.varTypes P).any (P.mapsRec ·)) : Bool)) Tryz.prog 5 Tryz.f5 Rows.coreBurstSpec Rows.coreBurstRow = true := by kernel_rfl
theorem c14 : (fun (P : Program) (f : FuncId) (fn : Func) (s : ChangeSpec) (c : OpenClaim) => ((c.ifaces == (fn.params.toList ++ s.plain.varTypes P).any (P.ifacesRec ·)) : Bool)) Tryz.prog 5 Tryz.f5 Rows.coreBurstSpec Rows.coreBurstRow = true := by kernel_rfl
theorem c15 : (fun (P : Program) (f : FuncId) (fn : Func) (s : ChangeSpec) (c : OpenClaim) => ((c.mapsOut == P.mapsAmong fn.resultTypes.toList) : Bool)) Tryz.prog 5 Tryz.f5 Rows.coreBurstSpec Rows.coreBurstRow = true := by kernel_rfl
theorem c16 : (fun (P : Program) (f : FuncId) (fn : Func) (s : ChangeSpec) (c : OpenClaim) => ((c.loops == (fn.params.toList ++ s.plain.varTypes P).any (P.loopsFrom ·)) : Bool)) Tryz.prog 5 Tryz.f5 Rows.coreBurstSpec Rows.coreBurstRow = true := by kernel_rfl
theorem c17 : (fun (P : Program) (f : FuncId) (fn : Func) (s : ChangeSpec) (c : OpenClaim) => ((c.wideKeys == (fn.params.toList ++ s.plain.varTypes P ++ fn.resultTypes.toList).any (P.wideKeysFrom ·)) : Bool)) Tryz.prog 5 Tryz.f5 Rows.coreBurstSpec Rows.coreBurstRow = true := by kernel_rfl
theorem c18 : (fun (P : Program) (f : FuncId) (fn : Func) (s : ChangeSpec) (c : OpenClaim) => (s.vars.all (P.varReadable ·) : Bool)) Tryz.prog 5 Tryz.f5 Rows.coreBurstSpec Rows.coreBurstRow = true := by kernel_rfl
theorem c19 : (fun (P : Program) (f : FuncId) (fn : Func) (s : ChangeSpec) (c : OpenClaim) => (fn.resultTypes.all (fun t => P.readableRec t && decide (t < P.types.size)) : Bool)) Tryz.prog 5 Tryz.f5 Rows.coreBurstSpec Rows.coreBurstRow = true := by kernel_rfl
theorem c20 : (fun (P : Program) (f : FuncId) (fn : Func) (s : ChangeSpec) (c : OpenClaim) => ((c.ifacesOut == fn.resultTypes.toList.any (P.ifacesRec ·)) : Bool)) Tryz.prog 5 Tryz.f5 Rows.coreBurstSpec Rows.coreBurstRow = true := by kernel_rfl
theorem c21 : (fun (P : Program) (f : FuncId) (fn : Func) (s : ChangeSpec) (c : OpenClaim) => ((c.loopsOut == fn.resultTypes.toList.any (P.loopsFrom ·)) : Bool)) Tryz.prog 5 Tryz.f5 Rows.coreBurstSpec Rows.coreBurstRow = true := by kernel_rfl
theorem c22 : (fun (P : Program) (f : FuncId) (fn : Func) (s : ChangeSpec) (c : OpenClaim) => ((c.plainKeys == P.plainKeys) : Bool)) Tryz.prog 5 Tryz.f5 Rows.coreBurstSpec Rows.coreBurstRow = true := by kernel_rfl
theorem c23 : (fun (P : Program) (f : FuncId) (fn : Func) (s : ChangeSpec) (c : OpenClaim) => (c.shortTexts.isNone : Bool)) Tryz.prog 5 Tryz.f5 Rows.coreBurstSpec Rows.coreBurstRow = true := by kernel_rfl
theorem c26 : (fun (P : Program) (f : FuncId) (fn : Func) (s : ChangeSpec) (c : OpenClaim) => ((c.lifted == P.liftsFinal) : Bool)) Tryz.prog 5 Tryz.f5 Rows.coreBurstSpec Rows.coreBurstRow = true := by kernel_rfl
theorem c27 : (fun (P : Program) (f : FuncId) (fn : Func) (s : ChangeSpec) (c : OpenClaim) => ((P.make == some c.make) : Bool)) Tryz.prog 5 Tryz.f5 Rows.coreBurstSpec Rows.coreBurstRow = true := by kernel_rfl
theorem c28 : (fun (P : Program) (f : FuncId) (fn : Func) (s : ChangeSpec) (c : OpenClaim) => ((c.kinds == (if c.domain.isEmpty then [] else fn.params.toList.map fun t => match P.underlying t with | some (.int k) => some k | _ => none)) : Bool)) Tryz.prog 5 Tryz.f5 Rows.coreBurstSpec Rows.coreBurstRow = true := by kernel_rfl
theorem c29 : (fun (P : Program) (f : FuncId) (fn : Func) (s : ChangeSpec) (c : OpenClaim) => ((c.pinned == c.pinnedBy) : Bool)) Tryz.prog 5 Tryz.f5 Rows.coreBurstSpec Rows.coreBurstRow = true := by kernel_rfl
theorem c30 : (fun (P : Program) (f : FuncId) (fn : Func) (s : ChangeSpec) (c : OpenClaim) => ((c.veiled == (fn.params.toList ++ s.plain.varTypes P ++ fn.resultTypes.toList).any (P.veiledRec ·)) : Bool)) Tryz.prog 5 Tryz.f5 Rows.coreBurstSpec Rows.coreBurstRow = true := by kernel_rfl
theorem c31 : (fun (P : Program) (f : FuncId) (fn : Func) (s : ChangeSpec) (c : OpenClaim) => (c.veiledFits P fn.params.toList (fn.params.toList ++ s.plain.varTypes P ++ fn.resultTypes.toList) : Bool)) Tryz.prog 5 Tryz.f5 Rows.coreBurstSpec Rows.coreBurstRow = true := by kernel_rfl
theorem closed : joinedFacts Tryz.prog 5 Tryz.f5 Rows.coreBurstSpec Rows.coreBurstRow = true := by
  unfold joinedFacts
  exact (band (band (band (band (band (band (band (band (band (band (band (band (band (band (band (band (band (band (band (band (band (band (band (band (band (band (band (band (band (band (band c0 p1) p2) c3) c4) c5) p6) c7) p8) c9) c10) c11) c12) c13) c14) c15) c16) c17) c18) c19) c20) c21) c22) c23) p24) p25) c26) c27) c28) c29) c30) c31)
end Go.Proofs.YtbejdajkkoapgaaGreatDoor.facts.coreBurst
