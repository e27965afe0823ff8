/-
  NARROWER THAN 'FOR EVERY INPUT', by the rows' own cells (each row's printed sentence says how): CoreNodes: laid · CoreSame: laid · CoreBurst: laid.
  DERIVED. THE GIVEN ROWS OF THIS SEAT. 3 by the template 'for every input the law returns true; each argument reads behind the call as it read before'; 0 by the template 'total and deterministic' (their statements: YtbejdajkkoapgaaGreatDoorTotals.lean).
  GIVEN WITH THE SEED: the statements are not yours to turn. If you find one false, say at which input.
  Laid BY PROGRAM, IN A SANDBOX (cutbox-rows.mjs): the forced cells as the released guide's own fill.sh prints them over the translation c907226f3671ea34… (all of the seat's roots in one cut). By AI agents, Wed Nov 11 2026. No macro, syntax, notation, axiom, sorry.
-/
import Derived.Test.YtbejdajkkoapgaaGreatDoorChecked
import GoSem.Claim
import GoSem.ClaimJoined
import GoSem.ClaimMapViews
import Derived.JoinedTies
import Derived.KernelRfl
namespace Go.Proofs.YtbejdajkkoapgaaGreatDoor
/- THE CELL 'sum', in the pinned program and in every row, IS THE sha256 OF THE DUMP (.gsa) THAT YtbejdajkkoapgaaGreatDoorProg.lean LOADS. Nothing in Lean hashes anything: it is a label: what it is worth is what the hold of that sum in a sandbox is worth. -/
noncomputable def Tryz.pinned : Pinned := { name := "ytbejdajkkoapgaagreatdoor", sum := "c907226f3671ea34bf7e85feb610bee64cefe35aa87473153d9886174b6a03f6", checked := Tryz.checked }
namespace Rows
def none {H : Type} : Left H := { results := [], args := [] }

/- WHAT THE LISTED PACKAGE-LEVEL VARIABLES READ AS WHEN THE CALL BEGINS. Each datum BY PROGRAM (the guide's laid-datum.mjs) off the statement by which the dump's own 'gosem.cut.vars' lays the variable. In a bare row this is a premise. The card (YtbejdajkkoapgaaGreatDoorCards.lean) ties it to the program's text. -/
def laid_ogive_spans_tens {H : Type} : DataW H := .agg [.lit (.int .u64 1), .lit (.int .u64 10), .lit (.int .u64 100), .lit (.int .u64 1000), .lit (.int .u64 10000)]

/-- 'ogivetop.CoreNodes': WHATEVER THE INPUT: true; the input reads as it did. -/
def coreNodesSpec : ChangeSpec := { name := "coreNodes", fn := fun _ => fun
  | [d1, d2, d3, d4] => { results := [.lit (.bool true)], args := [d1, d2, d3, d4] }
  | _ => none }
def coreNodesRow : OpenClaim := { program := "ytbejdajkkoapgaagreatdoor", sum := "c907226f3671ea34bf7e85feb610bee64cefe35aa87473153d9886174b6a03f6", func := "ogive/ogivetop.CoreNodes", spec := "coreNodes", inPlace := ["slices.overlaps[ogive/api.Pair]"], unfollowed := true, recurses := true, named := ["math/bits.divideError", "math/bits.overflowError", "ogive/spans.tens"], apart := false, laid := [("ogive/spans.tens", laid_ogive_spans_tens)] }
def CoreNodesSaid : Prop := coreNodesRow.holds Tryz.pinned (OpenSpec.ofChange coreNodesSpec)

/-- ITS FALSE NEIGHBOUR: 'it returns false'. Refute it at one input. -/
def coreNodesWrong : ChangeSpec := { name := "coreNodes", fn := fun _ => fun
  | [d1, d2, d3, d4] => { results := [.lit (.bool false)], args := [d1, d2, d3, d4] }
  | _ => none }
def CoreNodesWrongFalsely : Prop := coreNodesRow.holds Tryz.pinned (OpenSpec.ofChange coreNodesWrong)

/-- 'ogivetop.CoreSame': WHATEVER THE INPUT: true; the input reads as it did. -/
def coreSameSpec : ChangeSpec := { name := "coreSame", fn := fun _ => fun
  | [d1, d2, d3, d4] => { results := [.lit (.bool true)], args := [d1, d2, d3, d4] }
  | _ => none }
def coreSameRow : OpenClaim := { program := "ytbejdajkkoapgaagreatdoor", sum := "c907226f3671ea34bf7e85feb610bee64cefe35aa87473153d9886174b6a03f6", func := "ogive/ogivetop.CoreSame", spec := "coreSame", inPlace := ["slices.overlaps[ogive/api.Pair]"], unfollowed := true, recurses := true, named := ["math/bits.divideError", "math/bits.overflowError", "ogive/spans.tens"], apart := false, laid := [("ogive/spans.tens", laid_ogive_spans_tens)] }
def CoreSameSaid : Prop := coreSameRow.holds Tryz.pinned (OpenSpec.ofChange coreSameSpec)

/-- ITS FALSE NEIGHBOUR: 'it returns false'. Refute it at one input. -/
def coreSameWrong : ChangeSpec := { name := "coreSame", fn := fun _ => fun
  | [d1, d2, d3, d4] => { results := [.lit (.bool false)], args := [d1, d2, d3, d4] }
  | _ => none }
def CoreSameWrongFalsely : Prop := coreSameRow.holds Tryz.pinned (OpenSpec.ofChange coreSameWrong)

/-- 'ogivetop.CoreBurst': WHATEVER THE INPUT: true; the input reads as it did. -/
def coreBurstSpec : ChangeSpec := { name := "coreBurst", fn := fun _ => fun
  | [d1, d2, d3, d4, d5] => { results := [.lit (.bool true)], args := [d1, d2, d3, d4, d5] }
  | _ => none }
def coreBurstRow : OpenClaim := { program := "ytbejdajkkoapgaagreatdoor", sum := "c907226f3671ea34bf7e85feb610bee64cefe35aa87473153d9886174b6a03f6", func := "ogive/ogivetop.CoreBurst", spec := "coreBurst", inPlace := ["slices.overlaps[ogive/api.Pair]"], unfollowed := true, recurses := true, named := ["math/bits.divideError", "math/bits.overflowError", "ogive/spans.tens"], apart := false, laid := [("ogive/spans.tens", laid_ogive_spans_tens)] }
def CoreBurstSaid : Prop := coreBurstRow.holds Tryz.pinned (OpenSpec.ofChange coreBurstSpec)

/-- ITS FALSE NEIGHBOUR: 'it returns false'. Refute it at one input. -/
def coreBurstWrong : ChangeSpec := { name := "coreBurst", fn := fun _ => fun
  | [d1, d2, d3, d4, d5] => { results := [.lit (.bool false)], args := [d1, d2, d3, d4, d5] }
  | _ => none }
def CoreBurstWrongFalsely : Prop := coreBurstRow.holds Tryz.pinned (OpenSpec.ofChange coreBurstWrong)

/- THE SECOND FORM. 'bulk': how many values and letters a reading holds, each counted each time it is reached (what is shared counts as often as it is met; a slice's spare places count too). A statement '..UptoSaid' is the law's where the arguments, and the package variables that the reading takes, are together of bulk at most 1048576: NARROWER than '..Said'. Prove '..Said' where nothing that the law and all that it calls make is longer than what came in: it says more and counts as full. Else prove '..UptoSaid'. A law counts once. -/
mutual
def uptoBulk {H : Type} : DataW H → Nat
  | .lit (.string bytes) => bytes.length + 1
  | .lit _ => 1
  | .nil => 1
  | .ptr d => uptoBulk d + 1
  | .slice elems spare => uptoBulkAll elems + uptoBulkAll spare + 1
  | .agg parts => uptoBulkAll parts + 1
  | .iface _ d => uptoBulk d + 1
  | .map entries => uptoBulkEntries entries + 1
  | .held _ => 1
def uptoBulkAll {H : Type} : List (DataW H) → Nat
  | [] => 0
  | d :: r => uptoBulk d + uptoBulkAll r
def uptoBulkEntries {H : Type} : List (Lit × DataW H) → Nat
  | [] => 0
  | x :: r => uptoBulkEntry x + uptoBulkEntries r
def uptoBulkEntry {H : Type} : Lit × DataW H → Nat
  | (.string bytes, d) => bytes.length + uptoBulk d + 1
  | (_, d) => uptoBulk d + 1
 end
def uptoSmall : (H : Type) → List (DataW H) → Bool := fun _ ds => decide (uptoBulkAll ds ≤ 1048576)
def OpenSpec.upto (s : _root_.Go.ChangeSpec) : _root_.Go.OpenSpec := { _root_.Go.OpenSpec.ofChange s with cond := some uptoSmall }

/-- 'ogivetop.CoreNodes', WHERE WHAT IT READS IS OF BULK AT MOST 1048576: true; the input reads as it did. -/
def coreNodesUptoRow : OpenClaim := { program := "ytbejdajkkoapgaagreatdoor", sum := "c907226f3671ea34bf7e85feb610bee64cefe35aa87473153d9886174b6a03f6", func := "ogive/ogivetop.CoreNodes", spec := "coreNodes", inPlace := ["slices.overlaps[ogive/api.Pair]"], unfollowed := true, recurses := true, named := ["math/bits.divideError", "math/bits.overflowError", "ogive/spans.tens"], apart := false, laid := [("ogive/spans.tens", laid_ogive_spans_tens)], narrowed := true }
def CoreNodesUptoSaid : Prop := coreNodesUptoRow.holds Tryz.pinned (OpenSpec.upto coreNodesSpec)

/-- 'ogivetop.CoreSame', WHERE WHAT IT READS IS OF BULK AT MOST 1048576: true; the input reads as it did. -/
def coreSameUptoRow : OpenClaim := { program := "ytbejdajkkoapgaagreatdoor", sum := "c907226f3671ea34bf7e85feb610bee64cefe35aa87473153d9886174b6a03f6", func := "ogive/ogivetop.CoreSame", spec := "coreSame", inPlace := ["slices.overlaps[ogive/api.Pair]"], unfollowed := true, recurses := true, named := ["math/bits.divideError", "math/bits.overflowError", "ogive/spans.tens"], apart := false, laid := [("ogive/spans.tens", laid_ogive_spans_tens)], narrowed := true }
def CoreSameUptoSaid : Prop := coreSameUptoRow.holds Tryz.pinned (OpenSpec.upto coreSameSpec)

/-- 'ogivetop.CoreBurst', WHERE WHAT IT READS IS OF BULK AT MOST 1048576: true; the input reads as it did. -/
def coreBurstUptoRow : OpenClaim := { program := "ytbejdajkkoapgaagreatdoor", sum := "c907226f3671ea34bf7e85feb610bee64cefe35aa87473153d9886174b6a03f6", func := "ogive/ogivetop.CoreBurst", spec := "coreBurst", inPlace := ["slices.overlaps[ogive/api.Pair]"], unfollowed := true, recurses := true, named := ["math/bits.divideError", "math/bits.overflowError", "ogive/spans.tens"], apart := false, laid := [("ogive/spans.tens", laid_ogive_spans_tens)], narrowed := true }
def CoreBurstUptoSaid : Prop := coreBurstUptoRow.holds Tryz.pinned (OpenSpec.upto coreBurstSpec)

end Rows
end Go.Proofs.YtbejdajkkoapgaaGreatDoor
