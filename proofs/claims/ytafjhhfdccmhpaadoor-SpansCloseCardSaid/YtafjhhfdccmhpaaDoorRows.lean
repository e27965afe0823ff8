/-
  NARROWER THAN 'FOR EVERY INPUT', by the rows' own cells (each row's printed sentence says how): SpansSide: laid · SpansIndex: laid · SpansFiner: laid · SpansClose: laid · SpansNone: laid.
  DERIVED. THE GIVEN ROWS OF THIS SEAT. 5 by the template 'for every input the law returns true; each argument reads behind the call as it read before'; 0 by the template 'total and deterministic' (their statements: YtafjhhfdccmhpaaDoorTotals.lean).
  GIVEN WITH THE SEED: the statements are not yours to turn. If you find one false, say at which input.
  Laid BY PROGRAM, IN A SANDBOX (cutbox-rows.mjs): the forced cells as the released guide's own fill.sh prints them over the translation 7b0a0ef6fddbaf96… (all of the seat's roots in one cut). By AI agents, Wed Nov 11 2026. No macro, syntax, notation, axiom, sorry.
-/
import Derived.Test.YtafjhhfdccmhpaaDoorChecked
import GoSem.Claim
import GoSem.ClaimJoined
import GoSem.ClaimMapViews
import Derived.JoinedTies
import Derived.KernelRfl
namespace Go.Proofs.YtafjhhfdccmhpaaDoor
/- THE CELL 'sum', in the pinned program and in every row, IS THE sha256 OF THE DUMP (.gsa) THAT YtafjhhfdccmhpaaDoorProg.lean LOADS. Nothing in Lean hashes anything: it is a label: what it is worth is what the hold of that sum in a sandbox is worth. -/
noncomputable def Tryd.pinned : Pinned := { name := "ytafjhhfdccmhpaadoor", sum := "7b0a0ef6fddbaf9681d532b2ada51a5826528360efd663ed97c1d62bc13e74ec", checked := Tryd.checked }
namespace Rows
def none {H : Type} : Left H := { results := [], args := [] }

/- WHAT THE LISTED PACKAGE-LEVEL VARIABLES READ AS WHEN THE CALL BEGINS. Each datum BY PROGRAM (the guide's laid-datum.mjs) off the statement by which the dump's own 'gosem.cut.vars' lays the variable. In a bare row this is a premise. The card (YtafjhhfdccmhpaaDoorCards.lean) ties it to the program's text. -/
def laid_ogive_spans_tens {H : Type} : DataW H := .agg [.lit (.int .u64 1), .lit (.int .u64 10), .lit (.int .u64 100), .lit (.int .u64 1000), .lit (.int .u64 10000)]

/-- 'ogivelaw12.SpansSide': WHATEVER THE INPUT: true; the input reads as it did. -/
def spansSideSpec : ChangeSpec := { name := "spansSide", fn := fun _ => fun
  | [d1, d2, d3] => { results := [.lit (.bool true)], args := [d1, d2, d3] }
  | _ => none }
def spansSideRow : OpenClaim := { program := "ytafjhhfdccmhpaadoor", sum := "7b0a0ef6fddbaf9681d532b2ada51a5826528360efd663ed97c1d62bc13e74ec", func := "ogive/ogivelaw12.SpansSide", spec := "spansSide", named := ["ogive/spans.tens"], apart := false, laid := [("ogive/spans.tens", laid_ogive_spans_tens)] }
def SpansSideSaid : Prop := spansSideRow.holds Tryd.pinned (OpenSpec.ofChange spansSideSpec)

/-- ITS FALSE NEIGHBOUR: 'it returns false'. Refute it at one input. -/
def spansSideWrong : ChangeSpec := { name := "spansSide", fn := fun _ => fun
  | [d1, d2, d3] => { results := [.lit (.bool false)], args := [d1, d2, d3] }
  | _ => none }
def SpansSideWrongFalsely : Prop := spansSideRow.holds Tryd.pinned (OpenSpec.ofChange spansSideWrong)

/-- 'ogivelaw12.SpansIndex': WHATEVER THE INPUT: true; the input reads as it did. -/
def spansIndexSpec : ChangeSpec := { name := "spansIndex", fn := fun _ => fun
  | [d1, d2] => { results := [.lit (.bool true)], args := [d1, d2] }
  | _ => none }
def spansIndexRow : OpenClaim := { program := "ytafjhhfdccmhpaadoor", sum := "7b0a0ef6fddbaf9681d532b2ada51a5826528360efd663ed97c1d62bc13e74ec", func := "ogive/ogivelaw12.SpansIndex", spec := "spansIndex", named := ["ogive/spans.tens"], apart := false, laid := [("ogive/spans.tens", laid_ogive_spans_tens)] }
def SpansIndexSaid : Prop := spansIndexRow.holds Tryd.pinned (OpenSpec.ofChange spansIndexSpec)

/-- ITS FALSE NEIGHBOUR: 'it returns false'. Refute it at one input. -/
def spansIndexWrong : ChangeSpec := { name := "spansIndex", fn := fun _ => fun
  | [d1, d2] => { results := [.lit (.bool false)], args := [d1, d2] }
  | _ => none }
def SpansIndexWrongFalsely : Prop := spansIndexRow.holds Tryd.pinned (OpenSpec.ofChange spansIndexWrong)

/-- 'ogivelaw12.SpansFiner': WHATEVER THE INPUT: true; the input reads as it did. -/
def spansFinerSpec : ChangeSpec := { name := "spansFiner", fn := fun _ => fun
  | [d1, d2, d3] => { results := [.lit (.bool true)], args := [d1, d2, d3] }
  | _ => none }
def spansFinerRow : OpenClaim := { program := "ytafjhhfdccmhpaadoor", sum := "7b0a0ef6fddbaf9681d532b2ada51a5826528360efd663ed97c1d62bc13e74ec", func := "ogive/ogivelaw12.SpansFiner", spec := "spansFiner", named := ["ogive/spans.tens"], apart := false, laid := [("ogive/spans.tens", laid_ogive_spans_tens)] }
def SpansFinerSaid : Prop := spansFinerRow.holds Tryd.pinned (OpenSpec.ofChange spansFinerSpec)

/-- ITS FALSE NEIGHBOUR: 'it returns false'. Refute it at one input. -/
def spansFinerWrong : ChangeSpec := { name := "spansFiner", fn := fun _ => fun
  | [d1, d2, d3] => { results := [.lit (.bool false)], args := [d1, d2, d3] }
  | _ => none }
def SpansFinerWrongFalsely : Prop := spansFinerRow.holds Tryd.pinned (OpenSpec.ofChange spansFinerWrong)

/-- 'ogivelaw12.SpansClose': WHATEVER THE INPUT: true; the input reads as it did. -/
def spansCloseSpec : ChangeSpec := { name := "spansClose", fn := fun _ => fun
  | [d1, d2] => { results := [.lit (.bool true)], args := [d1, d2] }
  | _ => none }
def spansCloseRow : OpenClaim := { program := "ytafjhhfdccmhpaadoor", sum := "7b0a0ef6fddbaf9681d532b2ada51a5826528360efd663ed97c1d62bc13e74ec", func := "ogive/ogivelaw12.SpansClose", spec := "spansClose", named := ["ogive/spans.tens"], apart := false, laid := [("ogive/spans.tens", laid_ogive_spans_tens)] }
def SpansCloseSaid : Prop := spansCloseRow.holds Tryd.pinned (OpenSpec.ofChange spansCloseSpec)

/-- ITS FALSE NEIGHBOUR: 'it returns false'. Refute it at one input. -/
def spansCloseWrong : ChangeSpec := { name := "spansClose", fn := fun _ => fun
  | [d1, d2] => { results := [.lit (.bool false)], args := [d1, d2] }
  | _ => none }
def SpansCloseWrongFalsely : Prop := spansCloseRow.holds Tryd.pinned (OpenSpec.ofChange spansCloseWrong)

/-- 'ogivelaw12.SpansNone': WHATEVER THE INPUT: true; the input reads as it did. -/
def spansNoneSpec : ChangeSpec := { name := "spansNone", fn := fun _ => fun
  | [d1, d2] => { results := [.lit (.bool true)], args := [d1, d2] }
  | _ => none }
def spansNoneRow : OpenClaim := { program := "ytafjhhfdccmhpaadoor", sum := "7b0a0ef6fddbaf9681d532b2ada51a5826528360efd663ed97c1d62bc13e74ec", func := "ogive/ogivelaw12.SpansNone", spec := "spansNone", named := ["ogive/spans.tens"], apart := false, laid := [("ogive/spans.tens", laid_ogive_spans_tens)] }
def SpansNoneSaid : Prop := spansNoneRow.holds Tryd.pinned (OpenSpec.ofChange spansNoneSpec)

/-- ITS FALSE NEIGHBOUR: 'it returns false'. Refute it at one input. -/
def spansNoneWrong : ChangeSpec := { name := "spansNone", fn := fun _ => fun
  | [d1, d2] => { results := [.lit (.bool false)], args := [d1, d2] }
  | _ => none }
def SpansNoneWrongFalsely : Prop := spansNoneRow.holds Tryd.pinned (OpenSpec.ofChange spansNoneWrong)

/- THE SECOND FORM. 'bulk': how many values and letters a reading holds, each counted each time it is reached (what is shared counts as often as it is met; a slice's spare places count too). A statement '..UptoSaid' is the law's where the arguments, and the package variables that the reading takes, are together of bulk at most 1048576: NARROWER than '..Said'. Prove '..Said' where nothing that the law and all that it calls make is longer than what came in: it says more and counts as full. Else prove '..UptoSaid'. A law counts once. -/
mutual
def uptoBulk {H : Type} : DataW H → Nat
  | .lit (.string bytes) => bytes.length + 1
  | .lit _ => 1
  | .nil => 1
  | .ptr d => uptoBulk d + 1
  | .slice elems spare => uptoBulkAll elems + uptoBulkAll spare + 1
  | .agg parts => uptoBulkAll parts + 1
  | .iface _ d => uptoBulk d + 1
  | .map entries => uptoBulkEntries entries + 1
  | .held _ => 1
def uptoBulkAll {H : Type} : List (DataW H) → Nat
  | [] => 0
  | d :: r => uptoBulk d + uptoBulkAll r
def uptoBulkEntries {H : Type} : List (Lit × DataW H) → Nat
  | [] => 0
  | x :: r => uptoBulkEntry x + uptoBulkEntries r
def uptoBulkEntry {H : Type} : Lit × DataW H → Nat
  | (.string bytes, d) => bytes.length + uptoBulk d + 1
  | (_, d) => uptoBulk d + 1
 end
def uptoSmall : (H : Type) → List (DataW H) → Bool := fun _ ds => decide (uptoBulkAll ds ≤ 1048576)
def OpenSpec.upto (s : _root_.Go.ChangeSpec) : _root_.Go.OpenSpec := { _root_.Go.OpenSpec.ofChange s with cond := some uptoSmall }

/-- 'ogivelaw12.SpansSide', WHERE WHAT IT READS IS OF BULK AT MOST 1048576: true; the input reads as it did. -/
def spansSideUptoRow : OpenClaim := { program := "ytafjhhfdccmhpaadoor", sum := "7b0a0ef6fddbaf9681d532b2ada51a5826528360efd663ed97c1d62bc13e74ec", func := "ogive/ogivelaw12.SpansSide", spec := "spansSide", named := ["ogive/spans.tens"], apart := false, laid := [("ogive/spans.tens", laid_ogive_spans_tens)], narrowed := true }
def SpansSideUptoSaid : Prop := spansSideUptoRow.holds Tryd.pinned (OpenSpec.upto spansSideSpec)

/-- 'ogivelaw12.SpansIndex', WHERE WHAT IT READS IS OF BULK AT MOST 1048576: true; the input reads as it did. -/
def spansIndexUptoRow : OpenClaim := { program := "ytafjhhfdccmhpaadoor", sum := "7b0a0ef6fddbaf9681d532b2ada51a5826528360efd663ed97c1d62bc13e74ec", func := "ogive/ogivelaw12.SpansIndex", spec := "spansIndex", named := ["ogive/spans.tens"], apart := false, laid := [("ogive/spans.tens", laid_ogive_spans_tens)], narrowed := true }
def SpansIndexUptoSaid : Prop := spansIndexUptoRow.holds Tryd.pinned (OpenSpec.upto spansIndexSpec)

/-- 'ogivelaw12.SpansFiner', WHERE WHAT IT READS IS OF BULK AT MOST 1048576: true; the input reads as it did. -/
def spansFinerUptoRow : OpenClaim := { program := "ytafjhhfdccmhpaadoor", sum := "7b0a0ef6fddbaf9681d532b2ada51a5826528360efd663ed97c1d62bc13e74ec", func := "ogive/ogivelaw12.SpansFiner", spec := "spansFiner", named := ["ogive/spans.tens"], apart := false, laid := [("ogive/spans.tens", laid_ogive_spans_tens)], narrowed := true }
def SpansFinerUptoSaid : Prop := spansFinerUptoRow.holds Tryd.pinned (OpenSpec.upto spansFinerSpec)

/-- 'ogivelaw12.SpansClose', WHERE WHAT IT READS IS OF BULK AT MOST 1048576: true; the input reads as it did. -/
def spansCloseUptoRow : OpenClaim := { program := "ytafjhhfdccmhpaadoor", sum := "7b0a0ef6fddbaf9681d532b2ada51a5826528360efd663ed97c1d62bc13e74ec", func := "ogive/ogivelaw12.SpansClose", spec := "spansClose", named := ["ogive/spans.tens"], apart := false, laid := [("ogive/spans.tens", laid_ogive_spans_tens)], narrowed := true }
def SpansCloseUptoSaid : Prop := spansCloseUptoRow.holds Tryd.pinned (OpenSpec.upto spansCloseSpec)

/-- 'ogivelaw12.SpansNone', WHERE WHAT IT READS IS OF BULK AT MOST 1048576: true; the input reads as it did. -/
def spansNoneUptoRow : OpenClaim := { program := "ytafjhhfdccmhpaadoor", sum := "7b0a0ef6fddbaf9681d532b2ada51a5826528360efd663ed97c1d62bc13e74ec", func := "ogive/ogivelaw12.SpansNone", spec := "spansNone", named := ["ogive/spans.tens"], apart := false, laid := [("ogive/spans.tens", laid_ogive_spans_tens)], narrowed := true }
def SpansNoneUptoSaid : Prop := spansNoneUptoRow.holds Tryd.pinned (OpenSpec.upto spansNoneSpec)

end Rows
end Go.Proofs.YtafjhhfdccmhpaaDoor
