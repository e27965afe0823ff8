/-
  DERIVED. GIVEN WITH THE SEED: THE CARDS: each row of YtafjhhfdccmhpaaDoorRows.lean that lists a variable, with what it lists TIED to the program's text (the seventh form; the later family's looks); each row that meets fmt, with fmt's text TOLD by the authors' own Lean function (tested against real Go, not proved from fmt's source: count such statements apart). THE CARD IS WHAT COUNTS. Prove the row's statement (the work); the ties are given (YtafjhhfdccmhpaaDoorTie.lean); close each card by the builder's one call (the guide's Derived/Test/ToyasCard.lean, 'card_holds'). Laid BY PROGRAM, IN A SANDBOX (cutbox-door.mjs). By AI agents, Wed Nov 11 2026. No macro, syntax, notation, axiom, sorry.
-/
import Derived.Test.YtafjhhfdccmhpaaDoorRows
import GoSem.ClaimSeven
namespace Go.Proofs.YtafjhhfdccmhpaaDoor
namespace Rows

/-- THE TIED CARD OF 'ogivelaw12.SpansSide'. -/
def spansSideCard : Claim7 := { stood := { row := spansSideRow, standIns := [], harness := (true, "97a608722e37673ec2f741502453e73b28a7aa1a0352fb6878cad193d1614578"), looks := false }, kinds := [], alts := [], laidByText := true, laidKinds := [.data], laidTests := true, laidLooks := .later }
def SpansSideCardSaid : Prop := Claim7.holds Tryd.pinned (.plain (OpenSpec.ofChange spansSideSpec)) spansSideCard

/-- THE TIED CARD OF 'ogivelaw12.SpansIndex'. -/
def spansIndexCard : Claim7 := { stood := { row := spansIndexRow, standIns := [], harness := (true, "97a608722e37673ec2f741502453e73b28a7aa1a0352fb6878cad193d1614578"), looks := false }, kinds := [], alts := [], laidByText := true, laidKinds := [.data], laidTests := true, laidLooks := .later }
def SpansIndexCardSaid : Prop := Claim7.holds Tryd.pinned (.plain (OpenSpec.ofChange spansIndexSpec)) spansIndexCard

/-- THE TIED CARD OF 'ogivelaw12.SpansFiner'. -/
def spansFinerCard : Claim7 := { stood := { row := spansFinerRow, standIns := [], harness := (true, "97a608722e37673ec2f741502453e73b28a7aa1a0352fb6878cad193d1614578"), looks := false }, kinds := [], alts := [], laidByText := true, laidKinds := [.data], laidTests := true, laidLooks := .later }
def SpansFinerCardSaid : Prop := Claim7.holds Tryd.pinned (.plain (OpenSpec.ofChange spansFinerSpec)) spansFinerCard

/-- THE TIED CARD OF 'ogivelaw12.SpansClose'. -/
def spansCloseCard : Claim7 := { stood := { row := spansCloseRow, standIns := [], harness := (true, "97a608722e37673ec2f741502453e73b28a7aa1a0352fb6878cad193d1614578"), looks := false }, kinds := [], alts := [], laidByText := true, laidKinds := [.data], laidTests := true, laidLooks := .later }
def SpansCloseCardSaid : Prop := Claim7.holds Tryd.pinned (.plain (OpenSpec.ofChange spansCloseSpec)) spansCloseCard

/-- THE TIED CARD OF 'ogivelaw12.SpansNone'. -/
def spansNoneCard : Claim7 := { stood := { row := spansNoneRow, standIns := [], harness := (true, "97a608722e37673ec2f741502453e73b28a7aa1a0352fb6878cad193d1614578"), looks := false }, kinds := [], alts := [], laidByText := true, laidKinds := [.data], laidTests := true, laidLooks := .later }
def SpansNoneCardSaid : Prop := Claim7.holds Tryd.pinned (.plain (OpenSpec.ofChange spansNoneSpec)) spansNoneCard

/-- THE SECOND FORM's CARD OF 'ogivelaw12.SpansSide'. -/
def spansSideUptoCard : Claim7 := { stood := { row := spansSideUptoRow, standIns := [], harness := (true, "97a608722e37673ec2f741502453e73b28a7aa1a0352fb6878cad193d1614578"), looks := false }, kinds := [], alts := [], laidByText := true, laidKinds := [.data], laidTests := true, laidLooks := .later }
def SpansSideUptoCardSaid : Prop := Claim7.holds Tryd.pinned (.plain (OpenSpec.upto spansSideSpec)) spansSideUptoCard

/-- THE SECOND FORM's CARD OF 'ogivelaw12.SpansIndex'. -/
def spansIndexUptoCard : Claim7 := { stood := { row := spansIndexUptoRow, standIns := [], harness := (true, "97a608722e37673ec2f741502453e73b28a7aa1a0352fb6878cad193d1614578"), looks := false }, kinds := [], alts := [], laidByText := true, laidKinds := [.data], laidTests := true, laidLooks := .later }
def SpansIndexUptoCardSaid : Prop := Claim7.holds Tryd.pinned (.plain (OpenSpec.upto spansIndexSpec)) spansIndexUptoCard

/-- THE SECOND FORM's CARD OF 'ogivelaw12.SpansFiner'. -/
def spansFinerUptoCard : Claim7 := { stood := { row := spansFinerUptoRow, standIns := [], harness := (true, "97a608722e37673ec2f741502453e73b28a7aa1a0352fb6878cad193d1614578"), looks := false }, kinds := [], alts := [], laidByText := true, laidKinds := [.data], laidTests := true, laidLooks := .later }
def SpansFinerUptoCardSaid : Prop := Claim7.holds Tryd.pinned (.plain (OpenSpec.upto spansFinerSpec)) spansFinerUptoCard

/-- THE SECOND FORM's CARD OF 'ogivelaw12.SpansClose'. -/
def spansCloseUptoCard : Claim7 := { stood := { row := spansCloseUptoRow, standIns := [], harness := (true, "97a608722e37673ec2f741502453e73b28a7aa1a0352fb6878cad193d1614578"), looks := false }, kinds := [], alts := [], laidByText := true, laidKinds := [.data], laidTests := true, laidLooks := .later }
def SpansCloseUptoCardSaid : Prop := Claim7.holds Tryd.pinned (.plain (OpenSpec.upto spansCloseSpec)) spansCloseUptoCard

/-- THE SECOND FORM's CARD OF 'ogivelaw12.SpansNone'. -/
def spansNoneUptoCard : Claim7 := { stood := { row := spansNoneUptoRow, standIns := [], harness := (true, "97a608722e37673ec2f741502453e73b28a7aa1a0352fb6878cad193d1614578"), looks := false }, kinds := [], alts := [], laidByText := true, laidKinds := [.data], laidTests := true, laidLooks := .later }
def SpansNoneUptoCardSaid : Prop := Claim7.holds Tryd.pinned (.plain (OpenSpec.upto spansNoneSpec)) spansNoneUptoCard
end Rows
end Go.Proofs.YtafjhhfdccmhpaaDoor
