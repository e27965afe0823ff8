/-
  DERIVED. GIVEN WITH THE SEED: THE CARDS: each row of YtbejdajkkoapgaaGreatDoorRows.lean that lists a variable, with what it lists TIED to the program's text (the seventh form; the later family's looks); each row that meets fmt, with fmt's text TOLD by the authors' own Lean function (tested against real Go, not proved from fmt's source: count such statements apart). THE CARD IS WHAT COUNTS. Prove the row's statement (the work); the ties are given (YtbejdajkkoapgaaGreatDoorTie.lean); close each card by the builder's one call (the guide's Derived/Test/ToyasCard.lean, 'card_holds'). Laid BY PROGRAM, IN A SANDBOX (cutbox-door.mjs). By AI agents, Wed Nov 11 2026. No macro, syntax, notation, axiom, sorry.
-/
import Derived.Test.YtbejdajkkoapgaaGreatDoorRows
import GoSem.ClaimSeven
namespace Go.Proofs.YtbejdajkkoapgaaGreatDoor
namespace Rows

/-- THE TIED CARD OF 'ogivetop.CoreNodes'. -/
def coreNodesCard : Claim7 := { stood := { row := coreNodesRow, standIns := [], harness := (true, "5f245844bad0a564952dd5b4e3061612d195660b6389518d73d788c9862abddb"), looks := true }, kinds := [], alts := [], laidByText := true, laidKinds := [.data], laidTests := true, laidLooks := .later }
def CoreNodesCardSaid : Prop := Claim7.holds Tryz.pinned (.plain (OpenSpec.ofChange coreNodesSpec)) coreNodesCard

/-- THE TIED CARD OF 'ogivetop.CoreSame'. -/
def coreSameCard : Claim7 := { stood := { row := coreSameRow, standIns := [], harness := (true, "5f245844bad0a564952dd5b4e3061612d195660b6389518d73d788c9862abddb"), looks := true }, kinds := [], alts := [], laidByText := true, laidKinds := [.data], laidTests := true, laidLooks := .later }
def CoreSameCardSaid : Prop := Claim7.holds Tryz.pinned (.plain (OpenSpec.ofChange coreSameSpec)) coreSameCard

/-- THE TIED CARD OF 'ogivetop.CoreBurst'. -/
def coreBurstCard : Claim7 := { stood := { row := coreBurstRow, standIns := [], harness := (true, "5f245844bad0a564952dd5b4e3061612d195660b6389518d73d788c9862abddb"), looks := true }, kinds := [], alts := [], laidByText := true, laidKinds := [.data], laidTests := true, laidLooks := .later }
def CoreBurstCardSaid : Prop := Claim7.holds Tryz.pinned (.plain (OpenSpec.ofChange coreBurstSpec)) coreBurstCard

/-- THE SECOND FORM's CARD OF 'ogivetop.CoreNodes'. -/
def coreNodesUptoCard : Claim7 := { stood := { row := coreNodesUptoRow, standIns := [], harness := (true, "5f245844bad0a564952dd5b4e3061612d195660b6389518d73d788c9862abddb"), looks := true }, kinds := [], alts := [], laidByText := true, laidKinds := [.data], laidTests := true, laidLooks := .later }
def CoreNodesUptoCardSaid : Prop := Claim7.holds Tryz.pinned (.plain (OpenSpec.upto coreNodesSpec)) coreNodesUptoCard

/-- THE SECOND FORM's CARD OF 'ogivetop.CoreSame'. -/
def coreSameUptoCard : Claim7 := { stood := { row := coreSameUptoRow, standIns := [], harness := (true, "5f245844bad0a564952dd5b4e3061612d195660b6389518d73d788c9862abddb"), looks := true }, kinds := [], alts := [], laidByText := true, laidKinds := [.data], laidTests := true, laidLooks := .later }
def CoreSameUptoCardSaid : Prop := Claim7.holds Tryz.pinned (.plain (OpenSpec.upto coreSameSpec)) coreSameUptoCard

/-- THE SECOND FORM's CARD OF 'ogivetop.CoreBurst'. -/
def coreBurstUptoCard : Claim7 := { stood := { row := coreBurstUptoRow, standIns := [], harness := (true, "5f245844bad0a564952dd5b4e3061612d195660b6389518d73d788c9862abddb"), looks := true }, kinds := [], alts := [], laidByText := true, laidKinds := [.data], laidTests := true, laidLooks := .later }
def CoreBurstUptoCardSaid : Prop := Claim7.holds Tryz.pinned (.plain (OpenSpec.upto coreBurstSpec)) coreBurstUptoCard
end Rows
end Go.Proofs.YtbejdajkkoapgaaGreatDoor
