/-
  No cell of these rows narrows 'for every input' (looked for: loops, veiled, ifaces, maps, wideKeys, modest, calm, conditions, laid).
  DERIVED. THE GIVEN ROWS OF THIS SEAT. 5 by the template 'for every input the law returns true; each argument reads behind the call as it read before'; 0 by the template 'total and deterministic' (their statements: YtedmnnihpldhnaaTotals.lean).
  GIVEN WITH THE SEED: the statements are not yours to turn. If you find one false, say at which input.
  Laid BY PROGRAM, IN A SANDBOX (cutbox-rows.mjs): the forced cells as the released guide's own fill.sh prints them over the translation 7bab05bd76ce71d2… (all of the seat's roots in one cut). By AI agents, Wed Nov 11 2026. No macro, syntax, notation, axiom, sorry.
-/
import Derived.Test.YtedmnnihpldhnaaChecked
import GoSem.Claim
import GoSem.ClaimJoined
import GoSem.ClaimMapViews
import Derived.JoinedTies
import Derived.KernelRfl
namespace Go.Proofs.Ytedmnnihpldhnaa
/- THE CELL 'sum', in the pinned program and in every row, IS THE sha256 OF THE DUMP (.gsa) THAT YtedmnnihpldhnaaProg.lean LOADS. Nothing in Lean hashes anything: it is a label: what it is worth is what the hold of that sum in a sandbox is worth. -/
noncomputable def Try.pinned : Pinned := { name := "ytedmnnihpldhnaa", sum := "7bab05bd76ce71d27a2e15ddde921b0fcc87a217e19df373476df70cee67cb83", checked := Try.checked }
namespace Rows
def none {H : Type} : Left H := { results := [], args := [] }

/-- 'ogivelaw02.SignGaps': WHATEVER THE INPUT: true; the input reads as it did. -/
def signGapsSpec : ChangeSpec := { name := "signGaps", fn := fun _ => fun
  | [d1, d2, d3] => { results := [.lit (.bool true)], args := [d1, d2, d3] }
  | _ => none }
def signGapsRow : OpenClaim := { program := "ytedmnnihpldhnaa", sum := "7bab05bd76ce71d27a2e15ddde921b0fcc87a217e19df373476df70cee67cb83", func := "ogive/ogivelaw02.SignGaps", spec := "signGaps", apart := false }
def SignGapsSaid : Prop := signGapsRow.holds Try.pinned (OpenSpec.ofChange signGapsSpec)

/-- ITS FALSE NEIGHBOUR: 'it returns false'. Refute it at one input. -/
def signGapsWrong : ChangeSpec := { name := "signGaps", fn := fun _ => fun
  | [d1, d2, d3] => { results := [.lit (.bool false)], args := [d1, d2, d3] }
  | _ => none }
def SignGapsWrongFalsely : Prop := signGapsRow.holds Try.pinned (OpenSpec.ofChange signGapsWrong)

/-- 'ogivelaw02.SignSides': WHATEVER THE INPUT: true; the input reads as it did. -/
def signSidesSpec : ChangeSpec := { name := "signSides", fn := fun _ => fun
  | [d1, d2] => { results := [.lit (.bool true)], args := [d1, d2] }
  | _ => none }
def signSidesRow : OpenClaim := { program := "ytedmnnihpldhnaa", sum := "7bab05bd76ce71d27a2e15ddde921b0fcc87a217e19df373476df70cee67cb83", func := "ogive/ogivelaw02.SignSides", spec := "signSides", apart := false }
def SignSidesSaid : Prop := signSidesRow.holds Try.pinned (OpenSpec.ofChange signSidesSpec)

/-- ITS FALSE NEIGHBOUR: 'it returns false'. Refute it at one input. -/
def signSidesWrong : ChangeSpec := { name := "signSides", fn := fun _ => fun
  | [d1, d2] => { results := [.lit (.bool false)], args := [d1, d2] }
  | _ => none }
def SignSidesWrongFalsely : Prop := signSidesRow.holds Try.pinned (OpenSpec.ofChange signSidesWrong)

/-- 'ogivelaw02.SignCodes': WHATEVER THE INPUT: true; the input reads as it did. -/
def signCodesSpec : ChangeSpec := { name := "signCodes", fn := fun _ => fun
  | [d1, d2, d3] => { results := [.lit (.bool true)], args := [d1, d2, d3] }
  | _ => none }
def signCodesRow : OpenClaim := { program := "ytedmnnihpldhnaa", sum := "7bab05bd76ce71d27a2e15ddde921b0fcc87a217e19df373476df70cee67cb83", func := "ogive/ogivelaw02.SignCodes", spec := "signCodes", apart := false }
def SignCodesSaid : Prop := signCodesRow.holds Try.pinned (OpenSpec.ofChange signCodesSpec)

/-- ITS FALSE NEIGHBOUR: 'it returns false'. Refute it at one input. -/
def signCodesWrong : ChangeSpec := { name := "signCodes", fn := fun _ => fun
  | [d1, d2, d3] => { results := [.lit (.bool false)], args := [d1, d2, d3] }
  | _ => none }
def SignCodesWrongFalsely : Prop := signCodesRow.holds Try.pinned (OpenSpec.ofChange signCodesWrong)

/-- 'ogivelaw02.SignParts': WHATEVER THE INPUT: true; the input reads as it did. -/
def signPartsSpec : ChangeSpec := { name := "signParts", fn := fun _ => fun
  | [d1, d2, d3] => { results := [.lit (.bool true)], args := [d1, d2, d3] }
  | _ => none }
def signPartsRow : OpenClaim := { program := "ytedmnnihpldhnaa", sum := "7bab05bd76ce71d27a2e15ddde921b0fcc87a217e19df373476df70cee67cb83", func := "ogive/ogivelaw02.SignParts", spec := "signParts", apart := false }
def SignPartsSaid : Prop := signPartsRow.holds Try.pinned (OpenSpec.ofChange signPartsSpec)

/-- ITS FALSE NEIGHBOUR: 'it returns false'. Refute it at one input. -/
def signPartsWrong : ChangeSpec := { name := "signParts", fn := fun _ => fun
  | [d1, d2, d3] => { results := [.lit (.bool false)], args := [d1, d2, d3] }
  | _ => none }
def SignPartsWrongFalsely : Prop := signPartsRow.holds Try.pinned (OpenSpec.ofChange signPartsWrong)

/-- 'ogivelaw02.SignWithin': WHATEVER THE INPUT: true; the input reads as it did. -/
def signWithinSpec : ChangeSpec := { name := "signWithin", fn := fun _ => fun
  | [d1, d2, d3] => { results := [.lit (.bool true)], args := [d1, d2, d3] }
  | _ => none }
def signWithinRow : OpenClaim := { program := "ytedmnnihpldhnaa", sum := "7bab05bd76ce71d27a2e15ddde921b0fcc87a217e19df373476df70cee67cb83", func := "ogive/ogivelaw02.SignWithin", spec := "signWithin", apart := false }
def SignWithinSaid : Prop := signWithinRow.holds Try.pinned (OpenSpec.ofChange signWithinSpec)

/-- ITS FALSE NEIGHBOUR: 'it returns false'. Refute it at one input. -/
def signWithinWrong : ChangeSpec := { name := "signWithin", fn := fun _ => fun
  | [d1, d2, d3] => { results := [.lit (.bool false)], args := [d1, d2, d3] }
  | _ => none }
def SignWithinWrongFalsely : Prop := signWithinRow.holds Try.pinned (OpenSpec.ofChange signWithinWrong)

/- THE SECOND FORM. 'bulk': how many values and letters a reading holds, each counted each time it is reached (what is shared counts as often as it is met; a slice's spare places count too). A statement '..UptoSaid' is the law's where the arguments, and the package variables that the reading takes, are together of bulk at most 1048576: NARROWER than '..Said'. Prove '..Said' where nothing that the law and all that it calls make is longer than what came in: it says more and counts as full. Else prove '..UptoSaid'. A law counts once. -/
mutual
def uptoBulk {H : Type} : DataW H → Nat
  | .lit (.string bytes) => bytes.length + 1
  | .lit _ => 1
  | .nil => 1
  | .ptr d => uptoBulk d + 1
  | .slice elems spare => uptoBulkAll elems + uptoBulkAll spare + 1
  | .agg parts => uptoBulkAll parts + 1
  | .iface _ d => uptoBulk d + 1
  | .map entries => uptoBulkEntries entries + 1
  | .held _ => 1
def uptoBulkAll {H : Type} : List (DataW H) → Nat
  | [] => 0
  | d :: r => uptoBulk d + uptoBulkAll r
def uptoBulkEntries {H : Type} : List (Lit × DataW H) → Nat
  | [] => 0
  | x :: r => uptoBulkEntry x + uptoBulkEntries r
def uptoBulkEntry {H : Type} : Lit × DataW H → Nat
  | (.string bytes, d) => bytes.length + uptoBulk d + 1
  | (_, d) => uptoBulk d + 1
 end
def uptoSmall : (H : Type) → List (DataW H) → Bool := fun _ ds => decide (uptoBulkAll ds ≤ 1048576)
def OpenSpec.upto (s : _root_.Go.ChangeSpec) : _root_.Go.OpenSpec := { _root_.Go.OpenSpec.ofChange s with cond := some uptoSmall }

/-- 'ogivelaw02.SignGaps', WHERE WHAT IT READS IS OF BULK AT MOST 1048576: true; the input reads as it did. -/
def signGapsUptoRow : OpenClaim := { program := "ytedmnnihpldhnaa", sum := "7bab05bd76ce71d27a2e15ddde921b0fcc87a217e19df373476df70cee67cb83", func := "ogive/ogivelaw02.SignGaps", spec := "signGaps", apart := false, narrowed := true }
def SignGapsUptoSaid : Prop := signGapsUptoRow.holds Try.pinned (OpenSpec.upto signGapsSpec)

/-- 'ogivelaw02.SignSides', WHERE WHAT IT READS IS OF BULK AT MOST 1048576: true; the input reads as it did. -/
def signSidesUptoRow : OpenClaim := { program := "ytedmnnihpldhnaa", sum := "7bab05bd76ce71d27a2e15ddde921b0fcc87a217e19df373476df70cee67cb83", func := "ogive/ogivelaw02.SignSides", spec := "signSides", apart := false, narrowed := true }
def SignSidesUptoSaid : Prop := signSidesUptoRow.holds Try.pinned (OpenSpec.upto signSidesSpec)

/-- 'ogivelaw02.SignCodes', WHERE WHAT IT READS IS OF BULK AT MOST 1048576: true; the input reads as it did. -/
def signCodesUptoRow : OpenClaim := { program := "ytedmnnihpldhnaa", sum := "7bab05bd76ce71d27a2e15ddde921b0fcc87a217e19df373476df70cee67cb83", func := "ogive/ogivelaw02.SignCodes", spec := "signCodes", apart := false, narrowed := true }
def SignCodesUptoSaid : Prop := signCodesUptoRow.holds Try.pinned (OpenSpec.upto signCodesSpec)

/-- 'ogivelaw02.SignParts', WHERE WHAT IT READS IS OF BULK AT MOST 1048576: true; the input reads as it did. -/
def signPartsUptoRow : OpenClaim := { program := "ytedmnnihpldhnaa", sum := "7bab05bd76ce71d27a2e15ddde921b0fcc87a217e19df373476df70cee67cb83", func := "ogive/ogivelaw02.SignParts", spec := "signParts", apart := false, narrowed := true }
def SignPartsUptoSaid : Prop := signPartsUptoRow.holds Try.pinned (OpenSpec.upto signPartsSpec)

/-- 'ogivelaw02.SignWithin', WHERE WHAT IT READS IS OF BULK AT MOST 1048576: true; the input reads as it did. -/
def signWithinUptoRow : OpenClaim := { program := "ytedmnnihpldhnaa", sum := "7bab05bd76ce71d27a2e15ddde921b0fcc87a217e19df373476df70cee67cb83", func := "ogive/ogivelaw02.SignWithin", spec := "signWithin", apart := false, narrowed := true }
def SignWithinUptoSaid : Prop := signWithinUptoRow.holds Try.pinned (OpenSpec.upto signWithinSpec)

end Rows
end Go.Proofs.Ytedmnnihpldhnaa
