/-
  No cell of these rows narrows 'for every input' (looked for: loops, veiled, ifaces, maps, wideKeys, modest, calm, conditions, laid).
  DERIVED. THE GIVEN ROWS OF THIS SEAT. 5 by the template 'for every input the law returns true; each argument reads behind the call as it read before'; 0 by the template 'total and deterministic' (their statements: YtdmihnfhfpadkaaTotals.lean).
  GIVEN WITH THE SEED: the statements are not yours to turn. If you find one false, say at which input.
  Laid BY PROGRAM, IN A SANDBOX (cutbox-rows.mjs): the forced cells as the released guide's own fill.sh prints them over the translation bd40ea6cb9f13f9d… (all of the seat's roots in one cut). By AI agents, Wed Nov 11 2026. No macro, syntax, notation, axiom, sorry.
-/
import Derived.Test.YtdmihnfhfpadkaaChecked
import GoSem.Claim
import GoSem.ClaimJoined
import GoSem.ClaimMapViews
import Derived.JoinedTies
import Derived.KernelRfl
namespace Go.Proofs.Ytdmihnfhfpadkaa
/- THE CELL 'sum', in the pinned program and in every row, IS THE sha256 OF THE DUMP (.gsa) THAT YtdmihnfhfpadkaaProg.lean LOADS. Nothing in Lean hashes anything: it is a label: what it is worth is what the hold of that sum in a sandbox is worth. -/
noncomputable def Try.pinned : Pinned := { name := "ytdmihnfhfpadkaa", sum := "bd40ea6cb9f13f9dd6d3bf3a71ed76f37e8d7c12add35428c3935276fee94e7a", checked := Try.checked }
namespace Rows
def none {H : Type} : Left H := { results := [], args := [] }

/-- 'ogivelaw16.TreeLeaves': WHATEVER THE INPUT: true; the input reads as it did. -/
def treeLeavesSpec : ChangeSpec := { name := "treeLeaves", fn := fun _ => fun
  | [d1, d2] => { results := [.lit (.bool true)], args := [d1, d2] }
  | _ => none }
def treeLeavesRow : OpenClaim := { program := "ytdmihnfhfpadkaa", sum := "bd40ea6cb9f13f9dd6d3bf3a71ed76f37e8d7c12add35428c3935276fee94e7a", func := "ogive/ogivelaw16.TreeLeaves", spec := "treeLeaves", apart := false }
def TreeLeavesSaid : Prop := treeLeavesRow.holds Try.pinned (OpenSpec.ofChange treeLeavesSpec)

/-- ITS FALSE NEIGHBOUR: 'it returns false'. Refute it at one input. -/
def treeLeavesWrong : ChangeSpec := { name := "treeLeaves", fn := fun _ => fun
  | [d1, d2] => { results := [.lit (.bool false)], args := [d1, d2] }
  | _ => none }
def TreeLeavesWrongFalsely : Prop := treeLeavesRow.holds Try.pinned (OpenSpec.ofChange treeLeavesWrong)

/-- 'ogivelaw16.TreeNodes': WHATEVER THE INPUT: true; the input reads as it did. -/
def treeNodesSpec : ChangeSpec := { name := "treeNodes", fn := fun _ => fun
  | [d1, d2] => { results := [.lit (.bool true)], args := [d1, d2] }
  | _ => none }
def treeNodesRow : OpenClaim := { program := "ytdmihnfhfpadkaa", sum := "bd40ea6cb9f13f9dd6d3bf3a71ed76f37e8d7c12add35428c3935276fee94e7a", func := "ogive/ogivelaw16.TreeNodes", spec := "treeNodes", apart := false }
def TreeNodesSaid : Prop := treeNodesRow.holds Try.pinned (OpenSpec.ofChange treeNodesSpec)

/-- ITS FALSE NEIGHBOUR: 'it returns false'. Refute it at one input. -/
def treeNodesWrong : ChangeSpec := { name := "treeNodes", fn := fun _ => fun
  | [d1, d2] => { results := [.lit (.bool false)], args := [d1, d2] }
  | _ => none }
def TreeNodesWrongFalsely : Prop := treeNodesRow.holds Try.pinned (OpenSpec.ofChange treeNodesWrong)

/-- 'ogivelaw16.TreeAbove': WHATEVER THE INPUT: true; the input reads as it did. -/
def treeAboveSpec : ChangeSpec := { name := "treeAbove", fn := fun _ => fun
  | [d1, d2, d3, d4] => { results := [.lit (.bool true)], args := [d1, d2, d3, d4] }
  | _ => none }
def treeAboveRow : OpenClaim := { program := "ytdmihnfhfpadkaa", sum := "bd40ea6cb9f13f9dd6d3bf3a71ed76f37e8d7c12add35428c3935276fee94e7a", func := "ogive/ogivelaw16.TreeAbove", spec := "treeAbove", apart := false }
def TreeAboveSaid : Prop := treeAboveRow.holds Try.pinned (OpenSpec.ofChange treeAboveSpec)

/-- ITS FALSE NEIGHBOUR: 'it returns false'. Refute it at one input. -/
def treeAboveWrong : ChangeSpec := { name := "treeAbove", fn := fun _ => fun
  | [d1, d2, d3, d4] => { results := [.lit (.bool false)], args := [d1, d2, d3, d4] }
  | _ => none }
def TreeAboveWrongFalsely : Prop := treeAboveRow.holds Try.pinned (OpenSpec.ofChange treeAboveWrong)

/-- 'ogivelaw16.TreePath': WHATEVER THE INPUT: true; the input reads as it did. -/
def treePathSpec : ChangeSpec := { name := "treePath", fn := fun _ => fun
  | [d1, d2] => { results := [.lit (.bool true)], args := [d1, d2] }
  | _ => none }
def treePathRow : OpenClaim := { program := "ytdmihnfhfpadkaa", sum := "bd40ea6cb9f13f9dd6d3bf3a71ed76f37e8d7c12add35428c3935276fee94e7a", func := "ogive/ogivelaw16.TreePath", spec := "treePath", apart := false }
def TreePathSaid : Prop := treePathRow.holds Try.pinned (OpenSpec.ofChange treePathSpec)

/-- ITS FALSE NEIGHBOUR: 'it returns false'. Refute it at one input. -/
def treePathWrong : ChangeSpec := { name := "treePath", fn := fun _ => fun
  | [d1, d2] => { results := [.lit (.bool false)], args := [d1, d2] }
  | _ => none }
def TreePathWrongFalsely : Prop := treePathRow.holds Try.pinned (OpenSpec.ofChange treePathWrong)

/-- 'ogivelaw16.TreeHalves': WHATEVER THE INPUT: true; the input reads as it did. -/
def treeHalvesSpec : ChangeSpec := { name := "treeHalves", fn := fun _ => fun
  | [d1, d2] => { results := [.lit (.bool true)], args := [d1, d2] }
  | _ => none }
def treeHalvesRow : OpenClaim := { program := "ytdmihnfhfpadkaa", sum := "bd40ea6cb9f13f9dd6d3bf3a71ed76f37e8d7c12add35428c3935276fee94e7a", func := "ogive/ogivelaw16.TreeHalves", spec := "treeHalves", apart := false }
def TreeHalvesSaid : Prop := treeHalvesRow.holds Try.pinned (OpenSpec.ofChange treeHalvesSpec)

/-- ITS FALSE NEIGHBOUR: 'it returns false'. Refute it at one input. -/
def treeHalvesWrong : ChangeSpec := { name := "treeHalves", fn := fun _ => fun
  | [d1, d2] => { results := [.lit (.bool false)], args := [d1, d2] }
  | _ => none }
def TreeHalvesWrongFalsely : Prop := treeHalvesRow.holds Try.pinned (OpenSpec.ofChange treeHalvesWrong)

/- THE SECOND FORM. 'bulk': how many values and letters a reading holds, each counted each time it is reached (what is shared counts as often as it is met; a slice's spare places count too). A statement '..UptoSaid' is the law's where the arguments, and the package variables that the reading takes, are together of bulk at most 1048576: NARROWER than '..Said'. Prove '..Said' where nothing that the law and all that it calls make is longer than what came in: it says more and counts as full. Else prove '..UptoSaid'. A law counts once. -/
mutual
def uptoBulk {H : Type} : DataW H → Nat
  | .lit (.string bytes) => bytes.length + 1
  | .lit _ => 1
  | .nil => 1
  | .ptr d => uptoBulk d + 1
  | .slice elems spare => uptoBulkAll elems + uptoBulkAll spare + 1
  | .agg parts => uptoBulkAll parts + 1
  | .iface _ d => uptoBulk d + 1
  | .map entries => uptoBulkEntries entries + 1
  | .held _ => 1
def uptoBulkAll {H : Type} : List (DataW H) → Nat
  | [] => 0
  | d :: r => uptoBulk d + uptoBulkAll r
def uptoBulkEntries {H : Type} : List (Lit × DataW H) → Nat
  | [] => 0
  | x :: r => uptoBulkEntry x + uptoBulkEntries r
def uptoBulkEntry {H : Type} : Lit × DataW H → Nat
  | (.string bytes, d) => bytes.length + uptoBulk d + 1
  | (_, d) => uptoBulk d + 1
 end
def uptoSmall : (H : Type) → List (DataW H) → Bool := fun _ ds => decide (uptoBulkAll ds ≤ 1048576)
def OpenSpec.upto (s : _root_.Go.ChangeSpec) : _root_.Go.OpenSpec := { _root_.Go.OpenSpec.ofChange s with cond := some uptoSmall }

/-- 'ogivelaw16.TreeLeaves', WHERE WHAT IT READS IS OF BULK AT MOST 1048576: true; the input reads as it did. -/
def treeLeavesUptoRow : OpenClaim := { program := "ytdmihnfhfpadkaa", sum := "bd40ea6cb9f13f9dd6d3bf3a71ed76f37e8d7c12add35428c3935276fee94e7a", func := "ogive/ogivelaw16.TreeLeaves", spec := "treeLeaves", apart := false, narrowed := true }
def TreeLeavesUptoSaid : Prop := treeLeavesUptoRow.holds Try.pinned (OpenSpec.upto treeLeavesSpec)

/-- 'ogivelaw16.TreeNodes', WHERE WHAT IT READS IS OF BULK AT MOST 1048576: true; the input reads as it did. -/
def treeNodesUptoRow : OpenClaim := { program := "ytdmihnfhfpadkaa", sum := "bd40ea6cb9f13f9dd6d3bf3a71ed76f37e8d7c12add35428c3935276fee94e7a", func := "ogive/ogivelaw16.TreeNodes", spec := "treeNodes", apart := false, narrowed := true }
def TreeNodesUptoSaid : Prop := treeNodesUptoRow.holds Try.pinned (OpenSpec.upto treeNodesSpec)

/-- 'ogivelaw16.TreeAbove', WHERE WHAT IT READS IS OF BULK AT MOST 1048576: true; the input reads as it did. -/
def treeAboveUptoRow : OpenClaim := { program := "ytdmihnfhfpadkaa", sum := "bd40ea6cb9f13f9dd6d3bf3a71ed76f37e8d7c12add35428c3935276fee94e7a", func := "ogive/ogivelaw16.TreeAbove", spec := "treeAbove", apart := false, narrowed := true }
def TreeAboveUptoSaid : Prop := treeAboveUptoRow.holds Try.pinned (OpenSpec.upto treeAboveSpec)

/-- 'ogivelaw16.TreePath', WHERE WHAT IT READS IS OF BULK AT MOST 1048576: true; the input reads as it did. -/
def treePathUptoRow : OpenClaim := { program := "ytdmihnfhfpadkaa", sum := "bd40ea6cb9f13f9dd6d3bf3a71ed76f37e8d7c12add35428c3935276fee94e7a", func := "ogive/ogivelaw16.TreePath", spec := "treePath", apart := false, narrowed := true }
def TreePathUptoSaid : Prop := treePathUptoRow.holds Try.pinned (OpenSpec.upto treePathSpec)

/-- 'ogivelaw16.TreeHalves', WHERE WHAT IT READS IS OF BULK AT MOST 1048576: true; the input reads as it did. -/
def treeHalvesUptoRow : OpenClaim := { program := "ytdmihnfhfpadkaa", sum := "bd40ea6cb9f13f9dd6d3bf3a71ed76f37e8d7c12add35428c3935276fee94e7a", func := "ogive/ogivelaw16.TreeHalves", spec := "treeHalves", apart := false, narrowed := true }
def TreeHalvesUptoSaid : Prop := treeHalvesUptoRow.holds Try.pinned (OpenSpec.upto treeHalvesSpec)

end Rows
end Go.Proofs.Ytdmihnfhfpadkaa
