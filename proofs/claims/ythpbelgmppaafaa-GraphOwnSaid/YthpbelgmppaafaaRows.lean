/-
  No cell of these rows narrows 'for every input' (looked for: loops, veiled, ifaces, maps, wideKeys, modest, calm, conditions, laid).
  DERIVED. THE GIVEN ROWS OF THIS SEAT. 12 by the template 'for every input the law returns true; each argument reads behind the call as it read before'; 0 by the template 'total and deterministic' (their statements: YthpbelgmppaafaaTotals.lean).
  GIVEN WITH THE SEED: the statements are not yours to turn. If you find one false, say at which input.
  Laid BY PROGRAM, IN A SANDBOX (cutbox-rows.mjs): the forced cells as the released guide's own fill.sh prints them over the translation 4654a889ff8d570d… (all of the seat's roots in one cut). By AI agents, Wed Nov 11 2026. No macro, syntax, notation, axiom, sorry.
-/
import Derived.Test.YthpbelgmppaafaaChecked
import GoSem.Claim
import GoSem.ClaimJoined
import GoSem.ClaimMapViews
import Derived.JoinedTies
import Derived.KernelRfl
namespace Go.Proofs.Ythpbelgmppaafaa
/- THE CELL 'sum', in the pinned program and in every row, IS THE sha256 OF THE DUMP (.gsa) THAT YthpbelgmppaafaaProg.lean LOADS. Nothing in Lean hashes anything: it is a label: what it is worth is what the hold of that sum in a sandbox is worth. -/
noncomputable def Try.pinned : Pinned := { name := "ythpbelgmppaafaa", sum := "4654a889ff8d570d2dacf28269c85267190fafddfe071588f9487056c63f2110", checked := Try.checked }
namespace Rows
def none {H : Type} : Left H := { results := [], args := [] }

/-- 'postroadlaw06.GraphTurned': WHATEVER THE INPUT: true; the input reads as it did. -/
def graphTurnedSpec : ChangeSpec := { name := "graphTurned", fn := fun _ => fun
  | [d1, d2] => { results := [.lit (.bool true)], args := [d1, d2] }
  | _ => none }
def graphTurnedRow : OpenClaim := { program := "ythpbelgmppaafaa", sum := "4654a889ff8d570d2dacf28269c85267190fafddfe071588f9487056c63f2110", func := "postroad/postroadlaw06.GraphTurned", spec := "graphTurned", unfollowed := true, recurses := true, apart := false }
def GraphTurnedSaid : Prop := graphTurnedRow.holds Try.pinned (OpenSpec.ofChange graphTurnedSpec)

/-- ITS FALSE NEIGHBOUR: 'it returns false'. Refute it at one input. -/
def graphTurnedWrong : ChangeSpec := { name := "graphTurned", fn := fun _ => fun
  | [d1, d2] => { results := [.lit (.bool false)], args := [d1, d2] }
  | _ => none }
def GraphTurnedWrongFalsely : Prop := graphTurnedRow.holds Try.pinned (OpenSpec.ofChange graphTurnedWrong)

/-- 'postroadlaw06.GraphLoops': WHATEVER THE INPUT: true; the input reads as it did. -/
def graphLoopsSpec : ChangeSpec := { name := "graphLoops", fn := fun _ => fun
  | [d1, d2, d3] => { results := [.lit (.bool true)], args := [d1, d2, d3] }
  | _ => none }
def graphLoopsRow : OpenClaim := { program := "ythpbelgmppaafaa", sum := "4654a889ff8d570d2dacf28269c85267190fafddfe071588f9487056c63f2110", func := "postroad/postroadlaw06.GraphLoops", spec := "graphLoops", unfollowed := true, recurses := true, apart := false }
def GraphLoopsSaid : Prop := graphLoopsRow.holds Try.pinned (OpenSpec.ofChange graphLoopsSpec)

/-- ITS FALSE NEIGHBOUR: 'it returns false'. Refute it at one input. -/
def graphLoopsWrong : ChangeSpec := { name := "graphLoops", fn := fun _ => fun
  | [d1, d2, d3] => { results := [.lit (.bool false)], args := [d1, d2, d3] }
  | _ => none }
def GraphLoopsWrongFalsely : Prop := graphLoopsRow.holds Try.pinned (OpenSpec.ofChange graphLoopsWrong)

/-- 'postroadlaw06.GraphLeast': WHATEVER THE INPUT: true; the input reads as it did. -/
def graphLeastSpec : ChangeSpec := { name := "graphLeast", fn := fun _ => fun
  | [d1, d2, d3] => { results := [.lit (.bool true)], args := [d1, d2, d3] }
  | _ => none }
def graphLeastRow : OpenClaim := { program := "ythpbelgmppaafaa", sum := "4654a889ff8d570d2dacf28269c85267190fafddfe071588f9487056c63f2110", func := "postroad/postroadlaw06.GraphLeast", spec := "graphLeast", unfollowed := true, recurses := true, apart := false }
def GraphLeastSaid : Prop := graphLeastRow.holds Try.pinned (OpenSpec.ofChange graphLeastSpec)

/-- ITS FALSE NEIGHBOUR: 'it returns false'. Refute it at one input. -/
def graphLeastWrong : ChangeSpec := { name := "graphLeast", fn := fun _ => fun
  | [d1, d2, d3] => { results := [.lit (.bool false)], args := [d1, d2, d3] }
  | _ => none }
def GraphLeastWrongFalsely : Prop := graphLeastRow.holds Try.pinned (OpenSpec.ofChange graphLeastWrong)

/-- 'postroadlaw06.GraphSides': WHATEVER THE INPUT: true; the input reads as it did. -/
def graphSidesSpec : ChangeSpec := { name := "graphSides", fn := fun _ => fun
  | [d] => { results := [.lit (.bool true)], args := [d] }
  | _ => none }
def graphSidesRow : OpenClaim := { program := "ythpbelgmppaafaa", sum := "4654a889ff8d570d2dacf28269c85267190fafddfe071588f9487056c63f2110", func := "postroad/postroadlaw06.GraphSides", spec := "graphSides", unfollowed := true, recurses := true, apart := false }
def GraphSidesSaid : Prop := graphSidesRow.holds Try.pinned (OpenSpec.ofChange graphSidesSpec)

/-- ITS FALSE NEIGHBOUR: 'it returns false'. Refute it at one input. -/
def graphSidesWrong : ChangeSpec := { name := "graphSides", fn := fun _ => fun
  | [d] => { results := [.lit (.bool false)], args := [d] }
  | _ => none }
def GraphSidesWrongFalsely : Prop := graphSidesRow.holds Try.pinned (OpenSpec.ofChange graphSidesWrong)

/-- 'postroadlaw03.HeapSorts': WHATEVER THE INPUT: true; the input reads as it did. -/
def heapSortsSpec : ChangeSpec := { name := "heapSorts", fn := fun _ => fun
  | [d] => { results := [.lit (.bool true)], args := [d] }
  | _ => none }
def heapSortsRow : OpenClaim := { program := "ythpbelgmppaafaa", sum := "4654a889ff8d570d2dacf28269c85267190fafddfe071588f9487056c63f2110", func := "postroad/postroadlaw03.HeapSorts", spec := "heapSorts", apart := false }
def HeapSortsSaid : Prop := heapSortsRow.holds Try.pinned (OpenSpec.ofChange heapSortsSpec)

/-- ITS FALSE NEIGHBOUR: 'it returns false'. Refute it at one input. -/
def heapSortsWrong : ChangeSpec := { name := "heapSorts", fn := fun _ => fun
  | [d] => { results := [.lit (.bool false)], args := [d] }
  | _ => none }
def HeapSortsWrongFalsely : Prop := heapSortsRow.holds Try.pinned (OpenSpec.ofChange heapSortsWrong)

/-- 'postroadlaw06.GraphArcs': WHATEVER THE INPUT: true; the input reads as it did. -/
def graphArcsSpec : ChangeSpec := { name := "graphArcs", fn := fun _ => fun
  | [d] => { results := [.lit (.bool true)], args := [d] }
  | _ => none }
def graphArcsRow : OpenClaim := { program := "ythpbelgmppaafaa", sum := "4654a889ff8d570d2dacf28269c85267190fafddfe071588f9487056c63f2110", func := "postroad/postroadlaw06.GraphArcs", spec := "graphArcs", unfollowed := true, recurses := true, apart := false }
def GraphArcsSaid : Prop := graphArcsRow.holds Try.pinned (OpenSpec.ofChange graphArcsSpec)

/-- ITS FALSE NEIGHBOUR: 'it returns false'. Refute it at one input. -/
def graphArcsWrong : ChangeSpec := { name := "graphArcs", fn := fun _ => fun
  | [d] => { results := [.lit (.bool false)], args := [d] }
  | _ => none }
def GraphArcsWrongFalsely : Prop := graphArcsRow.holds Try.pinned (OpenSpec.ofChange graphArcsWrong)

/-- 'postroadlaw06.GraphOwn': WHATEVER THE INPUT: true; the input reads as it did. -/
def graphOwnSpec : ChangeSpec := { name := "graphOwn", fn := fun _ => fun
  | [d] => { results := [.lit (.bool true)], args := [d] }
  | _ => none }
def graphOwnRow : OpenClaim := { program := "ythpbelgmppaafaa", sum := "4654a889ff8d570d2dacf28269c85267190fafddfe071588f9487056c63f2110", func := "postroad/postroadlaw06.GraphOwn", spec := "graphOwn", unfollowed := true, recurses := true, apart := false }
def GraphOwnSaid : Prop := graphOwnRow.holds Try.pinned (OpenSpec.ofChange graphOwnSpec)

/-- ITS FALSE NEIGHBOUR: 'it returns false'. Refute it at one input. -/
def graphOwnWrong : ChangeSpec := { name := "graphOwn", fn := fun _ => fun
  | [d] => { results := [.lit (.bool false)], args := [d] }
  | _ => none }
def GraphOwnWrongFalsely : Prop := graphOwnRow.holds Try.pinned (OpenSpec.ofChange graphOwnWrong)

/-- 'postroadlaw03.HeapKeys': WHATEVER THE INPUT: true; the input reads as it did. -/
def heapKeysSpec : ChangeSpec := { name := "heapKeys", fn := fun _ => fun
  | [d] => { results := [.lit (.bool true)], args := [d] }
  | _ => none }
def heapKeysRow : OpenClaim := { program := "ythpbelgmppaafaa", sum := "4654a889ff8d570d2dacf28269c85267190fafddfe071588f9487056c63f2110", func := "postroad/postroadlaw03.HeapKeys", spec := "heapKeys", apart := false }
def HeapKeysSaid : Prop := heapKeysRow.holds Try.pinned (OpenSpec.ofChange heapKeysSpec)

/-- ITS FALSE NEIGHBOUR: 'it returns false'. Refute it at one input. -/
def heapKeysWrong : ChangeSpec := { name := "heapKeys", fn := fun _ => fun
  | [d] => { results := [.lit (.bool false)], args := [d] }
  | _ => none }
def HeapKeysWrongFalsely : Prop := heapKeysRow.holds Try.pinned (OpenSpec.ofChange heapKeysWrong)

/-- 'postroadlaw03.HeapSteps': WHATEVER THE INPUT: true; the input reads as it did. -/
def heapStepsSpec : ChangeSpec := { name := "heapSteps", fn := fun _ => fun
  | [d1, d2, d3] => { results := [.lit (.bool true)], args := [d1, d2, d3] }
  | _ => none }
def heapStepsRow : OpenClaim := { program := "ythpbelgmppaafaa", sum := "4654a889ff8d570d2dacf28269c85267190fafddfe071588f9487056c63f2110", func := "postroad/postroadlaw03.HeapSteps", spec := "heapSteps", apart := false }
def HeapStepsSaid : Prop := heapStepsRow.holds Try.pinned (OpenSpec.ofChange heapStepsSpec)

/-- ITS FALSE NEIGHBOUR: 'it returns false'. Refute it at one input. -/
def heapStepsWrong : ChangeSpec := { name := "heapSteps", fn := fun _ => fun
  | [d1, d2, d3] => { results := [.lit (.bool false)], args := [d1, d2, d3] }
  | _ => none }
def HeapStepsWrongFalsely : Prop := heapStepsRow.holds Try.pinned (OpenSpec.ofChange heapStepsWrong)

/-- 'postroadlaw03.HeapClears': WHATEVER THE INPUT: true; the input reads as it did. -/
def heapClearsSpec : ChangeSpec := { name := "heapClears", fn := fun _ => fun
  | [d1, d2] => { results := [.lit (.bool true)], args := [d1, d2] }
  | _ => none }
def heapClearsRow : OpenClaim := { program := "ythpbelgmppaafaa", sum := "4654a889ff8d570d2dacf28269c85267190fafddfe071588f9487056c63f2110", func := "postroad/postroadlaw03.HeapClears", spec := "heapClears", apart := false }
def HeapClearsSaid : Prop := heapClearsRow.holds Try.pinned (OpenSpec.ofChange heapClearsSpec)

/-- ITS FALSE NEIGHBOUR: 'it returns false'. Refute it at one input. -/
def heapClearsWrong : ChangeSpec := { name := "heapClears", fn := fun _ => fun
  | [d1, d2] => { results := [.lit (.bool false)], args := [d1, d2] }
  | _ => none }
def HeapClearsWrongFalsely : Prop := heapClearsRow.holds Try.pinned (OpenSpec.ofChange heapClearsWrong)

/-- 'postroadlaw03.HeapTwo': WHATEVER THE INPUT: true; the input reads as it did. -/
def heapTwoSpec : ChangeSpec := { name := "heapTwo", fn := fun _ => fun
  | [d1, d2] => { results := [.lit (.bool true)], args := [d1, d2] }
  | _ => none }
def heapTwoRow : OpenClaim := { program := "ythpbelgmppaafaa", sum := "4654a889ff8d570d2dacf28269c85267190fafddfe071588f9487056c63f2110", func := "postroad/postroadlaw03.HeapTwo", spec := "heapTwo", apart := false }
def HeapTwoSaid : Prop := heapTwoRow.holds Try.pinned (OpenSpec.ofChange heapTwoSpec)

/-- ITS FALSE NEIGHBOUR: 'it returns false'. Refute it at one input. -/
def heapTwoWrong : ChangeSpec := { name := "heapTwo", fn := fun _ => fun
  | [d1, d2] => { results := [.lit (.bool false)], args := [d1, d2] }
  | _ => none }
def HeapTwoWrongFalsely : Prop := heapTwoRow.holds Try.pinned (OpenSpec.ofChange heapTwoWrong)

/-- 'postroadlaw03.HeapPops': WHATEVER THE INPUT: true; the input reads as it did. -/
def heapPopsSpec : ChangeSpec := { name := "heapPops", fn := fun _ => fun
  | [d] => { results := [.lit (.bool true)], args := [d] }
  | _ => none }
def heapPopsRow : OpenClaim := { program := "ythpbelgmppaafaa", sum := "4654a889ff8d570d2dacf28269c85267190fafddfe071588f9487056c63f2110", func := "postroad/postroadlaw03.HeapPops", spec := "heapPops", apart := false }
def HeapPopsSaid : Prop := heapPopsRow.holds Try.pinned (OpenSpec.ofChange heapPopsSpec)

/-- ITS FALSE NEIGHBOUR: 'it returns false'. Refute it at one input. -/
def heapPopsWrong : ChangeSpec := { name := "heapPops", fn := fun _ => fun
  | [d] => { results := [.lit (.bool false)], args := [d] }
  | _ => none }
def HeapPopsWrongFalsely : Prop := heapPopsRow.holds Try.pinned (OpenSpec.ofChange heapPopsWrong)

/- THE SECOND FORM. 'bulk': how many values and letters a reading holds, each counted each time it is reached (what is shared counts as often as it is met; a slice's spare places count too). A statement '..UptoSaid' is the law's where the arguments, and the package variables that the reading takes, are together of bulk at most 1048576: NARROWER than '..Said'. Prove '..Said' where nothing that the law and all that it calls make is longer than what came in: it says more and counts as full. Else prove '..UptoSaid'. A law counts once. -/
mutual
def uptoBulk {H : Type} : DataW H → Nat
  | .lit (.string bytes) => bytes.length + 1
  | .lit _ => 1
  | .nil => 1
  | .ptr d => uptoBulk d + 1
  | .slice elems spare => uptoBulkAll elems + uptoBulkAll spare + 1
  | .agg parts => uptoBulkAll parts + 1
  | .iface _ d => uptoBulk d + 1
  | .map entries => uptoBulkEntries entries + 1
  | .held _ => 1
def uptoBulkAll {H : Type} : List (DataW H) → Nat
  | [] => 0
  | d :: r => uptoBulk d + uptoBulkAll r
def uptoBulkEntries {H : Type} : List (Lit × DataW H) → Nat
  | [] => 0
  | x :: r => uptoBulkEntry x + uptoBulkEntries r
def uptoBulkEntry {H : Type} : Lit × DataW H → Nat
  | (.string bytes, d) => bytes.length + uptoBulk d + 1
  | (_, d) => uptoBulk d + 1
 end
def uptoSmall : (H : Type) → List (DataW H) → Bool := fun _ ds => decide (uptoBulkAll ds ≤ 1048576)
def OpenSpec.upto (s : _root_.Go.ChangeSpec) : _root_.Go.OpenSpec := { _root_.Go.OpenSpec.ofChange s with cond := some uptoSmall }

/-- 'postroadlaw06.GraphTurned', WHERE WHAT IT READS IS OF BULK AT MOST 1048576: true; the input reads as it did. -/
def graphTurnedUptoRow : OpenClaim := { program := "ythpbelgmppaafaa", sum := "4654a889ff8d570d2dacf28269c85267190fafddfe071588f9487056c63f2110", func := "postroad/postroadlaw06.GraphTurned", spec := "graphTurned", unfollowed := true, recurses := true, apart := false, narrowed := true }
def GraphTurnedUptoSaid : Prop := graphTurnedUptoRow.holds Try.pinned (OpenSpec.upto graphTurnedSpec)

/-- 'postroadlaw06.GraphLoops', WHERE WHAT IT READS IS OF BULK AT MOST 1048576: true; the input reads as it did. -/
def graphLoopsUptoRow : OpenClaim := { program := "ythpbelgmppaafaa", sum := "4654a889ff8d570d2dacf28269c85267190fafddfe071588f9487056c63f2110", func := "postroad/postroadlaw06.GraphLoops", spec := "graphLoops", unfollowed := true, recurses := true, apart := false, narrowed := true }
def GraphLoopsUptoSaid : Prop := graphLoopsUptoRow.holds Try.pinned (OpenSpec.upto graphLoopsSpec)

/-- 'postroadlaw06.GraphLeast', WHERE WHAT IT READS IS OF BULK AT MOST 1048576: true; the input reads as it did. -/
def graphLeastUptoRow : OpenClaim := { program := "ythpbelgmppaafaa", sum := "4654a889ff8d570d2dacf28269c85267190fafddfe071588f9487056c63f2110", func := "postroad/postroadlaw06.GraphLeast", spec := "graphLeast", unfollowed := true, recurses := true, apart := false, narrowed := true }
def GraphLeastUptoSaid : Prop := graphLeastUptoRow.holds Try.pinned (OpenSpec.upto graphLeastSpec)

/-- 'postroadlaw06.GraphSides', WHERE WHAT IT READS IS OF BULK AT MOST 1048576: true; the input reads as it did. -/
def graphSidesUptoRow : OpenClaim := { program := "ythpbelgmppaafaa", sum := "4654a889ff8d570d2dacf28269c85267190fafddfe071588f9487056c63f2110", func := "postroad/postroadlaw06.GraphSides", spec := "graphSides", unfollowed := true, recurses := true, apart := false, narrowed := true }
def GraphSidesUptoSaid : Prop := graphSidesUptoRow.holds Try.pinned (OpenSpec.upto graphSidesSpec)

/-- 'postroadlaw03.HeapSorts', WHERE WHAT IT READS IS OF BULK AT MOST 1048576: true; the input reads as it did. -/
def heapSortsUptoRow : OpenClaim := { program := "ythpbelgmppaafaa", sum := "4654a889ff8d570d2dacf28269c85267190fafddfe071588f9487056c63f2110", func := "postroad/postroadlaw03.HeapSorts", spec := "heapSorts", apart := false, narrowed := true }
def HeapSortsUptoSaid : Prop := heapSortsUptoRow.holds Try.pinned (OpenSpec.upto heapSortsSpec)

/-- 'postroadlaw06.GraphArcs', WHERE WHAT IT READS IS OF BULK AT MOST 1048576: true; the input reads as it did. -/
def graphArcsUptoRow : OpenClaim := { program := "ythpbelgmppaafaa", sum := "4654a889ff8d570d2dacf28269c85267190fafddfe071588f9487056c63f2110", func := "postroad/postroadlaw06.GraphArcs", spec := "graphArcs", unfollowed := true, recurses := true, apart := false, narrowed := true }
def GraphArcsUptoSaid : Prop := graphArcsUptoRow.holds Try.pinned (OpenSpec.upto graphArcsSpec)

/-- 'postroadlaw06.GraphOwn', WHERE WHAT IT READS IS OF BULK AT MOST 1048576: true; the input reads as it did. -/
def graphOwnUptoRow : OpenClaim := { program := "ythpbelgmppaafaa", sum := "4654a889ff8d570d2dacf28269c85267190fafddfe071588f9487056c63f2110", func := "postroad/postroadlaw06.GraphOwn", spec := "graphOwn", unfollowed := true, recurses := true, apart := false, narrowed := true }
def GraphOwnUptoSaid : Prop := graphOwnUptoRow.holds Try.pinned (OpenSpec.upto graphOwnSpec)

/-- 'postroadlaw03.HeapKeys', WHERE WHAT IT READS IS OF BULK AT MOST 1048576: true; the input reads as it did. -/
def heapKeysUptoRow : OpenClaim := { program := "ythpbelgmppaafaa", sum := "4654a889ff8d570d2dacf28269c85267190fafddfe071588f9487056c63f2110", func := "postroad/postroadlaw03.HeapKeys", spec := "heapKeys", apart := false, narrowed := true }
def HeapKeysUptoSaid : Prop := heapKeysUptoRow.holds Try.pinned (OpenSpec.upto heapKeysSpec)

/-- 'postroadlaw03.HeapSteps', WHERE WHAT IT READS IS OF BULK AT MOST 1048576: true; the input reads as it did. -/
def heapStepsUptoRow : OpenClaim := { program := "ythpbelgmppaafaa", sum := "4654a889ff8d570d2dacf28269c85267190fafddfe071588f9487056c63f2110", func := "postroad/postroadlaw03.HeapSteps", spec := "heapSteps", apart := false, narrowed := true }
def HeapStepsUptoSaid : Prop := heapStepsUptoRow.holds Try.pinned (OpenSpec.upto heapStepsSpec)

/-- 'postroadlaw03.HeapClears', WHERE WHAT IT READS IS OF BULK AT MOST 1048576: true; the input reads as it did. -/
def heapClearsUptoRow : OpenClaim := { program := "ythpbelgmppaafaa", sum := "4654a889ff8d570d2dacf28269c85267190fafddfe071588f9487056c63f2110", func := "postroad/postroadlaw03.HeapClears", spec := "heapClears", apart := false, narrowed := true }
def HeapClearsUptoSaid : Prop := heapClearsUptoRow.holds Try.pinned (OpenSpec.upto heapClearsSpec)

/-- 'postroadlaw03.HeapTwo', WHERE WHAT IT READS IS OF BULK AT MOST 1048576: true; the input reads as it did. -/
def heapTwoUptoRow : OpenClaim := { program := "ythpbelgmppaafaa", sum := "4654a889ff8d570d2dacf28269c85267190fafddfe071588f9487056c63f2110", func := "postroad/postroadlaw03.HeapTwo", spec := "heapTwo", apart := false, narrowed := true }
def HeapTwoUptoSaid : Prop := heapTwoUptoRow.holds Try.pinned (OpenSpec.upto heapTwoSpec)

/-- 'postroadlaw03.HeapPops', WHERE WHAT IT READS IS OF BULK AT MOST 1048576: true; the input reads as it did. -/
def heapPopsUptoRow : OpenClaim := { program := "ythpbelgmppaafaa", sum := "4654a889ff8d570d2dacf28269c85267190fafddfe071588f9487056c63f2110", func := "postroad/postroadlaw03.HeapPops", spec := "heapPops", apart := false, narrowed := true }
def HeapPopsUptoSaid : Prop := heapPopsUptoRow.holds Try.pinned (OpenSpec.upto heapPopsSpec)

end Rows
end Go.Proofs.Ythpbelgmppaafaa
