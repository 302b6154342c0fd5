/-
  No cell of these rows narrows 'for every input' (looked for: loops, veiled, ifaces, maps, wideKeys, modest, calm, conditions, laid).
  DERIVED. THE GIVEN ROWS OF THIS SEAT. 7 by the template 'for every input the law returns true; each argument reads behind the call as it read before'; 0 by the template 'total and deterministic' (their statements: YtoomennincfkgaaTotals.lean).
  GIVEN WITH THE SEED: the statements are not yours to turn. If you find one false, say at which input.
  Laid BY PROGRAM, IN A SANDBOX (cutbox-rows.mjs): the forced cells as the released guide's own fill.sh prints them over the translation 316c87451be4fc69… (all of the seat's roots in one cut). By AI agents, Wed Nov 11 2026. No macro, syntax, notation, axiom, sorry.
-/
import Derived.Test.YtoomennincfkgaaChecked
import GoSem.Claim
import GoSem.ClaimJoined
import GoSem.ClaimMapViews
import Derived.JoinedTies
import Derived.KernelRfl
namespace Go.Proofs.Ytoomennincfkgaa
/- THE CELL 'sum', in the pinned program and in every row, IS THE sha256 OF THE DUMP (.gsa) THAT YtoomennincfkgaaProg.lean LOADS. Nothing in Lean hashes anything: it is a label: what it is worth is what the hold of that sum in a sandbox is worth. -/
noncomputable def Try.pinned : Pinned := { name := "ytoomennincfkgaa", sum := "316c87451be4fc69824ab6fc04f0a74f511309f01d947ad838aa8390612425da", checked := Try.checked }
namespace Rows
def none {H : Type} : Left H := { results := [], args := [] }

/-- 'postroadlaw10.HierSides': WHATEVER THE INPUT: true; the input reads as it did. -/
def hierSidesSpec : ChangeSpec := { name := "hierSides", fn := fun _ => fun
  | [d] => { results := [.lit (.bool true)], args := [d] }
  | _ => none }
def hierSidesRow : OpenClaim := { program := "ytoomennincfkgaa", sum := "316c87451be4fc69824ab6fc04f0a74f511309f01d947ad838aa8390612425da", func := "postroad/postroadlaw10.HierSides", spec := "hierSides", plainKeys := false, apart := false }
def HierSidesSaid : Prop := hierSidesRow.holds Try.pinned (OpenSpec.ofChange hierSidesSpec)

/-- ITS FALSE NEIGHBOUR: 'it returns false'. Refute it at one input. -/
def hierSidesWrong : ChangeSpec := { name := "hierSides", fn := fun _ => fun
  | [d] => { results := [.lit (.bool false)], args := [d] }
  | _ => none }
def HierSidesWrongFalsely : Prop := hierSidesRow.holds Try.pinned (OpenSpec.ofChange hierSidesWrong)

/-- 'postroadlaw10.HierTwo': WHATEVER THE INPUT: true; the input reads as it did. -/
def hierTwoSpec : ChangeSpec := { name := "hierTwo", fn := fun _ => fun
  | [d1, d2, d3] => { results := [.lit (.bool true)], args := [d1, d2, d3] }
  | _ => none }
def hierTwoRow : OpenClaim := { program := "ytoomennincfkgaa", sum := "316c87451be4fc69824ab6fc04f0a74f511309f01d947ad838aa8390612425da", func := "postroad/postroadlaw10.HierTwo", spec := "hierTwo", plainKeys := false, apart := false }
def HierTwoSaid : Prop := hierTwoRow.holds Try.pinned (OpenSpec.ofChange hierTwoSpec)

/-- ITS FALSE NEIGHBOUR: 'it returns false'. Refute it at one input. -/
def hierTwoWrong : ChangeSpec := { name := "hierTwo", fn := fun _ => fun
  | [d1, d2, d3] => { results := [.lit (.bool false)], args := [d1, d2, d3] }
  | _ => none }
def HierTwoWrongFalsely : Prop := hierTwoRow.holds Try.pinned (OpenSpec.ofChange hierTwoWrong)

/-- 'postroadlaw10.HierOfMaps': WHATEVER THE INPUT: true; the input reads as it did. -/
def hierOfMapsSpec : ChangeSpec := { name := "hierOfMaps", fn := fun _ => fun
  | [d1, d2, d3] => { results := [.lit (.bool true)], args := [d1, d2, d3] }
  | _ => none }
def hierOfMapsRow : OpenClaim := { program := "ytoomennincfkgaa", sum := "316c87451be4fc69824ab6fc04f0a74f511309f01d947ad838aa8390612425da", func := "postroad/postroadlaw10.HierOfMaps", spec := "hierOfMaps", plainKeys := false, apart := false }
def HierOfMapsSaid : Prop := hierOfMapsRow.holds Try.pinned (OpenSpec.ofChange hierOfMapsSpec)

/-- ITS FALSE NEIGHBOUR: 'it returns false'. Refute it at one input. -/
def hierOfMapsWrong : ChangeSpec := { name := "hierOfMaps", fn := fun _ => fun
  | [d1, d2, d3] => { results := [.lit (.bool false)], args := [d1, d2, d3] }
  | _ => none }
def HierOfMapsWrongFalsely : Prop := hierOfMapsRow.holds Try.pinned (OpenSpec.ofChange hierOfMapsWrong)

/-- 'postroadlaw10.HierOdd': WHATEVER THE INPUT: true; the input reads as it did. -/
def hierOddSpec : ChangeSpec := { name := "hierOdd", fn := fun _ => fun
  | [d1, d2, d3] => { results := [.lit (.bool true)], args := [d1, d2, d3] }
  | _ => none }
def hierOddRow : OpenClaim := { program := "ytoomennincfkgaa", sum := "316c87451be4fc69824ab6fc04f0a74f511309f01d947ad838aa8390612425da", func := "postroad/postroadlaw10.HierOdd", spec := "hierOdd", plainKeys := false, apart := false }
def HierOddSaid : Prop := hierOddRow.holds Try.pinned (OpenSpec.ofChange hierOddSpec)

/-- ITS FALSE NEIGHBOUR: 'it returns false'. Refute it at one input. -/
def hierOddWrong : ChangeSpec := { name := "hierOdd", fn := fun _ => fun
  | [d1, d2, d3] => { results := [.lit (.bool false)], args := [d1, d2, d3] }
  | _ => none }
def HierOddWrongFalsely : Prop := hierOddRow.holds Try.pinned (OpenSpec.ofChange hierOddWrong)

/-- 'postroadlaw10.HierFinds': WHATEVER THE INPUT: true; the input reads as it did. -/
def hierFindsSpec : ChangeSpec := { name := "hierFinds", fn := fun _ => fun
  | [d1, d2, d3] => { results := [.lit (.bool true)], args := [d1, d2, d3] }
  | _ => none }
def hierFindsRow : OpenClaim := { program := "ytoomennincfkgaa", sum := "316c87451be4fc69824ab6fc04f0a74f511309f01d947ad838aa8390612425da", func := "postroad/postroadlaw10.HierFinds", spec := "hierFinds", plainKeys := false, apart := false }
def HierFindsSaid : Prop := hierFindsRow.holds Try.pinned (OpenSpec.ofChange hierFindsSpec)

/-- ITS FALSE NEIGHBOUR: 'it returns false'. Refute it at one input. -/
def hierFindsWrong : ChangeSpec := { name := "hierFinds", fn := fun _ => fun
  | [d1, d2, d3] => { results := [.lit (.bool false)], args := [d1, d2, d3] }
  | _ => none }
def HierFindsWrongFalsely : Prop := hierFindsRow.holds Try.pinned (OpenSpec.ofChange hierFindsWrong)

/-- 'postroadlaw10.HierTells': WHATEVER THE INPUT: true; the input reads as it did. -/
def hierTellsSpec : ChangeSpec := { name := "hierTells", fn := fun _ => fun
  | [d1, d2, d3, d4] => { results := [.lit (.bool true)], args := [d1, d2, d3, d4] }
  | _ => none }
def hierTellsRow : OpenClaim := { program := "ytoomennincfkgaa", sum := "316c87451be4fc69824ab6fc04f0a74f511309f01d947ad838aa8390612425da", func := "postroad/postroadlaw10.HierTells", spec := "hierTells", plainKeys := false, apart := false }
def HierTellsSaid : Prop := hierTellsRow.holds Try.pinned (OpenSpec.ofChange hierTellsSpec)

/-- ITS FALSE NEIGHBOUR: 'it returns false'. Refute it at one input. -/
def hierTellsWrong : ChangeSpec := { name := "hierTells", fn := fun _ => fun
  | [d1, d2, d3, d4] => { results := [.lit (.bool false)], args := [d1, d2, d3, d4] }
  | _ => none }
def HierTellsWrongFalsely : Prop := hierTellsRow.holds Try.pinned (OpenSpec.ofChange hierTellsWrong)

/-- 'postroadlaw10.HierRises': WHATEVER THE INPUT: true; the input reads as it did. -/
def hierRisesSpec : ChangeSpec := { name := "hierRises", fn := fun _ => fun
  | [d] => { results := [.lit (.bool true)], args := [d] }
  | _ => none }
def hierRisesRow : OpenClaim := { program := "ytoomennincfkgaa", sum := "316c87451be4fc69824ab6fc04f0a74f511309f01d947ad838aa8390612425da", func := "postroad/postroadlaw10.HierRises", spec := "hierRises", plainKeys := false, apart := false }
def HierRisesSaid : Prop := hierRisesRow.holds Try.pinned (OpenSpec.ofChange hierRisesSpec)

/-- ITS FALSE NEIGHBOUR: 'it returns false'. Refute it at one input. -/
def hierRisesWrong : ChangeSpec := { name := "hierRises", fn := fun _ => fun
  | [d] => { results := [.lit (.bool false)], args := [d] }
  | _ => none }
def HierRisesWrongFalsely : Prop := hierRisesRow.holds Try.pinned (OpenSpec.ofChange hierRisesWrong)

/- THE SECOND FORM. 'bulk': how many values and letters a reading holds, each counted each time it is reached (what is shared counts as often as it is met; a slice's spare places count too). A statement '..UptoSaid' is the law's where the arguments, and the package variables that the reading takes, are together of bulk at most 1048576: NARROWER than '..Said'. Prove '..Said' where nothing that the law and all that it calls make is longer than what came in: it says more and counts as full. Else prove '..UptoSaid'. A law counts once. -/
mutual
def uptoBulk {H : Type} : DataW H → Nat
  | .lit (.string bytes) => bytes.length + 1
  | .lit _ => 1
  | .nil => 1
  | .ptr d => uptoBulk d + 1
  | .slice elems spare => uptoBulkAll elems + uptoBulkAll spare + 1
  | .agg parts => uptoBulkAll parts + 1
  | .iface _ d => uptoBulk d + 1
  | .map entries => uptoBulkEntries entries + 1
  | .held _ => 1
def uptoBulkAll {H : Type} : List (DataW H) → Nat
  | [] => 0
  | d :: r => uptoBulk d + uptoBulkAll r
def uptoBulkEntries {H : Type} : List (Lit × DataW H) → Nat
  | [] => 0
  | x :: r => uptoBulkEntry x + uptoBulkEntries r
def uptoBulkEntry {H : Type} : Lit × DataW H → Nat
  | (.string bytes, d) => bytes.length + uptoBulk d + 1
  | (_, d) => uptoBulk d + 1
 end
def uptoSmall : (H : Type) → List (DataW H) → Bool := fun _ ds => decide (uptoBulkAll ds ≤ 1048576)
def OpenSpec.upto (s : _root_.Go.ChangeSpec) : _root_.Go.OpenSpec := { _root_.Go.OpenSpec.ofChange s with cond := some uptoSmall }

/-- 'postroadlaw10.HierSides', WHERE WHAT IT READS IS OF BULK AT MOST 1048576: true; the input reads as it did. -/
def hierSidesUptoRow : OpenClaim := { program := "ytoomennincfkgaa", sum := "316c87451be4fc69824ab6fc04f0a74f511309f01d947ad838aa8390612425da", func := "postroad/postroadlaw10.HierSides", spec := "hierSides", plainKeys := false, apart := false, narrowed := true }
def HierSidesUptoSaid : Prop := hierSidesUptoRow.holds Try.pinned (OpenSpec.upto hierSidesSpec)

/-- 'postroadlaw10.HierTwo', WHERE WHAT IT READS IS OF BULK AT MOST 1048576: true; the input reads as it did. -/
def hierTwoUptoRow : OpenClaim := { program := "ytoomennincfkgaa", sum := "316c87451be4fc69824ab6fc04f0a74f511309f01d947ad838aa8390612425da", func := "postroad/postroadlaw10.HierTwo", spec := "hierTwo", plainKeys := false, apart := false, narrowed := true }
def HierTwoUptoSaid : Prop := hierTwoUptoRow.holds Try.pinned (OpenSpec.upto hierTwoSpec)

/-- 'postroadlaw10.HierOfMaps', WHERE WHAT IT READS IS OF BULK AT MOST 1048576: true; the input reads as it did. -/
def hierOfMapsUptoRow : OpenClaim := { program := "ytoomennincfkgaa", sum := "316c87451be4fc69824ab6fc04f0a74f511309f01d947ad838aa8390612425da", func := "postroad/postroadlaw10.HierOfMaps", spec := "hierOfMaps", plainKeys := false, apart := false, narrowed := true }
def HierOfMapsUptoSaid : Prop := hierOfMapsUptoRow.holds Try.pinned (OpenSpec.upto hierOfMapsSpec)

/-- 'postroadlaw10.HierOdd', WHERE WHAT IT READS IS OF BULK AT MOST 1048576: true; the input reads as it did. -/
def hierOddUptoRow : OpenClaim := { program := "ytoomennincfkgaa", sum := "316c87451be4fc69824ab6fc04f0a74f511309f01d947ad838aa8390612425da", func := "postroad/postroadlaw10.HierOdd", spec := "hierOdd", plainKeys := false, apart := false, narrowed := true }
def HierOddUptoSaid : Prop := hierOddUptoRow.holds Try.pinned (OpenSpec.upto hierOddSpec)

/-- 'postroadlaw10.HierFinds', WHERE WHAT IT READS IS OF BULK AT MOST 1048576: true; the input reads as it did. -/
def hierFindsUptoRow : OpenClaim := { program := "ytoomennincfkgaa", sum := "316c87451be4fc69824ab6fc04f0a74f511309f01d947ad838aa8390612425da", func := "postroad/postroadlaw10.HierFinds", spec := "hierFinds", plainKeys := false, apart := false, narrowed := true }
def HierFindsUptoSaid : Prop := hierFindsUptoRow.holds Try.pinned (OpenSpec.upto hierFindsSpec)

/-- 'postroadlaw10.HierTells', WHERE WHAT IT READS IS OF BULK AT MOST 1048576: true; the input reads as it did. -/
def hierTellsUptoRow : OpenClaim := { program := "ytoomennincfkgaa", sum := "316c87451be4fc69824ab6fc04f0a74f511309f01d947ad838aa8390612425da", func := "postroad/postroadlaw10.HierTells", spec := "hierTells", plainKeys := false, apart := false, narrowed := true }
def HierTellsUptoSaid : Prop := hierTellsUptoRow.holds Try.pinned (OpenSpec.upto hierTellsSpec)

/-- 'postroadlaw10.HierRises', WHERE WHAT IT READS IS OF BULK AT MOST 1048576: true; the input reads as it did. -/
def hierRisesUptoRow : OpenClaim := { program := "ytoomennincfkgaa", sum := "316c87451be4fc69824ab6fc04f0a74f511309f01d947ad838aa8390612425da", func := "postroad/postroadlaw10.HierRises", spec := "hierRises", plainKeys := false, apart := false, narrowed := true }
def HierRisesUptoSaid : Prop := hierRisesUptoRow.holds Try.pinned (OpenSpec.upto hierRisesSpec)

end Rows
end Go.Proofs.Ytoomennincfkgaa
