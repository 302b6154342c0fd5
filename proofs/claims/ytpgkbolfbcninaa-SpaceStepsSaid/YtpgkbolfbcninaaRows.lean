/-
  No cell of these rows narrows 'for every input' (looked for: loops, veiled, ifaces, maps, wideKeys, modest, calm, conditions, laid).
  DERIVED. THE GIVEN ROWS OF THIS SEAT. 7 by the template 'for every input the law returns true; each argument reads behind the call as it read before'; 0 by the template 'total and deterministic' (their statements: YtpgkbolfbcninaaTotals.lean).
  GIVEN WITH THE SEED: the statements are not yours to turn. If you find one false, say at which input.
  Laid BY PROGRAM, IN A SANDBOX (cutbox-rows.mjs): the forced cells as the released guide's own fill.sh prints them over the translation 4d3e193ae18ed548… (all of the seat's roots in one cut). By AI agents, Wed Nov 11 2026. No macro, syntax, notation, axiom, sorry.
-/
import Derived.Test.YtpgkbolfbcninaaChecked
import GoSem.Claim
import GoSem.ClaimJoined
import GoSem.ClaimMapViews
import Derived.JoinedTies
import Derived.KernelRfl
namespace Go.Proofs.Ytpgkbolfbcninaa
/- THE CELL 'sum', in the pinned program and in every row, IS THE sha256 OF THE DUMP (.gsa) THAT YtpgkbolfbcninaaProg.lean LOADS. Nothing in Lean hashes anything: it is a label: what it is worth is what the hold of that sum in a sandbox is worth. -/
noncomputable def Try.pinned : Pinned := { name := "ytpgkbolfbcninaa", sum := "4d3e193ae18ed548ee51e06287b3526fc4b86ac054eb1e4b0575886bbdfb399b", checked := Try.checked }
namespace Rows
def none {H : Type} : Left H := { results := [], args := [] }

/-- 'postroadlaw11.SpaceClimbs': WHATEVER THE INPUT: true; the input reads as it did. -/
def spaceClimbsSpec : ChangeSpec := { name := "spaceClimbs", fn := fun _ => fun
  | [d1, d2, d3] => { results := [.lit (.bool true)], args := [d1, d2, d3] }
  | _ => none }
def spaceClimbsRow : OpenClaim := { program := "ytpgkbolfbcninaa", sum := "4d3e193ae18ed548ee51e06287b3526fc4b86ac054eb1e4b0575886bbdfb399b", func := "postroad/postroadlaw11.SpaceClimbs", spec := "spaceClimbs", unfollowed := true, recurses := true, plainKeys := false, apart := false }
def SpaceClimbsSaid : Prop := spaceClimbsRow.holds Try.pinned (OpenSpec.ofChange spaceClimbsSpec)

/-- ITS FALSE NEIGHBOUR: 'it returns false'. Refute it at one input. -/
def spaceClimbsWrong : ChangeSpec := { name := "spaceClimbs", fn := fun _ => fun
  | [d1, d2, d3] => { results := [.lit (.bool false)], args := [d1, d2, d3] }
  | _ => none }
def SpaceClimbsWrongFalsely : Prop := spaceClimbsRow.holds Try.pinned (OpenSpec.ofChange spaceClimbsWrong)

/-- 'postroadlaw11.SpaceRanks': WHATEVER THE INPUT: true; the input reads as it did. -/
def spaceRanksSpec : ChangeSpec := { name := "spaceRanks", fn := fun _ => fun
  | [d1, d2, d3, d4] => { results := [.lit (.bool true)], args := [d1, d2, d3, d4] }
  | _ => none }
def spaceRanksRow : OpenClaim := { program := "ytpgkbolfbcninaa", sum := "4d3e193ae18ed548ee51e06287b3526fc4b86ac054eb1e4b0575886bbdfb399b", func := "postroad/postroadlaw11.SpaceRanks", spec := "spaceRanks", unfollowed := true, recurses := true, plainKeys := false, apart := false }
def SpaceRanksSaid : Prop := spaceRanksRow.holds Try.pinned (OpenSpec.ofChange spaceRanksSpec)

/-- ITS FALSE NEIGHBOUR: 'it returns false'. Refute it at one input. -/
def spaceRanksWrong : ChangeSpec := { name := "spaceRanks", fn := fun _ => fun
  | [d1, d2, d3, d4] => { results := [.lit (.bool false)], args := [d1, d2, d3, d4] }
  | _ => none }
def SpaceRanksWrongFalsely : Prop := spaceRanksRow.holds Try.pinned (OpenSpec.ofChange spaceRanksWrong)

/-- 'postroadlaw11.SpaceTop': WHATEVER THE INPUT: true; the input reads as it did. -/
def spaceTopSpec : ChangeSpec := { name := "spaceTop", fn := fun _ => fun
  | [d1, d2, d3] => { results := [.lit (.bool true)], args := [d1, d2, d3] }
  | _ => none }
def spaceTopRow : OpenClaim := { program := "ytpgkbolfbcninaa", sum := "4d3e193ae18ed548ee51e06287b3526fc4b86ac054eb1e4b0575886bbdfb399b", func := "postroad/postroadlaw11.SpaceTop", spec := "spaceTop", unfollowed := true, recurses := true, plainKeys := false, apart := false }
def SpaceTopSaid : Prop := spaceTopRow.holds Try.pinned (OpenSpec.ofChange spaceTopSpec)

/-- ITS FALSE NEIGHBOUR: 'it returns false'. Refute it at one input. -/
def spaceTopWrong : ChangeSpec := { name := "spaceTop", fn := fun _ => fun
  | [d1, d2, d3] => { results := [.lit (.bool false)], args := [d1, d2, d3] }
  | _ => none }
def SpaceTopWrongFalsely : Prop := spaceTopRow.holds Try.pinned (OpenSpec.ofChange spaceTopWrong)

/-- 'postroadlaw11.SpaceWithin': WHATEVER THE INPUT: true; the input reads as it did. -/
def spaceWithinSpec : ChangeSpec := { name := "spaceWithin", fn := fun _ => fun
  | [d1, d2, d3, d4, d5] => { results := [.lit (.bool true)], args := [d1, d2, d3, d4, d5] }
  | _ => none }
def spaceWithinRow : OpenClaim := { program := "ytpgkbolfbcninaa", sum := "4d3e193ae18ed548ee51e06287b3526fc4b86ac054eb1e4b0575886bbdfb399b", func := "postroad/postroadlaw11.SpaceWithin", spec := "spaceWithin", unfollowed := true, recurses := true, plainKeys := false, apart := false }
def SpaceWithinSaid : Prop := spaceWithinRow.holds Try.pinned (OpenSpec.ofChange spaceWithinSpec)

/-- ITS FALSE NEIGHBOUR: 'it returns false'. Refute it at one input. -/
def spaceWithinWrong : ChangeSpec := { name := "spaceWithin", fn := fun _ => fun
  | [d1, d2, d3, d4, d5] => { results := [.lit (.bool false)], args := [d1, d2, d3, d4, d5] }
  | _ => none }
def SpaceWithinWrongFalsely : Prop := spaceWithinRow.holds Try.pinned (OpenSpec.ofChange spaceWithinWrong)

/-- 'postroadlaw11.SpaceSteps': WHATEVER THE INPUT: true; the input reads as it did. -/
def spaceStepsSpec : ChangeSpec := { name := "spaceSteps", fn := fun _ => fun
  | [d1, d2, d3] => { results := [.lit (.bool true)], args := [d1, d2, d3] }
  | _ => none }
def spaceStepsRow : OpenClaim := { program := "ytpgkbolfbcninaa", sum := "4d3e193ae18ed548ee51e06287b3526fc4b86ac054eb1e4b0575886bbdfb399b", func := "postroad/postroadlaw11.SpaceSteps", spec := "spaceSteps", unfollowed := true, recurses := true, plainKeys := false, apart := false }
def SpaceStepsSaid : Prop := spaceStepsRow.holds Try.pinned (OpenSpec.ofChange spaceStepsSpec)

/-- ITS FALSE NEIGHBOUR: 'it returns false'. Refute it at one input. -/
def spaceStepsWrong : ChangeSpec := { name := "spaceSteps", fn := fun _ => fun
  | [d1, d2, d3] => { results := [.lit (.bool false)], args := [d1, d2, d3] }
  | _ => none }
def SpaceStepsWrongFalsely : Prop := spaceStepsRow.holds Try.pinned (OpenSpec.ofChange spaceStepsWrong)

/-- 'postroadlaw11.SpaceMeets': WHATEVER THE INPUT: true; the input reads as it did. -/
def spaceMeetsSpec : ChangeSpec := { name := "spaceMeets", fn := fun _ => fun
  | [d1, d2, d3] => { results := [.lit (.bool true)], args := [d1, d2, d3] }
  | _ => none }
def spaceMeetsRow : OpenClaim := { program := "ytpgkbolfbcninaa", sum := "4d3e193ae18ed548ee51e06287b3526fc4b86ac054eb1e4b0575886bbdfb399b", func := "postroad/postroadlaw11.SpaceMeets", spec := "spaceMeets", unfollowed := true, recurses := true, plainKeys := false, apart := false }
def SpaceMeetsSaid : Prop := spaceMeetsRow.holds Try.pinned (OpenSpec.ofChange spaceMeetsSpec)

/-- ITS FALSE NEIGHBOUR: 'it returns false'. Refute it at one input. -/
def spaceMeetsWrong : ChangeSpec := { name := "spaceMeets", fn := fun _ => fun
  | [d1, d2, d3] => { results := [.lit (.bool false)], args := [d1, d2, d3] }
  | _ => none }
def SpaceMeetsWrongFalsely : Prop := spaceMeetsRow.holds Try.pinned (OpenSpec.ofChange spaceMeetsWrong)

/-- 'postroadlaw11.SpaceTurned': WHATEVER THE INPUT: true; the input reads as it did. -/
def spaceTurnedSpec : ChangeSpec := { name := "spaceTurned", fn := fun _ => fun
  | [d1, d2] => { results := [.lit (.bool true)], args := [d1, d2] }
  | _ => none }
def spaceTurnedRow : OpenClaim := { program := "ytpgkbolfbcninaa", sum := "4d3e193ae18ed548ee51e06287b3526fc4b86ac054eb1e4b0575886bbdfb399b", func := "postroad/postroadlaw11.SpaceTurned", spec := "spaceTurned", unfollowed := true, recurses := true, plainKeys := false, apart := false }
def SpaceTurnedSaid : Prop := spaceTurnedRow.holds Try.pinned (OpenSpec.ofChange spaceTurnedSpec)

/-- ITS FALSE NEIGHBOUR: 'it returns false'. Refute it at one input. -/
def spaceTurnedWrong : ChangeSpec := { name := "spaceTurned", fn := fun _ => fun
  | [d1, d2] => { results := [.lit (.bool false)], args := [d1, d2] }
  | _ => none }
def SpaceTurnedWrongFalsely : Prop := spaceTurnedRow.holds Try.pinned (OpenSpec.ofChange spaceTurnedWrong)

/- THE SECOND FORM. 'bulk': how many values and letters a reading holds, each counted each time it is reached (what is shared counts as often as it is met; a slice's spare places count too). A statement '..UptoSaid' is the law's where the arguments, and the package variables that the reading takes, are together of bulk at most 1048576: NARROWER than '..Said'. Prove '..Said' where nothing that the law and all that it calls make is longer than what came in: it says more and counts as full. Else prove '..UptoSaid'. A law counts once. -/
mutual
def uptoBulk {H : Type} : DataW H → Nat
  | .lit (.string bytes) => bytes.length + 1
  | .lit _ => 1
  | .nil => 1
  | .ptr d => uptoBulk d + 1
  | .slice elems spare => uptoBulkAll elems + uptoBulkAll spare + 1
  | .agg parts => uptoBulkAll parts + 1
  | .iface _ d => uptoBulk d + 1
  | .map entries => uptoBulkEntries entries + 1
  | .held _ => 1
def uptoBulkAll {H : Type} : List (DataW H) → Nat
  | [] => 0
  | d :: r => uptoBulk d + uptoBulkAll r
def uptoBulkEntries {H : Type} : List (Lit × DataW H) → Nat
  | [] => 0
  | x :: r => uptoBulkEntry x + uptoBulkEntries r
def uptoBulkEntry {H : Type} : Lit × DataW H → Nat
  | (.string bytes, d) => bytes.length + uptoBulk d + 1
  | (_, d) => uptoBulk d + 1
 end
def uptoSmall : (H : Type) → List (DataW H) → Bool := fun _ ds => decide (uptoBulkAll ds ≤ 1048576)
def OpenSpec.upto (s : _root_.Go.ChangeSpec) : _root_.Go.OpenSpec := { _root_.Go.OpenSpec.ofChange s with cond := some uptoSmall }

/-- 'postroadlaw11.SpaceClimbs', WHERE WHAT IT READS IS OF BULK AT MOST 1048576: true; the input reads as it did. -/
def spaceClimbsUptoRow : OpenClaim := { program := "ytpgkbolfbcninaa", sum := "4d3e193ae18ed548ee51e06287b3526fc4b86ac054eb1e4b0575886bbdfb399b", func := "postroad/postroadlaw11.SpaceClimbs", spec := "spaceClimbs", unfollowed := true, recurses := true, plainKeys := false, apart := false, narrowed := true }
def SpaceClimbsUptoSaid : Prop := spaceClimbsUptoRow.holds Try.pinned (OpenSpec.upto spaceClimbsSpec)

/-- 'postroadlaw11.SpaceRanks', WHERE WHAT IT READS IS OF BULK AT MOST 1048576: true; the input reads as it did. -/
def spaceRanksUptoRow : OpenClaim := { program := "ytpgkbolfbcninaa", sum := "4d3e193ae18ed548ee51e06287b3526fc4b86ac054eb1e4b0575886bbdfb399b", func := "postroad/postroadlaw11.SpaceRanks", spec := "spaceRanks", unfollowed := true, recurses := true, plainKeys := false, apart := false, narrowed := true }
def SpaceRanksUptoSaid : Prop := spaceRanksUptoRow.holds Try.pinned (OpenSpec.upto spaceRanksSpec)

/-- 'postroadlaw11.SpaceTop', WHERE WHAT IT READS IS OF BULK AT MOST 1048576: true; the input reads as it did. -/
def spaceTopUptoRow : OpenClaim := { program := "ytpgkbolfbcninaa", sum := "4d3e193ae18ed548ee51e06287b3526fc4b86ac054eb1e4b0575886bbdfb399b", func := "postroad/postroadlaw11.SpaceTop", spec := "spaceTop", unfollowed := true, recurses := true, plainKeys := false, apart := false, narrowed := true }
def SpaceTopUptoSaid : Prop := spaceTopUptoRow.holds Try.pinned (OpenSpec.upto spaceTopSpec)

/-- 'postroadlaw11.SpaceWithin', WHERE WHAT IT READS IS OF BULK AT MOST 1048576: true; the input reads as it did. -/
def spaceWithinUptoRow : OpenClaim := { program := "ytpgkbolfbcninaa", sum := "4d3e193ae18ed548ee51e06287b3526fc4b86ac054eb1e4b0575886bbdfb399b", func := "postroad/postroadlaw11.SpaceWithin", spec := "spaceWithin", unfollowed := true, recurses := true, plainKeys := false, apart := false, narrowed := true }
def SpaceWithinUptoSaid : Prop := spaceWithinUptoRow.holds Try.pinned (OpenSpec.upto spaceWithinSpec)

/-- 'postroadlaw11.SpaceSteps', WHERE WHAT IT READS IS OF BULK AT MOST 1048576: true; the input reads as it did. -/
def spaceStepsUptoRow : OpenClaim := { program := "ytpgkbolfbcninaa", sum := "4d3e193ae18ed548ee51e06287b3526fc4b86ac054eb1e4b0575886bbdfb399b", func := "postroad/postroadlaw11.SpaceSteps", spec := "spaceSteps", unfollowed := true, recurses := true, plainKeys := false, apart := false, narrowed := true }
def SpaceStepsUptoSaid : Prop := spaceStepsUptoRow.holds Try.pinned (OpenSpec.upto spaceStepsSpec)

/-- 'postroadlaw11.SpaceMeets', WHERE WHAT IT READS IS OF BULK AT MOST 1048576: true; the input reads as it did. -/
def spaceMeetsUptoRow : OpenClaim := { program := "ytpgkbolfbcninaa", sum := "4d3e193ae18ed548ee51e06287b3526fc4b86ac054eb1e4b0575886bbdfb399b", func := "postroad/postroadlaw11.SpaceMeets", spec := "spaceMeets", unfollowed := true, recurses := true, plainKeys := false, apart := false, narrowed := true }
def SpaceMeetsUptoSaid : Prop := spaceMeetsUptoRow.holds Try.pinned (OpenSpec.upto spaceMeetsSpec)

/-- 'postroadlaw11.SpaceTurned', WHERE WHAT IT READS IS OF BULK AT MOST 1048576: true; the input reads as it did. -/
def spaceTurnedUptoRow : OpenClaim := { program := "ytpgkbolfbcninaa", sum := "4d3e193ae18ed548ee51e06287b3526fc4b86ac054eb1e4b0575886bbdfb399b", func := "postroad/postroadlaw11.SpaceTurned", spec := "spaceTurned", unfollowed := true, recurses := true, plainKeys := false, apart := false, narrowed := true }
def SpaceTurnedUptoSaid : Prop := spaceTurnedUptoRow.holds Try.pinned (OpenSpec.upto spaceTurnedSpec)

end Rows
end Go.Proofs.Ytpgkbolfbcninaa
