/-
  No cell of these rows narrows 'for every input' (looked for: loops, veiled, ifaces, maps, wideKeys, modest, calm, conditions, laid).
  DERIVED. THE GIVEN ROWS OF THIS SEAT. 7 by the template 'for every input the law returns true; each argument reads behind the call as it read before'; 0 by the template 'total and deterministic' (their statements: YtachbdfhbpmaeaaTotals.lean).
  GIVEN WITH THE SEED: the statements are not yours to turn. If you find one false, say at which input.
  Laid BY PROGRAM, IN A SANDBOX (cutbox-rows.mjs): the forced cells as the released guide's own fill.sh prints them over the translation 5bdd984827ba24d5… (all of the seat's roots in one cut). By AI agents, Wed Nov 11 2026. No macro, syntax, notation, axiom, sorry.
-/
import Derived.Test.YtachbdfhbpmaeaaChecked
import GoSem.Claim
import GoSem.ClaimJoined
import GoSem.ClaimMapViews
import Derived.JoinedTies
import Derived.KernelRfl
namespace Go.Proofs.Ytachbdfhbpmaeaa
/- THE CELL 'sum', in the pinned program and in every row, IS THE sha256 OF THE DUMP (.gsa) THAT YtachbdfhbpmaeaaProg.lean LOADS. Nothing in Lean hashes anything: it is a label: what it is worth is what the hold of that sum in a sandbox is worth. -/
noncomputable def Try.pinned : Pinned := { name := "ytachbdfhbpmaeaa", sum := "5bdd984827ba24d5790cdd7d93bd6d5314cc368ab02fcd6a69522e4291d3c0bb", checked := Try.checked }
namespace Rows
def none {H : Type} : Left H := { results := [], args := [] }

/-- 'postroadlaw07.DistSteps': WHATEVER THE INPUT: true; the input reads as it did. -/
def distStepsSpec : ChangeSpec := { name := "distSteps", fn := fun _ => fun
  | [d1, d2, d3] => { results := [.lit (.bool true)], args := [d1, d2, d3] }
  | _ => none }
def distStepsRow : OpenClaim := { program := "ytachbdfhbpmaeaa", sum := "5bdd984827ba24d5790cdd7d93bd6d5314cc368ab02fcd6a69522e4291d3c0bb", func := "postroad/postroadlaw07.DistSteps", spec := "distSteps", unfollowed := true, recurses := true, apart := false }
def DistStepsSaid : Prop := distStepsRow.holds Try.pinned (OpenSpec.ofChange distStepsSpec)

/-- ITS FALSE NEIGHBOUR: 'it returns false'. Refute it at one input. -/
def distStepsWrong : ChangeSpec := { name := "distSteps", fn := fun _ => fun
  | [d1, d2, d3] => { results := [.lit (.bool false)], args := [d1, d2, d3] }
  | _ => none }
def DistStepsWrongFalsely : Prop := distStepsRow.holds Try.pinned (OpenSpec.ofChange distStepsWrong)

/-- 'postroadlaw07.DistTimes': WHATEVER THE INPUT: true; the input reads as it did. -/
def distTimesSpec : ChangeSpec := { name := "distTimes", fn := fun _ => fun
  | [d1, d2, d3, d4] => { results := [.lit (.bool true)], args := [d1, d2, d3, d4] }
  | _ => none }
def distTimesRow : OpenClaim := { program := "ytachbdfhbpmaeaa", sum := "5bdd984827ba24d5790cdd7d93bd6d5314cc368ab02fcd6a69522e4291d3c0bb", func := "postroad/postroadlaw07.DistTimes", spec := "distTimes", unfollowed := true, recurses := true, apart := false }
def DistTimesSaid : Prop := distTimesRow.holds Try.pinned (OpenSpec.ofChange distTimesSpec)

/-- ITS FALSE NEIGHBOUR: 'it returns false'. Refute it at one input. -/
def distTimesWrong : ChangeSpec := { name := "distTimes", fn := fun _ => fun
  | [d1, d2, d3, d4] => { results := [.lit (.bool false)], args := [d1, d2, d3, d4] }
  | _ => none }
def DistTimesWrongFalsely : Prop := distTimesRow.holds Try.pinned (OpenSpec.ofChange distTimesWrong)

/-- 'postroadlaw07.DistTurned': WHATEVER THE INPUT: true; the input reads as it did. -/
def distTurnedSpec : ChangeSpec := { name := "distTurned", fn := fun _ => fun
  | [d1, d2, d3] => { results := [.lit (.bool true)], args := [d1, d2, d3] }
  | _ => none }
def distTurnedRow : OpenClaim := { program := "ytachbdfhbpmaeaa", sum := "5bdd984827ba24d5790cdd7d93bd6d5314cc368ab02fcd6a69522e4291d3c0bb", func := "postroad/postroadlaw07.DistTurned", spec := "distTurned", unfollowed := true, recurses := true, apart := false }
def DistTurnedSaid : Prop := distTurnedRow.holds Try.pinned (OpenSpec.ofChange distTurnedSpec)

/-- ITS FALSE NEIGHBOUR: 'it returns false'. Refute it at one input. -/
def distTurnedWrong : ChangeSpec := { name := "distTurned", fn := fun _ => fun
  | [d1, d2, d3] => { results := [.lit (.bool false)], args := [d1, d2, d3] }
  | _ => none }
def DistTurnedWrongFalsely : Prop := distTurnedRow.holds Try.pinned (OpenSpec.ofChange distTurnedWrong)

/-- 'postroadlaw07.DistBy': WHATEVER THE INPUT: true; the input reads as it did. -/
def distBySpec : ChangeSpec := { name := "distBy", fn := fun _ => fun
  | [d1, d2, d3, d4, d5] => { results := [.lit (.bool true)], args := [d1, d2, d3, d4, d5] }
  | _ => none }
def distByRow : OpenClaim := { program := "ytachbdfhbpmaeaa", sum := "5bdd984827ba24d5790cdd7d93bd6d5314cc368ab02fcd6a69522e4291d3c0bb", func := "postroad/postroadlaw07.DistBy", spec := "distBy", unfollowed := true, recurses := true, apart := false }
def DistBySaid : Prop := distByRow.holds Try.pinned (OpenSpec.ofChange distBySpec)

/-- ITS FALSE NEIGHBOUR: 'it returns false'. Refute it at one input. -/
def distByWrong : ChangeSpec := { name := "distBy", fn := fun _ => fun
  | [d1, d2, d3, d4, d5] => { results := [.lit (.bool false)], args := [d1, d2, d3, d4, d5] }
  | _ => none }
def DistByWrongFalsely : Prop := distByRow.holds Try.pinned (OpenSpec.ofChange distByWrong)

/-- 'postroadlaw07.DistWalks': WHATEVER THE INPUT: true; the input reads as it did. -/
def distWalksSpec : ChangeSpec := { name := "distWalks", fn := fun _ => fun
  | [d1, d2, d3] => { results := [.lit (.bool true)], args := [d1, d2, d3] }
  | _ => none }
def distWalksRow : OpenClaim := { program := "ytachbdfhbpmaeaa", sum := "5bdd984827ba24d5790cdd7d93bd6d5314cc368ab02fcd6a69522e4291d3c0bb", func := "postroad/postroadlaw07.DistWalks", spec := "distWalks", unfollowed := true, recurses := true, apart := false }
def DistWalksSaid : Prop := distWalksRow.holds Try.pinned (OpenSpec.ofChange distWalksSpec)

/-- ITS FALSE NEIGHBOUR: 'it returns false'. Refute it at one input. -/
def distWalksWrong : ChangeSpec := { name := "distWalks", fn := fun _ => fun
  | [d1, d2, d3] => { results := [.lit (.bool false)], args := [d1, d2, d3] }
  | _ => none }
def DistWalksWrongFalsely : Prop := distWalksRow.holds Try.pinned (OpenSpec.ofChange distWalksWrong)

/-- 'postroadlaw07.DistJoins': WHATEVER THE INPUT: true; the input reads as it did. -/
def distJoinsSpec : ChangeSpec := { name := "distJoins", fn := fun _ => fun
  | [d1, d2, d3, d4, d5] => { results := [.lit (.bool true)], args := [d1, d2, d3, d4, d5] }
  | _ => none }
def distJoinsRow : OpenClaim := { program := "ytachbdfhbpmaeaa", sum := "5bdd984827ba24d5790cdd7d93bd6d5314cc368ab02fcd6a69522e4291d3c0bb", func := "postroad/postroadlaw07.DistJoins", spec := "distJoins", unfollowed := true, recurses := true, apart := false }
def DistJoinsSaid : Prop := distJoinsRow.holds Try.pinned (OpenSpec.ofChange distJoinsSpec)

/-- ITS FALSE NEIGHBOUR: 'it returns false'. Refute it at one input. -/
def distJoinsWrong : ChangeSpec := { name := "distJoins", fn := fun _ => fun
  | [d1, d2, d3, d4, d5] => { results := [.lit (.bool false)], args := [d1, d2, d3, d4, d5] }
  | _ => none }
def DistJoinsWrongFalsely : Prop := distJoinsRow.holds Try.pinned (OpenSpec.ofChange distJoinsWrong)

/-- 'postroadlaw07.DistAll': WHATEVER THE INPUT: true; the input reads as it did. -/
def distAllSpec : ChangeSpec := { name := "distAll", fn := fun _ => fun
  | [d1, d2, d3, d4] => { results := [.lit (.bool true)], args := [d1, d2, d3, d4] }
  | _ => none }
def distAllRow : OpenClaim := { program := "ytachbdfhbpmaeaa", sum := "5bdd984827ba24d5790cdd7d93bd6d5314cc368ab02fcd6a69522e4291d3c0bb", func := "postroad/postroadlaw07.DistAll", spec := "distAll", unfollowed := true, recurses := true, apart := false }
def DistAllSaid : Prop := distAllRow.holds Try.pinned (OpenSpec.ofChange distAllSpec)

/-- ITS FALSE NEIGHBOUR: 'it returns false'. Refute it at one input. -/
def distAllWrong : ChangeSpec := { name := "distAll", fn := fun _ => fun
  | [d1, d2, d3, d4] => { results := [.lit (.bool false)], args := [d1, d2, d3, d4] }
  | _ => none }
def DistAllWrongFalsely : Prop := distAllRow.holds Try.pinned (OpenSpec.ofChange distAllWrong)

/- THE SECOND FORM. 'bulk': how many values and letters a reading holds, each counted each time it is reached (what is shared counts as often as it is met; a slice's spare places count too). A statement '..UptoSaid' is the law's where the arguments, and the package variables that the reading takes, are together of bulk at most 1048576: NARROWER than '..Said'. Prove '..Said' where nothing that the law and all that it calls make is longer than what came in: it says more and counts as full. Else prove '..UptoSaid'. A law counts once. -/
mutual
def uptoBulk {H : Type} : DataW H → Nat
  | .lit (.string bytes) => bytes.length + 1
  | .lit _ => 1
  | .nil => 1
  | .ptr d => uptoBulk d + 1
  | .slice elems spare => uptoBulkAll elems + uptoBulkAll spare + 1
  | .agg parts => uptoBulkAll parts + 1
  | .iface _ d => uptoBulk d + 1
  | .map entries => uptoBulkEntries entries + 1
  | .held _ => 1
def uptoBulkAll {H : Type} : List (DataW H) → Nat
  | [] => 0
  | d :: r => uptoBulk d + uptoBulkAll r
def uptoBulkEntries {H : Type} : List (Lit × DataW H) → Nat
  | [] => 0
  | x :: r => uptoBulkEntry x + uptoBulkEntries r
def uptoBulkEntry {H : Type} : Lit × DataW H → Nat
  | (.string bytes, d) => bytes.length + uptoBulk d + 1
  | (_, d) => uptoBulk d + 1
 end
def uptoSmall : (H : Type) → List (DataW H) → Bool := fun _ ds => decide (uptoBulkAll ds ≤ 1048576)
def OpenSpec.upto (s : _root_.Go.ChangeSpec) : _root_.Go.OpenSpec := { _root_.Go.OpenSpec.ofChange s with cond := some uptoSmall }

/-- 'postroadlaw07.DistSteps', WHERE WHAT IT READS IS OF BULK AT MOST 1048576: true; the input reads as it did. -/
def distStepsUptoRow : OpenClaim := { program := "ytachbdfhbpmaeaa", sum := "5bdd984827ba24d5790cdd7d93bd6d5314cc368ab02fcd6a69522e4291d3c0bb", func := "postroad/postroadlaw07.DistSteps", spec := "distSteps", unfollowed := true, recurses := true, apart := false, narrowed := true }
def DistStepsUptoSaid : Prop := distStepsUptoRow.holds Try.pinned (OpenSpec.upto distStepsSpec)

/-- 'postroadlaw07.DistTimes', WHERE WHAT IT READS IS OF BULK AT MOST 1048576: true; the input reads as it did. -/
def distTimesUptoRow : OpenClaim := { program := "ytachbdfhbpmaeaa", sum := "5bdd984827ba24d5790cdd7d93bd6d5314cc368ab02fcd6a69522e4291d3c0bb", func := "postroad/postroadlaw07.DistTimes", spec := "distTimes", unfollowed := true, recurses := true, apart := false, narrowed := true }
def DistTimesUptoSaid : Prop := distTimesUptoRow.holds Try.pinned (OpenSpec.upto distTimesSpec)

/-- 'postroadlaw07.DistTurned', WHERE WHAT IT READS IS OF BULK AT MOST 1048576: true; the input reads as it did. -/
def distTurnedUptoRow : OpenClaim := { program := "ytachbdfhbpmaeaa", sum := "5bdd984827ba24d5790cdd7d93bd6d5314cc368ab02fcd6a69522e4291d3c0bb", func := "postroad/postroadlaw07.DistTurned", spec := "distTurned", unfollowed := true, recurses := true, apart := false, narrowed := true }
def DistTurnedUptoSaid : Prop := distTurnedUptoRow.holds Try.pinned (OpenSpec.upto distTurnedSpec)

/-- 'postroadlaw07.DistBy', WHERE WHAT IT READS IS OF BULK AT MOST 1048576: true; the input reads as it did. -/
def distByUptoRow : OpenClaim := { program := "ytachbdfhbpmaeaa", sum := "5bdd984827ba24d5790cdd7d93bd6d5314cc368ab02fcd6a69522e4291d3c0bb", func := "postroad/postroadlaw07.DistBy", spec := "distBy", unfollowed := true, recurses := true, apart := false, narrowed := true }
def DistByUptoSaid : Prop := distByUptoRow.holds Try.pinned (OpenSpec.upto distBySpec)

/-- 'postroadlaw07.DistWalks', WHERE WHAT IT READS IS OF BULK AT MOST 1048576: true; the input reads as it did. -/
def distWalksUptoRow : OpenClaim := { program := "ytachbdfhbpmaeaa", sum := "5bdd984827ba24d5790cdd7d93bd6d5314cc368ab02fcd6a69522e4291d3c0bb", func := "postroad/postroadlaw07.DistWalks", spec := "distWalks", unfollowed := true, recurses := true, apart := false, narrowed := true }
def DistWalksUptoSaid : Prop := distWalksUptoRow.holds Try.pinned (OpenSpec.upto distWalksSpec)

/-- 'postroadlaw07.DistJoins', WHERE WHAT IT READS IS OF BULK AT MOST 1048576: true; the input reads as it did. -/
def distJoinsUptoRow : OpenClaim := { program := "ytachbdfhbpmaeaa", sum := "5bdd984827ba24d5790cdd7d93bd6d5314cc368ab02fcd6a69522e4291d3c0bb", func := "postroad/postroadlaw07.DistJoins", spec := "distJoins", unfollowed := true, recurses := true, apart := false, narrowed := true }
def DistJoinsUptoSaid : Prop := distJoinsUptoRow.holds Try.pinned (OpenSpec.upto distJoinsSpec)

/-- 'postroadlaw07.DistAll', WHERE WHAT IT READS IS OF BULK AT MOST 1048576: true; the input reads as it did. -/
def distAllUptoRow : OpenClaim := { program := "ytachbdfhbpmaeaa", sum := "5bdd984827ba24d5790cdd7d93bd6d5314cc368ab02fcd6a69522e4291d3c0bb", func := "postroad/postroadlaw07.DistAll", spec := "distAll", unfollowed := true, recurses := true, apart := false, narrowed := true }
def DistAllUptoSaid : Prop := distAllUptoRow.holds Try.pinned (OpenSpec.upto distAllSpec)

end Rows
end Go.Proofs.Ytachbdfhbpmaeaa
