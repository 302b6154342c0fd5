/-
  No cell of these rows narrows 'for every input' (looked for: loops, veiled, ifaces, maps, wideKeys, modest, calm, conditions, laid).
  DERIVED. THE GIVEN ROWS OF THIS SEAT. 8 by the template 'for every input the law returns true; each argument reads behind the call as it read before'; 0 by the template 'total and deterministic' (their statements: YtnonlclcjdmecaaTotals.lean).
  GIVEN WITH THE SEED: the statements are not yours to turn. If you find one false, say at which input.
  Laid BY PROGRAM, IN A SANDBOX (cutbox-rows.mjs): the forced cells as the released guide's own fill.sh prints them over the translation 6fd3e578f19102d8… (all of the seat's roots in one cut). By AI agents, Wed Nov 11 2026. No macro, syntax, notation, axiom, sorry.
-/
import Derived.Test.YtnonlclcjdmecaaChecked
import GoSem.Claim
import GoSem.ClaimJoined
import GoSem.ClaimMapViews
import Derived.JoinedTies
import Derived.KernelRfl
namespace Go.Proofs.Ytnonlclcjdmecaa
/- THE CELL 'sum', in the pinned program and in every row, IS THE sha256 OF THE DUMP (.gsa) THAT YtnonlclcjdmecaaProg.lean LOADS. Nothing in Lean hashes anything: it is a label: what it is worth is what the hold of that sum in a sandbox is worth. -/
noncomputable def Try.pinned : Pinned := { name := "ytnonlclcjdmecaa", sum := "6fd3e578f19102d80503ee42b1a386f1b91dddbf33e15ee16f3f9e96b5cc9801", checked := Try.checked }
namespace Rows
def none {H : Type} : Left H := { results := [], args := [] }

/-- 'postroadlaw12.QueryBy': WHATEVER THE INPUT: true; the input reads as it did. -/
def queryBySpec : ChangeSpec := { name := "queryBy", fn := fun _ => fun
  | [d1, d2, d3, d4, d5] => { results := [.lit (.bool true)], args := [d1, d2, d3, d4, d5] }
  | _ => none }
def queryByRow : OpenClaim := { program := "ytnonlclcjdmecaa", sum := "6fd3e578f19102d80503ee42b1a386f1b91dddbf33e15ee16f3f9e96b5cc9801", func := "postroad/postroadlaw12.QueryBy", spec := "queryBy", unfollowed := true, recurses := true, plainKeys := false, apart := false }
def QueryBySaid : Prop := queryByRow.holds Try.pinned (OpenSpec.ofChange queryBySpec)

/-- ITS FALSE NEIGHBOUR: 'it returns false'. Refute it at one input. -/
def queryByWrong : ChangeSpec := { name := "queryBy", fn := fun _ => fun
  | [d1, d2, d3, d4, d5] => { results := [.lit (.bool false)], args := [d1, d2, d3, d4, d5] }
  | _ => none }
def QueryByWrongFalsely : Prop := queryByRow.holds Try.pinned (OpenSpec.ofChange queryByWrong)

/-- 'postroadlaw12.QueryMeets': WHATEVER THE INPUT: true; the input reads as it did. -/
def queryMeetsSpec : ChangeSpec := { name := "queryMeets", fn := fun _ => fun
  | [d1, d2, d3] => { results := [.lit (.bool true)], args := [d1, d2, d3] }
  | _ => none }
def queryMeetsRow : OpenClaim := { program := "ytnonlclcjdmecaa", sum := "6fd3e578f19102d80503ee42b1a386f1b91dddbf33e15ee16f3f9e96b5cc9801", func := "postroad/postroadlaw12.QueryMeets", spec := "queryMeets", unfollowed := true, recurses := true, plainKeys := false, apart := false }
def QueryMeetsSaid : Prop := queryMeetsRow.holds Try.pinned (OpenSpec.ofChange queryMeetsSpec)

/-- ITS FALSE NEIGHBOUR: 'it returns false'. Refute it at one input. -/
def queryMeetsWrong : ChangeSpec := { name := "queryMeets", fn := fun _ => fun
  | [d1, d2, d3] => { results := [.lit (.bool false)], args := [d1, d2, d3] }
  | _ => none }
def QueryMeetsWrongFalsely : Prop := queryMeetsRow.holds Try.pinned (OpenSpec.ofChange queryMeetsWrong)

/-- 'postroadlaw12.QueryMany': WHATEVER THE INPUT: true; the input reads as it did. -/
def queryManySpec : ChangeSpec := { name := "queryMany", fn := fun _ => fun
  | [d1, d2, d3] => { results := [.lit (.bool true)], args := [d1, d2, d3] }
  | _ => none }
def queryManyRow : OpenClaim := { program := "ytnonlclcjdmecaa", sum := "6fd3e578f19102d80503ee42b1a386f1b91dddbf33e15ee16f3f9e96b5cc9801", func := "postroad/postroadlaw12.QueryMany", spec := "queryMany", unfollowed := true, recurses := true, plainKeys := false, apart := false }
def QueryManySaid : Prop := queryManyRow.holds Try.pinned (OpenSpec.ofChange queryManySpec)

/-- ITS FALSE NEIGHBOUR: 'it returns false'. Refute it at one input. -/
def queryManyWrong : ChangeSpec := { name := "queryMany", fn := fun _ => fun
  | [d1, d2, d3] => { results := [.lit (.bool false)], args := [d1, d2, d3] }
  | _ => none }
def QueryManyWrongFalsely : Prop := queryManyRow.holds Try.pinned (OpenSpec.ofChange queryManyWrong)

/-- 'postroadlaw12.QueryTables': WHATEVER THE INPUT: true; the input reads as it did. -/
def queryTablesSpec : ChangeSpec := { name := "queryTables", fn := fun _ => fun
  | [d1, d2, d3, d4] => { results := [.lit (.bool true)], args := [d1, d2, d3, d4] }
  | _ => none }
def queryTablesRow : OpenClaim := { program := "ytnonlclcjdmecaa", sum := "6fd3e578f19102d80503ee42b1a386f1b91dddbf33e15ee16f3f9e96b5cc9801", func := "postroad/postroadlaw12.QueryTables", spec := "queryTables", unfollowed := true, recurses := true, plainKeys := false, apart := false }
def QueryTablesSaid : Prop := queryTablesRow.holds Try.pinned (OpenSpec.ofChange queryTablesSpec)

/-- ITS FALSE NEIGHBOUR: 'it returns false'. Refute it at one input. -/
def queryTablesWrong : ChangeSpec := { name := "queryTables", fn := fun _ => fun
  | [d1, d2, d3, d4] => { results := [.lit (.bool false)], args := [d1, d2, d3, d4] }
  | _ => none }
def QueryTablesWrongFalsely : Prop := queryTablesRow.holds Try.pinned (OpenSpec.ofChange queryTablesWrong)

/-- 'postroadlaw12.QueryFar': WHATEVER THE INPUT: true; the input reads as it did. -/
def queryFarSpec : ChangeSpec := { name := "queryFar", fn := fun _ => fun
  | [d1, d2, d3] => { results := [.lit (.bool true)], args := [d1, d2, d3] }
  | _ => none }
def queryFarRow : OpenClaim := { program := "ytnonlclcjdmecaa", sum := "6fd3e578f19102d80503ee42b1a386f1b91dddbf33e15ee16f3f9e96b5cc9801", func := "postroad/postroadlaw12.QueryFar", spec := "queryFar", unfollowed := true, recurses := true, plainKeys := false, apart := false }
def QueryFarSaid : Prop := queryFarRow.holds Try.pinned (OpenSpec.ofChange queryFarSpec)

/-- ITS FALSE NEIGHBOUR: 'it returns false'. Refute it at one input. -/
def queryFarWrong : ChangeSpec := { name := "queryFar", fn := fun _ => fun
  | [d1, d2, d3] => { results := [.lit (.bool false)], args := [d1, d2, d3] }
  | _ => none }
def QueryFarWrongFalsely : Prop := queryFarRow.holds Try.pinned (OpenSpec.ofChange queryFarWrong)

/-- 'postroadlaw12.QuerySteps': WHATEVER THE INPUT: true; the input reads as it did. -/
def queryStepsSpec : ChangeSpec := { name := "querySteps", fn := fun _ => fun
  | [d1, d2, d3] => { results := [.lit (.bool true)], args := [d1, d2, d3] }
  | _ => none }
def queryStepsRow : OpenClaim := { program := "ytnonlclcjdmecaa", sum := "6fd3e578f19102d80503ee42b1a386f1b91dddbf33e15ee16f3f9e96b5cc9801", func := "postroad/postroadlaw12.QuerySteps", spec := "querySteps", unfollowed := true, recurses := true, plainKeys := false, apart := false }
def QueryStepsSaid : Prop := queryStepsRow.holds Try.pinned (OpenSpec.ofChange queryStepsSpec)

/-- ITS FALSE NEIGHBOUR: 'it returns false'. Refute it at one input. -/
def queryStepsWrong : ChangeSpec := { name := "querySteps", fn := fun _ => fun
  | [d1, d2, d3] => { results := [.lit (.bool false)], args := [d1, d2, d3] }
  | _ => none }
def QueryStepsWrongFalsely : Prop := queryStepsRow.holds Try.pinned (OpenSpec.ofChange queryStepsWrong)

/-- 'postroadlaw12.QueryExact': WHATEVER THE INPUT: true; the input reads as it did. -/
def queryExactSpec : ChangeSpec := { name := "queryExact", fn := fun _ => fun
  | [d1, d2, d3] => { results := [.lit (.bool true)], args := [d1, d2, d3] }
  | _ => none }
def queryExactRow : OpenClaim := { program := "ytnonlclcjdmecaa", sum := "6fd3e578f19102d80503ee42b1a386f1b91dddbf33e15ee16f3f9e96b5cc9801", func := "postroad/postroadlaw12.QueryExact", spec := "queryExact", unfollowed := true, recurses := true, plainKeys := false, apart := false }
def QueryExactSaid : Prop := queryExactRow.holds Try.pinned (OpenSpec.ofChange queryExactSpec)

/-- ITS FALSE NEIGHBOUR: 'it returns false'. Refute it at one input. -/
def queryExactWrong : ChangeSpec := { name := "queryExact", fn := fun _ => fun
  | [d1, d2, d3] => { results := [.lit (.bool false)], args := [d1, d2, d3] }
  | _ => none }
def QueryExactWrongFalsely : Prop := queryExactRow.holds Try.pinned (OpenSpec.ofChange queryExactWrong)

/-- 'postroadlaw12.QueryNone': WHATEVER THE INPUT: true; the input reads as it did. -/
def queryNoneSpec : ChangeSpec := { name := "queryNone", fn := fun _ => fun
  | [d1, d2, d3] => { results := [.lit (.bool true)], args := [d1, d2, d3] }
  | _ => none }
def queryNoneRow : OpenClaim := { program := "ytnonlclcjdmecaa", sum := "6fd3e578f19102d80503ee42b1a386f1b91dddbf33e15ee16f3f9e96b5cc9801", func := "postroad/postroadlaw12.QueryNone", spec := "queryNone", unfollowed := true, recurses := true, plainKeys := false, apart := false }
def QueryNoneSaid : Prop := queryNoneRow.holds Try.pinned (OpenSpec.ofChange queryNoneSpec)

/-- ITS FALSE NEIGHBOUR: 'it returns false'. Refute it at one input. -/
def queryNoneWrong : ChangeSpec := { name := "queryNone", fn := fun _ => fun
  | [d1, d2, d3] => { results := [.lit (.bool false)], args := [d1, d2, d3] }
  | _ => none }
def QueryNoneWrongFalsely : Prop := queryNoneRow.holds Try.pinned (OpenSpec.ofChange queryNoneWrong)

/- THE SECOND FORM. 'bulk': how many values and letters a reading holds, each counted each time it is reached (what is shared counts as often as it is met; a slice's spare places count too). A statement '..UptoSaid' is the law's where the arguments, and the package variables that the reading takes, are together of bulk at most 1048576: NARROWER than '..Said'. Prove '..Said' where nothing that the law and all that it calls make is longer than what came in: it says more and counts as full. Else prove '..UptoSaid'. A law counts once. -/
mutual
def uptoBulk {H : Type} : DataW H → Nat
  | .lit (.string bytes) => bytes.length + 1
  | .lit _ => 1
  | .nil => 1
  | .ptr d => uptoBulk d + 1
  | .slice elems spare => uptoBulkAll elems + uptoBulkAll spare + 1
  | .agg parts => uptoBulkAll parts + 1
  | .iface _ d => uptoBulk d + 1
  | .map entries => uptoBulkEntries entries + 1
  | .held _ => 1
def uptoBulkAll {H : Type} : List (DataW H) → Nat
  | [] => 0
  | d :: r => uptoBulk d + uptoBulkAll r
def uptoBulkEntries {H : Type} : List (Lit × DataW H) → Nat
  | [] => 0
  | x :: r => uptoBulkEntry x + uptoBulkEntries r
def uptoBulkEntry {H : Type} : Lit × DataW H → Nat
  | (.string bytes, d) => bytes.length + uptoBulk d + 1
  | (_, d) => uptoBulk d + 1
 end
def uptoSmall : (H : Type) → List (DataW H) → Bool := fun _ ds => decide (uptoBulkAll ds ≤ 1048576)
def OpenSpec.upto (s : _root_.Go.ChangeSpec) : _root_.Go.OpenSpec := { _root_.Go.OpenSpec.ofChange s with cond := some uptoSmall }

/-- 'postroadlaw12.QueryBy', WHERE WHAT IT READS IS OF BULK AT MOST 1048576: true; the input reads as it did. -/
def queryByUptoRow : OpenClaim := { program := "ytnonlclcjdmecaa", sum := "6fd3e578f19102d80503ee42b1a386f1b91dddbf33e15ee16f3f9e96b5cc9801", func := "postroad/postroadlaw12.QueryBy", spec := "queryBy", unfollowed := true, recurses := true, plainKeys := false, apart := false, narrowed := true }
def QueryByUptoSaid : Prop := queryByUptoRow.holds Try.pinned (OpenSpec.upto queryBySpec)

/-- 'postroadlaw12.QueryMeets', WHERE WHAT IT READS IS OF BULK AT MOST 1048576: true; the input reads as it did. -/
def queryMeetsUptoRow : OpenClaim := { program := "ytnonlclcjdmecaa", sum := "6fd3e578f19102d80503ee42b1a386f1b91dddbf33e15ee16f3f9e96b5cc9801", func := "postroad/postroadlaw12.QueryMeets", spec := "queryMeets", unfollowed := true, recurses := true, plainKeys := false, apart := false, narrowed := true }
def QueryMeetsUptoSaid : Prop := queryMeetsUptoRow.holds Try.pinned (OpenSpec.upto queryMeetsSpec)

/-- 'postroadlaw12.QueryMany', WHERE WHAT IT READS IS OF BULK AT MOST 1048576: true; the input reads as it did. -/
def queryManyUptoRow : OpenClaim := { program := "ytnonlclcjdmecaa", sum := "6fd3e578f19102d80503ee42b1a386f1b91dddbf33e15ee16f3f9e96b5cc9801", func := "postroad/postroadlaw12.QueryMany", spec := "queryMany", unfollowed := true, recurses := true, plainKeys := false, apart := false, narrowed := true }
def QueryManyUptoSaid : Prop := queryManyUptoRow.holds Try.pinned (OpenSpec.upto queryManySpec)

/-- 'postroadlaw12.QueryTables', WHERE WHAT IT READS IS OF BULK AT MOST 1048576: true; the input reads as it did. -/
def queryTablesUptoRow : OpenClaim := { program := "ytnonlclcjdmecaa", sum := "6fd3e578f19102d80503ee42b1a386f1b91dddbf33e15ee16f3f9e96b5cc9801", func := "postroad/postroadlaw12.QueryTables", spec := "queryTables", unfollowed := true, recurses := true, plainKeys := false, apart := false, narrowed := true }
def QueryTablesUptoSaid : Prop := queryTablesUptoRow.holds Try.pinned (OpenSpec.upto queryTablesSpec)

/-- 'postroadlaw12.QueryFar', WHERE WHAT IT READS IS OF BULK AT MOST 1048576: true; the input reads as it did. -/
def queryFarUptoRow : OpenClaim := { program := "ytnonlclcjdmecaa", sum := "6fd3e578f19102d80503ee42b1a386f1b91dddbf33e15ee16f3f9e96b5cc9801", func := "postroad/postroadlaw12.QueryFar", spec := "queryFar", unfollowed := true, recurses := true, plainKeys := false, apart := false, narrowed := true }
def QueryFarUptoSaid : Prop := queryFarUptoRow.holds Try.pinned (OpenSpec.upto queryFarSpec)

/-- 'postroadlaw12.QuerySteps', WHERE WHAT IT READS IS OF BULK AT MOST 1048576: true; the input reads as it did. -/
def queryStepsUptoRow : OpenClaim := { program := "ytnonlclcjdmecaa", sum := "6fd3e578f19102d80503ee42b1a386f1b91dddbf33e15ee16f3f9e96b5cc9801", func := "postroad/postroadlaw12.QuerySteps", spec := "querySteps", unfollowed := true, recurses := true, plainKeys := false, apart := false, narrowed := true }
def QueryStepsUptoSaid : Prop := queryStepsUptoRow.holds Try.pinned (OpenSpec.upto queryStepsSpec)

/-- 'postroadlaw12.QueryExact', WHERE WHAT IT READS IS OF BULK AT MOST 1048576: true; the input reads as it did. -/
def queryExactUptoRow : OpenClaim := { program := "ytnonlclcjdmecaa", sum := "6fd3e578f19102d80503ee42b1a386f1b91dddbf33e15ee16f3f9e96b5cc9801", func := "postroad/postroadlaw12.QueryExact", spec := "queryExact", unfollowed := true, recurses := true, plainKeys := false, apart := false, narrowed := true }
def QueryExactUptoSaid : Prop := queryExactUptoRow.holds Try.pinned (OpenSpec.upto queryExactSpec)

/-- 'postroadlaw12.QueryNone', WHERE WHAT IT READS IS OF BULK AT MOST 1048576: true; the input reads as it did. -/
def queryNoneUptoRow : OpenClaim := { program := "ytnonlclcjdmecaa", sum := "6fd3e578f19102d80503ee42b1a386f1b91dddbf33e15ee16f3f9e96b5cc9801", func := "postroad/postroadlaw12.QueryNone", spec := "queryNone", unfollowed := true, recurses := true, plainKeys := false, apart := false, narrowed := true }
def QueryNoneUptoSaid : Prop := queryNoneUptoRow.holds Try.pinned (OpenSpec.upto queryNoneSpec)

end Rows
end Go.Proofs.Ytnonlclcjdmecaa
