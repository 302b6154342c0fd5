/-
  No cell of these rows narrows 'for every input' (looked for: loops, veiled, ifaces, maps, wideKeys, modest, calm, conditions, laid).
  DERIVED. THE GIVEN ROWS OF THIS SEAT. 7 by the template 'for every input the law returns true; each argument reads behind the call as it read before'; 0 by the template 'total and deterministic' (their statements: YtagidkbhehpeoaaTotals.lean).
  GIVEN WITH THE SEED: the statements are not yours to turn. If you find one false, say at which input.
  Laid BY PROGRAM, IN A SANDBOX (cutbox-rows.mjs): the forced cells as the released guide's own fill.sh prints them over the translation 856b0f37ba5285c6… (all of the seat's roots in one cut). By AI agents, Wed Nov 11 2026. No macro, syntax, notation, axiom, sorry.
-/
import Derived.Test.YtagidkbhehpeoaaChecked
import GoSem.Claim
import GoSem.ClaimJoined
import GoSem.ClaimMapViews
import Derived.JoinedTies
import Derived.KernelRfl
namespace Go.Proofs.Ytagidkbhehpeoaa
/- THE CELL 'sum', in the pinned program and in every row, IS THE sha256 OF THE DUMP (.gsa) THAT YtagidkbhehpeoaaProg.lean LOADS. Nothing in Lean hashes anything: it is a label: what it is worth is what the hold of that sum in a sandbox is worth. -/
noncomputable def Try.pinned : Pinned := { name := "ytagidkbhehpeoaa", sum := "856b0f37ba5285c6da1d13f42734a67577c6785488fd2e116f926b8fe174b45a", checked := Try.checked }
namespace Rows
def none {H : Type} : Left H := { results := [], args := [] }

/-- 'postroadlaw13.UnpackOpens': WHATEVER THE INPUT: true; the input reads as it did. -/
def unpackOpensSpec : ChangeSpec := { name := "unpackOpens", fn := fun _ => fun
  | [d] => { results := [.lit (.bool true)], args := [d] }
  | _ => none }
def unpackOpensRow : OpenClaim := { program := "ytagidkbhehpeoaa", sum := "856b0f37ba5285c6da1d13f42734a67577c6785488fd2e116f926b8fe174b45a", func := "postroad/postroadlaw13.UnpackOpens", spec := "unpackOpens", recurses := true, plainKeys := false, apart := false }
def UnpackOpensSaid : Prop := unpackOpensRow.holds Try.pinned (OpenSpec.ofChange unpackOpensSpec)

/-- ITS FALSE NEIGHBOUR: 'it returns false'. Refute it at one input. -/
def unpackOpensWrong : ChangeSpec := { name := "unpackOpens", fn := fun _ => fun
  | [d] => { results := [.lit (.bool false)], args := [d] }
  | _ => none }
def UnpackOpensWrongFalsely : Prop := unpackOpensRow.holds Try.pinned (OpenSpec.ofChange unpackOpensWrong)

/-- 'postroadlaw13.UnpackWays': WHATEVER THE INPUT: true; the input reads as it did. -/
def unpackWaysSpec : ChangeSpec := { name := "unpackWays", fn := fun _ => fun
  | [d1, d2] => { results := [.lit (.bool true)], args := [d1, d2] }
  | _ => none }
def unpackWaysRow : OpenClaim := { program := "ytagidkbhehpeoaa", sum := "856b0f37ba5285c6da1d13f42734a67577c6785488fd2e116f926b8fe174b45a", func := "postroad/postroadlaw13.UnpackWays", spec := "unpackWays", recurses := true, plainKeys := false, apart := false }
def UnpackWaysSaid : Prop := unpackWaysRow.holds Try.pinned (OpenSpec.ofChange unpackWaysSpec)

/-- ITS FALSE NEIGHBOUR: 'it returns false'. Refute it at one input. -/
def unpackWaysWrong : ChangeSpec := { name := "unpackWays", fn := fun _ => fun
  | [d1, d2] => { results := [.lit (.bool false)], args := [d1, d2] }
  | _ => none }
def UnpackWaysWrongFalsely : Prop := unpackWaysRow.holds Try.pinned (OpenSpec.ofChange unpackWaysWrong)

/-- 'postroadlaw13.UnpackHalves': WHATEVER THE INPUT: true; the input reads as it did. -/
def unpackHalvesSpec : ChangeSpec := { name := "unpackHalves", fn := fun _ => fun
  | [d] => { results := [.lit (.bool true)], args := [d] }
  | _ => none }
def unpackHalvesRow : OpenClaim := { program := "ytagidkbhehpeoaa", sum := "856b0f37ba5285c6da1d13f42734a67577c6785488fd2e116f926b8fe174b45a", func := "postroad/postroadlaw13.UnpackHalves", spec := "unpackHalves", recurses := true, plainKeys := false, apart := false }
def UnpackHalvesSaid : Prop := unpackHalvesRow.holds Try.pinned (OpenSpec.ofChange unpackHalvesSpec)

/-- ITS FALSE NEIGHBOUR: 'it returns false'. Refute it at one input. -/
def unpackHalvesWrong : ChangeSpec := { name := "unpackHalves", fn := fun _ => fun
  | [d] => { results := [.lit (.bool false)], args := [d] }
  | _ => none }
def UnpackHalvesWrongFalsely : Prop := unpackHalvesRow.holds Try.pinned (OpenSpec.ofChange unpackHalvesWrong)

/-- 'postroadlaw13.UnpackSelf': WHATEVER THE INPUT: true; the input reads as it did. -/
def unpackSelfSpec : ChangeSpec := { name := "unpackSelf", fn := fun _ => fun
  | [d1, d2, d3] => { results := [.lit (.bool true)], args := [d1, d2, d3] }
  | _ => none }
def unpackSelfRow : OpenClaim := { program := "ytagidkbhehpeoaa", sum := "856b0f37ba5285c6da1d13f42734a67577c6785488fd2e116f926b8fe174b45a", func := "postroad/postroadlaw13.UnpackSelf", spec := "unpackSelf", unfollowed := true, recurses := true, plainKeys := false, apart := false }
def UnpackSelfSaid : Prop := unpackSelfRow.holds Try.pinned (OpenSpec.ofChange unpackSelfSpec)

/-- ITS FALSE NEIGHBOUR: 'it returns false'. Refute it at one input. -/
def unpackSelfWrong : ChangeSpec := { name := "unpackSelf", fn := fun _ => fun
  | [d1, d2, d3] => { results := [.lit (.bool false)], args := [d1, d2, d3] }
  | _ => none }
def UnpackSelfWrongFalsely : Prop := unpackSelfRow.holds Try.pinned (OpenSpec.ofChange unpackSelfWrong)

/-- 'postroadlaw13.UnpackRoutes': WHATEVER THE INPUT: true; the input reads as it did. -/
def unpackRoutesSpec : ChangeSpec := { name := "unpackRoutes", fn := fun _ => fun
  | [d1, d2, d3] => { results := [.lit (.bool true)], args := [d1, d2, d3] }
  | _ => none }
def unpackRoutesRow : OpenClaim := { program := "ytagidkbhehpeoaa", sum := "856b0f37ba5285c6da1d13f42734a67577c6785488fd2e116f926b8fe174b45a", func := "postroad/postroadlaw13.UnpackRoutes", spec := "unpackRoutes", unfollowed := true, recurses := true, plainKeys := false, apart := false }
def UnpackRoutesSaid : Prop := unpackRoutesRow.holds Try.pinned (OpenSpec.ofChange unpackRoutesSpec)

/-- ITS FALSE NEIGHBOUR: 'it returns false'. Refute it at one input. -/
def unpackRoutesWrong : ChangeSpec := { name := "unpackRoutes", fn := fun _ => fun
  | [d1, d2, d3] => { results := [.lit (.bool false)], args := [d1, d2, d3] }
  | _ => none }
def UnpackRoutesWrongFalsely : Prop := unpackRoutesRow.holds Try.pinned (OpenSpec.ofChange unpackRoutesWrong)

/-- 'postroadlaw13.UnpackWalks': WHATEVER THE INPUT: true; the input reads as it did. -/
def unpackWalksSpec : ChangeSpec := { name := "unpackWalks", fn := fun _ => fun
  | [d1, d2, d3] => { results := [.lit (.bool true)], args := [d1, d2, d3] }
  | _ => none }
def unpackWalksRow : OpenClaim := { program := "ytagidkbhehpeoaa", sum := "856b0f37ba5285c6da1d13f42734a67577c6785488fd2e116f926b8fe174b45a", func := "postroad/postroadlaw13.UnpackWalks", spec := "unpackWalks", unfollowed := true, recurses := true, plainKeys := false, apart := false }
def UnpackWalksSaid : Prop := unpackWalksRow.holds Try.pinned (OpenSpec.ofChange unpackWalksSpec)

/-- ITS FALSE NEIGHBOUR: 'it returns false'. Refute it at one input. -/
def unpackWalksWrong : ChangeSpec := { name := "unpackWalks", fn := fun _ => fun
  | [d1, d2, d3] => { results := [.lit (.bool false)], args := [d1, d2, d3] }
  | _ => none }
def UnpackWalksWrongFalsely : Prop := unpackWalksRow.holds Try.pinned (OpenSpec.ofChange unpackWalksWrong)

/-- 'postroadlaw13.UnpackMeets': WHATEVER THE INPUT: true; the input reads as it did. -/
def unpackMeetsSpec : ChangeSpec := { name := "unpackMeets", fn := fun _ => fun
  | [d1, d2, d3] => { results := [.lit (.bool true)], args := [d1, d2, d3] }
  | _ => none }
def unpackMeetsRow : OpenClaim := { program := "ytagidkbhehpeoaa", sum := "856b0f37ba5285c6da1d13f42734a67577c6785488fd2e116f926b8fe174b45a", func := "postroad/postroadlaw13.UnpackMeets", spec := "unpackMeets", unfollowed := true, recurses := true, plainKeys := false, apart := false }
def UnpackMeetsSaid : Prop := unpackMeetsRow.holds Try.pinned (OpenSpec.ofChange unpackMeetsSpec)

/-- ITS FALSE NEIGHBOUR: 'it returns false'. Refute it at one input. -/
def unpackMeetsWrong : ChangeSpec := { name := "unpackMeets", fn := fun _ => fun
  | [d1, d2, d3] => { results := [.lit (.bool false)], args := [d1, d2, d3] }
  | _ => none }
def UnpackMeetsWrongFalsely : Prop := unpackMeetsRow.holds Try.pinned (OpenSpec.ofChange unpackMeetsWrong)

/- THE SECOND FORM. 'bulk': how many values and letters a reading holds, each counted each time it is reached (what is shared counts as often as it is met; a slice's spare places count too). A statement '..UptoSaid' is the law's where the arguments, and the package variables that the reading takes, are together of bulk at most 1048576: NARROWER than '..Said'. Prove '..Said' where nothing that the law and all that it calls make is longer than what came in: it says more and counts as full. Else prove '..UptoSaid'. A law counts once. -/
mutual
def uptoBulk {H : Type} : DataW H → Nat
  | .lit (.string bytes) => bytes.length + 1
  | .lit _ => 1
  | .nil => 1
  | .ptr d => uptoBulk d + 1
  | .slice elems spare => uptoBulkAll elems + uptoBulkAll spare + 1
  | .agg parts => uptoBulkAll parts + 1
  | .iface _ d => uptoBulk d + 1
  | .map entries => uptoBulkEntries entries + 1
  | .held _ => 1
def uptoBulkAll {H : Type} : List (DataW H) → Nat
  | [] => 0
  | d :: r => uptoBulk d + uptoBulkAll r
def uptoBulkEntries {H : Type} : List (Lit × DataW H) → Nat
  | [] => 0
  | x :: r => uptoBulkEntry x + uptoBulkEntries r
def uptoBulkEntry {H : Type} : Lit × DataW H → Nat
  | (.string bytes, d) => bytes.length + uptoBulk d + 1
  | (_, d) => uptoBulk d + 1
 end
def uptoSmall : (H : Type) → List (DataW H) → Bool := fun _ ds => decide (uptoBulkAll ds ≤ 1048576)
def OpenSpec.upto (s : _root_.Go.ChangeSpec) : _root_.Go.OpenSpec := { _root_.Go.OpenSpec.ofChange s with cond := some uptoSmall }

/-- 'postroadlaw13.UnpackOpens', WHERE WHAT IT READS IS OF BULK AT MOST 1048576: true; the input reads as it did. -/
def unpackOpensUptoRow : OpenClaim := { program := "ytagidkbhehpeoaa", sum := "856b0f37ba5285c6da1d13f42734a67577c6785488fd2e116f926b8fe174b45a", func := "postroad/postroadlaw13.UnpackOpens", spec := "unpackOpens", recurses := true, plainKeys := false, apart := false, narrowed := true }
def UnpackOpensUptoSaid : Prop := unpackOpensUptoRow.holds Try.pinned (OpenSpec.upto unpackOpensSpec)

/-- 'postroadlaw13.UnpackWays', WHERE WHAT IT READS IS OF BULK AT MOST 1048576: true; the input reads as it did. -/
def unpackWaysUptoRow : OpenClaim := { program := "ytagidkbhehpeoaa", sum := "856b0f37ba5285c6da1d13f42734a67577c6785488fd2e116f926b8fe174b45a", func := "postroad/postroadlaw13.UnpackWays", spec := "unpackWays", recurses := true, plainKeys := false, apart := false, narrowed := true }
def UnpackWaysUptoSaid : Prop := unpackWaysUptoRow.holds Try.pinned (OpenSpec.upto unpackWaysSpec)

/-- 'postroadlaw13.UnpackHalves', WHERE WHAT IT READS IS OF BULK AT MOST 1048576: true; the input reads as it did. -/
def unpackHalvesUptoRow : OpenClaim := { program := "ytagidkbhehpeoaa", sum := "856b0f37ba5285c6da1d13f42734a67577c6785488fd2e116f926b8fe174b45a", func := "postroad/postroadlaw13.UnpackHalves", spec := "unpackHalves", recurses := true, plainKeys := false, apart := false, narrowed := true }
def UnpackHalvesUptoSaid : Prop := unpackHalvesUptoRow.holds Try.pinned (OpenSpec.upto unpackHalvesSpec)

/-- 'postroadlaw13.UnpackSelf', WHERE WHAT IT READS IS OF BULK AT MOST 1048576: true; the input reads as it did. -/
def unpackSelfUptoRow : OpenClaim := { program := "ytagidkbhehpeoaa", sum := "856b0f37ba5285c6da1d13f42734a67577c6785488fd2e116f926b8fe174b45a", func := "postroad/postroadlaw13.UnpackSelf", spec := "unpackSelf", unfollowed := true, recurses := true, plainKeys := false, apart := false, narrowed := true }
def UnpackSelfUptoSaid : Prop := unpackSelfUptoRow.holds Try.pinned (OpenSpec.upto unpackSelfSpec)

/-- 'postroadlaw13.UnpackRoutes', WHERE WHAT IT READS IS OF BULK AT MOST 1048576: true; the input reads as it did. -/
def unpackRoutesUptoRow : OpenClaim := { program := "ytagidkbhehpeoaa", sum := "856b0f37ba5285c6da1d13f42734a67577c6785488fd2e116f926b8fe174b45a", func := "postroad/postroadlaw13.UnpackRoutes", spec := "unpackRoutes", unfollowed := true, recurses := true, plainKeys := false, apart := false, narrowed := true }
def UnpackRoutesUptoSaid : Prop := unpackRoutesUptoRow.holds Try.pinned (OpenSpec.upto unpackRoutesSpec)

/-- 'postroadlaw13.UnpackWalks', WHERE WHAT IT READS IS OF BULK AT MOST 1048576: true; the input reads as it did. -/
def unpackWalksUptoRow : OpenClaim := { program := "ytagidkbhehpeoaa", sum := "856b0f37ba5285c6da1d13f42734a67577c6785488fd2e116f926b8fe174b45a", func := "postroad/postroadlaw13.UnpackWalks", spec := "unpackWalks", unfollowed := true, recurses := true, plainKeys := false, apart := false, narrowed := true }
def UnpackWalksUptoSaid : Prop := unpackWalksUptoRow.holds Try.pinned (OpenSpec.upto unpackWalksSpec)

/-- 'postroadlaw13.UnpackMeets', WHERE WHAT IT READS IS OF BULK AT MOST 1048576: true; the input reads as it did. -/
def unpackMeetsUptoRow : OpenClaim := { program := "ytagidkbhehpeoaa", sum := "856b0f37ba5285c6da1d13f42734a67577c6785488fd2e116f926b8fe174b45a", func := "postroad/postroadlaw13.UnpackMeets", spec := "unpackMeets", unfollowed := true, recurses := true, plainKeys := false, apart := false, narrowed := true }
def UnpackMeetsUptoSaid : Prop := unpackMeetsUptoRow.holds Try.pinned (OpenSpec.upto unpackMeetsSpec)

end Rows
end Go.Proofs.Ytagidkbhehpeoaa
