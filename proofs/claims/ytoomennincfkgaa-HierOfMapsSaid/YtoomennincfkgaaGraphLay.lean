/- The graph's sides, and which arcs count, as they are laid. -/
import Derived.Test.YtoomennincfkgaaGraphWalk
set_option maxRecDepth 100000
namespace Go.Sh
open Go.RowKit

def edgeL (arcs : List Arc) (to : Nat → Nat) (S : List Nat) : List Arc := S.map fun k => ((to k : Int), wtA arcs k, (k : Int))
theorem edgeL_len (arcs : List Arc) (to : Nat → Nat) (S : List Nat) : (edgeL arcs to S).length = S.length := by simp [edgeL]

end Go.Sh
