/- The graph's function values are known. -/
import Derived.Test.YtachbdfhbpmaeaaAllOk
import Derived.Test.YtachbdfhbpmaeaaGraphWalk
set_option maxRecDepth 100000
namespace Go.Sh
open Go.RowKit Go.Proofs

noncomputable def gCV : CVT := CVn cxAll 1
theorem gCV_cv : CVOk Try.prog gCV := CVn_ok cxAll.ok 1
set_option linter.unusedVariables false in
theorem gCV_ok : GraphCV gCV where
  c1 k a K w h := h
  c2 k a K w h := h
  c3 k a b c K w h := h
  kept k t K w h := h
end Go.Sh
