/- dist's function values are known. -/
import Derived.Test.YtachbdfhbpmaeaaGraphCV
import Derived.Test.YtachbdfhbpmaeaaDistApi
set_option maxRecDepth 100000
namespace Go.Sh
open Go.RowKit Go.Proofs

set_option linter.unusedVariables false in
theorem dCV_ok : DistCV gCV where
  g := gCV_ok
  out p v K w h := h
  inn p v K w h := h
end Go.Sh
