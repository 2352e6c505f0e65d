/-
  Plain laws that the seats share: valid spaces, copies, equal spaces and lists.
-/
import Derived.Test.YtgllefepfnbmkaaDoorSpG
import Derived.Test.YtgllefepfnbmkaaDoorSeatW
set_option linter.unusedVariables false
namespace Go.Proofs.YtgllefepfnbmkaaDoor
open Go Go.V3

end Go.Proofs.YtgllefepfnbmkaaDoor
