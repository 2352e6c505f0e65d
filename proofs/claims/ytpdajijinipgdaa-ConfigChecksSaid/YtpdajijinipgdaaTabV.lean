/-
  The tables that the program's package-level variables hold.
-/
import Derived.Test.YtpdajijinipgdaaV3Y
set_option linter.unusedVariables false
namespace Go.Proofs.Ytpdajijinipgdaa
open Go Go.V3
def tabs : Tb := []
end Go.Proofs.Ytpdajijinipgdaa
