/-
  The tables that the program's package-level variables hold.
-/
import Derived.Test.YtnfleglhbgknmaaV3Y
set_option linter.unusedVariables false
namespace Go.Proofs.Ytnfleglhbgknmaa
open Go Go.V3
def tabs : Tb := []
end Go.Proofs.Ytnfleglhbgknmaa
