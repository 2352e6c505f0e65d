/-
  The tables that the program's package-level variables hold.
-/
import Derived.Test.YtgegpaefamemlaaV3Y
set_option linter.unusedVariables false
namespace Go.Proofs.Ytgegpaefamemlaa
open Go Go.V3
def tabs : Tb := []
end Go.Proofs.Ytgegpaefamemlaa
