/-
  The tables that the program's package-level variables hold.
-/
import Derived.Test.YtjdlaikcdebofaaV3Y
set_option linter.unusedVariables false
namespace Go.Proofs.Ytjdlaikcdebofaa
open Go Go.V3
def tabs : Tb := []
end Go.Proofs.Ytjdlaikcdebofaa
