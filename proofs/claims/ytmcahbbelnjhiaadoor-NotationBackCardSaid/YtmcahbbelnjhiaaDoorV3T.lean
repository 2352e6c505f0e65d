/-
  Part T: words for what is printed.
-/
import Derived.Test.YtmcahbbelnjhiaaDoorV3S
set_option linter.unusedVariables false
namespace Go.V3
open Go
def w64 (e : Int) : Int := IntKind.wrap .i64 e
/-- An element of a list, as it is printed. -/
def gl {α : Type} (d : α) (xs : List α) (k : Nat) : α := xs.getD k d
end Go.V3
