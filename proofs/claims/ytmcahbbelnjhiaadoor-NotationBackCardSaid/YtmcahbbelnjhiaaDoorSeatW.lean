/-
  The functions of the seat's laws.
-/
import Derived.Test.YtmcahbbelnjhiaaDoorNtnX
import Derived.Test.YtmcahbbelnjhiaaDoorNtnY
