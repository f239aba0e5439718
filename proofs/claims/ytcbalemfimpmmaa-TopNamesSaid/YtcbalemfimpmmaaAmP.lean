/-
  The contracts of the functions with loops.
-/
import Derived.Test.YtcbalemfimpmmaaAmE0
import Derived.Test.YtcbalemfimpmmaaAmE1
import Derived.Test.YtcbalemfimpmmaaAmE2
import Derived.Test.YtcbalemfimpmmaaAmE3
namespace Go.Proofs.Ytcbalemfimpmmaa
open Go Go.AM
set_option maxRecDepth 100000

end Go.Proofs.Ytcbalemfimpmmaa
