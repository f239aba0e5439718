/-
  The contracts of the functions with loops.
-/
import Derived.Test.YthpocifmjeopiaaAmE0
import Derived.Test.YthpocifmjeopiaaAmE1
import Derived.Test.YthpocifmjeopiaaAmE2
import Derived.Test.YthpocifmjeopiaaAmE3
namespace Go.Proofs.Ythpocifmjeopiaa
open Go Go.AM
set_option maxRecDepth 100000

end Go.Proofs.Ythpocifmjeopiaa
