/-
  Names: the law, in plain Lean.
-/
import Derived.Test.YtcbalemfimpmmaaAmG
import Derived.KernelRfl
namespace Go.Proofs.Ytcbalemfimpmmaa
open Go Go.AM
set_option maxRecDepth 100000

theorem true_top_TopNames (_hw : VSs.wf e_top_TopNames.A ()) : g_top_TopNames = true := by kernel_rfl
end Go.Proofs.Ytcbalemfimpmmaa
