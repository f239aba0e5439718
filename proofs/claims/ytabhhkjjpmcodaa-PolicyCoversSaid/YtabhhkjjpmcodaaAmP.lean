/-
  The contracts of the functions with loops.
-/
import Derived.Test.YtabhhkjjpmcodaaAmE0
import Derived.Test.YtabhhkjjpmcodaaAmE1
import Derived.Test.YtabhhkjjpmcodaaAmE2
import Derived.Test.YtabhhkjjpmcodaaAmE3
namespace Go.Proofs.Ytabhhkjjpmcodaa
open Go Go.AM
set_option maxRecDepth 100000
theorem ct_slices_Clone_int (s : List Ti64T) (hw : VSs.wf e_slices_Clone_int.A (s, ())) (hp : p_slices_Clone_int s = true) (Q : (List Ti64T) × Unit → Prop) (hq : Q (e_slices_Clone_int.g (s, ()))) : EvF G_slices_Clone_int tb_slices_Clone_int c_slices_Clone_int (VSs.enc e_slices_Clone_int.A (s, ())) (dq e_slices_Clone_int.R Q) := by
  have _ := hw
  refine EvF.of (in_slices_Clone_int s Q) ⟨fun h => ?_, fun _ => ?_⟩
  · subst h; exact hq
  · refine vc_i (by simpa [p_slices_Clone_int] using hp) ?_
    have e : segL s 0 s.length = s := by simp [segL]
    rw [e]; exact hq
theorem ct_slices_Clone_Hop (s : List HopT) (hw : VSs.wf e_slices_Clone_Hop.A (s, ())) (hp : p_slices_Clone_Hop s = true) (Q : (List HopT) × Unit → Prop) (hq : Q (e_slices_Clone_Hop.g (s, ()))) : EvF G_slices_Clone_Hop tb_slices_Clone_Hop c_slices_Clone_Hop (VSs.enc e_slices_Clone_Hop.A (s, ())) (dq e_slices_Clone_Hop.R Q) := by
  have _ := hw
  refine EvF.of (in_slices_Clone_Hop s Q) ⟨fun h => ?_, fun _ => ?_⟩
  · subst h; exact hq
  · refine vc_i (by simpa [p_slices_Clone_Hop] using hp) ?_
    have e : segL s 0 s.length = s := by simp [segL]
    rw [e]; exact hq
theorem pok_law6_sane (_hw : VSs.wf e_law6_sane.A ()) : p_law6_sane = true := by kernel_rfl
end Go.Proofs.Ytabhhkjjpmcodaa
