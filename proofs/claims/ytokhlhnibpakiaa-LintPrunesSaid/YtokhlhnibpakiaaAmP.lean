/-
  The contracts of the functions with loops.
-/
import Derived.Test.YtokhlhnibpakiaaAmE0
import Derived.Test.YtokhlhnibpakiaaAmE1
import Derived.Test.YtokhlhnibpakiaaAmE2
import Derived.Test.YtokhlhnibpakiaaAmE3
namespace Go.Proofs.Ytokhlhnibpakiaa
open Go Go.AM
set_option maxRecDepth 100000
theorem ct_slices_Clone_Interface (s : List InterfaceT) (hw : VSs.wf e_slices_Clone_Interface.A (s, ())) (hp : p_slices_Clone_Interface s = true) (Q : (List InterfaceT) × Unit → Prop) (hq : Q (e_slices_Clone_Interface.g (s, ()))) : EvF G_slices_Clone_Interface tb_slices_Clone_Interface c_slices_Clone_Interface (VSs.enc e_slices_Clone_Interface.A (s, ())) (dq e_slices_Clone_Interface.R Q) := by
  have _ := hw
  refine EvF.of (in_slices_Clone_Interface s Q) ⟨fun h => ?_, fun _ => ?_⟩
  · subst h; exact hq
  · refine vc_i (by simpa [p_slices_Clone_Interface] using hp) ?_
    have e : segL s 0 s.length = s := by simp [segL]
    rw [e]; exact hq
theorem ct_slices_Clone_Translation (s : List TranslationT) (hw : VSs.wf e_slices_Clone_Translation.A (s, ())) (hp : p_slices_Clone_Translation s = true) (Q : (List TranslationT) × Unit → Prop) (hq : Q (e_slices_Clone_Translation.g (s, ()))) : EvF G_slices_Clone_Translation tb_slices_Clone_Translation c_slices_Clone_Translation (VSs.enc e_slices_Clone_Translation.A (s, ())) (dq e_slices_Clone_Translation.R Q) := by
  have _ := hw
  refine EvF.of (in_slices_Clone_Translation s Q) ⟨fun h => ?_, fun _ => ?_⟩
  · subst h; exact hq
  · refine vc_i (by simpa [p_slices_Clone_Translation] using hp) ?_
    have e : segL s 0 s.length = s := by simp [segL]
    rw [e]; exact hq
theorem ct_slices_Clone_StaticRoute (s : List StaticRouteT) (hw : VSs.wf e_slices_Clone_StaticRoute.A (s, ())) (hp : p_slices_Clone_StaticRoute s = true) (Q : (List StaticRouteT) × Unit → Prop) (hq : Q (e_slices_Clone_StaticRoute.g (s, ()))) : EvF G_slices_Clone_StaticRoute tb_slices_Clone_StaticRoute c_slices_Clone_StaticRoute (VSs.enc e_slices_Clone_StaticRoute.A (s, ())) (dq e_slices_Clone_StaticRoute.R Q) := by
  have _ := hw
  refine EvF.of (in_slices_Clone_StaticRoute s Q) ⟨fun h => ?_, fun _ => ?_⟩
  · subst h; exact hq
  · refine vc_i (by simpa [p_slices_Clone_StaticRoute] using hp) ?_
    have e : segL s 0 s.length = s := by simp [segL]
    rw [e]; exact hq
theorem ct_slices_Clone_AreaRange (s : List AreaRangeT) (hw : VSs.wf e_slices_Clone_AreaRange.A (s, ())) (hp : p_slices_Clone_AreaRange s = true) (Q : (List AreaRangeT) × Unit → Prop) (hq : Q (e_slices_Clone_AreaRange.g (s, ()))) : EvF G_slices_Clone_AreaRange tb_slices_Clone_AreaRange c_slices_Clone_AreaRange (VSs.enc e_slices_Clone_AreaRange.A (s, ())) (dq e_slices_Clone_AreaRange.R Q) := by
  have _ := hw
  refine EvF.of (in_slices_Clone_AreaRange s Q) ⟨fun h => ?_, fun _ => ?_⟩
  · subst h; exact hq
  · refine vc_i (by simpa [p_slices_Clone_AreaRange] using hp) ?_
    have e : segL s 0 s.length = s := by simp [segL]
    rw [e]; exact hq
theorem ct_slices_Clone_Redist (s : List RedistT) (hw : VSs.wf e_slices_Clone_Redist.A (s, ())) (hp : p_slices_Clone_Redist s = true) (Q : (List RedistT) × Unit → Prop) (hq : Q (e_slices_Clone_Redist.g (s, ()))) : EvF G_slices_Clone_Redist tb_slices_Clone_Redist c_slices_Clone_Redist (VSs.enc e_slices_Clone_Redist.A (s, ())) (dq e_slices_Clone_Redist.R Q) := by
  have _ := hw
  refine EvF.of (in_slices_Clone_Redist s Q) ⟨fun h => ?_, fun _ => ?_⟩
  · subst h; exact hq
  · refine vc_i (by simpa [p_slices_Clone_Redist] using hp) ?_
    have e : segL s 0 s.length = s := by simp [segL]
    rw [e]; exact hq
theorem ct_slices_Clone_Neighbor (s : List NeighborT) (hw : VSs.wf e_slices_Clone_Neighbor.A (s, ())) (hp : p_slices_Clone_Neighbor s = true) (Q : (List NeighborT) × Unit → Prop) (hq : Q (e_slices_Clone_Neighbor.g (s, ()))) : EvF G_slices_Clone_Neighbor tb_slices_Clone_Neighbor c_slices_Clone_Neighbor (VSs.enc e_slices_Clone_Neighbor.A (s, ())) (dq e_slices_Clone_Neighbor.R Q) := by
  have _ := hw
  refine EvF.of (in_slices_Clone_Neighbor s Q) ⟨fun h => ?_, fun _ => ?_⟩
  · subst h; exact hq
  · refine vc_i (by simpa [p_slices_Clone_Neighbor] using hp) ?_
    have e : segL s 0 s.length = s := by simp [segL]
    rw [e]; exact hq
theorem ct_slices_Clone_Prefix (s : List PrefixT) (hw : VSs.wf e_slices_Clone_Prefix.A (s, ())) (hp : p_slices_Clone_Prefix s = true) (Q : (List PrefixT) × Unit → Prop) (hq : Q (e_slices_Clone_Prefix.g (s, ()))) : EvF G_slices_Clone_Prefix tb_slices_Clone_Prefix c_slices_Clone_Prefix (VSs.enc e_slices_Clone_Prefix.A (s, ())) (dq e_slices_Clone_Prefix.R Q) := by
  have _ := hw
  refine EvF.of (in_slices_Clone_Prefix s Q) ⟨fun h => ?_, fun _ => ?_⟩
  · subst h; exact hq
  · refine vc_i (by simpa [p_slices_Clone_Prefix] using hp) ?_
    have e : segL s 0 s.length = s := by simp [segL]
    rw [e]; exact hq
theorem ct_slices_Clone_Aggregate (s : List AggregateT) (hw : VSs.wf e_slices_Clone_Aggregate.A (s, ())) (hp : p_slices_Clone_Aggregate s = true) (Q : (List AggregateT) × Unit → Prop) (hq : Q (e_slices_Clone_Aggregate.g (s, ()))) : EvF G_slices_Clone_Aggregate tb_slices_Clone_Aggregate c_slices_Clone_Aggregate (VSs.enc e_slices_Clone_Aggregate.A (s, ())) (dq e_slices_Clone_Aggregate.R Q) := by
  have _ := hw
  refine EvF.of (in_slices_Clone_Aggregate s Q) ⟨fun h => ?_, fun _ => ?_⟩
  · subst h; exact hq
  · refine vc_i (by simpa [p_slices_Clone_Aggregate] using hp) ?_
    have e : segL s 0 s.length = s := by simp [segL]
    rw [e]; exact hq
theorem ct_slices_Clone_Condition (s : List ConditionT) (hw : VSs.wf e_slices_Clone_Condition.A (s, ())) (hp : p_slices_Clone_Condition s = true) (Q : (List ConditionT) × Unit → Prop) (hq : Q (e_slices_Clone_Condition.g (s, ()))) : EvF G_slices_Clone_Condition tb_slices_Clone_Condition c_slices_Clone_Condition (VSs.enc e_slices_Clone_Condition.A (s, ())) (dq e_slices_Clone_Condition.R Q) := by
  have _ := hw
  refine EvF.of (in_slices_Clone_Condition s Q) ⟨fun h => ?_, fun _ => ?_⟩
  · subst h; exact hq
  · refine vc_i (by simpa [p_slices_Clone_Condition] using hp) ?_
    have e : segL s 0 s.length = s := by simp [segL]
    rw [e]; exact hq
theorem pok_law11_sane (_hw : VSs.wf e_law11_sane.A ()) : p_law11_sane = true := by kernel_rfl
end Go.Proofs.Ytokhlhnibpakiaa
