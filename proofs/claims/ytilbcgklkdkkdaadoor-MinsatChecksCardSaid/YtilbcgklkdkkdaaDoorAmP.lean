/-
  The contracts of the functions with loops.
-/
import Derived.Test.YtilbcgklkdkkdaaDoorAmE0
import Derived.Test.YtilbcgklkdkkdaaDoorAmE1
import Derived.Test.YtilbcgklkdkkdaaDoorAmE2
import Derived.Test.YtilbcgklkdkkdaaDoorAmE3
namespace Go.Proofs.YtilbcgklkdkkdaaDoor
open Go Go.AM
set_option maxRecDepth 100000
theorem ct_fn_22 (k : Nat) (s : searchT) (yes no most : Int) (hw : VSs.wf e_fn_22.A (s, yes, no, most, ())) (hp : (ek_fn_22 (k + 1)).pre (s, yes, no, most, ()) = true) (Q : Int × Bool × Unit → Prop) (hq : Q ((ek_fn_22 (k + 1)).g (s, yes, no, most, ()))) : EvF (G_fn_22 k) tb_fn_22 c_fn_22 (VSs.enc e_fn_22.A (s, yes, no, most, ())) (dq e_fn_22.R Q) := by
  have hp : pk_fn_22 (k + 1) s yes no most = true := hp
  have hq : Q (gk_fn_22 (k + 1) s yes no most) := hq
  unfold pk_fn_22 p_fn_22 at hp
  simp only [Bool.and_eq_true, decide_eq_true_eq] at hp
  obtain ⟨hp, hk⟩ := hp
  have ok := (p36.1 hp).1
  have sp := prop_spec (most := most) hp (u32_of hw.2.1) (u32_of hw.2.2.1)
  unfold gk_fn_22 at hq
  refine EvF.of (in_fn_22 k s yes no most Q) (vc_i hp ?_)
  generalize g_fn_36 s yes no most = r at sp hq ⊢
  refine cond_f (F := Q) (fun _ => id) (fun h0 hF => ?_) hq
  have F := sp.2 (by simpa using h0)
  obtain ⟨i0, h1, h32, h3, h4, h5⟩ := tz_first ok F.ok
  rw [h1, wrap_n ok] at hF ⊢
  refine cond_f (F := Q) (fun _ => id) (fun h6 hF => ?_) hF
  obtain ⟨q1, q2⟩ := find_step (k := k) ok F.toGood (i0 := i0) (by have := of_decide_eq_false h6; omega) h3 h4 (by omega)
  refine vc_i (by rw [q1]; simp) (cond_f (F := Q) (fun _ => id) (fun _ hF => vc_i (by rw [q2]; simp) hF) hF)
theorem ct_slices_Clone_int (s : List Ti64T) (hw : VOs.wf e_slices_Clone_int.A (s, ())) (hp : e_slices_Clone_int.pre (s, ()) = true) (Q : List Ti64T → Prop) (hq : Q (e_slices_Clone_int.g (s, ()))) : EvO G_slices_Clone_int tb_slices_Clone_int c_slices_Clone_int e_slices_Clone_int.A (s, ()) e_slices_Clone_int.T Q := by
  have _ := hw
  have hp : p_slices_Clone_int s = true := hp
  refine EvO.of (in_slices_Clone_int s Q) ⟨fun h => ?_, fun _ => ?_⟩
  · subst h; exact hq
  · refine vc_i (by simpa [p_slices_Clone_int] using hp) ?_
    rw [List.take_length]; exact hq
end Go.Proofs.YtilbcgklkdkkdaaDoor
