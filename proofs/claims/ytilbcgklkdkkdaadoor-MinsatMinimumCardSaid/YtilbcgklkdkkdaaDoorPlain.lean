/-
  Minsat: the law MinsatMinimum, in plain Lean.
-/
import Derived.Test.YtilbcgklkdkkdaaDoorPlainB
namespace Go.Proofs.YtilbcgklkdkkdaaDoor
open Go Go.AM
set_option maxRecDepth 100000
theorem min_one (n : Int) (cs : List ConstraintT) : cond ((g_r42_Check n cs) != 0) (((g_minsat_Minimum n cs).2.1 == (g_r42_Check n cs)) && (((g_minsat_Minimum n cs).1.length : Int) == 0)) (cond (!(g_r42_Best n cs).2.1) (((g_minsat_Minimum n cs).2.1 == 8) && (((g_minsat_Minimum n cs).1.length : Int) == 0)) (((g_minsat_Minimum n cs).2.1 == 0) && (g_keep_Ints (g_minsat_Minimum n cs).1 (g_r42_Best n cs).1))) = true := by
  cases hc : (g_r42_Check n cs) != 0 with
  | true =>
    rw [cond_true, check_eq]
    rw [check_eq] at hc
    unfold g_minsat_Minimum
    rw [hc, cond_true]
    simp
  | false =>
    have h := rchk hc
    rw [cond_false]
    rcases best_spec h with ⟨h1, h2⟩ | ⟨r, h1, h2⟩
    · rcases min_spec h with ⟨_, h3⟩ | ⟨q, h3, _⟩
      · rw [h2, h3]; rfl
      · exact (h1 _ h3.low h3.sat).elim
    · rcases min_spec h with ⟨h3, _⟩ | ⟨q, h3, h4⟩
      · exact (h3 _ h1.low h1.sat).elim
      · rw [h2, h4, lst_congr (X := bt q) (Y := bt r) fun i _ => least_unique h3 h1 i]
        show (((0 : Int) == 0) && g_keep_Ints (lst (bt r) n.toNat) (lst (bt r) n.toNat)) = true
        rw [ints_self]; rfl
theorem true_law43_MinsatMinimum (n : Int) (cs : List ConstraintT) (near : Bool) (_hw : VSs.wf e_law43_MinsatMinimum.A (n, cs, near, ())) : g_law43_MinsatMinimum n cs near = true := by
  unfold g_law43_MinsatMinimum
  rw [awake_true, Bool.not_true, cond_false, min_one, min_one]
  cases g_law43_small n cs <;> cases near && decide (n ≥ 1) <;> rfl
end Go.Proofs.YtilbcgklkdkkdaaDoor
