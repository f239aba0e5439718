/-
  Route policy: what the program's functions give and what the reference's give, in plain Lean; the laws.
-/
import Derived.Test.YtabhhkjjpmcodaaAmG
import Derived.Test.YtabhhkjjpmcodaaAmBits
import Derived.KernelRfl
namespace Go.Proofs.Ytabhhkjjpmcodaa
open Go Go.AM
set_option maxRecDepth 100000

theorem sane_law6 : g_law6_sane = true := by kernel_rfl
theorem upS_congr {R S : Type} {b b' : Nat → S → (S → R) → R} {r : S → R} : ∀ (m s : Nat) (v : S), (∀ c, s ≤ c → c < s + m → ∀ v k, b c v k = b' c v k) → upS b r m s v = upS b' r m s v
  | 0, _, _, _ => rfl
  | m + 1, s, v, h => by
    simp only [upS]
    rw [h s (Nat.le_refl _) (by omega)]
    congr 1
    funext w
    exact upS_congr m (s + 1) w fun c h1 h2 => h c (by omega) (by omega)
theorem mask_clamp (n : Int) : g_r4_Mask n = g_r4_Mask (g_addr_clamp n) := by
  unfold g_r4_Mask S_r4_Mask_0
  refine upS_congr _ _ _ fun c _ h v k => ?_
  have e : decide ((c : Int) < n) = decide ((c : Int) < g_addr_clamp n) := by
    congr 1
    apply propext
    unfold g_addr_clamp
    simp only [Bool.cond_eq_ite, decide_eq_true_eq]
    repeat' split
    all_goals omega
  rw [e]
theorem clamp_clamp (n : Int) : g_addr_clamp (g_addr_clamp n) = g_addr_clamp n := by
  have := clamp_range n
  generalize g_addr_clamp n = k at this ⊢
  unfold g_addr_clamp
  simp only [Bool.cond_eq_ite, decide_eq_true_eq]
  repeat' split
  all_goals omega
theorem masks_all : (List.range 33).all (fun k => g_addr_Mask (k : Int) == g_r4_Mask (k : Int)) = true := by kernel_rfl
theorem mask_eq (n : Int) : g_addr_Mask n = g_r4_Mask n := by
  have h1 : g_addr_Mask n = g_addr_Mask (g_addr_clamp n) := by unfold g_addr_Mask; rw [clamp_clamp]
  rw [mask_clamp, h1]
  have hr := clamp_range n
  generalize g_addr_clamp n = k at hr ⊢
  obtain ⟨m, rfl⟩ := Int.eq_ofNat_of_zero_le hr.1
  have h := List.all_eq_true.1 masks_all m (List.mem_range.2 (by omega))
  exact eq_of_beq h
theorem matches_eq (x : PrefixRuleT) (p : PrefixT) : g_policy_Matches x p = g_r8_MatchesPrefix x p := by
  unfold g_policy_Matches g_r8_MatchesPrefix g_addr_Covers g_r4_Covers g_addr_Contains g_r4_Contains
  simp only [mask_eq]
theorem first_eq (l : PrefixListT) (p : PrefixT) : g_policy_First l p = g_r8_FirstPrefix l p := by
  unfold g_policy_First g_r8_FirstPrefix S_policy_First_0 S_r8_FirstPrefix_0
  simp only [matches_eq]
theorem list_eq (r : RouterT) (n : List UInt8) : g_model_PrefixList r n = g_r8_PrefixList r n := rfl
theorem map_eq (r : RouterT) (n : List UInt8) : g_model_RouteMap r n = g_r8_RouteMap r n := rfl
theorem permits_eq (r : RouterT) (n : List UInt8) (p : PrefixT) : g_policy_Permits r n p = g_r8_PermitsPrefix r n p := by
  unfold g_policy_Permits g_r8_PermitsPrefix
  simp only [first_eq, list_eq]
  rfl
theorem clause_eq (r : RouterT) (n : List UInt8) (x : RouteT) : g_policy_Clause r n x = g_r8_Clause r n x := by
  unfold g_policy_Clause g_r8_Clause S_policy_Clause_0 S_r8_Clause_0
  simp only [permits_eq, map_eq]
  rfl

theorem true_law6_PolicyMatches (l : PrefixListT) (p : PrefixT) (_hw : VSs.wf e_law6_PolicyMatches.A (l, p, ())) : g_law6_PolicyMatches l p = true := by
  unfold g_law6_PolicyMatches
  cases decide ((l.2.1.length : Int) > 40) || !g_r4_Valid p with
  | true => rfl
  | false =>
    simp only [cond_false]
    unfold S_law6_PolicyMatches_0
    refine upV_ind (P := fun x : Bool => x = true) ?_ _ _ fun c _ _ x hx => ?_
    · unfold S_law6_PolicyMatches_1
      refine upV_ind (P := fun x : Bool => x = true) ?_ _ _ fun c _ _ x hx => ?_
      · simp only [first_eq, sane_law6, Bool.and_true, beq_self_eq_true]
      · simp only [matches_eq, beq_self_eq_true, Bool.not_true, cond_false, hx]
    · simp only [hx]
      cases !g_r8_ValidPrefixRule (List.getD l.2.1 c PrefixRuleD) <;> rfl
theorem true_law6_PolicyPermits (r : RouterT) (n : List UInt8) (p : PrefixT) (_hw : VSs.wf e_law6_PolicyPermits.A (r, n, p, ())) : g_law6_PolicyPermits r n p = true := by
  unfold g_law6_PolicyPermits
  cases (((!(g_law6_few r)) || (decide ((n.length : Int) > 40))) || (!(g_r4_Valid p))) with
  | true => rfl
  | false =>
    have h1 : g_policy_Permits (g_law6_part r) [] p = true := rfl
    rw [h1]
    simp only [cond_false, permits_eq, beq_self_eq_true, Bool.not_true, Bool.or_false]
    unfold S_law6_PolicyPermits_0
    refine upV_ind (P := fun x : Bool => x = true) sane_law6 _ _ fun c _ _ x hx => ?_
    simp only [permits_eq, beq_self_eq_true, Bool.not_true, cond_false, hx]
end Go.Proofs.Ytabhhkjjpmcodaa
