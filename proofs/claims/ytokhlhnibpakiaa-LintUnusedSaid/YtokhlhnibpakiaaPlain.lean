/-
  Lint: what the program's functions give and what the reference's give, in plain Lean; the laws.
-/
import Derived.Test.YtokhlhnibpakiaaAmG
import Derived.Test.YtokhlhnibpakiaaAmBits
import Derived.KernelRfl
namespace Go.Proofs.Ytokhlhnibpakiaa
open Go Go.AM
set_option maxRecDepth 100000

theorem sane_law11 : g_law11_sane = true := by kernel_rfl
theorem upS_congr2 {R S : Type} {b b' : Nat → S → (S → R) → R} {r r' : S → R} (hr : ∀ v, r v = r' v) : ∀ (m s : Nat) (v : S), (∀ c, s ≤ c → c < s + m → ∀ v k, b c v k = b' c v k) → upS b r m s v = upS b' r' m s v
  | 0, _, v, _ => hr v
  | m + 1, s, v, h => by
    simp only [upS]
    rw [h s (Nat.le_refl _) (by omega)]
    congr 1
    funext w
    exact upS_congr2 hr m (s + 1) w fun c h1 h2 => h c (by omega) (by omega)
theorem upS_out {R S : Type} {b : Nat → S → (S → R) → R} {b' : Nat → S → (S → S) → S} {r : S → R} {r' : S → S} (f : Nat → S → S) (hr : ∀ v, r' v = v) : ∀ (m s : Nat) (v : S), (∀ c, s ≤ c → c < s + m → ∀ v k, b c v k = k (f c v)) → (∀ c, s ≤ c → c < s + m → ∀ v k, b' c v k = k (f c v)) → upS b r m s v = r (upS b' r' m s v)
  | 0, _, v, _, _ => by simp only [upS, hr]
  | m + 1, s, v, h, h' => by
    simp only [upS]
    rw [h s (Nat.le_refl _) (by omega), h' s (Nat.le_refl _) (by omega)]
    exact upS_out f hr m (s + 1) _ (fun c h1 h2 => h c (by omega) (by omega)) (fun c h1 h2 => h' c (by omega) (by omega))
theorem mask_clamp (n : Int) : g_r4_Mask n = g_r4_Mask (g_addr_clamp n) := by
  unfold g_r4_Mask S_r4_Mask_0
  refine upS_congr2 (fun _ => rfl) _ _ _ fun c _ h v k => ?_
  have e : decide ((c : Int) < n) = decide ((c : Int) < g_addr_clamp n) := by
    congr 1
    apply propext
    unfold g_addr_clamp
    simp only [Bool.cond_eq_ite, decide_eq_true_eq]
    repeat' split
    all_goals omega
  rw [e]
theorem clamp_clamp (n : Int) : g_addr_clamp (g_addr_clamp n) = g_addr_clamp n := by
  have := clamp_range n
  generalize g_addr_clamp n = k at this ⊢
  unfold g_addr_clamp
  simp only [Bool.cond_eq_ite, decide_eq_true_eq]
  repeat' split
  all_goals omega
theorem masks_all : (List.range 33).all (fun k => g_addr_Mask (k : Int) == g_r4_Mask (k : Int)) = true := by kernel_rfl
theorem mask_eq (n : Int) : g_addr_Mask n = g_r4_Mask n := by
  have h1 : g_addr_Mask n = g_addr_Mask (g_addr_clamp n) := by unfold g_addr_Mask; rw [clamp_clamp]
  rw [mask_clamp, h1]
  have hr := clamp_range n
  generalize g_addr_clamp n = k at hr ⊢
  obtain ⟨m, rfl⟩ := Int.eq_ofNat_of_zero_le hr.1
  have h := List.all_eq_true.1 masks_all m (List.mem_range.2 (by omega))
  exact eq_of_beq h

/-! ### One covers another -/
theorem ixor_comm (x y : Int) : ixor .u32 x y = ixor .u32 y x := by rw [ixor_eq, ixor_eq, BitVec.xor_comm]
theorem covers_prefix (a b : PrefixRuleT) : g_policy_Covers a b = g_r8_CoversPrefix a b := by
  unfold g_policy_Covers g_r8_CoversPrefix g_addr_Covers g_r4_Covers g_addr_Contains g_r4_Contains
  simp only [mask_eq]
theorem covers_clause (a b : ClauseT) : g_lint_CoversClause a b = g_r12_CoversClause a b := rfl
theorem covers_rule (a b : RuleT) : g_acl_Covers a b = g_r8_Covers a b := by
  unfold g_acl_Covers g_r8_Covers g_acl_coversAddresses g_r8_coversAddress g_acl_coversPorts g_acl_MatchesAddress
  simp only [ixor_comm a.2.2.1 b.2.2.1, ixor_comm a.2.2.2.2.1 b.2.2.2.2.1, bne]
  generalize (a.2.1 == -1) = p
  generalize (a.2.1 == b.2.1) = q
  cases p <;> cases q <;> simp [Bool.and_assoc]
theorem slc_getD {α : Type} (l : List α) (i c : Nat) (d : α) (h : c < i) : (slcL l 0 (i : Int)).getD c d = l.getD c d := by
  simp [slcL, List.getD, List.getElem?_take, h]
theorem slc_len {α : Type} (l : List α) (i : Nat) (h : i ≤ l.length) : (slcL l 0 (i : Int)).length = i := by
  rw [len_slcL]; simp; omega
theorem by_prefix (l : List PrefixRuleT) (i : Nat) (h : i ≤ l.length) : g_lint_shadowedBy_PrefixRule2 l (i : Int) = g_r12_prefixBy l (i : Int) := by
  unfold g_lint_shadowedBy_PrefixRule2 g_slices_IndexFunc_PrefixRule S_slices_IndexFunc_PrefixRule_0 g_r12_prefixBy S_r12_prefixBy_0
  rw [slc_len l i h]
  refine upV_congr rfl _ _ fun c _ hc x => ?_
  show cond (g_policy_Covers (List.getD (slcL l 0 (i : Int)) c PrefixRuleD) (List.getD l (Int.toNat i) PrefixRuleD)) _ _ = _
  rw [slc_getD l i c _ (by omega), covers_prefix]
theorem by_clause (l : List ClauseT) (i : Nat) (h : i ≤ l.length) : g_lint_shadowedBy_Clause2 l (i : Int) = g_r12_clauseBy l (i : Int) := by
  unfold g_lint_shadowedBy_Clause2 g_slices_IndexFunc_Clause S_slices_IndexFunc_Clause_0 g_r12_clauseBy S_r12_clauseBy_0
  rw [slc_len l i h]
  refine upV_congr rfl _ _ fun c _ hc x => ?_
  show cond (g_lint_CoversClause (List.getD (slcL l 0 (i : Int)) c ClauseD) (List.getD l (Int.toNat i) ClauseD)) _ _ = _
  rw [slc_getD l i c _ (by omega), covers_clause]
theorem by_rule (l : List RuleT) (i : Nat) (h : i ≤ l.length) : g_lint_shadowedBy_Rule2 l (i : Int) = g_r12_ruleBy l (i : Int) := by
  unfold g_lint_shadowedBy_Rule2 g_slices_IndexFunc_Rule S_slices_IndexFunc_Rule_0 g_r12_ruleBy S_r12_ruleBy_0
  rw [slc_len l i h]
  refine upV_congr rfl _ _ fun c _ hc x => ?_
  show cond (g_acl_Covers (List.getD (slcL l 0 (i : Int)) c RuleD) (List.getD l (Int.toNat i) RuleD)) _ _ = _
  rw [slc_getD l i c _ (by omega), covers_rule]
theorem app_cond {S R : Type} (p : Bool) (x y : S) (k : S → R) : cond p (k x) (k y) = k (cond p x y) := by cases p <;> rfl

/-! ### The findings -/
theorem same_PrefixRule (k : Int) (n : List UInt8) (l : List PrefixRuleT) (v : List FindingT) (next : List FindingT → List FindingT) :
    upS (fun c1 (v2 : List FindingT) => fun (next1 : (List FindingT) → (List FindingT)) => cond (decide ((g_r12_prefixBy l (c1 : Int)) ≥ 0)) (next1 (v2 ++ [(k, 0, n, (c1 : Int), (g_r12_prefixBy l (c1 : Int)), ())])) (next1 v2)) (fun (v2 : List FindingT) => (next v2)) (l.length - 0) 0 v = next (g_lint_findings_PrefixRule v k n l) := by
  unfold g_lint_findings_PrefixRule S_lint_findings_PrefixRule_0
  refine upS_out (fun c v2 => cond (decide ((g_r12_prefixBy l (c : Int)) ≥ 0)) (v2 ++ [(k, 0, n, (c : Int), (g_r12_prefixBy l (c : Int)), ())]) v2) (fun v => List.take_length) _ _ _ (fun c _ _ v2 k2 => app_cond _ _ _ _) (fun c _ hc v2 k2 => ?_)
  rw [by_prefix l c (by omega)]
  exact app_cond _ _ _ _
theorem same_Clause (k : Int) (n : List UInt8) (l : List ClauseT) (v : List FindingT) (next : List FindingT → List FindingT) :
    upS (fun c1 (v2 : List FindingT) => fun (next1 : (List FindingT) → (List FindingT)) => cond (decide ((g_r12_clauseBy l (c1 : Int)) ≥ 0)) (next1 (v2 ++ [(k, 0, n, (c1 : Int), (g_r12_clauseBy l (c1 : Int)), ())])) (next1 v2)) (fun (v2 : List FindingT) => (next v2)) (l.length - 0) 0 v = next (g_lint_findings_Clause v k n l) := by
  unfold g_lint_findings_Clause S_lint_findings_Clause_0
  refine upS_out (fun c v2 => cond (decide ((g_r12_clauseBy l (c : Int)) ≥ 0)) (v2 ++ [(k, 0, n, (c : Int), (g_r12_clauseBy l (c : Int)), ())]) v2) (fun v => List.take_length) _ _ _ (fun c _ _ v2 k2 => app_cond _ _ _ _) (fun c _ hc v2 k2 => ?_)
  rw [by_clause l c (by omega)]
  exact app_cond _ _ _ _
theorem same_Rule (k : Int) (n : List UInt8) (l : List RuleT) (v : List FindingT) (next : List FindingT → List FindingT) :
    upS (fun c1 (v2 : List FindingT) => fun (next1 : (List FindingT) → (List FindingT)) => cond (decide ((g_r12_ruleBy l (c1 : Int)) ≥ 0)) (next1 (v2 ++ [(k, 0, n, (c1 : Int), (g_r12_ruleBy l (c1 : Int)), ())])) (next1 v2)) (fun (v2 : List FindingT) => (next v2)) (l.length - 0) 0 v = next (g_lint_findings_Rule v k n l) := by
  unfold g_lint_findings_Rule S_lint_findings_Rule_0
  refine upS_out (fun c v2 => cond (decide ((g_r12_ruleBy l (c : Int)) ≥ 0)) (v2 ++ [(k, 0, n, (c : Int), (g_r12_ruleBy l (c : Int)), ())]) v2) (fun v => List.take_length) _ _ _ (fun c _ _ v2 k2 => app_cond _ _ _ _) (fun c _ hc v2 k2 => ?_)
  rw [by_rule l c (by omega)]
  exact app_cond _ _ _ _
theorem shadowed_eq (r : RouterT) : g_lint_Shadowed r = g_r12_Shadowed r := by
  unfold g_lint_Shadowed g_r12_Shadowed S_lint_Shadowed_0 S_r12_Shadowed_0
  refine upS_congr2 (fun v => ?_) _ _ _ (fun c _ _ v k => (same_PrefixRule 1 _ _ v k).symm)
  unfold S_lint_Shadowed_1 S_r12_Shadowed_2
  refine upS_congr2 (fun v => ?_) _ _ _ (fun c _ _ v k => (same_Clause 2 _ _ v k).symm)
  unfold S_lint_Shadowed_2 S_r12_Shadowed_4
  exact upS_congr2 (fun v => rfl) _ _ _ (fun c _ _ v k => (same_Rule 3 _ _ v k).symm)
theorem keep_refl (l : List FindingT) : g_keep_Findings l l = true := by
  unfold g_keep_Findings S_keep_Findings_0
  rw [show ((l.length : Int) != (l.length : Int)) = false by simp]
  exact upV_all.2 fun c _ => by simp
theorem true_law11_LintShadowed (r : RouterT) (_hw : VSs.wf e_law11_LintShadowed.A (r, ())) : g_law11_LintShadowed r = true := by
  unfold g_law11_LintShadowed
  rw [shadowed_eq, keep_refl, sane_law11]
  simp
theorem concat_three (x y z : TLRedistT) : g_slices_Concat_Redist [x, y, z] = x.1 ++ (y.1 ++ z.1) := by
  simp [g_slices_Concat_Redist, S_slices_Concat_Redist_0, S_slices_Concat_Redist_1, upS, grow_nil]
theorem goL_app {R α : Type} (b : α → R → R) (r : R) : ∀ (l m : List α) (s : Nat), goL (fun x _ n => b x n) r (l ++ m) s = goL (fun x _ n => b x n) (goL (fun x _ n => b x n) r m 0) l s
  | [], m, s => by
    have h : ∀ (m : List α) (s t : Nat), goL (fun x _ n => b x n) r m s = goL (fun x _ n => b x n) r m t := fun m => by
      induction m with
      | nil => intro s t; rfl
      | cons x m ih => intro s t; simp only [goL]; rw [ih (s + 1) (t + 1)]
    exact h m s 0
  | x :: l, m, s => by
    exact congrArg (b x) (goL_app b r l m (s + 1))
theorem goL_or {α : Type} (p : α → Bool) (r : Bool) : ∀ (l : List α) (s t : Nat), goL (fun x _ n => cond (p x) true n) r l s = (goL (fun x _ n => cond (p x) true n) false l t || r)
  | [], _, _ => rfl
  | x :: l, s, t => by
    simp only [goL]
    cases p x with
    | true => rfl
    | false => exact goL_or p r l (s + 1) (t + 1)
theorem redist_eq (l : List RedistT) (s : List UInt8) : g_r12_inRedist l s = goL (fun (x : RedistT) _ n => cond (x.2.2.2.1 == s) true n) false l 0 := by
  unfold g_r12_inRedist S_r12_inRedist_0
  exact upV_list (b := fun (x : RedistT) _ n => cond (x.2.2.2.1 == s) true n) (d := RedistD) l
theorem usesMap_eq (r : RouterT) (n : List UInt8) : g_lint_usesMap r n = g_r12_usedMap r n := by
  unfold g_lint_usesMap g_r12_usedMap S_lint_usesMap_0 S_r12_usedMap_0
  refine upV_congr ?_ _ _ fun _ _ _ _ => rfl
  unfold S_lint_usesMap_1
  rw [concat_three, redist_eq, redist_eq, redist_eq]
  refine (upV_list (b := fun (x : RedistT) _ m => cond (x.2.2.2.1 == n) true m) (d := RedistD) _).trans ?_
  rw [goL_app, goL_app, goL_or _ _ _ 0 0, goL_or _ (goL _ _ _ _) _ 0 0, Bool.or_assoc]
theorem unused_eq (r : RouterT) : g_lint_Unused r = g_r12_Unused r := by
  unfold g_lint_Unused g_r12_Unused S_lint_Unused_0 S_r12_Unused_0
  refine upS_congr2 (fun v => ?_) _ _ _ (fun c _ _ v k => rfl)
  unfold S_lint_Unused_1 S_r12_Unused_1
  refine upS_congr2 (fun v => rfl) _ _ _ (fun c _ _ v k => ?_)
  rw [usesMap_eq]
theorem true_law11_LintUnused (r : RouterT) (_hw : VSs.wf e_law11_LintUnused.A (r, ())) : g_law11_LintUnused r = true := by
  unfold g_law11_LintUnused
  rw [unused_eq, keep_refl, sane_law11]
  simp
end Go.Proofs.Ytokhlhnibpakiaa
