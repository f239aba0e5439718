/-
  Lint: the pruned router, in plain Lean; the law LintPrunes.
-/
import Derived.Test.YtokhlhnibpakiaaAmG
import Derived.Test.YtokhlhnibpakiaaAmBits
import Derived.KernelRfl
namespace Go.Proofs.Ytokhlhnibpakiaa
open Go Go.AM
set_option maxRecDepth 100000

theorem sane_law11 : g_law11_sane = true := by kernel_rfl
theorem upS_congr2 {R S : Type} {b b' : Nat → S → (S → R) → R} {r r' : S → R} (hr : ∀ v, r v = r' v) : ∀ (m s : Nat) (v : S), (∀ c, s ≤ c → c < s + m → ∀ v k, b c v k = b' c v k) → upS b r m s v = upS b' r' m s v
  | 0, _, v, _ => hr v
  | m + 1, s, v, h => by
    simp only [upS]
    rw [h s (Nat.le_refl _) (by omega)]
    congr 1
    funext w
    exact upS_congr2 hr m (s + 1) w fun c h1 h2 => h c (by omega) (by omega)
theorem upS_out {R S : Type} {b : Nat → S → (S → R) → R} {b' : Nat → S → (S → S) → S} {r : S → R} {r' : S → S} (f : Nat → S → S) (hr : ∀ v, r' v = v) : ∀ (m s : Nat) (v : S), (∀ c, s ≤ c → c < s + m → ∀ v k, b c v k = k (f c v)) → (∀ c, s ≤ c → c < s + m → ∀ v k, b' c v k = k (f c v)) → upS b r m s v = r (upS b' r' m s v)
  | 0, _, v, _, _ => by simp only [upS, hr]
  | m + 1, s, v, h, h' => by
    simp only [upS]
    rw [h s (Nat.le_refl _) (by omega), h' s (Nat.le_refl _) (by omega)]
    exact upS_out f hr m (s + 1) _ (fun c h1 h2 => h c (by omega) (by omega)) (fun c h1 h2 => h' c (by omega) (by omega))
theorem mask_clamp (n : Int) : g_r4_Mask n = g_r4_Mask (g_addr_clamp n) := by
  unfold g_r4_Mask S_r4_Mask_0
  refine upS_congr2 (fun _ => rfl) _ _ _ fun c _ h v k => ?_
  have e : decide ((c : Int) < n) = decide ((c : Int) < g_addr_clamp n) := by
    congr 1
    apply propext
    unfold g_addr_clamp
    simp only [Bool.cond_eq_ite, decide_eq_true_eq]
    repeat' split
    all_goals omega
  rw [e]
theorem clamp_clamp (n : Int) : g_addr_clamp (g_addr_clamp n) = g_addr_clamp n := by
  have := clamp_range n
  generalize g_addr_clamp n = k at this ⊢
  unfold g_addr_clamp
  simp only [Bool.cond_eq_ite, decide_eq_true_eq]
  repeat' split
  all_goals omega
theorem masks_all : (List.range 33).all (fun k => g_addr_Mask (k : Int) == g_r4_Mask (k : Int)) = true := by kernel_rfl
theorem mask_eq (n : Int) : g_addr_Mask n = g_r4_Mask n := by
  have h1 : g_addr_Mask n = g_addr_Mask (g_addr_clamp n) := by unfold g_addr_Mask; rw [clamp_clamp]
  rw [mask_clamp, h1]
  have hr := clamp_range n
  generalize g_addr_clamp n = k at hr ⊢
  obtain ⟨m, rfl⟩ := Int.eq_ofNat_of_zero_le hr.1
  have h := List.all_eq_true.1 masks_all m (List.mem_range.2 (by omega))
  exact eq_of_beq h

/-! ### One covers another -/
theorem ixor_comm (x y : Int) : ixor .u32 x y = ixor .u32 y x := by rw [ixor_eq, ixor_eq, BitVec.xor_comm]
theorem covers_prefix (a b : PrefixRuleT) : g_policy_Covers a b = g_r8_CoversPrefix a b := by
  unfold g_policy_Covers g_r8_CoversPrefix g_addr_Covers g_r4_Covers g_addr_Contains g_r4_Contains
  simp only [mask_eq]
theorem covers_clause (a b : ClauseT) : g_lint_CoversClause a b = g_r12_CoversClause a b := rfl
theorem covers_rule (a b : RuleT) : g_acl_Covers a b = g_r8_Covers a b := by
  unfold g_acl_Covers g_r8_Covers g_acl_coversAddresses g_r8_coversAddress g_acl_coversPorts g_acl_MatchesAddress
  simp only [ixor_comm a.2.2.1 b.2.2.1, ixor_comm a.2.2.2.2.1 b.2.2.2.2.1, bne]
  generalize (a.2.1 == -1) = p
  generalize (a.2.1 == b.2.1) = q
  cases p <;> cases q <;> simp [Bool.and_assoc]
theorem slc_getD {α : Type} (l : List α) (i c : Nat) (d : α) (h : c < i) : (slcL l 0 (i : Int)).getD c d = l.getD c d := by
  simp [slcL, List.getD, List.getElem?_take, h]
theorem slc_len {α : Type} (l : List α) (i : Nat) (h : i ≤ l.length) : (slcL l 0 (i : Int)).length = i := by
  rw [len_slcL]; simp; omega
theorem by_prefix (l : List PrefixRuleT) (i : Nat) (h : i ≤ l.length) : g_lint_shadowedBy_PrefixRule2 l (i : Int) = g_r12_prefixBy l (i : Int) := by
  unfold g_lint_shadowedBy_PrefixRule2 g_slices_IndexFunc_PrefixRule S_slices_IndexFunc_PrefixRule_0 g_r12_prefixBy S_r12_prefixBy_0
  rw [slc_len l i h]
  refine upV_congr rfl _ _ fun c _ hc x => ?_
  show cond (g_policy_Covers (List.getD (slcL l 0 (i : Int)) c PrefixRuleD) (List.getD l (Int.toNat i) PrefixRuleD)) _ _ = _
  rw [slc_getD l i c _ (by omega), covers_prefix]
theorem by_clause (l : List ClauseT) (i : Nat) (h : i ≤ l.length) : g_lint_shadowedBy_Clause2 l (i : Int) = g_r12_clauseBy l (i : Int) := by
  unfold g_lint_shadowedBy_Clause2 g_slices_IndexFunc_Clause S_slices_IndexFunc_Clause_0 g_r12_clauseBy S_r12_clauseBy_0
  rw [slc_len l i h]
  refine upV_congr rfl _ _ fun c _ hc x => ?_
  show cond (g_lint_CoversClause (List.getD (slcL l 0 (i : Int)) c ClauseD) (List.getD l (Int.toNat i) ClauseD)) _ _ = _
  rw [slc_getD l i c _ (by omega), covers_clause]
theorem by_rule (l : List RuleT) (i : Nat) (h : i ≤ l.length) : g_lint_shadowedBy_Rule2 l (i : Int) = g_r12_ruleBy l (i : Int) := by
  unfold g_lint_shadowedBy_Rule2 g_slices_IndexFunc_Rule S_slices_IndexFunc_Rule_0 g_r12_ruleBy S_r12_ruleBy_0
  rw [slc_len l i h]
  refine upV_congr rfl _ _ fun c _ hc x => ?_
  show cond (g_acl_Covers (List.getD (slcL l 0 (i : Int)) c RuleD) (List.getD l (Int.toNat i) RuleD)) _ _ = _
  rw [slc_getD l i c _ (by omega), covers_rule]
theorem app_cond {S R : Type} (p : Bool) (x y : S) (k : S → R) : cond p (k x) (k y) = k (cond p x y) := by cases p <;> rfl

theorem concat_three (x y z : TLRedistT) : g_slices_Concat_Redist [x, y, z] = x.1 ++ (y.1 ++ z.1) := by
  simp [g_slices_Concat_Redist, S_slices_Concat_Redist_0, S_slices_Concat_Redist_1, upS, grow_nil]
theorem goL_app {R α : Type} (b : α → R → R) (r : R) : ∀ (l m : List α) (s : Nat), goL (fun x _ n => b x n) r (l ++ m) s = goL (fun x _ n => b x n) (goL (fun x _ n => b x n) r m 0) l s
  | [], m, s => by
    have h : ∀ (m : List α) (s t : Nat), goL (fun x _ n => b x n) r m s = goL (fun x _ n => b x n) r m t := fun m => by
      induction m with
      | nil => intro s t; rfl
      | cons x m ih => intro s t; simp only [goL]; rw [ih (s + 1) (t + 1)]
    exact h m s 0
  | x :: l, m, s => by
    exact congrArg (b x) (goL_app b r l m (s + 1))
theorem goL_or {α : Type} (p : α → Bool) (r : Bool) : ∀ (l : List α) (s t : Nat), goL (fun x _ n => cond (p x) true n) r l s = (goL (fun x _ n => cond (p x) true n) false l t || r)
  | [], _, _ => rfl
  | x :: l, s, t => by
    simp only [goL]
    cases p x with
    | true => rfl
    | false => exact goL_or p r l (s + 1) (t + 1)
theorem redist_eq (l : List RedistT) (s : List UInt8) : g_r12_inRedist l s = goL (fun (x : RedistT) _ n => cond (x.2.2.2.1 == s) true n) false l 0 := by
  unfold g_r12_inRedist S_r12_inRedist_0
  exact upV_list (b := fun (x : RedistT) _ n => cond (x.2.2.2.1 == s) true n) (d := RedistD) l
theorem usesMap_eq (r : RouterT) (n : List UInt8) : g_lint_usesMap r n = g_r12_usedMap r n := by
  unfold g_lint_usesMap g_r12_usedMap S_lint_usesMap_0 S_r12_usedMap_0
  refine upV_congr ?_ _ _ fun _ _ _ _ => rfl
  unfold S_lint_usesMap_1
  rw [concat_three, redist_eq, redist_eq, redist_eq]
  refine (upV_list (b := fun (x : RedistT) _ m => cond (x.2.2.2.1 == n) true m) (d := RedistD) _).trans ?_
  rw [goL_app, goL_app, goL_or _ _ _ 0 0, goL_or _ (goL _ _ _ _) _ 0 0, Bool.or_assoc]
theorem cond_nz {x r : Int} (h : cond (x != 0) x r = 0) : x = 0 ∧ r = 0 := by
  by_cases hx : x = 0
  · subst hx; exact ⟨rfl, by simpa using h⟩
  · have : (x != 0) = true := by simpa using hx
    rw [this] at h
    exact absurd h hx
theorem cond_ne {b : Bool} {k x : Int} (hk : k ≠ 0) (h : cond b k x = 0) : b = false ∧ x = 0 := by
  cases b with
  | true => exact absurd h hk
  | false => exact ⟨rfl, h⟩
theorem upV_eq {R : Type} {v0 : R} {body : Nat → R → R} {r : R} {P : Nat → Prop} : ∀ (m s : Nat), (∀ c, s ≤ c → c < s + m → ∀ x, body c x = v0 → P c ∧ x = v0) → upV body r m s = v0 → (∀ c, s ≤ c → c < s + m → P c) ∧ r = v0
  | 0, s, _, h => ⟨fun c _ _ => by omega, h⟩
  | m + 1, s, hb, h => by
    simp only [upV] at h
    obtain ⟨h1, h2⟩ := hb s (Nat.le_refl _) (by omega) _ h
    obtain ⟨h3, h4⟩ := upV_eq m (s + 1) (fun c h5 h6 => hb c (by omega) (by omega)) h2
    refine ⟨fun c h5 h6 => ?_, h4⟩
    by_cases hc : c = s
    · subst hc; exact h1
    · exact h3 c (by omega) (by omega)

/-! ### What an unused list is not named by -/
theorem or2 {a b : Bool} (h : (a || b) = false) : a = false ∧ b = false := by cases a <;> cases b <;> first | exact ⟨rfl, rfl⟩ | cases h
theorem cond_tf {b x : Bool} (h : cond b true x = false) : b = false ∧ x = false := by
  cases b with
  | true => cases h
  | false => exact ⟨rfl, h⟩
theorem noList {r : RouterT} {n : List UInt8} (h : g_lint_usesPrefixList r n = false) : (∀ i, i < r.2.2.2.2.1.length → ∀ j, j < (List.getD r.2.2.2.2.1 i RouteMapD : RouteMapT).2.1.length → ((List.getD (List.getD r.2.2.2.2.1 i RouteMapD : RouteMapT).2.1 j ClauseD).2.1 == n) = false) ∧ (r.2.2.2.2.2.2.2.2.2.2.2.2.2.2.1 == n) = false ∧ (r.2.2.2.2.2.2.2.2.2.2.2.2.2.2.2.1 == n) = false := by
  unfold g_lint_usesPrefixList S_lint_usesPrefixList_0 at h
  obtain ⟨h1, h2⟩ := upV_eq (P := fun i => ∀ j, j < (List.getD r.2.2.2.2.1 i RouteMapD : RouteMapT).2.1.length → ((List.getD (List.getD r.2.2.2.2.1 i RouteMapD : RouteMapT).2.1 j ClauseD).2.1 == n) = false) _ _ (fun c _ _ x hx => by
    unfold S_lint_usesPrefixList_1 at hx
    obtain ⟨h1, h2⟩ := upV_eq (P := fun j => ((List.getD (List.getD r.2.2.2.2.1 c RouteMapD : RouteMapT).2.1 j ClauseD).2.1 == n) = false) _ _ (fun j _ _ y hy => cond_tf hy) hx
    exact ⟨fun j hj => h1 j (Nat.zero_le _) (by omega), h2⟩) h
  exact ⟨fun i hi => h1 i (Nat.zero_le _) (by omega), or2 h2⟩
theorem noACL {r : RouterT} {n : List UInt8} (h : g_lint_usesACL r n = false) : (∀ i, i < r.2.2.1.length → ((List.getD r.2.2.1 i InterfaceD : InterfaceT).2.2.2.2.2.2.2.2.2.1 == n) = false ∧ ((List.getD r.2.2.1 i InterfaceD : InterfaceT).2.2.2.2.2.2.2.2.2.2.1 == n) = false) ∧ ∀ i, i < r.2.2.2.2.2.2.1.length → ((List.getD r.2.2.2.2.2.2.1 i TranslationD : TranslationT).2.2.2.2.2.2.1 == n) = false := by
  unfold g_lint_usesACL S_lint_usesACL_0 at h
  obtain ⟨h1, h2⟩ := upV_eq (P := fun i => ((List.getD r.2.2.1 i InterfaceD : InterfaceT).2.2.2.2.2.2.2.2.2.1 == n) = false ∧ ((List.getD r.2.2.1 i InterfaceD : InterfaceT).2.2.2.2.2.2.2.2.2.2.1 == n) = false) _ _ (fun c _ _ x hx => ⟨or2 (cond_tf hx).1, (cond_tf hx).2⟩) h
  unfold S_lint_usesACL_1 at h2
  obtain ⟨h3, _⟩ := upV_eq (P := fun i => ((List.getD r.2.2.2.2.2.2.1 i TranslationD : TranslationT).2.2.2.2.2.2.1 == n) = false) _ _ (fun c _ _ x hx => cond_tf hx) h2
  exact ⟨fun i hi => h1 i (Nat.zero_le _) (by omega), fun i hi => h3 i (Nat.zero_le _) (by omega)⟩
theorem getD_of {α : Type} {l : List α} {x : α} (h : x ∈ l) (d : α) : ∃ c, c < l.length ∧ l.getD c d = x := by
  obtain ⟨c, hc, e⟩ := List.mem_iff_getElem.1 h
  exact ⟨c, hc, by simp [List.getD, hc, e]⟩
theorem noMap {r : RouterT} {n : List UInt8} (h : g_lint_usesMap r n = false) : (∀ i, i < r.2.2.2.2.2.2.2.2.2.2.2.2.2.2.2.2.2.2.2.2.1.length → ((List.getD r.2.2.2.2.2.2.2.2.2.2.2.2.2.2.2.2.2.2.2.2.1 i NeighborD : NeighborT).2.2.1 == n) = false ∧ ((List.getD r.2.2.2.2.2.2.2.2.2.2.2.2.2.2.2.2.2.2.2.2.1 i NeighborD : NeighborT).2.2.2.1 == n) = false) ∧
    ∀ x : RedistT, x ∈ r.2.2.2.2.2.2.2.2.2.2.2.1 ++ (r.2.2.2.2.2.2.2.2.2.2.2.2.2.2.2.2.1 ++ r.2.2.2.2.2.2.2.2.2.2.2.2.2.2.2.2.2.2.2.2.2.2.2.2.1) → (x.2.2.2.1 == n) = false := by
  unfold g_lint_usesMap S_lint_usesMap_0 at h
  obtain ⟨h1, h2⟩ := upV_eq (P := fun i => ((List.getD r.2.2.2.2.2.2.2.2.2.2.2.2.2.2.2.2.2.2.2.2.1 i NeighborD : NeighborT).2.2.1 == n) = false ∧ ((List.getD r.2.2.2.2.2.2.2.2.2.2.2.2.2.2.2.2.2.2.2.2.1 i NeighborD : NeighborT).2.2.2.1 == n) = false) _ _ (fun c _ _ x hx => ⟨or2 (cond_tf hx).1, (cond_tf hx).2⟩) h
  unfold S_lint_usesMap_1 at h2
  rw [concat_three] at h2
  obtain ⟨h3, _⟩ := upV_eq (P := fun i => ((List.getD (r.2.2.2.2.2.2.2.2.2.2.2.1 ++ (r.2.2.2.2.2.2.2.2.2.2.2.2.2.2.2.2.1 ++ r.2.2.2.2.2.2.2.2.2.2.2.2.2.2.2.2.2.2.2.2.2.2.2.2.1)) i RedistD : RedistT).2.2.2.1 == n) = false) _ _ (fun c _ _ x hx => cond_tf hx) h2
  refine ⟨fun i hi => h1 i (Nat.zero_le _) (by omega), fun x hx => ?_⟩
  obtain ⟨c, hc, e⟩ := getD_of hx RedistD
  rw [← e]
  exact h3 c (Nat.zero_le _) (by rw [Nat.zero_add, Nat.sub_zero]; exact hc)

structure Valid (r : RouterT) : Prop where
  nm : g_r4_Name r.1 = true
  as : g_r8_within r.2.1 0 65535 = true
  ifs : g_r8_interfaces r.2.2.1 = 0
  lists : g_r8_prefixLists r.2.2.2.1 = 0
  maps : g_r8_routeMaps r = 0
  acls : g_r8_accessLists r.2.2.2.2.2.1 = 0
  nat : g_r8_translations r = 0
  fil : g_r8_filters r = 0
  stat : g_r8_statics r = 0
  ls : g_r8_linkState r = 0
  dv : g_r8_distance r = 0
  pv : g_r8_pathVector r = 0
theorem valid_of {r : RouterT} (h : g_r8_CheckRouter r = 0) : Valid r := by
  unfold g_r8_CheckRouter at h
  obtain ⟨h1, h⟩ := cond_ne (by decide) h
  obtain ⟨h2, h⟩ := cond_ne (by decide) h
  obtain ⟨h3, h⟩ := cond_nz h
  obtain ⟨h4, h⟩ := cond_nz h
  obtain ⟨h5, h⟩ := cond_nz h
  obtain ⟨h6, h⟩ := cond_nz h
  obtain ⟨h7, h⟩ := cond_nz h
  obtain ⟨h8, h⟩ := cond_nz h
  obtain ⟨h9, h⟩ := cond_nz h
  obtain ⟨h10, h⟩ := cond_nz h
  obtain ⟨h11, h⟩ := cond_nz h
  obtain ⟨h12, h⟩ := cond_nz h
  exact ⟨by simpa using h1, by simpa using h2, h3, h4, h5, h6, h7, h8, h9, h10, h11, h12⟩
theorem valid_mk {r : RouterT} (h : Valid r) : g_r8_CheckRouter r = 0 := by
  unfold g_r8_CheckRouter
  rw [h.nm, h.as, h.ifs, h.lists, h.maps, h.acls, h.nat, h.fil, h.stat, h.ls, h.dv, h.pv]
  rfl
theorem uses_of {r : RouterT} {m : RouteMapT} {c : ClauseT} (hm : m ∈ r.2.2.2.2.1) (hc : c ∈ m.2.1) : g_lint_usesPrefixList r c.2.1 = true := by
  cases h : g_lint_usesPrefixList r c.2.1 with
  | true => rfl
  | false =>
    obtain ⟨i, hi, e1⟩ := getD_of hm RouteMapD
    have h1 := (noList h).1 i hi
    rw [e1] at h1
    obtain ⟨j, hj, e2⟩ := getD_of hc ClauseD
    have h2 := h1 j hj
    rw [e2, beq_self_eq_true] at h2
    cases h2

/-! ### The first that matches -/
theorem go_find {A : Type} (p : A → Bool) (D : A) : ∀ (l : List A) (s : Nat), (goL (fun x c n => cond (p x) (c : Int) n) (-1) l s = -1 ∧ l.find? p = none) ∨ ∃ j, j < l.length ∧ goL (fun x c n => cond (p x) (c : Int) n) (-1) l s = ((s + j : Nat) : Int) ∧ l.find? p = some (l.getD j D)
  | [], s => Or.inl ⟨rfl, rfl⟩
  | x :: r, s => by
    simp only [goL, List.find?_cons]
    cases hx : p x with
    | true => exact Or.inr ⟨0, by simp, by simp, by simp [List.getD]⟩
    | false =>
      rcases go_find p D r (s + 1) with ⟨h1, h2⟩ | ⟨j, h1, h2, h3⟩
      · exact Or.inl ⟨by simpa using h1, by simpa using h2⟩
      · refine Or.inr ⟨j + 1, by simp; omega, ?_, by simpa [List.getD] using h3⟩
        simp only [cond_false]
        rw [h2]
        congr 1
        omega
def fidx {A : Type} (p : A → Bool) (D : A) (l : List A) : Int := upV (fun c n => cond (p (List.getD l c D)) (c : Int) n) (-1) (l.length - 0) 0
theorem fidx_find {A : Type} (p : A → Bool) (D : A) (l : List A) : (fidx p D l = -1 ∧ l.find? p = none) ∨ ∃ j : Nat, j < l.length ∧ fidx p D l = (j : Int) ∧ l.find? p = some (l.getD j D) := by
  have e : fidx p D l = goL (fun x c n => cond (p x) (c : Int) n) (-1) l 0 := upV_list (b := fun x c n => cond (p x) (c : Int) n) (d := D) l
  rw [e]
  rcases go_find p D l 0 with h | ⟨j, h1, h2, h3⟩
  · exact Or.inl h
  · exact Or.inr ⟨j, h1, by simpa using h2, h3⟩
theorem find_fm {A : Type} (nm : A → List UInt8) (P : List UInt8 → Bool) (f : A → A) (hf : ∀ x, nm (f x) = nm x) (n : List UInt8) (hP : P n = true) : ∀ l : List A, ((l.filter fun x => P (nm x)).map f).find? (fun x => nm x == n) = (l.find? fun x => nm x == n).map f
  | [] => rfl
  | x :: r => by
    have ih := find_fm nm P f hf n hP r
    rw [List.filter_cons, List.find?_cons]
    cases hn : nm x == n with
    | true =>
      have e : nm x = n := eq_of_beq hn
      rw [e, hP]
      simp [hf, e]
    | false =>
      cases hp : P (nm x) with
      | true => simpa [hf, hn] using ih
      | false => simpa using ih
/-! ### What no earlier one covers -/
def visG {A : Type} (cov : A → A → Bool) : List A → List A → List A
  | _, [] => []
  | p, x :: t => cond (p.any fun a => cov a x) (visG cov (p ++ [x]) t) (x :: visG cov (p ++ [x]) t)
theorem vis_mem {A : Type} {cov : A → A → Bool} {y : A} : ∀ {t p : List A}, y ∈ visG cov p t → y ∈ t
  | [], _, h => h
  | x :: t, p, h => by
    simp only [visG] at h
    cases hc : p.any fun a => cov a x with
    | true => rw [hc] at h; exact List.mem_cons_of_mem _ (vis_mem h)
    | false =>
      rw [hc] at h
      rcases List.mem_cons.1 h with h | h
      · rw [h]; exact List.mem_cons_self ..
      · exact List.mem_cons_of_mem _ (vis_mem h)
theorem slc_take {α : Type} (l : List α) (i : Nat) : slcL l 0 (i : Int) = l.take i := by simp [slcL]
theorem upS_vis {A : Type} (cov : A → A → Bool) (D : A) (l : List A) {b : Nat → List A → (List A → List A) → List A} {rest : List A → List A} (hr : ∀ v, rest v = v) (hb : ∀ c v k, c < l.length → b c v k = cond (decide (fidx (fun a => cov a (List.getD l c D)) D (l.take c) < 0)) (k (v ++ [List.getD l c D])) (k v)) : ∀ (m s : Nat) (v : List A), s + m = l.length → upS b rest m s v = v ++ visG cov (l.take s) (l.drop s)
  | 0, s, v, h => by simp [upS, hr, List.drop_eq_nil_of_le (show l.length ≤ s by omega), visG]
  | m + 1, s, v, h => by
    have hs : s < l.length := by omega
    have ih := fun w => upS_vis cov D l hr hb m (s + 1) w (by omega)
    have et : l.take (s + 1) = l.take s ++ [List.getD l s D] := by
      rw [List.take_succ_eq_append_getElem hs]
      simp [List.getD, hs]
    simp only [upS]
    rw [hb _ _ _ hs, drop_at hs D, visG, ih, ih, et]
    have e : decide (fidx (fun a => cov a (List.getD l s D)) D (l.take s) < 0) = !(l.take s).any fun a => cov a (List.getD l s D) := by
      rcases fidx_find (fun a => cov a (List.getD l s D)) D (l.take s) with ⟨h1, h2⟩ | ⟨j, h1, h2, h3⟩
      · rw [h1]
        have : ((l.take s).any fun a => cov a (List.getD l s D)) = false := List.any_eq_false.2 fun a ha => List.find?_eq_none.1 h2 a ha
        rw [this]; rfl
      · rw [h2]
        have : ((l.take s).any fun a => cov a (List.getD l s D)) = true := List.any_eq_true.2 ⟨_, List.mem_of_find?_eq_some h3, List.find?_some (p := fun a => cov a (List.getD l s D)) h3⟩
        rw [this]
        have h4 : ¬ ((j : Int) < 0) := by omega
        simp [h4]
    rw [e]
    cases (l.take s).any fun a => cov a (List.getD l s D) <;> simp
theorem vis_PrefixRule (l : List PrefixRuleT) : g_lint_visible_PrefixRule l = visG g_policy_Covers [] l := by
  unfold g_lint_visible_PrefixRule S_lint_visible_PrefixRule_0
  refine (upS_vis g_policy_Covers PrefixRuleD l (fun v => seg_all v) (fun c v k hc => ?_) _ 0 [] (by omega)).trans (by simp)
  have e : g_lint_shadowedBy_PrefixRule2 l (c : Int) = fidx (fun a => g_policy_Covers a (List.getD l c PrefixRuleD)) PrefixRuleD (l.take c) := by
    unfold g_lint_shadowedBy_PrefixRule2 g_slices_IndexFunc_PrefixRule S_slices_IndexFunc_PrefixRule_0
    rw [slc_take]
    rfl
  rw [e]
theorem vis_Clause (l : List ClauseT) : g_lint_visible_Clause l = visG g_lint_CoversClause [] l := by
  unfold g_lint_visible_Clause S_lint_visible_Clause_0
  refine (upS_vis g_lint_CoversClause ClauseD l (fun v => seg_all v) (fun c v k hc => ?_) _ 0 [] (by omega)).trans (by simp)
  have e : g_lint_shadowedBy_Clause2 l (c : Int) = fidx (fun a => g_lint_CoversClause a (List.getD l c ClauseD)) ClauseD (l.take c) := by
    unfold g_lint_shadowedBy_Clause2 g_slices_IndexFunc_Clause S_slices_IndexFunc_Clause_0
    rw [slc_take]
    rfl
  rw [e]
theorem vis_Rule (l : List RuleT) : g_lint_visible_Rule l = visG g_acl_Covers [] l := by
  unfold g_lint_visible_Rule S_lint_visible_Rule_0
  refine (upS_vis g_acl_Covers RuleD l (fun v => seg_all v) (fun c v k hc => ?_) _ 0 [] (by omega)).trans (by simp)
  have e : g_lint_shadowedBy_Rule2 l (c : Int) = fidx (fun a => g_acl_Covers a (List.getD l c RuleD)) RuleD (l.take c) := by
    unfold g_lint_shadowedBy_Rule2 g_slices_IndexFunc_Rule S_slices_IndexFunc_Rule_0
    rw [slc_take]
    rfl
  rw [e]


/-! ### What the reference gives -/
theorem inner_Clause {S : Type} (l : List ClauseT) (k : List ClauseT → S) : upS (fun c1 (v2 : List ClauseT) => fun (next1 : (List ClauseT) → S) => cond (decide ((g_r12_clauseBy l (c1 : Int)) < 0)) (next1 (v2 ++ [(List.getD l c1 ClauseD)])) (next1 v2)) (fun (v2 : List ClauseT) => k (segL v2 0 (List.length v2))) (l.length - 0) 0 [] = k (g_lint_visible_Clause l) := by
  have h := upS_out (b := fun c1 (v2 : List ClauseT) => fun (next1 : (List ClauseT) → S) => cond (decide ((g_r12_clauseBy l (c1 : Int)) < 0)) (next1 (v2 ++ [(List.getD l c1 ClauseD)])) (next1 v2)) (r := fun (v2 : List ClauseT) => k (segL v2 0 (List.length v2))) (b' := fun c0 (v2 : List ClauseT) => fun (next0 : (List ClauseT) → (List ClauseT)) => cond (decide ((g_lint_shadowedBy_Clause2 l (c0 : Int)) < 0)) (next0 (v2 ++ [(List.getD l c0 ClauseD)])) (next0 v2)) (r' := fun v => segL v 0 (List.length v)) (fun c v => cond (decide ((g_r12_clauseBy l (c : Int)) < 0)) (v ++ [(List.getD l c ClauseD)]) v) (fun v => seg_all v) (l.length - 0) 0 [] (fun c _ _ v2 k2 => app_cond _ _ _ _) (fun c _ hc v2 k2 => by
    rw [by_clause l c (by omega)]
    exact app_cond _ _ _ _)
  refine h.trans ?_
  show k (segL (g_lint_visible_Clause l) 0 (List.length (g_lint_visible_Clause l))) = _
  rw [seg_all]
theorem inner_Rule {S : Type} (l : List RuleT) (k : List RuleT → S) : upS (fun c1 (v2 : List RuleT) => fun (next1 : (List RuleT) → S) => cond (decide ((g_r12_ruleBy l (c1 : Int)) < 0)) (next1 (v2 ++ [(List.getD l c1 RuleD)])) (next1 v2)) (fun (v2 : List RuleT) => k (segL v2 0 (List.length v2))) (l.length - 0) 0 [] = k (g_lint_visible_Rule l) := by
  have h := upS_out (b := fun c1 (v2 : List RuleT) => fun (next1 : (List RuleT) → S) => cond (decide ((g_r12_ruleBy l (c1 : Int)) < 0)) (next1 (v2 ++ [(List.getD l c1 RuleD)])) (next1 v2)) (r := fun (v2 : List RuleT) => k (segL v2 0 (List.length v2))) (b' := fun c0 (v2 : List RuleT) => fun (next0 : (List RuleT) → (List RuleT)) => cond (decide ((g_lint_shadowedBy_Rule2 l (c0 : Int)) < 0)) (next0 (v2 ++ [(List.getD l c0 RuleD)])) (next0 v2)) (r' := fun v => segL v 0 (List.length v)) (fun c v => cond (decide ((g_r12_ruleBy l (c : Int)) < 0)) (v ++ [(List.getD l c RuleD)]) v) (fun v => seg_all v) (l.length - 0) 0 [] (fun c _ _ v2 k2 => app_cond _ _ _ _) (fun c _ hc v2 k2 => by
    rw [by_rule l c (by omega)]
    exact app_cond _ _ _ _)
  refine h.trans ?_
  show k (segL (g_lint_visible_Rule l) 0 (List.length (g_lint_visible_Rule l))) = _
  rw [seg_all]
theorem inner_PrefixRule {S : Type} (l : List PrefixRuleT) (k : List PrefixRuleT → S) : upS (fun c1 (v2 : List PrefixRuleT) => fun (next1 : (List PrefixRuleT) → S) => cond (decide ((g_r12_prefixBy l (c1 : Int)) < 0)) (next1 (v2 ++ [(List.getD l c1 PrefixRuleD)])) (next1 v2)) (fun (v2 : List PrefixRuleT) => k (segL v2 0 (List.length v2))) (l.length - 0) 0 [] = k (g_lint_visible_PrefixRule l) := by
  have h := upS_out (b := fun c1 (v2 : List PrefixRuleT) => fun (next1 : (List PrefixRuleT) → S) => cond (decide ((g_r12_prefixBy l (c1 : Int)) < 0)) (next1 (v2 ++ [(List.getD l c1 PrefixRuleD)])) (next1 v2)) (r := fun (v2 : List PrefixRuleT) => k (segL v2 0 (List.length v2))) (b' := fun c0 (v2 : List PrefixRuleT) => fun (next0 : (List PrefixRuleT) → (List PrefixRuleT)) => cond (decide ((g_lint_shadowedBy_PrefixRule2 l (c0 : Int)) < 0)) (next0 (v2 ++ [(List.getD l c0 PrefixRuleD)])) (next0 v2)) (r' := fun v => segL v 0 (List.length v)) (fun c v => cond (decide ((g_r12_prefixBy l (c : Int)) < 0)) (v ++ [(List.getD l c PrefixRuleD)]) v) (fun v => seg_all v) (l.length - 0) 0 [] (fun c _ _ v2 k2 => app_cond _ _ _ _) (fun c _ hc v2 k2 => by
    rw [by_prefix l c (by omega)]
    exact app_cond _ _ _ _)
  refine h.trans ?_
  show k (segL (g_lint_visible_PrefixRule l) 0 (List.length (g_lint_visible_PrefixRule l))) = _
  rw [seg_all]
theorem used_congr {a b : RouterT} {n : List UInt8} (h1 : a.2.2.2.2.1 = b.2.2.2.2.1) (h2 : a.2.2.2.2.2.2.2.2.2.2.2.2.2.2.1 = b.2.2.2.2.2.2.2.2.2.2.2.2.2.2.1) (h3 : a.2.2.2.2.2.2.2.2.2.2.2.2.2.2.2.1 = b.2.2.2.2.2.2.2.2.2.2.2.2.2.2.2.1) : g_r12_usedList a n = g_lint_usesPrefixList b n := (show g_r12_usedList a n = g_lint_usesPrefixList a n from rfl).trans (uses_congr h1 h2 h3)
theorem prune12_eq (r : RouterT) : g_r12_Prune r = g_lint_Prune r := by
  rw [prune_eq]
  unfold g_r12_Prune S_r12_Prune_0
  refine (upS_fm (fun m : RouteMapT => g_lint_usesMap r m.1) (fun m : RouteMapT => ((m.1, g_lint_visible_Clause m.2.1, ()) : RouteMapT)) RouteMapD r.2.2.2.2.1 (fun c v k => ?_) _ 0 [] (by omega)).trans ?_
  · unfold S_r12_Prune_1
    rw [inner_Clause (List.getD r.2.2.2.2.1 c RouteMapD : RouteMapT).2.1 (fun v2 => k (v ++ [((List.getD r.2.2.2.2.1 c RouteMapD).1, v2, ())])), ← usesMap_eq]
  show S_r12_Prune_2 r (pM r) [] = _
  unfold S_r12_Prune_2
  refine (upS_fm (fun m : ACLT => g_lint_usesACL r m.1) (fun m : ACLT => ((m.1, g_lint_visible_Rule m.2.1, ()) : ACLT)) ACLD r.2.2.2.2.2.1 (fun c v k => ?_) _ 0 [] (by omega)).trans ?_
  · unfold S_r12_Prune_3
    rw [inner_Rule (List.getD r.2.2.2.2.2.1 c ACLD : ACLT).2.1 (fun v2 => k (v ++ [((List.getD r.2.2.2.2.2.1 c ACLD).1, v2, ())]))]
    rfl
  show S_r12_Prune_4 r (pM r) (pA r) [] = _
  unfold S_r12_Prune_4
  refine (upS_fm (fun m : PrefixListT => g_lint_usesPrefixList (pq r) m.1) (fun m : PrefixListT => ((m.1, g_lint_visible_PrefixRule m.2.1, ()) : PrefixListT)) PrefixListD r.2.2.2.1 (fun c v k => ?_) _ 0 [] (by omega)).trans ?_
  · unfold S_r12_Prune_5
    rw [inner_PrefixRule (List.getD r.2.2.2.1 c PrefixListD : PrefixListT).2.1 (fun v2 => k (v ++ [((List.getD r.2.2.2.1 c PrefixListD).1, v2, ())]))]
    simp only [seg_all]
    rw [used_congr (a := (r.1, r.2.1, r.2.2.1, v, pM r, pA r, r.2.2.2.2.2.2.1, r.2.2.2.2.2.2.2.1, r.2.2.2.2.2.2.2.2.1, r.2.2.2.2.2.2.2.2.2.1, r.2.2.2.2.2.2.2.2.2.2.1, r.2.2.2.2.2.2.2.2.2.2.2.1, r.2.2.2.2.2.2.2.2.2.2.2.2.1, r.2.2.2.2.2.2.2.2.2.2.2.2.2.1, r.2.2.2.2.2.2.2.2.2.2.2.2.2.2.1, r.2.2.2.2.2.2.2.2.2.2.2.2.2.2.2.1, r.2.2.2.2.2.2.2.2.2.2.2.2.2.2.2.2.1, r.2.2.2.2.2.2.2.2.2.2.2.2.2.2.2.2.2.1, r.2.2.2.2.2.2.2.2.2.2.2.2.2.2.2.2.2.2.1, r.2.2.2.2.2.2.2.2.2.2.2.2.2.2.2.2.2.2.2.1, r.2.2.2.2.2.2.2.2.2.2.2.2.2.2.2.2.2.2.2.2.1, r.2.2.2.2.2.2.2.2.2.2.2.2.2.2.2.2.2.2.2.2.2.1, r.2.2.2.2.2.2.2.2.2.2.2.2.2.2.2.2.2.2.2.2.2.2.1, r.2.2.2.2.2.2.2.2.2.2.2.2.2.2.2.2.2.2.2.2.2.2.2.1, r.2.2.2.2.2.2.2.2.2.2.2.2.2.2.2.2.2.2.2.2.2.2.2.2.1, ())) (b := pq r) rfl rfl rfl]
  · simp only [seg_all]
    rfl

/-! ### Same -/
theorem upV_id {R : Type} {b : Nat → R → R} {r : R} (h : ∀ c x, b c x = x) : ∀ m s, upV b r m s = r
  | 0, _ => rfl
  | m + 1, s => by simp only [upV]; rw [h]; exact upV_id h m (s + 1)
theorem same_redist (l : List RedistT) : g_r8_sameRedist l l = true := by
  unfold g_r8_sameRedist S_r8_sameRedist_0
  rw [show ((l.length : Int) != (l.length : Int)) = false by simp]
  exact upV_id (fun c x => by simp) _ _
theorem same_lists (a : RouterT) : g_r8_sameLists a a = true := by
  unfold g_r8_sameLists S_r8_sameLists_0 S_r8_sameLists_2 S_r8_sameLists_4 S_r8_sameLists_1 S_r8_sameLists_3 S_r8_sameLists_5
  simp only [bne_self_eq_false, Bool.or_false, cond_false, beq_self_eq_true, Bool.not_true, Bool.and_true]
  rw [upV_id (fun c x => upV_id (fun _ _ => rfl) _ _), upV_id (fun c x => upV_id (fun _ _ => rfl) _ _), upV_id (fun c x => upV_id (fun _ _ => rfl) _ _)]
theorem same_protocols (a : RouterT) : g_r8_sameProtocols a a = true := by
  unfold g_r8_sameProtocols S_r8_sameProtocols_0 S_r8_sameProtocols_1 S_r8_sameProtocols_2 S_r8_sameProtocols_3 S_r8_sameProtocols_4
  simp only [bne_self_eq_false, Bool.or_false, cond_false, beq_self_eq_true, Bool.not_true, Bool.and_true, same_redist]
  simp only [upV_id (fun _ _ => rfl)]
theorem same_refl (a : RouterT) : g_r8_Same a a = true := by
  unfold g_r8_Same S_r8_Same_0 S_r8_Same_1 S_r8_Same_2
  simp only [bne_self_eq_false, Bool.or_false, cond_false, beq_self_eq_true, Bool.not_true, Bool.and_true, same_lists, same_protocols]
  simp only [upV_id (fun _ _ => rfl)]

/-! ### Nothing in it is shadowed -/
theorem vis_apart {A : Type} {cov : A → A → Bool} : ∀ (t p : List A), (∀ x ∈ visG cov p t, ∀ a ∈ p, cov a x = false) ∧ (visG cov p t).Pairwise (fun a b => cov a b = false)
  | [], _ => ⟨fun x h => (by cases h), List.Pairwise.nil⟩
  | x :: t, p => by
    have ih := vis_apart (cov := cov) t (p ++ [x])
    simp only [visG]
    cases hc : p.any fun a => cov a x with
    | true => exact ⟨fun y hy a ha => ih.1 y hy a (List.mem_append_left _ ha), ih.2⟩
    | false =>
      refine ⟨fun y hy a ha => ?_, List.Pairwise.cons (fun y hy => ih.1 y hy x (List.mem_append_right _ (List.mem_singleton.2 rfl))) ih.2⟩
      rcases List.mem_cons.1 hy with rfl | hy
      · have := List.any_eq_false.1 hc a ha
        simpa using this
      · exact ih.1 y hy a (List.mem_append_left _ ha)
theorem vis_again {A : Type} {cov : A → A → Bool} : ∀ (t p : List A), (∀ x ∈ t, ∀ a ∈ p, cov a x = false) → t.Pairwise (fun a b => cov a b = false) → visG cov p t = t
  | [], _, _, _ => rfl
  | x :: t, p, h, hp => by
    have h1 : (p.any fun a => cov a x) = false := List.any_eq_false.2 fun a ha => by simp [h x (List.mem_cons_self ..) a ha]
    simp only [visG, h1, cond_false]
    cases hp with
    | cons h2 h3 =>
      rw [vis_again t (p ++ [x]) (fun y hy a ha => ?_) h3]
      rcases List.mem_append.1 ha with ha | ha
      · exact h y (List.mem_cons_of_mem _ hy) a ha
      · rw [List.mem_singleton.1 ha]; exact h2 y hy
theorem vis_vis {A : Type} {cov : A → A → Bool} (l : List A) : visG cov [] (visG cov [] l) = visG cov [] l := vis_again _ _ (fun _ _ _ h => by cases h) (vis_apart l []).2
theorem none_PrefixRule (v : List FindingT) (k : Int) (n : List UInt8) (l : List PrefixRuleT) (h : l.Pairwise (fun a b => g_policy_Covers a b = false)) : g_lint_findings_PrefixRule v k n l = v := by
  unfold g_lint_findings_PrefixRule S_lint_findings_PrefixRule_0
  have key : ∀ c, c < l.length → decide ((g_lint_shadowedBy_PrefixRule2 l (c : Int)) ≥ 0) = false := fun c hc => by
    have e : g_lint_shadowedBy_PrefixRule2 l (c : Int) = fidx (fun a => g_policy_Covers a (List.getD l c PrefixRuleD)) PrefixRuleD (l.take c) := by
      unfold g_lint_shadowedBy_PrefixRule2 g_slices_IndexFunc_PrefixRule S_slices_IndexFunc_PrefixRule_0
      rw [slc_take]
      rfl
    rw [e]
    rcases fidx_find (fun a => g_policy_Covers a (List.getD l c PrefixRuleD)) PrefixRuleD (l.take c) with ⟨h1, _⟩ | ⟨j, h1, h2, h3⟩
    · rw [h1]; rfl
    · have h4 := List.find?_some (p := fun a => g_policy_Covers a (List.getD l c PrefixRuleD)) h3
      have hj : j < c := by simp at h1; omega
      have h5 := List.pairwise_iff_getElem.1 h j c (by omega) hc hj
      have e1 : List.getD (l.take c) j PrefixRuleD = l[j] := by simp [List.getD, hj, show j < l.length by omega]
      have e2 : List.getD l c PrefixRuleD = l[c] := by simp [List.getD, hc]
      simp only [e1, e2, h5] at h4
      cases h4
  refine (upS_out (b := fun c0 (v2 : List FindingT) => fun (next0 : (List FindingT) → (List FindingT)) => cond (decide ((g_lint_shadowedBy_PrefixRule2 l (c0 : Int)) ≥ 0)) (next0 (v2 ++ [(k, 0, n, (c0 : Int), (g_lint_shadowedBy_PrefixRule2 l (c0 : Int)), ())])) (next0 v2)) (r := fun (v2 : List FindingT) => (List.take (List.length v2) v2)) (b' := fun _ (v2 : List FindingT) (next0 : List FindingT → List FindingT) => next0 v2) (r' := id) (fun _ v => v) (fun _ => rfl) _ _ _ (fun c _ hc v2 k2 => by rw [key c (by omega)]; rfl) (fun _ _ _ _ _ => rfl)).trans ?_
  have id2 : ∀ m s (v : List FindingT), upS (fun _ (v2 : List FindingT) (next0 : List FindingT → List FindingT) => next0 v2) id m s v = v := fun m => by
    induction m with
    | zero => intro s v; rfl
    | succ m ih => intro s v; simp only [upS]; exact ih _ _
  rw [id2, List.take_length]
theorem none_Clause (v : List FindingT) (k : Int) (n : List UInt8) (l : List ClauseT) (h : l.Pairwise (fun a b => g_lint_CoversClause a b = false)) : g_lint_findings_Clause v k n l = v := by
  unfold g_lint_findings_Clause S_lint_findings_Clause_0
  have key : ∀ c, c < l.length → decide ((g_lint_shadowedBy_Clause2 l (c : Int)) ≥ 0) = false := fun c hc => by
    have e : g_lint_shadowedBy_Clause2 l (c : Int) = fidx (fun a => g_lint_CoversClause a (List.getD l c ClauseD)) ClauseD (l.take c) := by
      unfold g_lint_shadowedBy_Clause2 g_slices_IndexFunc_Clause S_slices_IndexFunc_Clause_0
      rw [slc_take]
      rfl
    rw [e]
    rcases fidx_find (fun a => g_lint_CoversClause a (List.getD l c ClauseD)) ClauseD (l.take c) with ⟨h1, _⟩ | ⟨j, h1, h2, h3⟩
    · rw [h1]; rfl
    · have h4 := List.find?_some (p := fun a => g_lint_CoversClause a (List.getD l c ClauseD)) h3
      have hj : j < c := by simp at h1; omega
      have h5 := List.pairwise_iff_getElem.1 h j c (by omega) hc hj
      have e1 : List.getD (l.take c) j ClauseD = l[j] := by simp [List.getD, hj, show j < l.length by omega]
      have e2 : List.getD l c ClauseD = l[c] := by simp [List.getD, hc]
      simp only [e1, e2, h5] at h4
      cases h4
  refine (upS_out (b := fun c0 (v2 : List FindingT) => fun (next0 : (List FindingT) → (List FindingT)) => cond (decide ((g_lint_shadowedBy_Clause2 l (c0 : Int)) ≥ 0)) (next0 (v2 ++ [(k, 0, n, (c0 : Int), (g_lint_shadowedBy_Clause2 l (c0 : Int)), ())])) (next0 v2)) (r := fun (v2 : List FindingT) => (List.take (List.length v2) v2)) (b' := fun _ (v2 : List FindingT) (next0 : List FindingT → List FindingT) => next0 v2) (r' := id) (fun _ v => v) (fun _ => rfl) _ _ _ (fun c _ hc v2 k2 => by rw [key c (by omega)]; rfl) (fun _ _ _ _ _ => rfl)).trans ?_
  have id2 : ∀ m s (v : List FindingT), upS (fun _ (v2 : List FindingT) (next0 : List FindingT → List FindingT) => next0 v2) id m s v = v := fun m => by
    induction m with
    | zero => intro s v; rfl
    | succ m ih => intro s v; simp only [upS]; exact ih _ _
  rw [id2, List.take_length]
theorem none_Rule (v : List FindingT) (k : Int) (n : List UInt8) (l : List RuleT) (h : l.Pairwise (fun a b => g_acl_Covers a b = false)) : g_lint_findings_Rule v k n l = v := by
  unfold g_lint_findings_Rule S_lint_findings_Rule_0
  have key : ∀ c, c < l.length → decide ((g_lint_shadowedBy_Rule2 l (c : Int)) ≥ 0) = false := fun c hc => by
    have e : g_lint_shadowedBy_Rule2 l (c : Int) = fidx (fun a => g_acl_Covers a (List.getD l c RuleD)) RuleD (l.take c) := by
      unfold g_lint_shadowedBy_Rule2 g_slices_IndexFunc_Rule S_slices_IndexFunc_Rule_0
      rw [slc_take]
      rfl
    rw [e]
    rcases fidx_find (fun a => g_acl_Covers a (List.getD l c RuleD)) RuleD (l.take c) with ⟨h1, _⟩ | ⟨j, h1, h2, h3⟩
    · rw [h1]; rfl
    · have h4 := List.find?_some (p := fun a => g_acl_Covers a (List.getD l c RuleD)) h3
      have hj : j < c := by simp at h1; omega
      have h5 := List.pairwise_iff_getElem.1 h j c (by omega) hc hj
      have e1 : List.getD (l.take c) j RuleD = l[j] := by simp [List.getD, hj, show j < l.length by omega]
      have e2 : List.getD l c RuleD = l[c] := by simp [List.getD, hc]
      simp only [e1, e2, h5] at h4
      cases h4
  refine (upS_out (b := fun c0 (v2 : List FindingT) => fun (next0 : (List FindingT) → (List FindingT)) => cond (decide ((g_lint_shadowedBy_Rule2 l (c0 : Int)) ≥ 0)) (next0 (v2 ++ [(k, 0, n, (c0 : Int), (g_lint_shadowedBy_Rule2 l (c0 : Int)), ())])) (next0 v2)) (r := fun (v2 : List FindingT) => (List.take (List.length v2) v2)) (b' := fun _ (v2 : List FindingT) (next0 : List FindingT → List FindingT) => next0 v2) (r' := id) (fun _ v => v) (fun _ => rfl) _ _ _ (fun c _ hc v2 k2 => by rw [key c (by omega)]; rfl) (fun _ _ _ _ _ => rfl)).trans ?_
  have id2 : ∀ m s (v : List FindingT), upS (fun _ (v2 : List FindingT) (next0 : List FindingT → List FindingT) => next0 v2) id m s v = v := fun m => by
    induction m with
    | zero => intro s v; rfl
    | succ m ih => intro s v; simp only [upS]; exact ih _ _
  rw [id2, List.take_length]
theorem upS_same {S R : Type} {b : Nat → S → (S → R) → R} {rest : S → R} : ∀ (m s : Nat) (v : S), (∀ c v k, s ≤ c → c < s + m → b c v k = k v) → upS b rest m s v = rest v
  | 0, _, _, _ => rfl
  | m + 1, s, v, h => by
    simp only [upS]
    rw [h s v _ (Nat.le_refl _) (by omega)]
    exact upS_same m (s + 1) v fun c v k h1 h2 => h c v k (by omega) (by omega)
theorem fm_at {A : Type} {p : A → Bool} {f : A → A} {l : List A} {D : A} {c : Nat} (h : c < ((l.filter p).map f).length) : ∃ x ∈ l, p x = true ∧ List.getD ((l.filter p).map f) c D = f x := by
  obtain ⟨x, h1, h2⟩ := List.mem_map.1 (getD_mem h D)
  exact ⟨x, (List.mem_filter.1 h1).1, (List.mem_filter.1 h1).2, h2.symm⟩
theorem prune_L (r : RouterT) : (g_lint_Prune r).2.2.2.1 = pL r := by rw [prune_eq]
theorem prune_M (r : RouterT) : (g_lint_Prune r).2.2.2.2.1 = pM r := by rw [prune_eq]
theorem prune_A (r : RouterT) : (g_lint_Prune r).2.2.2.2.2.1 = pA r := by rw [prune_eq]
theorem none_shadowed (r : RouterT) : g_lint_Shadowed (g_lint_Prune r) = [] := by
  unfold g_lint_Shadowed S_lint_Shadowed_0
  rw [prune_L]
  rw [upS_same _ _ _ fun c v k _ hc => ?_]
  · unfold S_lint_Shadowed_1
    rw [prune_M]
    rw [upS_same _ _ _ fun c v k _ hc => ?_]
    · unfold S_lint_Shadowed_2
      rw [prune_A]
      rw [upS_same _ _ _ fun c v k _ hc => ?_]
      · rfl
      · obtain ⟨x, _, _, e⟩ := fm_at (p := fun m : ACLT => g_lint_usesACL r m.1) (f := fun m : ACLT => ((m.1, g_lint_visible_Rule m.2.1, ()) : ACLT)) (l := r.2.2.2.2.2.1) (D := ACLD) (show c < (pA r).length by omega)
        have e2 : (List.getD (pA r) c ACLD : ACLT) = (x.1, g_lint_visible_Rule x.2.1, ()) := e
        rw [e2]
        exact congrArg k (none_Rule _ _ _ _ (by rw [vis_Rule]; exact (vis_apart _ _).2))
    · obtain ⟨x, _, _, e⟩ := fm_at (p := fun m : RouteMapT => g_lint_usesMap r m.1) (f := fun m : RouteMapT => ((m.1, g_lint_visible_Clause m.2.1, ()) : RouteMapT)) (l := r.2.2.2.2.1) (D := RouteMapD) (show c < (pM r).length by omega)
      have e2 : (List.getD (pM r) c RouteMapD : RouteMapT) = (x.1, g_lint_visible_Clause x.2.1, ()) := e
      rw [e2]
      exact congrArg k (none_Clause _ _ _ _ (by rw [vis_Clause]; exact (vis_apart _ _).2))
  · obtain ⟨x, _, _, e⟩ := fm_at (p := fun m : PrefixListT => g_lint_usesPrefixList (pq r) m.1) (f := fun m : PrefixListT => ((m.1, g_lint_visible_PrefixRule m.2.1, ()) : PrefixListT)) (l := r.2.2.2.1) (D := PrefixListD) (show c < (pL r).length by omega)
    have e2 : (List.getD (pL r) c PrefixListD : PrefixListT) = (x.1, g_lint_visible_PrefixRule x.2.1, ()) := e
    rw [e2]
    exact congrArg k (none_PrefixRule _ _ _ _ (by rw [vis_PrefixRule]; exact (vis_apart _ _).2))

/-! ### Nothing in it is unused; pruned again it stays -/
theorem usesM_congr {a b : RouterT} {n : List UInt8} (h1 : a.2.2.2.2.2.2.2.2.2.2.2.2.2.2.2.2.2.2.2.2.1 = b.2.2.2.2.2.2.2.2.2.2.2.2.2.2.2.2.2.2.2.2.1) (h2 : a.2.2.2.2.2.2.2.2.2.2.2.1 = b.2.2.2.2.2.2.2.2.2.2.2.1) (h3 : a.2.2.2.2.2.2.2.2.2.2.2.2.2.2.2.2.1 = b.2.2.2.2.2.2.2.2.2.2.2.2.2.2.2.2.1) (h4 : a.2.2.2.2.2.2.2.2.2.2.2.2.2.2.2.2.2.2.2.2.2.2.2.2 = b.2.2.2.2.2.2.2.2.2.2.2.2.2.2.2.2.2.2.2.2.2.2.2.2) : g_lint_usesMap a n = g_lint_usesMap b n := by
  unfold g_lint_usesMap S_lint_usesMap_0 S_lint_usesMap_1
  rw [h1, h2, h3, h4]
theorem usesA_congr {a b : RouterT} {n : List UInt8} (h1 : a.2.2.1 = b.2.2.1) (h2 : a.2.2.2.2.2.2.1 = b.2.2.2.2.2.2.1) : g_lint_usesACL a n = g_lint_usesACL b n := by
  unfold g_lint_usesACL S_lint_usesACL_0 S_lint_usesACL_1
  rw [h1, h2]
theorem pruned_usesL (r : RouterT) (n : List UInt8) : g_lint_usesPrefixList (g_lint_Prune r) n = g_lint_usesPrefixList (pq r) n := by
  rw [prune_eq]
  exact uses_congr rfl rfl rfl
theorem pruned_usesM (r : RouterT) (n : List UInt8) : g_lint_usesMap (g_lint_Prune r) n = g_lint_usesMap r n := by
  rw [prune_eq]
  exact usesM_congr rfl rfl rfl rfl
theorem pruned_usesA (r : RouterT) (n : List UInt8) : g_lint_usesACL (g_lint_Prune r) n = g_lint_usesACL r n := by
  rw [prune_eq]
  exact usesA_congr rfl rfl
theorem none_unused (r : RouterT) : g_lint_Unused (g_lint_Prune r) = [] := by
  unfold g_lint_Unused S_lint_Unused_0
  simp only [pruned_usesL]
  rw [prune_L]
  rw [upS_same _ _ _ fun c v k _ hc => ?_]
  · unfold S_lint_Unused_1
    simp only [pruned_usesM]
    rw [prune_M]
    rw [upS_same _ _ _ fun c v k _ hc => ?_]
    · unfold S_lint_Unused_2
      simp only [pruned_usesA]
      rw [prune_A]
      rw [upS_same _ _ _ fun c v k _ hc => ?_]
      · rfl
      · obtain ⟨x, _, h, e⟩ := fm_at (p := fun m : ACLT => g_lint_usesACL r m.1) (f := fun m : ACLT => ((m.1, g_lint_visible_Rule m.2.1, ()) : ACLT)) (l := r.2.2.2.2.2.1) (D := ACLD) (show c < (pA r).length by omega)
        have e2 : (List.getD (pA r) c ACLD : ACLT) = (x.1, g_lint_visible_Rule x.2.1, ()) := e
        rw [e2]
        show cond (!(g_lint_usesACL r x.1)) _ (k v) = k v
        rw [h]; rfl
    · obtain ⟨x, _, h, e⟩ := fm_at (p := fun m : RouteMapT => g_lint_usesMap r m.1) (f := fun m : RouteMapT => ((m.1, g_lint_visible_Clause m.2.1, ()) : RouteMapT)) (l := r.2.2.2.2.1) (D := RouteMapD) (show c < (pM r).length by omega)
      have e2 : (List.getD (pM r) c RouteMapD : RouteMapT) = (x.1, g_lint_visible_Clause x.2.1, ()) := e
      rw [e2]
      show cond (!(g_lint_usesMap r x.1)) _ (k v) = k v
      rw [h]; rfl
  · obtain ⟨x, _, h, e⟩ := fm_at (p := fun m : PrefixListT => g_lint_usesPrefixList (pq r) m.1) (f := fun m : PrefixListT => ((m.1, g_lint_visible_PrefixRule m.2.1, ()) : PrefixListT)) (l := r.2.2.2.1) (D := PrefixListD) (show c < (pL r).length by omega)
    have e2 : (List.getD (pL r) c PrefixListD : PrefixListT) = (x.1, g_lint_visible_PrefixRule x.2.1, ()) := e
    rw [e2]
    show cond (!(g_lint_usesPrefixList (pq r) x.1)) _ (k v) = k v
    rw [h]; rfl
theorem fm_self {A : Type} {p : A → Bool} {f : A → A} : ∀ {l : List A}, (∀ x ∈ l, p x = true ∧ f x = x) → (l.filter p).map f = l
  | [], _ => rfl
  | x :: r, h => by
    obtain ⟨h1, h2⟩ := h x (List.mem_cons_self ..)
    rw [List.filter_cons, if_pos h1, List.map_cons, h2, fm_self fun y hy => h y (List.mem_cons_of_mem _ hy)]
theorem pM_again (r : RouterT) : pM (g_lint_Prune r) = pM r := by
  have e : pM (g_lint_Prune r) = ((g_lint_Prune r).2.2.2.2.1.filter fun m => g_lint_usesMap (g_lint_Prune r) m.1).map fun m => (m.1, g_lint_visible_Clause m.2.1, ()) := rfl
  rw [e, prune_M]
  refine fm_self fun x hx => ?_
  obtain ⟨y, hy, rfl⟩ := List.mem_map.1 hx
  exact ⟨(pruned_usesM r y.1).trans (List.mem_filter.1 hy).2, by rw [vis_Clause, vis_Clause, vis_vis]⟩
theorem pA_again (r : RouterT) : pA (g_lint_Prune r) = pA r := by
  have e : pA (g_lint_Prune r) = ((g_lint_Prune r).2.2.2.2.2.1.filter fun m => g_lint_usesACL (g_lint_Prune r) m.1).map fun m => (m.1, g_lint_visible_Rule m.2.1, ()) := rfl
  rw [e, prune_A]
  refine fm_self fun x hx => ?_
  obtain ⟨y, hy, rfl⟩ := List.mem_map.1 hx
  exact ⟨(pruned_usesA r y.1).trans (List.mem_filter.1 hy).2, by rw [vis_Rule, vis_Rule, vis_vis]⟩
theorem pq_again (r : RouterT) (n : List UInt8) : g_lint_usesPrefixList (pq (g_lint_Prune r)) n = g_lint_usesPrefixList (pq r) n := by
  refine uses_congr (show pM (g_lint_Prune r) = pM r from pM_again r) ?_ ?_
  · show (g_lint_Prune r).2.2.2.2.2.2.2.2.2.2.2.2.2.2.1 = r.2.2.2.2.2.2.2.2.2.2.2.2.2.2.1
    rw [prune_eq]
  · show (g_lint_Prune r).2.2.2.2.2.2.2.2.2.2.2.2.2.2.2.1 = r.2.2.2.2.2.2.2.2.2.2.2.2.2.2.2.1
    rw [prune_eq]
theorem pL_again (r : RouterT) : pL (g_lint_Prune r) = pL r := by
  have e : pL (g_lint_Prune r) = ((g_lint_Prune r).2.2.2.1.filter fun m => g_lint_usesPrefixList (pq (g_lint_Prune r)) m.1).map fun m => (m.1, g_lint_visible_PrefixRule m.2.1, ()) := rfl
  rw [e, prune_L]
  refine fm_self fun x hx => ?_
  obtain ⟨y, hy, rfl⟩ := List.mem_map.1 hx
  exact ⟨(pq_again r y.1).trans (List.mem_filter.1 hy).2, by rw [vis_PrefixRule, vis_PrefixRule, vis_vis]⟩
theorem prune_again (r : RouterT) : g_lint_Prune (g_lint_Prune r) = g_lint_Prune r := by
  rw [prune_eq (g_lint_Prune r), pL_again, pM_again, pA_again]
  rw [prune_eq r]

/-! ### It is valid -/
section
variable {A : Type} (nm : A → List UInt8) (ok : A → Int → Int) (d : A)
def chk (l : List A) : Int := upV (fun c0 next0 => cond (!(g_r4_Name (nm (List.getD l c0 d)))) 3 (upV (fun c1 next1 => cond ((nm (List.getD l c1 d)) == (nm (List.getD l c0 d))) 4 next1) (ok (List.getD l c0 d) next0) (c0 - 0) 0)) (0) (l.length - 0) 0
def good (l : List A) (c : Nat) : Prop := g_r4_Name (nm (List.getD l c d)) = true ∧ (∀ j, j < c → ((nm (List.getD l j d)) == (nm (List.getD l c d))) = false) ∧ ok (List.getD l c d) 0 = 0
theorem chk_all (hok : ∀ x y, ok x y = 0 → y = 0) {l : List A} (h : chk nm ok d l = 0) : ∀ c, c < l.length → good nm ok d l c := by
  unfold chk at h
  refine fun c hc => (upV_eq (P := good nm ok d l) _ _ (fun c _ _ x hx => ?_) h).1 c (Nat.zero_le _) (by omega)
  obtain ⟨h1, hx⟩ := cond_ne (by decide) hx
  obtain ⟨h2, hx⟩ := upV_eq (P := fun j => ((nm (List.getD l j d)) == (nm (List.getD l c d))) = false) _ _ (fun j _ _ y hy => cond_ne (by decide) hy) hx
  have h3 := hok _ _ hx
  subst h3
  exact ⟨⟨by simpa using h1, fun j hj => h2 j (Nat.zero_le _) (by omega), hx⟩, rfl⟩
theorem chk_mk {l : List A} (h : ∀ c, c < l.length → good nm ok d l c) : chk nm ok d l = 0 := by
  unfold chk
  refine upV_ind (P := fun x : Int => x = 0) rfl _ _ fun c _ hc x hx => ?_
  obtain ⟨h1, h2, h3⟩ := h c (by omega)
  subst hx
  rw [h1]
  show upV _ _ _ _ = 0
  refine upV_ind (P := fun x : Int => x = 0) h3 _ _ fun j _ hj y hy => ?_
  rw [h2 j (by omega)]
  exact hy
/-- The first of that name: there is one. -/
def fst (n : List UInt8) (l : List A) : Int := upV (fun c0 next0 => cond ((nm (List.getD l c0 d)) == n) (c0 : Int) next0) (-1) (l.length - 0) 0
theorem chk_list (hok : ∀ x y, ok x y = 0 → y = 0) {l : List A} : chk nm ok d l = 0 ↔ (∀ x ∈ l, g_r4_Name (nm x) = true ∧ ok x 0 = 0) ∧ l.Pairwise (fun a b => (nm a == nm b) = false) := by
  have at_ : ∀ c (hc : c < l.length), List.getD l c d = l[c] := fun c hc => by simp [List.getD, hc]
  constructor
  · intro h
    have h := chk_all nm ok d hok h
    refine ⟨fun x hx => ?_, List.pairwise_iff_getElem.2 fun i j hi hj hij => ?_⟩
    · obtain ⟨c, hc, e⟩ := getD_of hx d
      obtain ⟨h1, _, h3⟩ := h c hc
      rw [e] at h1 h3
      exact ⟨h1, h3⟩
    · have := (h j hj).2.1 i hij
      rw [at_ i hi, at_ j hj] at this
      exact this
  · rintro ⟨h1, h2⟩
    refine chk_mk nm ok d fun c hc => ?_
    have h3 := h1 l[c] (List.getElem_mem hc)
    refine ⟨by rw [at_ c hc]; exact h3.1, fun j hj => ?_, by rw [at_ c hc]; exact h3.2⟩
    rw [at_ j (by omega), at_ c hc]
    exact List.pairwise_iff_getElem.1 h2 j c (by omega) hc hj
theorem chk_fm (hok : ∀ x y, ok x y = 0 → y = 0) {ok' : A → Int → Int} (hok' : ∀ x y, ok' x y = 0 → y = 0) {l : List A} {p : A → Bool} {f : A → A} (hf : ∀ x, nm (f x) = nm x) (h : chk nm ok d l = 0) (hk : ∀ x ∈ l, p x = true → ok x 0 = 0 → ok' (f x) 0 = 0) : chk nm ok' d ((l.filter p).map f) = 0 := by
  obtain ⟨h1, h2⟩ := (chk_list nm ok d hok).1 h
  refine (chk_list nm ok' d hok').2 ⟨fun x hx => ?_, ?_⟩
  · obtain ⟨y, hy, rfl⟩ := List.mem_map.1 hx
    obtain ⟨hy1, hy2⟩ := List.mem_filter.1 hy
    exact ⟨by rw [hf]; exact (h1 y hy1).1, hk y hy1 hy2 (h1 y hy1).2⟩
  · rw [List.pairwise_map]
    refine (h2.filter p).imp fun {a b} hab => ?_
    rw [hf, hf]
    exact hab
theorem look_fm {P : List UInt8 → Bool} {f : A → A} (hf : ∀ x, nm (f x) = nm x) {n : List UInt8} (hP : P n = true) (l : List A) : decide (fst nm d n ((l.filter fun x => P (nm x)).map f) < 0) = decide (fst nm d n l < 0) := by
  have key : ∀ l : List A, decide (fst nm d n l < 0) = (l.find? fun x => nm x == n).isNone := fun l => by
    have e : fst nm d n l = fidx (fun x => nm x == n) d l := rfl
    rw [e]
    rcases fidx_find (fun x => nm x == n) d l with ⟨h1, h2⟩ | ⟨j, h1, h2, h3⟩
    · rw [h1, h2]; rfl
    · rw [h2, h3]
      have : ¬ ((j : Int) < 0) := by omega
      simp [this]
  rw [key, key, find_fm nm P f hf n hP]
  cases l.find? fun x => nm x == n <;> rfl
end

theorem vis_len {A : Type} {cov : A → A → Bool} : ∀ (t p : List A), (visG cov p t).length ≤ t.length
  | [], _ => Nat.le_refl _
  | x :: t, p => by
    have ih := vis_len (cov := cov) t (p ++ [x])
    simp only [visG]
    cases p.any fun a => cov a x with
    | true => exact Nat.le_trans ih (Nat.le_succ _)
    | false => exact Nat.succ_le_succ ih
theorem vis_some {A : Type} {cov : A → A → Bool} {l : List A} (h : l ≠ []) : visG cov [] l ≠ [] := by
  cases l with
  | nil => exact absurd rfl h
  | cons x t => simp [visG]
def okG {A : Type} (e : A → Int → Int) (d : A) (m : Int) (l : List A) (next : Int) : Int := cond ((l.length : Int) == 0) 1 (cond (decide ((l.length : Int) > m)) 7 (upV (fun c n => e (List.getD l c d) n) next (l.length - 0) 0))
theorem okG_next {A : Type} {e : A → Int → Int} {d : A} {m : Int} {l : List A} (he : ∀ x y, e x y = 0 → y = 0) {y : Int} (h : okG e d m l y = 0) : y = 0 :=
  (upV_eq (P := fun _ => True) _ _ (fun j _ _ x hx => ⟨trivial, he _ _ hx⟩) (cond_ne (by decide) (cond_ne (by decide) h).2).2).2
theorem okG_iff {A : Type} {e : A → Int → Int} {d : A} {m : Int} {l : List A} (he : ∀ x y, e x y = 0 → y = 0) : okG e d m l 0 = 0 ↔ l ≠ [] ∧ (l.length : Int) ≤ m ∧ ∀ y ∈ l, e y 0 = 0 := by
  constructor
  · intro h
    obtain ⟨h1, h⟩ := cond_ne (by decide) h
    obtain ⟨h2, h⟩ := cond_ne (by decide) h
    obtain ⟨h3, _⟩ := upV_eq (P := fun c => e (List.getD l c d) 0 = 0) _ _ (fun j _ _ x hx => by
      have := he _ _ hx
      subst this
      exact ⟨hx, rfl⟩) h
    refine ⟨fun e => (by subst e; cases h1), (by simpa using h2), fun y hy => ?_⟩
    obtain ⟨c, hc, e1⟩ := getD_of hy d
    rw [← e1]
    exact h3 c (Nat.zero_le _) (by omega)
  · rintro ⟨h1, h2, h3⟩
    unfold okG
    have g1 : ((l.length : Int) == 0) = false := by
      cases l with
      | nil => exact absurd rfl h1
      | cons x t => simp; omega
    have g2 : decide ((l.length : Int) > m) = false := decide_eq_false (by omega)
    rw [g1, g2]
    refine upV_ind (P := fun x : Int => x = 0) rfl _ _ fun c _ hc x hx => ?_
    subst hx
    exact h3 _ (getD_mem (by omega) d)
theorem okG_vis {A : Type} {e e' : A → Int → Int} {d : A} {m : Int} {l : List A} {cov : A → A → Bool} (he : ∀ x y, e x y = 0 → y = 0) (he' : ∀ x y, e' x y = 0 → y = 0) (h : okG e d m l 0 = 0) (hk : ∀ y ∈ visG cov [] l, e y 0 = 0 → e' y 0 = 0) : okG e' d m (visG cov [] l) 0 = 0 := by
  obtain ⟨h1, h2, h3⟩ := (okG_iff he).1 h
  refine (okG_iff he').2 ⟨vis_some h1, ?_, fun y hy => hk y hy (h3 y (vis_mem hy))⟩
  have := vis_len (cov := cov) l []
  omega

def eL (y : PrefixRuleT) (n : Int) : Int := cond (!(g_r8_ValidPrefixRule y)) 1 n
def eA (y : RuleT) (n : Int) : Int := cond (!(g_r8_ValidRule y)) 1 n
def eM (r : RouterT) (y : ClauseT) (n : Int) : Int := cond ((!(y.2.1 == [])) && (decide ((g_r8_PrefixList r y.2.1) < 0))) 5 (cond (((((!(g_r8_within y.2.2.1 (-1) 65535)) || (!(g_r8_within y.2.2.2.2.1 (-1) 65535))) || (!(g_r8_within y.2.2.2.1 (-1) 16777215))) || (!(g_r8_within y.2.2.2.2.2.1 (-1) 1000000))) || (!(g_r8_within y.2.2.2.2.2.2.1 0 8))) 1 n)
theorem eL_n (x : PrefixRuleT) (y : Int) (h : eL x y = 0) : y = 0 := (cond_ne (by decide) h).2
theorem eA_n (x : RuleT) (y : Int) (h : eA x y = 0) : y = 0 := (cond_ne (by decide) h).2
theorem eM_n (r : RouterT) (x : ClauseT) (y : Int) (h : eM r x y = 0) : y = 0 := (cond_ne (by decide) (cond_ne (by decide) h).2).2
theorem lists_g (l : List PrefixListT) : g_r8_prefixLists l = cond (decide ((l.length : Int) > 8)) 7 (chk (fun x : PrefixListT => x.1) (fun x next => okG eL PrefixRuleD 16 x.2.1 next) PrefixListD l) := rfl
theorem acls_g (l : List ACLT) : g_r8_accessLists l = cond (decide ((l.length : Int) > 8)) 7 (chk (fun x : ACLT => x.1) (fun x next => okG eA RuleD 16 x.2.1 next) ACLD l) := rfl
theorem maps_g (r : RouterT) : g_r8_routeMaps r = cond (decide ((r.2.2.2.2.1.length : Int) > 8)) 7 (chk (fun x : RouteMapT => x.1) (fun x next => okG (eM r) ClauseD 8 x.2.1 next) RouteMapD r.2.2.2.2.1) := rfl
theorem dec_fm {A : Type} {l : List A} {p : A → Bool} {f : A → A} (h : decide ((l.length : Int) > 8) = false) : decide ((((l.filter p).map f).length : Int) > 8) = false := by
  have h1 := List.length_filter_le p l
  rw [List.length_map]
  simp only [decide_eq_false_iff_not] at h ⊢
  omega
theorem look_L (r : RouterT) {n : List UInt8} (h : g_lint_usesPrefixList (pq r) n = true) : decide (g_r8_PrefixList (g_lint_Prune r) n < 0) = decide (g_r8_PrefixList r n < 0) := by
  have e : ∀ q : RouterT, g_r8_PrefixList q n = fst (fun x : PrefixListT => x.1) PrefixListD n q.2.2.2.1 := fun _ => rfl
  rw [e, e, prune_L]
  exact look_fm (fun x : PrefixListT => x.1) PrefixListD (P := g_lint_usesPrefixList (pq r)) (f := fun m : PrefixListT => ((m.1, g_lint_visible_PrefixRule m.2.1, ()) : PrefixListT)) (fun _ => rfl) h r.2.2.2.1
theorem look_M (r : RouterT) {n : List UInt8} (h : g_lint_usesMap r n = true) : decide (g_r8_RouteMap (g_lint_Prune r) n < 0) = decide (g_r8_RouteMap r n < 0) := by
  have e : ∀ q : RouterT, g_r8_RouteMap q n = fst (fun x : RouteMapT => x.1) RouteMapD n q.2.2.2.2.1 := fun _ => rfl
  rw [e, e, prune_M]
  exact look_fm (fun x : RouteMapT => x.1) RouteMapD (P := g_lint_usesMap r) (f := fun m : RouteMapT => ((m.1, g_lint_visible_Clause m.2.1, ()) : RouteMapT)) (fun _ => rfl) h r.2.2.2.2.1
theorem look_A (r : RouterT) {n : List UInt8} (h : g_lint_usesACL r n = true) : decide (g_r8_ACL (g_lint_Prune r) n < 0) = decide (g_r8_ACL r n < 0) := by
  have e : ∀ q : RouterT, g_r8_ACL q n = fst (fun x : ACLT => x.1) ACLD n q.2.2.2.2.2.1 := fun _ => rfl
  rw [e, e, prune_A]
  exact look_fm (fun x : ACLT => x.1) ACLD (P := g_lint_usesACL r) (f := fun m : ACLT => ((m.1, g_lint_visible_Rule m.2.1, ()) : ACLT)) (fun _ => rfl) h r.2.2.2.2.2.1
theorem lists_prune {r : RouterT} (h : g_r8_prefixLists r.2.2.2.1 = 0) : g_r8_prefixLists (pL r) = 0 := by
  rw [lists_g] at h ⊢
  obtain ⟨h1, h2⟩ := cond_ne (by decide) h
  rw [show decide (((pL r).length : Int) > 8) = false from dec_fm h1]
  exact chk_fm (ok' := fun x next => okG eL PrefixRuleD 16 x.2.1 next) (l := r.2.2.2.1) (p := fun m : PrefixListT => g_lint_usesPrefixList (pq r) m.1) (f := fun m : PrefixListT => ((m.1, g_lint_visible_PrefixRule m.2.1, ()) : PrefixListT)) _ _ _ (fun x y hx => okG_next eL_n hx) (fun x y hx => okG_next eL_n hx) (fun _ => rfl) h2 fun x _ _ hx => by
    show okG eL PrefixRuleD 16 (g_lint_visible_PrefixRule x.2.1) 0 = 0
    rw [vis_PrefixRule]
    exact okG_vis eL_n eL_n hx fun _ _ h => h
theorem acls_prune {r : RouterT} (h : g_r8_accessLists r.2.2.2.2.2.1 = 0) : g_r8_accessLists (pA r) = 0 := by
  rw [acls_g] at h ⊢
  obtain ⟨h1, h2⟩ := cond_ne (by decide) h
  rw [show decide (((pA r).length : Int) > 8) = false from dec_fm h1]
  exact chk_fm (ok' := fun x next => okG eA RuleD 16 x.2.1 next) (l := r.2.2.2.2.2.1) (p := fun m : ACLT => g_lint_usesACL r m.1) (f := fun m : ACLT => ((m.1, g_lint_visible_Rule m.2.1, ()) : ACLT)) _ _ _ (fun x y hx => okG_next eA_n hx) (fun x y hx => okG_next eA_n hx) (fun _ => rfl) h2 fun x _ _ hx => by
    show okG eA RuleD 16 (g_lint_visible_Rule x.2.1) 0 = 0
    rw [vis_Rule]
    exact okG_vis eA_n eA_n hx fun _ _ h => h
theorem maps_prune {r : RouterT} (h : g_r8_routeMaps r = 0) : g_r8_routeMaps (g_lint_Prune r) = 0 := by
  rw [maps_g] at h ⊢
  rw [prune_M]
  obtain ⟨h1, h2⟩ := cond_ne (by decide) h
  rw [show decide (((pM r).length : Int) > 8) = false from dec_fm h1]
  refine chk_fm (ok' := fun x next => okG (eM (g_lint_Prune r)) ClauseD 8 x.2.1 next) (l := r.2.2.2.2.1) (p := fun m : RouteMapT => g_lint_usesMap r m.1) (f := fun m : RouteMapT => ((m.1, g_lint_visible_Clause m.2.1, ()) : RouteMapT)) _ _ _ (fun x y hx => okG_next (eM_n r) hx) (fun x y hx => okG_next (eM_n _) hx) (fun _ => rfl) h2 fun x hx1 hx2 hx => ?_
  show okG (eM (g_lint_Prune r)) ClauseD 8 (g_lint_visible_Clause x.2.1) 0 = 0
  have hmem : ((x.1, g_lint_visible_Clause x.2.1, ()) : RouteMapT) ∈ (pq r).2.2.2.2.1 := List.mem_map.2 ⟨x, List.mem_filter.2 ⟨hx1, hx2⟩, rfl⟩
  rw [vis_Clause] at hmem ⊢
  refine okG_vis (eM_n r) (eM_n _) hx fun y hy h => ?_
  unfold eM at h ⊢
  rw [look_L r (uses_of (r := pq r) hmem hy)]
  exact h
theorem use_of {P : List UInt8 → Bool} {n : List UInt8} (h : P n = false → (n == n) = false) : P n = true := by
  cases hp : P n with
  | true => rfl
  | false => rw [beq_self_eq_true] at h; cases h hp
theorem redist_prune {r : RouterT} (l : List RedistT) (a b c : Int) (hu : ∀ x ∈ l, g_lint_usesMap r x.2.2.2.1 = true) : g_r8_redistributions (g_lint_Prune r) l a b c = g_r8_redistributions r l a b c := by
  unfold g_r8_redistributions S_r8_redistributions_0
  congr 1
  refine upV_congr rfl _ _ fun c _ hc x => ?_
  rw [look_M r (hu _ (getD_mem (show c < l.length by omega) RedistD))]
  rfl

theorem usedA {r : RouterT} (n : List UInt8) (h : g_lint_usesACL r n = false → False) : g_lint_usesACL r n = true := by
  cases hp : g_lint_usesACL r n with
  | true => rfl
  | false => exact (h hp).elim
theorem usedM {r : RouterT} (n : List UInt8) (h : g_lint_usesMap r n = false → False) : g_lint_usesMap r n = true := by
  cases hp : g_lint_usesMap r n with
  | true => rfl
  | false => exact (h hp).elim
theorem usedL {r : RouterT} (n : List UInt8) (h : g_lint_usesPrefixList r n = false → False) : g_lint_usesPrefixList r n = true := by
  cases hp : g_lint_usesPrefixList r n with
  | true => rfl
  | false => exact (h hp).elim
theorem self_ne {n : List UInt8} (h : (n == n) = false) : False := by rw [beq_self_eq_true] at h; cases h
theorem filters_prune (r : RouterT) : g_r8_filters (g_lint_Prune r) = g_r8_filters r := by
  have e0 : (g_lint_Prune r).2.2.1 = r.2.2.1 := by rw [prune_eq]
  unfold g_r8_filters S_r8_filters_0
  rw [e0]
  refine upV_congr rfl _ _ fun c _ hc x => ?_
  rw [look_A r (usedA _ fun h => self_ne ((noACL h).1 c (by omega)).1), look_A r (usedA _ fun h => self_ne ((noACL h).1 c (by omega)).2)]
theorem nat_prune (r : RouterT) : g_r8_translations (g_lint_Prune r) = g_r8_translations r := by
  have e0 : (g_lint_Prune r).2.2.2.2.2.2.1 = r.2.2.2.2.2.2.1 := by rw [prune_eq]
  unfold g_r8_translations S_r8_translations_0
  rw [e0]
  congr 1
  refine upV_congr rfl _ _ fun c _ hc x => ?_
  rw [look_A r (usedA _ fun h => self_ne ((noACL h).2 c (by omega)))]
theorem redL (r : RouterT) : ∀ x ∈ r.2.2.2.2.2.2.2.2.2.2.2.1, g_lint_usesMap r x.2.2.2.1 = true := fun x hx => usedM _ fun h => self_ne ((noMap h).2 x (List.mem_append_left _ hx))
theorem redD (r : RouterT) : ∀ x ∈ r.2.2.2.2.2.2.2.2.2.2.2.2.2.2.2.2.1, g_lint_usesMap r x.2.2.2.1 = true := fun x hx => usedM _ fun h => self_ne ((noMap h).2 x (List.mem_append_right _ (List.mem_append_left _ hx)))
theorem redP (r : RouterT) : ∀ x ∈ r.2.2.2.2.2.2.2.2.2.2.2.2.2.2.2.2.2.2.2.2.2.2.2.2.1, g_lint_usesMap r x.2.2.2.1 = true := fun x hx => usedM _ fun h => self_ne ((noMap h).2 x (List.mem_append_right _ (List.mem_append_right _ hx)))
theorem neighbors_prune (r : RouterT) : g_r8_neighbors (g_lint_Prune r) = g_r8_neighbors r := by
  have e0 : (g_lint_Prune r).2.2.2.2.2.2.2.2.2.2.2.2.2.2.2.2.2.2.2.2.1 = r.2.2.2.2.2.2.2.2.2.2.2.2.2.2.2.2.2.2.2.2.1 := by rw [prune_eq]
  unfold g_r8_neighbors S_r8_neighbors_0 S_r8_neighbors_1
  rw [e0]
  congr 1
  refine upV_congr rfl _ _ fun c _ hc x => ?_
  rw [look_M r (usedM _ fun h => self_ne ((noMap h).1 c (by omega)).1), look_M r (usedM _ fun h => self_ne ((noMap h).1 c (by omega)).2)]
theorem link_prune (r : RouterT) : g_r8_linkState (g_lint_Prune r) = g_r8_linkState r := by
  have e1 : (g_lint_Prune r).2.2.2.2.2.2.2.2.1 = r.2.2.2.2.2.2.2.2.1 := by rw [prune_eq]
  have e2 : (g_lint_Prune r).2.2.2.2.2.2.2.2.2.1 = r.2.2.2.2.2.2.2.2.2.1 := by rw [prune_eq]
  have e3 : (g_lint_Prune r).2.2.2.2.2.2.2.2.2.2.1 = r.2.2.2.2.2.2.2.2.2.2.1 := by rw [prune_eq]
  have e4 : (g_lint_Prune r).2.2.2.2.2.2.2.2.2.2.2.1 = r.2.2.2.2.2.2.2.2.2.2.2.1 := by rw [prune_eq]
  unfold g_r8_linkState S_r8_linkState_0 S_r8_linkState_1
  rw [e1, e2, e3, e4, redist_prune _ _ _ _ (redL r)]
theorem dist_prune (r : RouterT) : g_r8_distance (g_lint_Prune r) = g_r8_distance r := by
  have e1 : (g_lint_Prune r).2.2.2.2.2.2.2.2.2.2.2.2.1 = r.2.2.2.2.2.2.2.2.2.2.2.2.1 := by rw [prune_eq]
  have e2 : (g_lint_Prune r).2.2.2.2.2.2.2.2.2.2.2.2.2.1 = r.2.2.2.2.2.2.2.2.2.2.2.2.2.1 := by rw [prune_eq]
  have e3 : (g_lint_Prune r).2.2.2.2.2.2.2.2.2.2.2.2.2.2.1 = r.2.2.2.2.2.2.2.2.2.2.2.2.2.2.1 := by rw [prune_eq]
  have e4 : (g_lint_Prune r).2.2.2.2.2.2.2.2.2.2.2.2.2.2.2.1 = r.2.2.2.2.2.2.2.2.2.2.2.2.2.2.2.1 := by rw [prune_eq]
  have e5 : (g_lint_Prune r).2.2.2.2.2.2.2.2.2.2.2.2.2.2.2.2.1 = r.2.2.2.2.2.2.2.2.2.2.2.2.2.2.2.2.1 := by rw [prune_eq]
  unfold g_r8_distance
  rw [e1, e2, e3, e4, e5, redist_prune _ _ _ _ (redD r), look_L r (n := r.2.2.2.2.2.2.2.2.2.2.2.2.2.2.1) (usedL (r := pq r) _ fun h => self_ne (noList h).2.1), look_L r (n := r.2.2.2.2.2.2.2.2.2.2.2.2.2.2.2.1) (usedL (r := pq r) _ fun h => self_ne (noList h).2.2)]
theorem path_prune (r : RouterT) : g_r8_pathVector (g_lint_Prune r) = g_r8_pathVector r := by
  have e0 : (g_lint_Prune r).2.1 = r.2.1 := by rw [prune_eq]
  have e1 : (g_lint_Prune r).2.2.2.2.2.2.2.2.2.2.2.2.2.2.2.2.2 = r.2.2.2.2.2.2.2.2.2.2.2.2.2.2.2.2.2 := by rw [prune_eq]
  unfold g_r8_pathVector
  rw [e0, e1, neighbors_prune, redist_prune _ _ _ _ (redP r)]
theorem statics_prune (r : RouterT) : g_r8_statics (g_lint_Prune r) = g_r8_statics r := by
  rw [prune_eq]
  rfl
theorem valid_prune {r : RouterT} (h : Valid r) : Valid (g_lint_Prune r) := by
  refine ⟨?_, ?_, ?_, ?_, maps_prune h.maps, ?_, (nat_prune r).trans h.nat, (filters_prune r).trans h.fil, (statics_prune r).trans h.stat, (link_prune r).trans h.ls, (dist_prune r).trans h.dv, (path_prune r).trans h.pv⟩
  · have e : (g_lint_Prune r).1 = r.1 := by rw [prune_eq]
    rw [e]; exact h.nm
  · have e : (g_lint_Prune r).2.1 = r.2.1 := by rw [prune_eq]
    rw [e]; exact h.as
  · have e : (g_lint_Prune r).2.2.1 = r.2.2.1 := by rw [prune_eq]
    rw [e]; exact h.ifs
  · rw [prune_L]; exact lists_prune h.lists
  · rw [prune_A]; exact acls_prune h.acls
theorem true_law11_LintPrunes (r : RouterT) (_hw : VSs.wf e_law11_LintPrunes.A (r, ())) : g_law11_LintPrunes r = true := by
  unfold g_law11_LintPrunes
  cases hr : g_law11_right r with
  | false => rfl
  | true =>
    unfold g_law11_right at hr
    have hv : Valid r := valid_of (eq_of_beq (Bool.and_eq_true_iff.1 hr).2)
    rw [prune12_eq, prune_again, same_refl, none_shadowed, none_unused, valid_mk (valid_prune hv), sane_law11]
    rfl
end Go.Proofs.Ytokhlhnibpakiaa
