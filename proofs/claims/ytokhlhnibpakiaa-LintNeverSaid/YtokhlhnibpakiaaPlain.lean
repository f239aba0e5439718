/-
  Lint: no rule that is reported as shadowed is the first to match, in plain Lean; the law.
-/
import Derived.Test.YtokhlhnibpakiaaAmG
import Derived.Test.YtokhlhnibpakiaaAmBits
import Derived.KernelRfl
namespace Go.Proofs.Ytokhlhnibpakiaa
open Go Go.AM
set_option maxRecDepth 100000

theorem sane_law11 : g_law11_sane = true := by kernel_rfl
theorem am_iff {w : WildcardT} {a : Int} : g_acl_MatchesAddress w a = true ↔ ∀ c, c < 32 → (B w.2.1).getLsbD c = true ∨ (B w.1).getLsbD c = (B a).getLsbD c := by
  unfold g_acl_MatchesAddress
  rw [eq_B (u32_iandnot _ _) u32_zero, beq_iff_eq, B_iandnot, B_ixor]
  show _ = 0#32 ↔ _
  rw [bv_zero]
  refine forall_congr' fun c => forall_congr' fun hc => ?_
  rw [BitVec.getLsbD_and, BitVec.getLsbD_not, BitVec.getLsbD_xor]
  simp only [hc, decide_true, Bool.true_and]
  cases (B w.2.1).getLsbD c <;> cases (B w.1).getLsbD c <;> cases (B a).getLsbD c <;> simp
def MA (A M X : BitVec 32) : Prop := ∀ c, c < 32 → M.getLsbD c = true ∨ A.getLsbD c = X.getLsbD c
def CA (Va Vm Wa Wm : BitVec 32) : Prop := ∀ c, c < 32 → (Wm.getLsbD c = true → Vm.getLsbD c = true) ∧ (Vm.getLsbD c = true ∨ Va.getLsbD c = Wa.getLsbD c)
theorem CA.mat {Va Vm Wa Wm X : BitVec 32} (h : CA Va Vm Wa Wm) (g : MA Wa Wm X) : MA Va Vm X := fun c hc => by
  obtain ⟨h1, h2⟩ := h c hc
  rcases g c hc with g1 | g1
  · exact Or.inl (h1 g1)
  · rcases h2 with h2 | h2
    · exact Or.inl h2
    · exact Or.inr (h2.trans g1)
theorem ca_iff (v w : WildcardT) : g_acl_coversAddresses v w = true ↔ CA (B v.1) (B v.2.1) (B w.1) (B w.2.1) := by
  unfold g_acl_coversAddresses
  rw [Bool.and_eq_true, am_iff, eq_B (u32_iandnot _ _) u32_zero, beq_iff_eq, B_iandnot]
  have e : (B w.2.1 &&& ~~~B v.2.1 = B 0) ↔ ∀ c, c < 32 → (B w.2.1).getLsbD c = true → (B v.2.1).getLsbD c = true := by
    show _ = 0#32 ↔ _
    rw [bv_zero]
    refine forall_congr' fun c => forall_congr' fun hc => ?_
    rw [BitVec.getLsbD_and, BitVec.getLsbD_not]
    simp only [hc, decide_true, Bool.true_and]
    cases (B w.2.1).getLsbD c <;> cases (B v.2.1).getLsbD c <;> simp
  rw [e]
  exact ⟨fun h c hc => ⟨h.1 c hc, h.2 c hc⟩, fun h => ⟨fun c hc => (h c hc).1, fun c hc => (h c hc).2⟩⟩
def MatP (x : RuleT) (p : PacketT) : Prop := (x.2.1 = -1 ∨ x.2.1 = p.2.2.1) ∧ MA (B x.2.2.1) (B x.2.2.2.1) (B p.1) ∧ MA (B x.2.2.2.2.1) (B x.2.2.2.2.2.1) (B p.2.1) ∧
  (x.2.2.2.2.2.2.1 ≤ p.2.2.2.1 ∧ p.2.2.2.1 ≤ x.2.2.2.2.2.2.2.1) ∧ (x.2.2.2.2.2.2.2.2.1 ≤ p.2.2.2.2.1 ∧ p.2.2.2.2.1 ≤ x.2.2.2.2.2.2.2.2.2.1)
def CovP (a b : RuleT) : Prop := (a.2.1 = -1 ∨ a.2.1 = b.2.1) ∧ CA (B a.2.2.1) (B a.2.2.2.1) (B b.2.2.1) (B b.2.2.2.1) ∧ CA (B a.2.2.2.2.1) (B a.2.2.2.2.2.1) (B b.2.2.2.2.1) (B b.2.2.2.2.2.1) ∧
  (a.2.2.2.2.2.2.1 ≤ b.2.2.2.2.2.2.1 ∧ b.2.2.2.2.2.2.2.1 ≤ a.2.2.2.2.2.2.2.1) ∧ (a.2.2.2.2.2.2.2.2.1 ≤ b.2.2.2.2.2.2.2.2.1 ∧ b.2.2.2.2.2.2.2.2.2.1 ≤ a.2.2.2.2.2.2.2.2.2.1)
theorem mat_iff (x : RuleT) (p : PacketT) : g_acl_Matches x p = true ↔ MatP x p := by
  unfold g_acl_Matches g_acl_inRange MatP
  simp only [Bool.and_eq_true, Bool.or_eq_true, beq_iff_eq, decide_eq_true_eq, am_iff, and_assoc]
  rfl
theorem cov_iff (a b : RuleT) : g_acl_Covers a b = true ↔ CovP a b := by
  unfold g_acl_Covers g_acl_coversPorts CovP
  simp only [Bool.and_eq_true, Bool.or_eq_true, beq_iff_eq, decide_eq_true_eq, ca_iff, and_assoc]
theorem CovP.mat {a b : RuleT} {p : PacketT} (h : CovP a b) (g : MatP b p) : MatP a p := by
  obtain ⟨h1, h2, h3, h4, h5⟩ := h
  obtain ⟨g1, g2, g3, g4, g5⟩ := g
  exact ⟨by omega, h2.mat g2, h3.mat g3, by omega, by omega⟩
theorem cond_nz {x r : Int} (h : cond (x != 0) x r = 0) : x = 0 ∧ r = 0 := by
  by_cases hx : x = 0
  · subst hx; exact ⟨rfl, by simpa using h⟩
  · have : (x != 0) = true := by simpa using hx
    rw [this] at h
    exact absurd h hx
theorem upV_err {body : Nat → Int → Int} {r : Int} {P : Nat → Prop} : ∀ (m s : Nat), (∀ c, s ≤ c → c < s + m → ∀ x, body c x = 0 → P c ∧ x = 0) → upV body r m s = 0 → (∀ c, s ≤ c → c < s + m → P c) ∧ r = 0
  | 0, s, _, h => ⟨fun c _ _ => by omega, h⟩
  | m + 1, s, hb, h => by
    simp only [upV] at h
    obtain ⟨h1, h2⟩ := hb s (Nat.le_refl _) (by omega) _ h
    obtain ⟨h3, h4⟩ := upV_err m (s + 1) (fun c h5 h6 => hb c (by omega) (by omega)) h2
    refine ⟨fun c h5 h6 => ?_, h4⟩
    by_cases hc : c = s
    · subst hc; exact h1
    · exact h3 c (by omega) (by omega)

theorem cond_ne {b : Bool} {k x : Int} (hk : k ≠ 0) (h : cond b k x = 0) : b = false ∧ x = 0 := by
  cases b with
  | true => exact absurd h hk
  | false => exact ⟨rfl, h⟩
theorem check_acls (r : RouterT) (h : g_r8_CheckRouter r = 0) : g_r8_accessLists r.2.2.2.2.2.1 = 0 := by
  unfold g_r8_CheckRouter at h
  exact (cond_nz (cond_nz (cond_nz (cond_nz (cond_ne (by decide) (cond_ne (by decide) h).2).2).2).2).2).1
theorem uniq (l : List ACLT) (h : g_r8_accessLists l = 0) : ∀ i, i < l.length → ∀ j, j < i → ((List.getD l j ACLD : ACLT).1 == (List.getD l i ACLD : ACLT).1) = false := by
  unfold g_r8_accessLists at h
  have h := (cond_ne (by decide) h).2
  unfold S_r8_accessLists_0 at h
  refine fun i hi => (upV_err (P := fun i => ∀ j, j < i → ((List.getD l j ACLD : ACLT).1 == (List.getD l i ACLD : ACLT).1) = false) _ _ (fun c _ _ x hx => ?_) h).1 i (Nat.zero_le _) (by omega)
  have hx := (cond_ne (by decide) hx).2
  unfold S_r8_accessLists_1 at hx
  have hx := upV_err (P := fun j => ((List.getD l j ACLD : ACLT).1 == (List.getD l c ACLD : ACLT).1) = false) _ _ (fun c _ _ x hx => cond_ne (by decide) hx) hx
  refine ⟨fun j hj => hx.1 j (Nat.zero_le _) (by omega), ?_⟩
  have hx := (cond_ne (by decide) (cond_ne (by decide) hx.2).2).2
  unfold S_r8_accessLists_2 at hx
  exact (upV_err (P := fun _ => True) _ _ (fun j _ _ x hx => ⟨trivial, (cond_ne (by decide) hx).2⟩) hx).2
theorem acl_self (r : RouterT) (h : g_r8_accessLists r.2.2.2.2.2.1 = 0) (i : Nat) (hi : i < r.2.2.2.2.2.1.length) : g_r8_ACL r (List.getD r.2.2.2.2.2.1 i ACLD : ACLT).1 = (i : Int) := by
  unfold g_r8_ACL S_r8_ACL_0
  exact upV_hit (v := fun c => (c : Int)) _ _ i (Nat.zero_le _) (by omega) (beq_self_eq_true _) fun c _ hc => uniq _ h i hi c hc
theorem upS_inv {S R : Type} {b : Nat → S → (S → R) → R} {rest : S → R} (P : S → Prop) (Q : R → Prop) (f : Nat → S → S) (hb : ∀ c v k, b c v k = k (f c v)) (hr : ∀ v, P v → Q (rest v)) : ∀ (m s : Nat) (v : S), (∀ c v, s ≤ c → c < s + m → P v → P (f c v)) → P v → Q (upS b rest m s v)
  | 0, _, v, _, h => hr v h
  | m + 1, s, v, hf, h => by
    simp only [upS, hb]
    exact upS_inv P Q f hb hr m (s + 1) _ (fun c v h1 h2 => hf c v (by omega) (by omega)) (hf s v (Nat.le_refl _) (by omega) h)
theorem app_cond {S R : Type} (p : Bool) (x y : S) (k : S → R) : cond p (k x) (k y) = k (cond p x y) := by cases p <;> rfl
/-- What a finding of kind 3 says. -/
def GF (r : RouterT) (f : FindingT) : Prop := f.1 = 3 → ∃ j i : Nat, j < r.2.2.2.2.2.1.length ∧ i < (List.getD r.2.2.2.2.2.1 j ACLD : ACLT).2.1.length ∧ f.2.2.1 = (List.getD r.2.2.2.2.2.1 j ACLD : ACLT).1 ∧ f.2.2.2.1 = (i : Int) ∧ f.2.2.2.2.1 = g_lint_shadowedBy_Rule2 (List.getD r.2.2.2.2.2.1 j ACLD : ACLT).2.1 (i : Int) ∧ g_lint_shadowedBy_Rule2 (List.getD r.2.2.2.2.2.1 j ACLD : ACLT).2.1 (i : Int) ≥ 0
theorem add_one {P : FindingT → Prop} {p : Bool} {v : List FindingT} {x : FindingT} (h : ∀ y ∈ v, P y) (hx : p = true → P x) : ∀ y ∈ cond p (v ++ [x]) v, P y := by
  cases p with
  | false => exact h
  | true =>
    intro y hy
    rcases List.mem_append.1 hy with h1 | h1
    · exact h y h1
    · rw [List.mem_singleton.1 h1]; exact hx rfl
theorem in_PrefixRule (P : FindingT → Prop) (v : List FindingT) (k : Int) (n : List UInt8) (l : List PrefixRuleT) (hv : ∀ y ∈ v, P y) (hx : ∀ i : Nat, i < l.length → g_lint_shadowedBy_PrefixRule2 l (i : Int) ≥ 0 → P (k, 0, n, (i : Int), g_lint_shadowedBy_PrefixRule2 l (i : Int), ())) : ∀ y ∈ g_lint_findings_PrefixRule v k n l, P y := by
  unfold g_lint_findings_PrefixRule S_lint_findings_PrefixRule_0
  exact upS_inv (fun v => ∀ y ∈ v, P y) (fun v => ∀ y ∈ v, P y) (fun c v2 => cond (decide ((g_lint_shadowedBy_PrefixRule2 l (c : Int)) ≥ 0)) (v2 ++ [(k, 0, n, (c : Int), (g_lint_shadowedBy_PrefixRule2 l (c : Int)), ())]) v2) (fun c v k => app_cond _ _ _ _) (fun v h => by rw [List.take_length]; exact h) _ _ _ (fun c v _ hc h => add_one h fun hp => hx c (by omega) (of_decide_eq_true hp)) hv
theorem in_Clause (P : FindingT → Prop) (v : List FindingT) (k : Int) (n : List UInt8) (l : List ClauseT) (hv : ∀ y ∈ v, P y) (hx : ∀ i : Nat, i < l.length → g_lint_shadowedBy_Clause2 l (i : Int) ≥ 0 → P (k, 0, n, (i : Int), g_lint_shadowedBy_Clause2 l (i : Int), ())) : ∀ y ∈ g_lint_findings_Clause v k n l, P y := by
  unfold g_lint_findings_Clause S_lint_findings_Clause_0
  exact upS_inv (fun v => ∀ y ∈ v, P y) (fun v => ∀ y ∈ v, P y) (fun c v2 => cond (decide ((g_lint_shadowedBy_Clause2 l (c : Int)) ≥ 0)) (v2 ++ [(k, 0, n, (c : Int), (g_lint_shadowedBy_Clause2 l (c : Int)), ())]) v2) (fun c v k => app_cond _ _ _ _) (fun v h => by rw [List.take_length]; exact h) _ _ _ (fun c v _ hc h => add_one h fun hp => hx c (by omega) (of_decide_eq_true hp)) hv
theorem in_Rule (P : FindingT → Prop) (v : List FindingT) (k : Int) (n : List UInt8) (l : List RuleT) (hv : ∀ y ∈ v, P y) (hx : ∀ i : Nat, i < l.length → g_lint_shadowedBy_Rule2 l (i : Int) ≥ 0 → P (k, 0, n, (i : Int), g_lint_shadowedBy_Rule2 l (i : Int), ())) : ∀ y ∈ g_lint_findings_Rule v k n l, P y := by
  unfold g_lint_findings_Rule S_lint_findings_Rule_0
  exact upS_inv (fun v => ∀ y ∈ v, P y) (fun v => ∀ y ∈ v, P y) (fun c v2 => cond (decide ((g_lint_shadowedBy_Rule2 l (c : Int)) ≥ 0)) (v2 ++ [(k, 0, n, (c : Int), (g_lint_shadowedBy_Rule2 l (c : Int)), ())]) v2) (fun c v k => app_cond _ _ _ _) (fun v h => by rw [List.take_length]; exact h) _ _ _ (fun c v _ hc h => add_one h fun hp => hx c (by omega) (of_decide_eq_true hp)) hv
theorem seg_all {α : Type} (v : List α) : segL v 0 (List.length v) = v := by simp [segL]
theorem all_GF (r : RouterT) : ∀ f ∈ g_lint_Shadowed r, GF r f := by
  unfold g_lint_Shadowed S_lint_Shadowed_0
  refine upS_inv (fun v => ∀ y ∈ v, GF r y) (fun v => ∀ y ∈ v, GF r y) (fun c v => g_lint_findings_PrefixRule v 1 (List.getD r.2.2.2.1 c PrefixListD).1 (List.getD r.2.2.2.1 c PrefixListD).2.1) (fun _ _ _ => rfl) (fun v hv => ?_) _ _ _ (fun c v _ _ hv => in_PrefixRule _ _ _ _ _ hv fun _ _ _ h => absurd h (by decide : ¬ (1 : Int) = 3)) (fun y hy => by cases hy)
  unfold S_lint_Shadowed_1
  refine upS_inv (fun v => ∀ y ∈ v, GF r y) (fun v => ∀ y ∈ v, GF r y) (fun c v => g_lint_findings_Clause v 2 (List.getD r.2.2.2.2.1 c RouteMapD).1 (List.getD r.2.2.2.2.1 c RouteMapD).2.1) (fun _ _ _ => rfl) (fun v hv => ?_) _ _ _ (fun c v _ _ hv => in_Clause _ _ _ _ _ hv fun _ _ _ h => absurd h (by decide : ¬ (2 : Int) = 3)) hv
  unfold S_lint_Shadowed_2
  exact upS_inv (fun v => ∀ y ∈ v, GF r y) (fun v => ∀ y ∈ v, GF r y) (fun c v => g_lint_findings_Rule v 3 (List.getD r.2.2.2.2.2.1 c ACLD).1 (List.getD r.2.2.2.2.2.1 c ACLD).2.1) (fun _ _ _ => rfl) (fun v hv => by rw [seg_all]; exact hv) _ _ _ (fun c v _ hc hv => in_Rule _ _ _ _ _ hv fun i hi h _ => ⟨c, i, by omega, hi, rfl, rfl, rfl, h⟩) hv
theorem slc_getD {α : Type} (l : List α) (i c : Nat) (d : α) (h : c < i) : (slcL l 0 (i : Int)).getD c d = l.getD c d := by
  simp [slcL, List.getD, List.getElem?_take, h]
theorem slc_len {α : Type} (l : List α) (i : Nat) (h : i ≤ l.length) : (slcL l 0 (i : Int)).length = i := by
  rw [len_slcL]; simp; omega
theorem by_spec (l : List RuleT) (i : Nat) (hi : i < l.length) (h : g_lint_shadowedBy_Rule2 l (i : Int) ≥ 0) : ∃ b : Nat, b < i ∧ g_lint_shadowedBy_Rule2 l (i : Int) = (b : Int) ∧ g_acl_Covers (List.getD l b RuleD) (List.getD l i RuleD) = true := by
  have e : g_lint_shadowedBy_Rule2 l (i : Int) = upV (fun c x => cond (g_acl_Covers (List.getD l c RuleD) (List.getD l i RuleD)) ((fun c : Nat => (c : Int)) c) x) (-1) (i - 0) 0 := by
    unfold g_lint_shadowedBy_Rule2 g_slices_IndexFunc_Rule S_slices_IndexFunc_Rule_0
    rw [slc_len l i (Nat.le_of_lt hi)]
    refine upV_congr rfl _ _ fun c _ hc x => ?_
    show cond (g_acl_Covers (List.getD (slcL l 0 (i : Int)) c RuleD) (List.getD l (Int.toNat i) RuleD)) _ _ = _
    rw [slc_getD l i c _ (by omega)]
    rfl
  rcases first_or (f := fun c => g_acl_Covers (List.getD l c RuleD) (List.getD l i RuleD)) (i - 0) 0 with h1 | ⟨b, _, h2, h3, h4⟩
  · rw [e, upV_none _ _ h1] at h
    exact absurd h (by decide)
  · exact ⟨b, by omega, e.trans (upV_hit (v := fun c : Nat => (c : Int)) _ _ b (Nat.zero_le _) (by omega) h3 h4), h3⟩
theorem first_spec (l : ACLT) (p : PacketT) (i : Nat) (h : g_acl_First l p = (i : Int)) : g_acl_Matches (List.getD l.2.1 i RuleD) p = true ∧ ∀ c, c < i → g_acl_Matches (List.getD l.2.1 c RuleD) p = false := by
  unfold g_acl_First S_acl_First_0 at h
  rcases first_or (f := fun c => g_acl_Matches (List.getD l.2.1 c RuleD) p) (l.2.1.length - 0) 0 with h1 | ⟨b, h1, h2, h3, h4⟩
  · have h5 := (upV_none (v := fun c : Nat => (c : Int)) (r := (-1 : Int)) _ _ h1).symm.trans h
    omega
  · have h5 := (upV_hit (v := fun c : Nat => (c : Int)) (r := (-1 : Int)) _ _ b h1 h2 h3 h4).symm.trans h
    have h6 : b = i := by omega
    subst h6
    exact ⟨h3, fun c hc => h4 c (Nat.zero_le _) hc⟩
theorem mat_of {a b : RuleT} {p : PacketT} (h : g_acl_Covers a b = true) (g : g_acl_Matches b p = true) : g_acl_Matches a p = true := (mat_iff a p).2 (((cov_iff a b).1 h).mat ((mat_iff b p).1 g))
theorem never_step (l : ACLT) (p : PacketT) (i b j : Nat) (hb : b < i) (hi : i < l.2.1.length) (hcov : g_acl_Covers (List.getD l.2.1 b RuleD) (List.getD l.2.1 i RuleD) = true) {x : Bool} (hx : x = true) : cond ((((decide ((j : Int) < 0)) || (decide ((b : Int) < 0))) || (decide ((b : Int) ≥ (i : Int)))) || (decide ((i : Int) ≥ (l.2.1.length : Int)))) false (cond ((g_acl_First l p == (i : Int)) || ((g_acl_Matches (List.getD l.2.1 i RuleD) p) && (!(g_acl_Matches (List.getD l.2.1 b RuleD) p)))) false x) = true := by
  have c1 : ((((decide ((j : Int) < 0)) || (decide ((b : Int) < 0))) || (decide ((b : Int) ≥ (i : Int)))) || (decide ((i : Int) ≥ (l.2.1.length : Int)))) = false := by
    simp only [Bool.or_eq_false_iff, decide_eq_false_iff_not]
    omega
  have c2 : ((g_acl_First l p == (i : Int)) || ((g_acl_Matches (List.getD l.2.1 i RuleD) p) && (!(g_acl_Matches (List.getD l.2.1 b RuleD) p)))) = false := by
    rw [Bool.or_eq_false_iff]
    constructor
    · cases h : g_acl_First l p == (i : Int) with
      | false => rfl
      | true =>
        obtain ⟨h1, h2⟩ := first_spec l p i (eq_of_beq h)
        have h3 := h2 b hb
        rw [mat_of hcov h1] at h3
        cases h3
    · cases h : g_acl_Matches (List.getD l.2.1 i RuleD) p with
      | false => rfl
      | true => rw [mat_of hcov h]; rfl
  rw [c1, c2]
  exact hx
theorem true_law11_LintNever (r : RouterT) (p : PacketT) (_hw : VSs.wf e_law11_LintNever.A (r, p, ())) : g_law11_LintNever r p = true := by
  unfold g_law11_LintNever
  cases hr : g_law11_right r with
  | false => rfl
  | true =>
    cases (!g_r8_ValidPacket p) with
    | true => rfl
    | false =>
      show S_law11_LintNever_0 r p = true
      have ha : g_r8_accessLists r.2.2.2.2.2.1 = 0 := check_acls r (by
        unfold g_law11_right at hr
        exact eq_of_beq (Bool.and_eq_true_iff.1 hr).2)
      unfold S_law11_LintNever_0
      refine upV_ind (P := fun x : Bool => x = true) sane_law11 _ _ fun c _ hc x hx => ?_
      have hf := all_GF r _ (getD_mem (show c < (g_lint_Shadowed r).length by omega) FindingD)
      generalize List.getD (g_lint_Shadowed r) c FindingD = f at hf ⊢
      cases hk : f.1 != 3 with
      | true => exact hx
      | false =>
        obtain ⟨j, i, hj, hi, e1, e2, e3, e4⟩ := hf (by simpa using hk)
        obtain ⟨b, hb, e5, hcov⟩ := by_spec _ i hi e4
        rw [e1, e2, e3, e5, acl_self r ha j hj]
        simp only [Int.toNat_natCast]
        exact never_step _ p i b j hb hi hcov hx
end Go.Proofs.Ytokhlhnibpakiaa
