/-
  Lint: the pruned router decides as the router, in plain Lean; the law.
-/
import Derived.Test.YtokhlhnibpakiaaGreatAmG
import Derived.Test.YtokhlhnibpakiaaGreatAmBits
import Derived.KernelRfl
namespace Go.Proofs.YtokhlhnibpakiaaGreat
open Go Go.AM
set_option maxRecDepth 100000

theorem sane_law11 : g_law11_sane = true := by kernel_rfl
theorem am_iff {w : WildcardT} {a : Int} : g_acl_MatchesAddress w a = true ↔ ∀ c, c < 32 → (B w.2.1).getLsbD c = true ∨ (B w.1).getLsbD c = (B a).getLsbD c := by
  unfold g_acl_MatchesAddress
  rw [eq_B (u32_iandnot _ _) u32_zero, beq_iff_eq, B_iandnot, B_ixor]
  show _ = 0#32 ↔ _
  rw [bv_zero]
  refine forall_congr' fun c => forall_congr' fun hc => ?_
  rw [BitVec.getLsbD_and, BitVec.getLsbD_not, BitVec.getLsbD_xor]
  simp only [hc, decide_true, Bool.true_and]
  cases (B w.2.1).getLsbD c <;> cases (B w.1).getLsbD c <;> cases (B a).getLsbD c <;> simp
def MA (A M X : BitVec 32) : Prop := ∀ c, c < 32 → M.getLsbD c = true ∨ A.getLsbD c = X.getLsbD c
def CA (Va Vm Wa Wm : BitVec 32) : Prop := ∀ c, c < 32 → (Wm.getLsbD c = true → Vm.getLsbD c = true) ∧ (Vm.getLsbD c = true ∨ Va.getLsbD c = Wa.getLsbD c)
theorem CA.mat {Va Vm Wa Wm X : BitVec 32} (h : CA Va Vm Wa Wm) (g : MA Wa Wm X) : MA Va Vm X := fun c hc => by
  obtain ⟨h1, h2⟩ := h c hc
  rcases g c hc with g1 | g1
  · exact Or.inl (h1 g1)
  · rcases h2 with h2 | h2
    · exact Or.inl h2
    · exact Or.inr (h2.trans g1)
theorem ca_iff (v w : WildcardT) : g_acl_coversAddresses v w = true ↔ CA (B v.1) (B v.2.1) (B w.1) (B w.2.1) := by
  unfold g_acl_coversAddresses
  rw [Bool.and_eq_true, am_iff, eq_B (u32_iandnot _ _) u32_zero, beq_iff_eq, B_iandnot]
  have e : (B w.2.1 &&& ~~~B v.2.1 = B 0) ↔ ∀ c, c < 32 → (B w.2.1).getLsbD c = true → (B v.2.1).getLsbD c = true := by
    show _ = 0#32 ↔ _
    rw [bv_zero]
    refine forall_congr' fun c => forall_congr' fun hc => ?_
    rw [BitVec.getLsbD_and, BitVec.getLsbD_not]
    simp only [hc, decide_true, Bool.true_and]
    cases (B w.2.1).getLsbD c <;> cases (B v.2.1).getLsbD c <;> simp
  rw [e]
  exact ⟨fun h c hc => ⟨h.1 c hc, h.2 c hc⟩, fun h => ⟨fun c hc => (h c hc).1, fun c hc => (h c hc).2⟩⟩
def MatP (x : RuleT) (p : PacketT) : Prop := (x.2.1 = -1 ∨ x.2.1 = p.2.2.1) ∧ MA (B x.2.2.1) (B x.2.2.2.1) (B p.1) ∧ MA (B x.2.2.2.2.1) (B x.2.2.2.2.2.1) (B p.2.1) ∧
  (x.2.2.2.2.2.2.1 ≤ p.2.2.2.1 ∧ p.2.2.2.1 ≤ x.2.2.2.2.2.2.2.1) ∧ (x.2.2.2.2.2.2.2.2.1 ≤ p.2.2.2.2.1 ∧ p.2.2.2.2.1 ≤ x.2.2.2.2.2.2.2.2.2.1)
def CovP (a b : RuleT) : Prop := (a.2.1 = -1 ∨ a.2.1 = b.2.1) ∧ CA (B a.2.2.1) (B a.2.2.2.1) (B b.2.2.1) (B b.2.2.2.1) ∧ CA (B a.2.2.2.2.1) (B a.2.2.2.2.2.1) (B b.2.2.2.2.1) (B b.2.2.2.2.2.1) ∧
  (a.2.2.2.2.2.2.1 ≤ b.2.2.2.2.2.2.1 ∧ b.2.2.2.2.2.2.2.1 ≤ a.2.2.2.2.2.2.2.1) ∧ (a.2.2.2.2.2.2.2.2.1 ≤ b.2.2.2.2.2.2.2.2.1 ∧ b.2.2.2.2.2.2.2.2.2.1 ≤ a.2.2.2.2.2.2.2.2.2.1)
theorem mat_iff (x : RuleT) (p : PacketT) : g_acl_Matches x p = true ↔ MatP x p := by
  unfold g_acl_Matches g_acl_inRange MatP
  simp only [Bool.and_eq_true, Bool.or_eq_true, beq_iff_eq, decide_eq_true_eq, am_iff, and_assoc]
  rfl
theorem cov_iff (a b : RuleT) : g_acl_Covers a b = true ↔ CovP a b := by
  unfold g_acl_Covers g_acl_coversPorts CovP
  simp only [Bool.and_eq_true, Bool.or_eq_true, beq_iff_eq, decide_eq_true_eq, ca_iff, and_assoc]
theorem CovP.mat {a b : RuleT} {p : PacketT} (h : CovP a b) (g : MatP b p) : MatP a p := by
  obtain ⟨h1, h2, h3, h4, h5⟩ := h
  obtain ⟨g1, g2, g3, g4, g5⟩ := g
  exact ⟨by omega, h2.mat g2, h3.mat g3, by omega, by omega⟩
theorem cov_acl {a b : RuleT} {p : PacketT} (h : g_acl_Covers a b = true) (g : g_acl_Matches b p = true) : g_acl_Matches a p = true := (mat_iff a p).2 (((cov_iff a b).1 h).mat ((mat_iff b p).1 g))
theorem upV_eq {R : Type} {v0 : R} {body : Nat → R → R} {r : R} {P : Nat → Prop} : ∀ (m s : Nat), (∀ c, s ≤ c → c < s + m → ∀ x, body c x = v0 → P c ∧ x = v0) → upV body r m s = v0 → (∀ c, s ≤ c → c < s + m → P c) ∧ r = v0
  | 0, s, _, h => ⟨fun c _ _ => by omega, h⟩
  | m + 1, s, hb, h => by
    simp only [upV] at h
    obtain ⟨h1, h2⟩ := hb s (Nat.le_refl _) (by omega) _ h
    obtain ⟨h3, h4⟩ := upV_eq m (s + 1) (fun c h5 h6 => hb c (by omega) (by omega)) h2
    refine ⟨fun c h5 h6 => ?_, h4⟩
    by_cases hc : c = s
    · subst hc; exact h1
    · exact h3 c (by omega) (by omega)

theorem or2 {a b : Bool} (h : (a || b) = false) : a = false ∧ b = false := by cases a <;> cases b <;> first | exact ⟨rfl, rfl⟩ | cases h
theorem cond_tf {b x : Bool} (h : cond b true x = false) : b = false ∧ x = false := by
  cases b with
  | true => cases h
  | false => exact ⟨rfl, h⟩
theorem noList {r : RouterT} {n : List UInt8} (h : g_lint_usesPrefixList r n = false) : (∀ i, i < r.2.2.2.2.1.length → ∀ j, j < (List.getD r.2.2.2.2.1 i RouteMapD : RouteMapT).2.1.length → ((List.getD (List.getD r.2.2.2.2.1 i RouteMapD : RouteMapT).2.1 j ClauseD).2.1 == n) = false) ∧ (r.2.2.2.2.2.2.2.2.2.2.2.2.2.2.1 == n) = false ∧ (r.2.2.2.2.2.2.2.2.2.2.2.2.2.2.2.1 == n) = false := by
  unfold g_lint_usesPrefixList S_lint_usesPrefixList_0 at h
  obtain ⟨h1, h2⟩ := upV_eq (P := fun i => ∀ j, j < (List.getD r.2.2.2.2.1 i RouteMapD : RouteMapT).2.1.length → ((List.getD (List.getD r.2.2.2.2.1 i RouteMapD : RouteMapT).2.1 j ClauseD).2.1 == n) = false) _ _ (fun c _ _ x hx => by
    unfold S_lint_usesPrefixList_1 at hx
    obtain ⟨h1, h2⟩ := upV_eq (P := fun j => ((List.getD (List.getD r.2.2.2.2.1 c RouteMapD : RouteMapT).2.1 j ClauseD).2.1 == n) = false) _ _ (fun j _ _ y hy => cond_tf hy) hx
    exact ⟨fun j hj => h1 j (Nat.zero_le _) (by omega), h2⟩) h
  exact ⟨fun i hi => h1 i (Nat.zero_le _) (by omega), or2 h2⟩
theorem getD_of {α : Type} {l : List α} {x : α} (h : x ∈ l) (d : α) : ∃ c, c < l.length ∧ l.getD c d = x := by
  obtain ⟨c, hc, e⟩ := List.mem_iff_getElem.1 h
  exact ⟨c, hc, by simp [List.getD, hc, e]⟩
theorem uses_of {r : RouterT} {m : RouteMapT} {c : ClauseT} (hm : m ∈ r.2.2.2.2.1) (hc : c ∈ m.2.1) : g_lint_usesPrefixList r c.2.1 = true := by
  cases h : g_lint_usesPrefixList r c.2.1 with
  | true => rfl
  | false =>
    obtain ⟨i, hi, e1⟩ := getD_of hm RouteMapD
    have h1 := (noList h).1 i hi
    rw [e1] at h1
    obtain ⟨j, hj, e2⟩ := getD_of hc ClauseD
    have h2 := h1 j hj
    rw [e2, beq_self_eq_true] at h2
    cases h2

/-! ### The first that matches -/
theorem go_find {A : Type} (p : A → Bool) (D : A) : ∀ (l : List A) (s : Nat), (goL (fun x c n => cond (p x) (c : Int) n) (-1) l s = -1 ∧ l.find? p = none) ∨ ∃ j, j < l.length ∧ goL (fun x c n => cond (p x) (c : Int) n) (-1) l s = ((s + j : Nat) : Int) ∧ l.find? p = some (l.getD j D)
  | [], s => Or.inl ⟨rfl, rfl⟩
  | x :: r, s => by
    simp only [goL, List.find?_cons]
    cases hx : p x with
    | true => exact Or.inr ⟨0, by simp, by simp, by simp [List.getD]⟩
    | false =>
      rcases go_find p D r (s + 1) with ⟨h1, h2⟩ | ⟨j, h1, h2, h3⟩
      · exact Or.inl ⟨by simpa using h1, by simpa using h2⟩
      · refine Or.inr ⟨j + 1, by simp; omega, ?_, by simpa [List.getD] using h3⟩
        simp only [cond_false]
        rw [h2]
        congr 1
        omega
def fidx {A : Type} (p : A → Bool) (D : A) (l : List A) : Int := upV (fun c n => cond (p (List.getD l c D)) (c : Int) n) (-1) (l.length - 0) 0
theorem fidx_find {A : Type} (p : A → Bool) (D : A) (l : List A) : (fidx p D l = -1 ∧ l.find? p = none) ∨ ∃ j : Nat, j < l.length ∧ fidx p D l = (j : Int) ∧ l.find? p = some (l.getD j D) := by
  have e : fidx p D l = goL (fun x c n => cond (p x) (c : Int) n) (-1) l 0 := upV_list (b := fun x c n => cond (p x) (c : Int) n) (d := D) l
  rw [e]
  rcases go_find p D l 0 with h | ⟨j, h1, h2, h3⟩
  · exact Or.inl h
  · exact Or.inr ⟨j, h1, by simpa using h2, h3⟩
theorem find_congr {A : Type} {p q : A → Bool} : ∀ {l : List A}, (∀ x ∈ l, p x = q x) → l.find? p = l.find? q
  | [], _ => rfl
  | x :: r, h => by
    rw [List.find?_cons, List.find?_cons, h x (List.mem_cons_self ..), find_congr fun y hy => h y (List.mem_cons_of_mem _ hy)]
theorem find_fm {A : Type} (nm : A → List UInt8) (P : List UInt8 → Bool) (f : A → A) (hf : ∀ x, nm (f x) = nm x) (n : List UInt8) (hP : P n = true) : ∀ l : List A, ((l.filter fun x => P (nm x)).map f).find? (fun x => nm x == n) = (l.find? fun x => nm x == n).map f
  | [] => rfl
  | x :: r => by
    have ih := find_fm nm P f hf n hP r
    rw [List.filter_cons, List.find?_cons]
    cases hn : nm x == n with
    | true =>
      have e : nm x = n := eq_of_beq hn
      rw [e, hP]
      simp [hf, e]
    | false =>
      cases hp : P (nm x) with
      | true => simpa [hf, hn] using ih
      | false => simpa using ih
theorem mem_fm {A : Type} {p : A → Bool} {f : A → A} {l : List A} {c : Nat} {D : A} (h : c < ((l.filter p).map f).length) : ∃ x, x ∈ l ∧ p x = true ∧ ((l.filter p).map f).getD c D = f x := by
  have h1 := getD_mem h D
  obtain ⟨x, h2, h3⟩ := List.mem_map.1 h1
  exact ⟨x, (List.mem_filter.1 h2).1, (List.mem_filter.1 h2).2, h3.symm⟩

/-! ### What no earlier one covers -/
def visG {A : Type} (cov : A → A → Bool) : List A → List A → List A
  | _, [] => []
  | p, x :: t => cond (p.any fun a => cov a x) (visG cov (p ++ [x]) t) (x :: visG cov (p ++ [x]) t)
theorem vis_mem {A : Type} {cov : A → A → Bool} {y : A} : ∀ {t p : List A}, y ∈ visG cov p t → y ∈ t
  | [], _, h => h
  | x :: t, p, h => by
    simp only [visG] at h
    cases hc : p.any fun a => cov a x with
    | true => rw [hc] at h; exact List.mem_cons_of_mem _ (vis_mem h)
    | false =>
      rw [hc] at h
      rcases List.mem_cons.1 h with h | h
      · rw [h]; exact List.mem_cons_self ..
      · exact List.mem_cons_of_mem _ (vis_mem h)
theorem vis_find {A : Type} {cov : A → A → Bool} {mat : A → Bool} (hm : ∀ a b, cov a b = true → mat b = true → mat a = true) : ∀ (t p : List A), (∀ a ∈ p, mat a = false) → (visG cov p t).find? mat = t.find? mat
  | [], _, _ => rfl
  | x :: t, p, h => by
    simp only [visG]
    rw [List.find?_cons]
    cases hx : mat x with
    | true =>
      cases hc : p.any fun a => cov a x with
      | true =>
        obtain ⟨a, h1, h2⟩ := List.any_eq_true.1 hc
        have := hm a x h2 hx
        rw [h a h1] at this
        cases this
      | false => simp [hx]
    | false =>
      have hp : ∀ a ∈ p ++ [x], mat a = false := fun a ha => by
        rcases List.mem_append.1 ha with h1 | h1
        · exact h a h1
        · rw [List.mem_singleton.1 h1]; exact hx
      cases p.any fun a => cov a x with
      | true => exact vis_find hm t _ hp
      | false =>
        show (x :: visG cov (p ++ [x]) t).find? mat = _
        rw [List.find?_cons, hx]
        exact vis_find hm t _ hp
theorem slc_take {α : Type} (l : List α) (i : Nat) : slcL l 0 (i : Int) = l.take i := by simp [slcL]
theorem upS_vis {A : Type} (cov : A → A → Bool) (D : A) (l : List A) {b : Nat → List A → (List A → List A) → List A} {rest : List A → List A} (hr : ∀ v, rest v = v) (hb : ∀ c v k, c < l.length → b c v k = cond (decide (fidx (fun a => cov a (List.getD l c D)) D (l.take c) < 0)) (k (v ++ [List.getD l c D])) (k v)) : ∀ (m s : Nat) (v : List A), s + m = l.length → upS b rest m s v = v ++ visG cov (l.take s) (l.drop s)
  | 0, s, v, h => by simp [upS, hr, List.drop_eq_nil_of_le (show l.length ≤ s by omega), visG]
  | m + 1, s, v, h => by
    have hs : s < l.length := by omega
    have ih := fun w => upS_vis cov D l hr hb m (s + 1) w (by omega)
    have et : l.take (s + 1) = l.take s ++ [List.getD l s D] := by
      rw [List.take_succ_eq_append_getElem hs]
      simp [List.getD, hs]
    simp only [upS]
    rw [hb _ _ _ hs, drop_at hs D, visG, ih, ih, et]
    have e : decide (fidx (fun a => cov a (List.getD l s D)) D (l.take s) < 0) = !(l.take s).any fun a => cov a (List.getD l s D) := by
      rcases fidx_find (fun a => cov a (List.getD l s D)) D (l.take s) with ⟨h1, h2⟩ | ⟨j, h1, h2, h3⟩
      · rw [h1]
        have : ((l.take s).any fun a => cov a (List.getD l s D)) = false := List.any_eq_false.2 fun a ha => List.find?_eq_none.1 h2 a ha
        rw [this]; rfl
      · rw [h2]
        have : ((l.take s).any fun a => cov a (List.getD l s D)) = true := List.any_eq_true.2 ⟨_, List.mem_of_find?_eq_some h3, List.find?_some (p := fun a => cov a (List.getD l s D)) h3⟩
        rw [this]
        have h4 : ¬ ((j : Int) < 0) := by omega
        simp [h4]
    rw [e]
    cases (l.take s).any fun a => cov a (List.getD l s D) <;> simp
theorem vis_PrefixRule (l : List PrefixRuleT) : g_lint_visible_PrefixRule l = visG g_policy_Covers [] l := by
  unfold g_lint_visible_PrefixRule S_lint_visible_PrefixRule_0
  refine (upS_vis g_policy_Covers PrefixRuleD l (fun v => seg_all v) (fun c v k hc => ?_) _ 0 [] (by omega)).trans (by simp)
  have e : g_lint_shadowedBy_PrefixRule2 l (c : Int) = fidx (fun a => g_policy_Covers a (List.getD l c PrefixRuleD)) PrefixRuleD (l.take c) := by
    unfold g_lint_shadowedBy_PrefixRule2 g_slices_IndexFunc_PrefixRule S_slices_IndexFunc_PrefixRule_0
    rw [slc_take]
    rfl
  rw [e]
theorem vis_Clause (l : List ClauseT) : g_lint_visible_Clause l = visG g_lint_CoversClause [] l := by
  unfold g_lint_visible_Clause S_lint_visible_Clause_0
  refine (upS_vis g_lint_CoversClause ClauseD l (fun v => seg_all v) (fun c v k hc => ?_) _ 0 [] (by omega)).trans (by simp)
  have e : g_lint_shadowedBy_Clause2 l (c : Int) = fidx (fun a => g_lint_CoversClause a (List.getD l c ClauseD)) ClauseD (l.take c) := by
    unfold g_lint_shadowedBy_Clause2 g_slices_IndexFunc_Clause S_slices_IndexFunc_Clause_0
    rw [slc_take]
    rfl
  rw [e]
theorem vis_Rule (l : List RuleT) : g_lint_visible_Rule l = visG g_acl_Covers [] l := by
  unfold g_lint_visible_Rule S_lint_visible_Rule_0
  refine (upS_vis g_acl_Covers RuleD l (fun v => seg_all v) (fun c v k hc => ?_) _ 0 [] (by omega)).trans (by simp)
  have e : g_lint_shadowedBy_Rule2 l (c : Int) = fidx (fun a => g_acl_Covers a (List.getD l c RuleD)) RuleD (l.take c) := by
    unfold g_lint_shadowedBy_Rule2 g_slices_IndexFunc_Rule S_slices_IndexFunc_Rule_0
    rw [slc_take]
    rfl
  rw [e]

/-! ### A prefix list's rule that covers another -/
theorem clamp_range' (n : Int) : 0 ≤ g_addr_clamp n ∧ g_addr_clamp n ≤ 32 := clamp_range n
theorem clamp_mono {a b : Int} (h : a ≤ b) : g_addr_clamp a ≤ g_addr_clamp b := by
  unfold g_addr_clamp
  simp only [Bool.cond_eq_ite, decide_eq_true_eq]
  repeat' split
  all_goals omega
def maskOf (k : Int) : Int := ishl .u32 4294967295 (IntKind.wrap .i64 (32 - k))
theorem masks_nest : (List.range 33).all (fun i => (List.range 33).all fun j => !(decide (i ≤ j)) || (iand .u32 (maskOf (j : Int)) (maskOf (i : Int)) == maskOf (i : Int))) = true := by kernel_rfl
theorem mask_nest {a b : Int} (h : a ≤ b) : iand .u32 (g_addr_Mask b) (g_addr_Mask a) = g_addr_Mask a := by
  have h1 := clamp_range a
  have h2 := clamp_range b
  have h3 := clamp_mono h
  show iand .u32 (maskOf (g_addr_clamp b)) (maskOf (g_addr_clamp a)) = maskOf (g_addr_clamp a)
  generalize g_addr_clamp a = x at h1 h3 ⊢
  generalize g_addr_clamp b = y at h2 h3 ⊢
  obtain ⟨i, rfl⟩ := Int.eq_ofNat_of_zero_le h1.1
  obtain ⟨j, rfl⟩ := Int.eq_ofNat_of_zero_le h2.1
  have h4 := List.all_eq_true.1 (List.all_eq_true.1 masks_nest i (List.mem_range.2 (by omega))) j (List.mem_range.2 (by omega))
  have h5 : decide (i ≤ j) = true := by simpa using h3
  rw [h5] at h4
  exact eq_of_beq (by simpa using h4)
theorem iand_assoc (x y z : Int) : iand .u32 (iand .u32 x y) z = iand .u32 x (iand .u32 y z) := by
  rw [iand_eq (iand .u32 x y), iand_eq x (iand .u32 y z), B_iand, B_iand, BitVec.and_assoc]
theorem covers_trans {a b p : PrefixT} (h : g_addr_Covers a b = true) (g : g_addr_Covers b p = true) : g_addr_Covers a p = true := by
  unfold g_addr_Covers g_addr_Contains at *
  simp only [Bool.and_eq_true, decide_eq_true_eq, beq_iff_eq] at *
  refine ⟨Int.le_trans h.1 g.1, ?_⟩
  rw [← h.2, ← g.2, iand_assoc, mask_nest h.1]
theorem cov_pref {a b : PrefixRuleT} {p : PrefixT} (h : g_policy_Covers a b = true) (g : g_policy_Matches b p = true) : g_policy_Matches a p = true := by
  unfold g_policy_Covers at h
  unfold g_policy_Matches at g ⊢
  simp only [Bool.and_eq_true, decide_eq_true_eq] at *
  exact ⟨⟨covers_trans h.1.1 g.1.1, Int.le_trans h.1.2 g.1.2⟩, Int.le_trans g.2 h.2⟩

/-! ### What decides -/
def decL (l : List PrefixListT) (n : List UInt8) (p : PrefixT) : Bool := match l.find? (fun x => x.1 == n) with
  | none => false
  | some x => match x.2.1.find? (fun y => g_policy_Matches y p) with
    | none => false
    | some y => y.1
def decA (l : List ACLT) (n : List UInt8) (p : PacketT) : Bool := match l.find? (fun x => x.1 == n) with
  | none => false
  | some x => match x.2.1.find? (fun y => g_acl_Matches y p) with
    | none => false
    | some y => y.1
theorem permits_dec (r : RouterT) (n : List UInt8) (p : PrefixT) : g_policy_Permits r n p = cond (n == []) true (decL r.2.2.2.1 n p) := by
  unfold g_policy_Permits
  congr 1
  have e : g_model_PrefixList r n = fidx (fun x : PrefixListT => x.1 == n) PrefixListD r.2.2.2.1 := rfl
  rw [e]
  unfold decL
  rcases fidx_find (fun x : PrefixListT => x.1 == n) PrefixListD r.2.2.2.1 with ⟨h1, h2⟩ | ⟨j, h1, h2, h3⟩
  · rw [h1, h2]; rfl
  · rw [h2, h3]
    have h4 : decide ((j : Int) < 0) = false := by simp
    rw [h4, Int.toNat_natCast]
    simp only [cond_false]
    generalize List.getD r.2.2.2.1 j PrefixListD = l
    have e2 : g_policy_First l p = fidx (fun y : PrefixRuleT => g_policy_Matches y p) PrefixRuleD l.2.1 := rfl
    rw [e2]
    rcases fidx_find (fun y : PrefixRuleT => g_policy_Matches y p) PrefixRuleD l.2.1 with ⟨h5, h6⟩ | ⟨i, h5, h6, h7⟩
    · rw [h5, h6]; rfl
    · rw [h6, h7]; simp
theorem acl_dec (r : RouterT) (n : List UInt8) (p : PacketT) : g_acl_Permits r n p = cond (n == []) true (decA r.2.2.2.2.2.1 n p) := by
  unfold g_acl_Permits
  congr 1
  have e : g_model_ACL r n = fidx (fun x : ACLT => x.1 == n) ACLD r.2.2.2.2.2.1 := rfl
  rw [e]
  unfold decA
  rcases fidx_find (fun x : ACLT => x.1 == n) ACLD r.2.2.2.2.2.1 with ⟨h1, h2⟩ | ⟨j, h1, h2, h3⟩
  · rw [h1, h2]; rfl
  · rw [h2, h3]
    have h4 : decide ((j : Int) < 0) = false := by simp
    rw [h4, Int.toNat_natCast]
    simp only [cond_false]
    generalize List.getD r.2.2.2.2.2.1 j ACLD = l
    have e2 : g_acl_First l p = fidx (fun y : RuleT => g_acl_Matches y p) RuleD l.2.1 := rfl
    rw [e2]
    rcases fidx_find (fun y : RuleT => g_acl_Matches y p) RuleD l.2.1 with ⟨h5, h6⟩ | ⟨i, h5, h6, h7⟩
    · rw [h5, h6]; rfl
    · rw [h6, h7]; simp
def cm (r : RouterT) (x : RouteT) (c : ClauseT) : Bool := (g_policy_Permits r c.2.1 (x.1, x.2.1, ())) && ((c.2.2.1 == (-1)) || (c.2.2.1 == x.2.2.2.2.2.2.2.1))
def noC : ClauseT × Bool × Unit := ((false, [], 0, 0, 0, 0, 0, ()), false, ())
def decM (r : RouterT) (n : List UInt8) (x : RouteT) : ClauseT × Bool × Unit := match r.2.2.2.2.1.find? (fun m => m.1 == n) with
  | none => noC
  | some m => match m.2.1.find? (cm r x) with
    | none => noC
    | some c => (c, c.1, ())
theorem permitting_dec (r : RouterT) (n : List UInt8) (x : RouteT) : g_policy_permitting r n x = decM r n x := by
  unfold g_policy_permitting decM g_policy_Clause S_policy_Clause_0
  have e : g_model_RouteMap r n = fidx (fun x : RouteMapT => x.1 == n) RouteMapD r.2.2.2.2.1 := rfl
  rw [e]
  rcases fidx_find (fun x : RouteMapT => x.1 == n) RouteMapD r.2.2.2.2.1 with ⟨h1, h2⟩ | ⟨j, h1, h2, h3⟩
  · rw [h1, h2]; rfl
  · rw [h2, h3]
    have h4 : decide ((j : Int) < 0) = false := by simp
    rw [h4, Int.toNat_natCast]
    simp only [cond_false]
    generalize List.getD r.2.2.2.2.1 j RouteMapD = m
    have e2 : upV (fun c0 next0 => cond ((g_policy_Permits r (List.getD m.2.1 c0 ClauseD).2.1 (x.1, x.2.1, ())) && (((List.getD m.2.1 c0 ClauseD).2.2.1 == (-1)) || ((List.getD m.2.1 c0 ClauseD).2.2.1 == x.2.2.2.2.2.2.2.1))) (c0 : Int) next0) ((-1)) (m.2.1.length - 0) 0 = fidx (cm r x) ClauseD m.2.1 := rfl
    rw [e2]
    rcases fidx_find (cm r x) ClauseD m.2.1 with ⟨h5, h6⟩ | ⟨i, h5, h6, h7⟩
    · rw [h5, h6]; rfl
    · have h8 : decide ((i : Int) < 0) = false := by simp
      rw [h6, h7, h8, Int.toNat_natCast]
      rfl

/-! ### The pruned router -/
theorem keep_list (r : RouterT) (n : List UInt8) (p : PrefixT) (h : g_lint_usesPrefixList (pq r) n = true) : g_policy_Permits (g_lint_Prune r) n p = g_policy_Permits r n p := by
  rw [permits_dec, permits_dec, prune_eq]
  congr 1
  show decL (pL r) n p = _
  unfold decL pL
  rw [find_fm (fun x : PrefixListT => x.1) (g_lint_usesPrefixList (pq r)) (fun m : PrefixListT => ((m.1, g_lint_visible_PrefixRule m.2.1, ()) : PrefixListT)) (fun _ => rfl) n h r.2.2.2.1]
  cases r.2.2.2.1.find? (fun x => x.1 == n) with
  | none => rfl
  | some l =>
    show (match (g_lint_visible_PrefixRule l.2.1).find? (fun y => g_policy_Matches y p) with | none => false | some y => y.1) = (match l.2.1.find? (fun y => g_policy_Matches y p) with | none => false | some y => y.1)
    rw [vis_PrefixRule, vis_find (cov := g_policy_Covers) (mat := fun y => g_policy_Matches y p) (fun a b => cov_pref) l.2.1 [] (fun a ha => by cases ha)]
theorem keep_acl (r : RouterT) (n : List UInt8) (p : PacketT) (h : g_lint_usesACL r n = true) : g_acl_Permits (g_lint_Prune r) n p = g_acl_Permits r n p := by
  rw [acl_dec, acl_dec, prune_eq]
  congr 1
  show decA (pA r) n p = _
  unfold decA pA
  rw [find_fm (fun x : ACLT => x.1) (g_lint_usesACL r) (fun m : ACLT => ((m.1, g_lint_visible_Rule m.2.1, ()) : ACLT)) (fun _ => rfl) n h r.2.2.2.2.2.1]
  cases r.2.2.2.2.2.1.find? (fun x => x.1 == n) with
  | none => rfl
  | some l =>
    show (match (g_lint_visible_Rule l.2.1).find? (fun y => g_acl_Matches y p) with | none => false | some y => y.1) = (match l.2.1.find? (fun y => g_acl_Matches y p) with | none => false | some y => y.1)
    rw [vis_Rule, vis_find (cov := g_acl_Covers) (mat := fun y => g_acl_Matches y p) (fun a b => cov_acl) l.2.1 [] (fun a ha => by cases ha)]
theorem cov_clause {r : RouterT} {x : RouteT} {a b : ClauseT} (h : g_lint_CoversClause a b = true) (g : cm r x b = true) : cm r x a = true := by
  unfold g_lint_CoversClause at h
  unfold cm at g ⊢
  simp only [Bool.and_eq_true, Bool.or_eq_true, beq_iff_eq] at h g ⊢
  obtain ⟨h1, h2⟩ := h
  obtain ⟨g1, g2⟩ := g
  refine ⟨?_, ?_⟩
  · rcases h1 with h1 | h1
    · rw [h1]; rfl
    · rw [h1]; exact g1
  · rcases h2 with h2 | h2
    · exact Or.inl h2
    · rw [h2]; exact g2
theorem keep_map (r : RouterT) (n : List UInt8) (x : RouteT) (h : g_lint_usesMap r n = true) : g_policy_permitting (g_lint_Prune r) n x = g_policy_permitting r n x := by
  rw [permitting_dec, permitting_dec]
  have e1 : (g_lint_Prune r).2.2.2.2.1 = pM r := by rw [prune_eq]
  unfold decM
  rw [e1]
  have e2 : (pM r).find? (fun m => m.1 == n) = (r.2.2.2.2.1.find? fun m => m.1 == n).map fun m : RouteMapT => ((m.1, g_lint_visible_Clause m.2.1, ()) : RouteMapT) := find_fm (fun x : RouteMapT => x.1) (g_lint_usesMap r) (fun m : RouteMapT => ((m.1, g_lint_visible_Clause m.2.1, ()) : RouteMapT)) (fun _ => rfl) n h r.2.2.2.2.1
  have e3 : ∀ m : RouteMapT, (pM r).find? (fun m => m.1 == n) = some m → m ∈ pM r := fun m hm => List.mem_of_find?_eq_some hm
  rw [e2] at e3 ⊢
  cases hm : r.2.2.2.2.1.find? (fun m => m.1 == n) with
  | none => rfl
  | some m =>
    rw [hm] at e3
    have e4 := e3 _ rfl
    show (match (g_lint_visible_Clause m.2.1).find? (cm (g_lint_Prune r) x) with | none => noC | some c => (c, c.1, ())) = (match m.2.1.find? (cm r x) with | none => noC | some c => (c, c.1, ()))
    have e5 : (g_lint_visible_Clause m.2.1).find? (cm (g_lint_Prune r) x) = (g_lint_visible_Clause m.2.1).find? (cm r x) := find_congr fun c hc => by
      unfold cm
      rw [keep_list r c.2.1 _ (uses_of (r := pq r) (m := (m.1, g_lint_visible_Clause m.2.1, ())) e4 hc)]
    rw [e5, vis_Clause, vis_find (cov := g_lint_CoversClause) (mat := cm r x) (fun a b => cov_clause) m.2.1 [] (fun a ha => by cases ha)]
theorem keep_apply (r : RouterT) (n : List UInt8) (x : RouteT) (h : g_lint_usesMap r n = true) : g_policy_Apply (g_lint_Prune r) n x = g_policy_Apply r n x := by
  unfold g_policy_Apply
  rw [keep_map r n _ h]
theorem keep_prepend (r : RouterT) (n : List UInt8) (x : RouteT) (h : g_lint_usesMap r n = true) : g_policy_Prepend (g_lint_Prune r) n x = g_policy_Prepend r n x := by
  unfold g_policy_Prepend
  rw [keep_map r n _ h]
theorem same_refl (x : RouteT) : g_law6_Same x x = true := by
  unfold g_law6_Same
  simp only [beq_self_eq_true, bne_self_eq_false, Bool.and_self, Bool.not_true, Bool.or_self, cond_false]
  unfold S_law6_Same_0
  refine upV_ind (P := fun x : Bool => x = true) ?_ _ _ fun c _ _ x hx => ?_
  · unfold S_law6_Same_1
    refine upV_ind (P := fun x : Bool => x = true) rfl _ _ fun c _ _ x hx => ?_
    simp only [beq_self_eq_true, Bool.and_self, Bool.not_true, cond_false, hx]
  · simp only [bne_self_eq_false, cond_false, hx]
theorem true_law11_LintKeeps (r : RouterT) (p : PacketT) (x : RouteT) (_hw : VSs.wf e_law11_LintKeeps.A (r, p, x, ())) : g_law11_LintKeeps r p x = true := by
  unfold g_law11_LintKeeps
  generalize (((((!(g_law11_right r)) || (!(g_r8_ValidPacket p))) || (!(g_r4_Valid (x.1, x.2.1, ())))) || (decide ((x.2.2.2.2.2.2.2.2.2.1.length : Int) > 20))) || (decide ((x.2.2.2.2.2.2.2.2.2.2.2.2.1.length : Int) > 20))) = d
  cases d with
  | true => rfl
  | false =>
    show S_law11_LintKeeps_0 r p x = true
    have eL : (g_lint_Prune r).2.2.2.1 = pL r := by rw [prune_eq]
    have eM : (g_lint_Prune r).2.2.2.2.1 = pM r := by rw [prune_eq]
    have eA : (g_lint_Prune r).2.2.2.2.2.1 = pA r := by rw [prune_eq]
    unfold S_law11_LintKeeps_0
    refine upV_ind (P := fun z : Bool => z = true) ?_ _ _ fun c _ hc z hz => ?_
    · unfold S_law11_LintKeeps_1
      refine upV_ind (P := fun z : Bool => z = true) ?_ _ _ fun c _ hc z hz => ?_
      · unfold S_law11_LintKeeps_2
        refine upV_ind (P := fun z : Bool => z = true) sane_law11 _ _ fun c _ hc z hz => ?_
        rw [eA] at hc ⊢
        obtain ⟨l, _, h2, h3⟩ := mem_fm (p := fun m : ACLT => g_lint_usesACL r m.1) (f := fun m : ACLT => ((m.1, g_lint_visible_Rule m.2.1, ()) : ACLT)) (l := r.2.2.2.2.2.1) (c := c) (D := ACLD) (show c < (pA r).length by omega)
        have e : (List.getD (pA r) c ACLD : ACLT).1 = l.1 := by have h4 : List.getD (pA r) c ACLD = ((l.1, g_lint_visible_Rule l.2.1, ()) : ACLT) := h3; rw [h4]
        rw [e, keep_acl r l.1 p h2, beq_self_eq_true]
        exact hz
      · rw [eM] at hc ⊢
        obtain ⟨l, _, h2, h3⟩ := mem_fm (p := fun m : RouteMapT => g_lint_usesMap r m.1) (f := fun m : RouteMapT => ((m.1, g_lint_visible_Clause m.2.1, ()) : RouteMapT)) (l := r.2.2.2.2.1) (c := c) (D := RouteMapD) (show c < (pM r).length by omega)
        have e : (List.getD (pM r) c RouteMapD : RouteMapT).1 = l.1 := by have h4 : List.getD (pM r) c RouteMapD = ((l.1, g_lint_visible_Clause l.2.1, ()) : RouteMapT) := h3; rw [h4]
        rw [e, keep_apply r l.1 x h2, keep_prepend r l.1 x h2, beq_self_eq_true, same_refl]
        simpa using hz
    · rw [eL] at hc ⊢
      obtain ⟨l, _, h2, h3⟩ := mem_fm (p := fun m : PrefixListT => g_lint_usesPrefixList (pq r) m.1) (f := fun m : PrefixListT => ((m.1, g_lint_visible_PrefixRule m.2.1, ()) : PrefixListT)) (l := r.2.2.2.1) (c := c) (D := PrefixListD) (show c < (pL r).length by omega)
      have e : (List.getD (pL r) c PrefixListD : PrefixListT).1 = l.1 := by have h4 : List.getD (pL r) c PrefixListD = ((l.1, g_lint_visible_PrefixRule l.2.1, ()) : PrefixListT) := h3; rw [h4]
      rw [e, keep_list r l.1 _ h2, beq_self_eq_true]
      exact hz
end Go.Proofs.YtokhlhnibpakiaaGreat
