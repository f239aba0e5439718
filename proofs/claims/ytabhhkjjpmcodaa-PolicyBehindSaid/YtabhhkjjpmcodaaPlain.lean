/-
  Route policy: what the program's functions give and what the reference's give, in plain Lean; the laws.
-/
import Derived.Test.YtabhhkjjpmcodaaAmG
import Derived.Test.YtabhhkjjpmcodaaAmBits
import Derived.KernelRfl
namespace Go.Proofs.Ytabhhkjjpmcodaa
open Go Go.AM
set_option maxRecDepth 100000

theorem sane_law6 : g_law6_sane = true := by kernel_rfl
theorem upS_congr {R S : Type} {b b' : Nat → S → (S → R) → R} {r : S → R} : ∀ (m s : Nat) (v : S), (∀ c, s ≤ c → c < s + m → ∀ v k, b c v k = b' c v k) → upS b r m s v = upS b' r m s v
  | 0, _, _, _ => rfl
  | m + 1, s, v, h => by
    simp only [upS]
    rw [h s (Nat.le_refl _) (by omega)]
    congr 1
    funext w
    exact upS_congr m (s + 1) w fun c h1 h2 => h c (by omega) (by omega)
theorem mask_clamp (n : Int) : g_r4_Mask n = g_r4_Mask (g_addr_clamp n) := by
  unfold g_r4_Mask S_r4_Mask_0
  refine upS_congr _ _ _ fun c _ h v k => ?_
  have e : decide ((c : Int) < n) = decide ((c : Int) < g_addr_clamp n) := by
    congr 1
    apply propext
    unfold g_addr_clamp
    simp only [Bool.cond_eq_ite, decide_eq_true_eq]
    repeat' split
    all_goals omega
  rw [e]
theorem clamp_clamp (n : Int) : g_addr_clamp (g_addr_clamp n) = g_addr_clamp n := by
  have := clamp_range n
  generalize g_addr_clamp n = k at this ⊢
  unfold g_addr_clamp
  simp only [Bool.cond_eq_ite, decide_eq_true_eq]
  repeat' split
  all_goals omega
theorem masks_all : (List.range 33).all (fun k => g_addr_Mask (k : Int) == g_r4_Mask (k : Int)) = true := by kernel_rfl
theorem mask_eq (n : Int) : g_addr_Mask n = g_r4_Mask n := by
  have h1 : g_addr_Mask n = g_addr_Mask (g_addr_clamp n) := by unfold g_addr_Mask; rw [clamp_clamp]
  rw [mask_clamp, h1]
  have hr := clamp_range n
  generalize g_addr_clamp n = k at hr ⊢
  obtain ⟨m, rfl⟩ := Int.eq_ofNat_of_zero_le hr.1
  have h := List.all_eq_true.1 masks_all m (List.mem_range.2 (by omega))
  exact eq_of_beq h
theorem matches_eq (x : PrefixRuleT) (p : PrefixT) : g_policy_Matches x p = g_r8_MatchesPrefix x p := by
  unfold g_policy_Matches g_r8_MatchesPrefix g_addr_Covers g_r4_Covers g_addr_Contains g_r4_Contains
  simp only [mask_eq]
theorem first_eq (l : PrefixListT) (p : PrefixT) : g_policy_First l p = g_r8_FirstPrefix l p := by
  unfold g_policy_First g_r8_FirstPrefix S_policy_First_0 S_r8_FirstPrefix_0
  simp only [matches_eq]
theorem list_eq (r : RouterT) (n : List UInt8) : g_model_PrefixList r n = g_r8_PrefixList r n := rfl
theorem map_eq (r : RouterT) (n : List UInt8) : g_model_RouteMap r n = g_r8_RouteMap r n := rfl
theorem permits_eq (r : RouterT) (n : List UInt8) (p : PrefixT) : g_policy_Permits r n p = g_r8_PermitsPrefix r n p := by
  unfold g_policy_Permits g_r8_PermitsPrefix
  simp only [first_eq, list_eq]
  rfl
theorem clause_eq (r : RouterT) (n : List UInt8) (x : RouteT) : g_policy_Clause r n x = g_r8_Clause r n x := by
  unfold g_policy_Clause g_r8_Clause S_policy_Clause_0 S_r8_Clause_0
  simp only [permits_eq, map_eq]
  rfl

theorem true_law6_PolicyMatches (l : PrefixListT) (p : PrefixT) (_hw : VSs.wf e_law6_PolicyMatches.A (l, p, ())) : g_law6_PolicyMatches l p = true := by
  unfold g_law6_PolicyMatches
  cases decide ((l.2.1.length : Int) > 40) || !g_r4_Valid p with
  | true => rfl
  | false =>
    simp only [cond_false]
    unfold S_law6_PolicyMatches_0
    refine upV_ind (P := fun x : Bool => x = true) ?_ _ _ fun c _ _ x hx => ?_
    · unfold S_law6_PolicyMatches_1
      refine upV_ind (P := fun x : Bool => x = true) ?_ _ _ fun c _ _ x hx => ?_
      · simp only [first_eq, sane_law6, Bool.and_true, beq_self_eq_true]
      · simp only [matches_eq, beq_self_eq_true, Bool.not_true, cond_false, hx]
    · simp only [hx]
      cases !g_r8_ValidPrefixRule (List.getD l.2.1 c PrefixRuleD) <;> rfl
theorem true_law6_PolicyPermits (r : RouterT) (n : List UInt8) (p : PrefixT) (_hw : VSs.wf e_law6_PolicyPermits.A (r, n, p, ())) : g_law6_PolicyPermits r n p = true := by
  unfold g_law6_PolicyPermits
  cases (((!(g_law6_few r)) || (decide ((n.length : Int) > 40))) || (!(g_r4_Valid p))) with
  | true => rfl
  | false =>
    have h1 : g_policy_Permits (g_law6_part r) [] p = true := rfl
    rw [h1]
    simp only [cond_false, permits_eq, beq_self_eq_true, Bool.not_true, Bool.or_false]
    unfold S_law6_PolicyPermits_0
    refine upV_ind (P := fun x : Bool => x = true) sane_law6 _ _ fun c _ _ x hx => ?_
    simp only [permits_eq, beq_self_eq_true, Bool.not_true, cond_false, hx]
theorem cond_nz {x r : Int} (h : cond (x != 0) x r = 0) : x = 0 ∧ r = 0 := by
  by_cases hx : x = 0
  · subst hx; exact ⟨rfl, by simpa using h⟩
  · have : (x != 0) = true := by simpa using hx
    rw [this] at h
    exact absurd h hx
theorem upV_err {body : Nat → Int → Int} {r : Int} {P : Nat → Prop} : ∀ (m s : Nat), (∀ c, s ≤ c → c < s + m → ∀ x, body c x = 0 → P c ∧ x = 0) → upV body r m s = 0 → (∀ c, s ≤ c → c < s + m → P c) ∧ r = 0
  | 0, s, _, h => ⟨fun c _ _ => by omega, h⟩
  | m + 1, s, hb, h => by
    simp only [upV] at h
    obtain ⟨h1, h2⟩ := hb s (Nat.le_refl _) (by omega) _ h
    obtain ⟨h3, h4⟩ := upV_err m (s + 1) (fun c h5 h6 => hb c (by omega) (by omega)) h2
    refine ⟨fun c h5 h6 => ?_, h4⟩
    by_cases hc : c = s
    · subst hc; exact h1
    · exact h3 c (by omega) (by omega)

/-! ### A valid clause sets -1 or what is not negative -/
def P3 (c : ClauseT) : Prop := -1 ≤ c.2.2.2.1 ∧ -1 ≤ c.2.2.2.2.1 ∧ -1 ≤ c.2.2.2.2.2.1
theorem few_ok (r : RouterT) (h : g_law6_few r = true) : g_r8_CheckRouter (g_law6_part r) = 0 := by
  unfold g_law6_few at h
  generalize ((decide ((r.2.2.2.1.length : Int) > 8)) || (decide ((r.2.2.2.2.1.length : Int) > 8))) = d at h
  cases d with
  | true => cases h
  | false =>
    simp only [cond_false] at h
    revert h
    unfold S_law6_few_0
    refine upV_ind (P := fun x : Bool => x = true → g_r8_CheckRouter (g_law6_part r) = 0) ?_ _ _ fun c _ _ x hx => ?_
    · unfold S_law6_few_1
      refine upV_ind (P := fun x : Bool => x = true → g_r8_CheckRouter (g_law6_part r) = 0) (fun h => eq_of_beq h) _ _ fun c _ _ x hx => ?_
      cases decide (((List.getD r.2.2.2.2.1 c RouteMapD).2.1.length : Int) > 8) with
      | true => intro h; cases h
      | false => exact hx
    · cases decide (((List.getD r.2.2.2.1 c PrefixListD).2.1.length : Int) > 16) with
      | true => intro h; cases h
      | false => exact hx
theorem cond_ne {b : Bool} {k x : Int} (hk : k ≠ 0) (h : cond b k x = 0) : b = false ∧ x = 0 := by
  cases b with
  | true => exact absurd h hk
  | false => exact ⟨rfl, h⟩
theorem check_maps (r : RouterT) (h : g_r8_CheckRouter r = 0) : g_r8_routeMaps r = 0 := by
  unfold g_r8_CheckRouter at h
  exact (cond_nz (cond_nz (cond_nz (cond_ne (by decide) (cond_ne (by decide) h).2).2).2).2).1
theorem maps_in (r : RouterT) (h : g_r8_routeMaps r = 0) : ∀ i, i < r.2.2.2.2.1.length → ∀ j, j < (List.getD r.2.2.2.2.1 i RouteMapD : RouteMapT).2.1.length → P3 (List.getD (List.getD r.2.2.2.2.1 i RouteMapD : RouteMapT).2.1 j ClauseD) := by
  unfold g_r8_routeMaps at h
  have h := (cond_ne (by decide) h).2
  unfold S_r8_routeMaps_0 at h
  refine fun i hi => (upV_err (P := fun i => ∀ j, j < (List.getD r.2.2.2.2.1 i RouteMapD : RouteMapT).2.1.length → P3 (List.getD (List.getD r.2.2.2.2.1 i RouteMapD : RouteMapT).2.1 j ClauseD)) _ _ (fun c _ _ x hx => ?_) h).1 i (Nat.zero_le _) (by omega)
  have hx := (cond_ne (by decide) hx).2
  unfold S_r8_routeMaps_1 at hx
  have hx := (upV_err (P := fun _ => True) _ _ (fun c _ _ x hx => ⟨trivial, (cond_ne (by decide) hx).2⟩) hx).2
  have hx := (cond_ne (by decide) (cond_ne (by decide) hx).2).2
  unfold S_r8_routeMaps_2 at hx
  have hx := upV_err (P := fun j => P3 (List.getD (List.getD r.2.2.2.2.1 c RouteMapD : RouteMapT).2.1 j ClauseD)) _ _ (fun j _ _ x hx => ?_) hx
  · exact ⟨fun j hj => hx.1 j (Nat.zero_le _) (by omega), hx.2⟩
  have hx := cond_ne (by decide) (cond_ne (by decide) hx).2
  refine ⟨?_, hx.2⟩
  have h1 := hx.1
  generalize (List.getD (List.getD r.2.2.2.2.1 c RouteMapD : RouteMapT).2.1 j ClauseD : ClauseT) = cl at h1 ⊢
  simp only [Bool.or_eq_false_iff, Bool.not_eq_false', g_r8_within, Bool.and_eq_true, decide_eq_true_eq] at h1
  exact ⟨h1.1.1.2.1, h1.1.1.1.2.1, h1.1.2.1⟩
theorem getD_out {α : Type} (l : List α) (i : Nat) (d : α) (h : ¬ i < l.length) : l.getD i d = d := by
  simp [List.getElem?_eq_none (Nat.le_of_not_lt h)]
theorem maps_ok (r : RouterT) (h : g_r8_routeMaps r = 0) (i j : Nat) : P3 (List.getD (List.getD r.2.2.2.2.1 i RouteMapD : RouteMapT).2.1 j ClauseD) := by
  by_cases hi : i < r.2.2.2.2.1.length
  · by_cases hj : j < (List.getD r.2.2.2.2.1 i RouteMapD : RouteMapT).2.1.length
    · exact maps_in r h i hi j hj
    · rw [getD_out _ j _ hj]; exact ⟨by decide, by decide, by decide⟩
  · rw [getD_out _ i _ hi]; exact ⟨by show (-1 : Int) ≤ 0; decide, by show (-1 : Int) ≤ 0; decide, by show (-1 : Int) ≤ 0; decide⟩

/-! ### Apply -/
def mkA (b1 b2 b3 : Bool) (c : ClauseT) (x : RouteT) : RouteT × Bool × Unit :=
  cond b1 (cond b2 (cond b3 ((x.1, x.2.1, x.2.2.1, x.2.2.2.1, x.2.2.2.2.1, c.2.2.2.1, x.2.2.2.2.2.2.1, c.2.2.2.2.1, c.2.2.2.2.2.1, x.2.2.2.2.2.2.2.2.2), true, ())
      ((x.1, x.2.1, x.2.2.1, x.2.2.2.1, x.2.2.2.2.1, c.2.2.2.1, x.2.2.2.2.2.2.1, c.2.2.2.2.1, x.2.2.2.2.2.2.2.2), true, ()))
    (cond b3 ((x.1, x.2.1, x.2.2.1, x.2.2.2.1, x.2.2.2.2.1, c.2.2.2.1, x.2.2.2.2.2.2.1, x.2.2.2.2.2.2.2.1, c.2.2.2.2.2.1, x.2.2.2.2.2.2.2.2.2), true, ())
      ((x.1, x.2.1, x.2.2.1, x.2.2.2.1, x.2.2.2.2.1, c.2.2.2.1, x.2.2.2.2.2.2), true, ())))
  (cond b2 (cond b3 ((x.1, x.2.1, x.2.2.1, x.2.2.2.1, x.2.2.2.2.1, x.2.2.2.2.2.1, x.2.2.2.2.2.2.1, c.2.2.2.2.1, c.2.2.2.2.2.1, x.2.2.2.2.2.2.2.2.2), true, ())
      ((x.1, x.2.1, x.2.2.1, x.2.2.2.1, x.2.2.2.2.1, x.2.2.2.2.2.1, x.2.2.2.2.2.2.1, c.2.2.2.2.1, x.2.2.2.2.2.2.2.2), true, ()))
    (cond b3 ((x.1, x.2.1, x.2.2.1, x.2.2.2.1, x.2.2.2.2.1, x.2.2.2.2.2.1, x.2.2.2.2.2.2.1, x.2.2.2.2.2.2.2.1, c.2.2.2.2.2.1, x.2.2.2.2.2.2.2.2.2), true, ())
      (x, true, ())))
def noR : RouteT × Bool × Unit := ((0, 0, 0, 0, 0, 0, 0, 0, 0, [], 0, 0, [], false, ()), false, ())
def clA (r : RouterT) (n : List UInt8) (x : RouteT) : ClauseT := List.getD (List.getD r.2.2.2.2.1 (Int.toNat (g_r8_RouteMap r n)) RouteMapD : RouteMapT).2.1 (Int.toNat (g_r8_Clause r n x)) ClauseD
theorem permitting_eq (r : RouterT) (n : List UInt8) (x : RouteT) : g_policy_permitting r n x = cond (decide (g_r8_Clause r n x < 0)) ((false, [], 0, 0, 0, 0, 0, ()), false, ()) (clA r n x, (clA r n x).1, ()) := by
  unfold g_policy_permitting
  rw [clause_eq]
  rfl
theorem apply_pol (r : RouterT) (n : List UInt8) (x : RouteT) : g_policy_Apply r n x = cond (n == []) (x, true, ()) (cond (!(g_policy_permitting r n x).2.1) noR (mkA ((g_policy_permitting r n x).1.2.2.2.1 != (-1)) ((g_policy_permitting r n x).1.2.2.2.2.1 != (-1)) ((g_policy_permitting r n x).1.2.2.2.2.2.1 != (-1)) (g_policy_permitting r n x).1 x)) := rfl
theorem apply_r8 (r : RouterT) (n : List UInt8) (x : RouteT) : g_r8_Apply r n x = cond (n == []) (x, true, ()) (cond (decide (g_r8_Clause r n x < 0)) noR (cond (!(clA r n x).1) noR (mkA (decide ((clA r n x).2.2.2.1 ≥ 0)) (decide ((clA r n x).2.2.2.2.1 ≥ 0)) (decide ((clA r n x).2.2.2.2.2.1 ≥ 0)) (clA r n x) x))) := rfl
theorem ne_ge {v : Int} (h : -1 ≤ v) : (v != (-1)) = decide (v ≥ 0) := by
  by_cases h1 : v = -1
  · subst h1; rfl
  · rw [bne_iff_ne.2 h1]; exact (decide_eq_true (by omega)).symm
theorem apply_eq (r : RouterT) (h : g_r8_routeMaps r = 0) (n : List UInt8) (x : RouteT) : g_policy_Apply r n x = g_r8_Apply r n x := by
  rw [apply_pol, apply_r8, permitting_eq]
  have hp : P3 (clA r n x) := maps_ok r h _ _
  generalize clA r n x = c at hp ⊢
  obtain ⟨h1, h2, h3⟩ := hp
  cases n == [] with
  | true => rfl
  | false =>
    cases decide (g_r8_Clause r n x < 0) with
    | true => rfl
    | false =>
      simp only [cond_false]
      rw [ne_ge h1, ne_ge h2, ne_ge h3]
theorem prepend_eq (r : RouterT) (n : List UInt8) (x : RouteT) : g_policy_Prepend r n x = g_r8_Prepend r n x := by
  unfold g_policy_Prepend
  rw [permitting_eq]
  show _ = cond (decide (g_r8_Clause r n x < 0)) 0 (cond (!(clA r n x).1) 0 (clA r n x).2.2.2.2.2.2.1)
  cases decide (g_r8_Clause r n x < 0) <;> rfl
theorem same_refl (x : RouteT) : g_law6_Same x x = true := by
  unfold g_law6_Same
  simp only [beq_self_eq_true, bne_self_eq_false, Bool.and_self, Bool.not_true, Bool.or_self, cond_false]
  unfold S_law6_Same_0
  refine upV_ind (P := fun x : Bool => x = true) ?_ _ _ fun c _ _ x hx => ?_
  · unfold S_law6_Same_1
    refine upV_ind (P := fun x : Bool => x = true) rfl _ _ fun c _ _ x hx => ?_
    simp only [beq_self_eq_true, Bool.and_self, Bool.not_true, cond_false, hx]
  · simp only [bne_self_eq_false, cond_false, hx]
theorem names_ok (r : RouterT) (h : g_r8_routeMaps r = 0) : ∀ i, i < r.2.2.2.2.1.length → g_r4_Name (List.getD r.2.2.2.2.1 i RouteMapD : RouteMapT).1 = true := by
  unfold g_r8_routeMaps at h
  have h := (cond_ne (by decide) h).2
  unfold S_r8_routeMaps_0 at h
  refine fun i hi => (upV_err (P := fun i => g_r4_Name (List.getD r.2.2.2.2.1 i RouteMapD : RouteMapT).1 = true) _ _ (fun c _ _ x hx => ?_) h).1 i (Nat.zero_le _) (by omega)
  have h1 := cond_ne (by decide) hx
  refine ⟨by simpa using h1.1, ?_⟩
  have hx := h1.2
  unfold S_r8_routeMaps_1 at hx
  have hx := (upV_err (P := fun _ => True) _ _ (fun c _ _ x hx => ⟨trivial, (cond_ne (by decide) hx).2⟩) hx).2
  have hx := (cond_ne (by decide) (cond_ne (by decide) hx).2).2
  unfold S_r8_routeMaps_2 at hx
  exact (upV_err (P := fun _ => True) _ _ (fun j _ _ x hx => ⟨trivial, (cond_ne (by decide) (cond_ne (by decide) hx).2).2⟩) hx).2
theorem no_map (r : RouterT) (h : g_r8_routeMaps r = 0) : g_r8_RouteMap r [] = -1 := by
  unfold g_r8_RouteMap S_r8_RouteMap_0
  refine upV_none _ _ fun c _ hc => ?_
  have hn := names_ok r h c (by omega)
  cases hb : (List.getD r.2.2.2.2.1 c RouteMapD : RouteMapT).1 == [] with
  | false => rfl
  | true =>
    have e : (List.getD r.2.2.2.2.1 c RouteMapD : RouteMapT).1 = [] := eq_of_beq hb
    rw [e] at hn
    exact absurd hn (by decide)
theorem prepend_nil (r : RouterT) (h : g_r8_routeMaps r = 0) (x : RouteT) : g_policy_Prepend r [] x = 0 := by
  rw [prepend_eq]
  unfold g_r8_Prepend g_r8_Clause
  rw [no_map r h]
  rfl
theorem cond_t {d e : Bool} (h : e = true) : cond d true e = true := by cases d <;> simp [h]
theorem true_law6_PolicyApplies (r : RouterT) (n : List UInt8) (x : RouteT) (_hw : VSs.wf e_law6_PolicyApplies.A (r, n, x, ())) : g_law6_PolicyApplies r n x = true := by
  unfold g_law6_PolicyApplies
  cases hf : g_law6_few r with
  | false => rfl
  | true =>
    have hm := check_maps _ (few_ok r hf)
    have hnil : g_policy_Apply (g_law6_part r) [] x = (x, true, ()) := rfl
    have hround : ∀ n', (((((g_policy_Clause (g_law6_part r) n' x) != (g_r8_Clause (g_law6_part r) n' x)) || (!((g_policy_Apply (g_law6_part r) n' x).2.1 == (g_r8_Apply (g_law6_part r) n' x).2.1))) || (!(g_law6_Same (g_policy_Apply (g_law6_part r) n' x).1 (g_r8_Apply (g_law6_part r) n' x).1))) || ((g_policy_Prepend (g_law6_part r) n' x) != (g_r8_Prepend (g_law6_part r) n' x))) = false := by
      intro n'
      rw [clause_eq, apply_eq _ hm, prepend_eq, same_refl]
      simp
    have hend : ((((g_policy_Apply (g_law6_part r) [] x).2.1 && (g_law6_Same x (g_policy_Apply (g_law6_part r) [] x).1)) && ((g_policy_Prepend (g_law6_part r) [] x) == 0)) && g_law6_sane) = true := by
      rw [hnil, same_refl, prepend_nil _ hm, sane_law6]
      rfl
    have hS : S_law6_PolicyApplies_0 r n x = true := by
      unfold S_law6_PolicyApplies_0
      refine upV_ind (P := fun x : Bool => x = true) hend _ _ fun c _ _ y hy => ?_
      rw [hround, hround, hy]
      cases decide ((c : Int) ≥ 0) <;> rfl
    refine cond_t ?_
    rw [hround, hS, hend]
    cases decide ((-1) < ((g_law6_part r).2.2.2.2.1.length : Int)) <;> rfl

/-! ### First of two lists, one behind the other -/
theorem first_none (l : PrefixListT) (p : PrefixT) (h : ∀ c, c < l.2.1.length → g_policy_Matches (List.getD l.2.1 c PrefixRuleD) p = false) : g_policy_First l p = -1 := by
  unfold g_policy_First S_policy_First_0
  exact upV_none _ _ fun c _ hc => h c (by omega)
theorem first_hit (l : PrefixListT) (p : PrefixT) (c0 : Nat) (h0 : c0 < l.2.1.length) (h1 : g_policy_Matches (List.getD l.2.1 c0 PrefixRuleD) p = true) (h : ∀ c, c < c0 → g_policy_Matches (List.getD l.2.1 c PrefixRuleD) p = false) : g_policy_First l p = (c0 : Int) := by
  unfold g_policy_First S_policy_First_0
  exact upV_hit (v := fun c => (c : Int)) _ _ c0 (Nat.zero_le _) (by omega) h1 fun c _ hc => h c hc
theorem first_cases (l : PrefixListT) (p : PrefixT) : (∀ c, c < l.2.1.length → g_policy_Matches (List.getD l.2.1 c PrefixRuleD) p = false) ∨ ∃ c0, c0 < l.2.1.length ∧ g_policy_Matches (List.getD l.2.1 c0 PrefixRuleD) p = true ∧ ∀ c, c < c0 → g_policy_Matches (List.getD l.2.1 c PrefixRuleD) p = false := by
  rcases first_or (f := fun c => g_policy_Matches (List.getD l.2.1 c PrefixRuleD) p) l.2.1.length 0 with h | ⟨c0, _, h2, h3, h4⟩
  · exact Or.inl fun c hc => h c (Nat.zero_le _) (by omega)
  · exact Or.inr ⟨c0, by omega, h3, fun c hc => h4 c (Nat.zero_le _) hc⟩
theorem getD_l {α : Type} (a b : List α) (d : α) (c : Nat) (h : c < a.length) : (a ++ b).getD c d = a.getD c d := by
  simp [List.getElem?_append_left h]
theorem getD_r {α : Type} (a b : List α) (d : α) (c : Nat) : (a ++ b).getD (a.length + c) d = b.getD c d := by
  simp [List.getElem?_append_right (Nat.le_add_right _ _)]
theorem behind_l (l m : PrefixListT) (p : PrefixT) (h : g_policy_First l p ≥ 0) : g_policy_First ([], l.2.1 ++ m.2.1, ()) p = g_policy_First l p := by
  rcases first_cases l p with h1 | ⟨c0, h1, h2, h3⟩
  · rw [first_none l p h1] at h; omega
  · rw [first_hit l p c0 h1 h2 h3]
    refine first_hit _ p c0 (by show c0 < (l.2.1 ++ m.2.1).length; rw [List.length_append]; omega) ?_ fun c hc => ?_
    · show g_policy_Matches ((l.2.1 ++ m.2.1).getD c0 PrefixRuleD) p = true
      rw [getD_l _ _ _ _ h1]; exact h2
    · show g_policy_Matches ((l.2.1 ++ m.2.1).getD c PrefixRuleD) p = false
      rw [getD_l _ _ _ _ (by omega)]; exact h3 c hc
theorem behind_r (l m : PrefixListT) (p : PrefixT) (h : ¬ g_policy_First l p ≥ 0) : (g_policy_First m p < 0 ∧ g_policy_First ([], l.2.1 ++ m.2.1, ()) p = -1) ∨ (g_policy_First m p ≥ 0 ∧ g_policy_First m p < (m.2.1.length : Int) ∧ g_policy_First ([], l.2.1 ++ m.2.1, ()) p = (l.2.1.length : Int) + g_policy_First m p) := by
  rcases first_cases l p with h1 | ⟨c0, h1, h2, h3⟩
  · rcases first_cases m p with k1 | ⟨c0, k1, k2, k3⟩
    · left
      refine ⟨by rw [first_none m p k1]; decide, first_none _ p fun c hc => ?_⟩
      show g_policy_Matches ((l.2.1 ++ m.2.1).getD c PrefixRuleD) p = false
      have hc : c < (l.2.1 ++ m.2.1).length := hc
      rw [List.length_append] at hc
      by_cases hl : c < l.2.1.length
      · rw [getD_l _ _ _ _ hl]; exact h1 c hl
      · obtain ⟨e, rfl⟩ := Nat.exists_eq_add_of_le (Nat.le_of_not_lt hl)
        rw [getD_r]; exact k1 e (by omega)
    · right
      rw [first_hit m p c0 k1 k2 k3]
      refine ⟨by omega, by omega, ?_⟩
      rw [first_hit ([], l.2.1 ++ m.2.1, ()) p (l.2.1.length + c0) (by show l.2.1.length + c0 < (l.2.1 ++ m.2.1).length; rw [List.length_append]; omega) ?_ fun c hc => ?_]
      · omega
      · show g_policy_Matches ((l.2.1 ++ m.2.1).getD (l.2.1.length + c0) PrefixRuleD) p = true
        rw [getD_r]; exact k2
      · show g_policy_Matches ((l.2.1 ++ m.2.1).getD c PrefixRuleD) p = false
        by_cases hl : c < l.2.1.length
        · rw [getD_l _ _ _ _ hl]; exact h1 c hl
        · obtain ⟨e, rfl⟩ := Nat.exists_eq_add_of_le (Nat.le_of_not_lt hl)
          rw [getD_r]; exact k3 e (by omega)
  · rw [first_hit l p c0 h1 h2 h3] at h; omega
theorem segL_app (l m : PrefixListT) : segL (l.2.1 ++ m.2.1) 0 (l.2.1.length + m.2.1.length) = l.2.1 ++ m.2.1 := by
  unfold segL
  rw [List.drop_zero]
  exact List.take_of_length_le (by rw [List.length_append]; exact Nat.le_refl _)
theorem true_law6_PolicyBehind (l m : PrefixListT) (p : PrefixT) (_hw : VSs.wf e_law6_PolicyBehind.A (l, m, p, ())) : g_law6_PolicyBehind l m p = true := by
  unfold g_law6_PolicyBehind
  cases hd : (((decide ((l.2.1.length : Int) > 20)) || (decide ((m.2.1.length : Int) > 20))) || (!(g_r4_Valid p))) with
  | true => rfl
  | false =>
    simp only [Bool.or_eq_false_iff, decide_eq_false_iff_not] at hd
    have h1 := hd.1.1
    have h2 := hd.1.2
    simp only [cond_false]
    unfold S_law6_PolicyBehind_0
    refine upV_ind (P := fun x : Bool => x = true) ?_ _ _ fun c _ _ x hx => ?_
    · rw [segL_app]
      by_cases h : g_policy_First l p ≥ 0
      · rw [behind_l l m p h, decide_eq_true h, sane_law6]; simp
      · rw [decide_eq_false h]
        rcases behind_r l m p h with ⟨k1, k2⟩ | ⟨k1, k2, k3⟩
        · rw [k2, decide_eq_true k1, sane_law6]; rfl
        · rw [k3, decide_eq_true k1, w64 (by omega) (by omega), sane_law6]; simp
    · rw [hx]
      exact cond_t rfl

/-! ### What Apply keeps -/
theorem mkA_ok (b1 b2 b3 : Bool) (c : ClauseT) (x : RouteT) : (mkA b1 b2 b3 c x).2.1 = true := by cases b1 <;> cases b2 <;> cases b3 <;> rfl
theorem mkA_again (b1 b2 b3 : Bool) (c : ClauseT) (x : RouteT) : (mkA b1 b2 b3 c (mkA b1 b2 b3 c x).1).1 = (mkA b1 b2 b3 c x).1 := by cases b1 <;> cases b2 <;> cases b3 <;> rfl
theorem mkA_back (b1 b2 b3 : Bool) (c : ClauseT) (x : RouteT) : (((mkA b1 b2 b3 c x).1.1, (mkA b1 b2 b3 c x).1.2.1, (mkA b1 b2 b3 c x).1.2.2.1, (mkA b1 b2 b3 c x).1.2.2.2.1, (mkA b1 b2 b3 c x).1.2.2.2.2.1, x.2.2.2.2.2.1, (mkA b1 b2 b3 c x).1.2.2.2.2.2.2.1, x.2.2.2.2.2.2.2.1, x.2.2.2.2.2.2.2.2.1, (mkA b1 b2 b3 c x).1.2.2.2.2.2.2.2.2.2.1, (mkA b1 b2 b3 c x).1.2.2.2.2.2.2.2.2.2.2.1, (mkA b1 b2 b3 c x).1.2.2.2.2.2.2.2.2.2.2.2.1, (mkA b1 b2 b3 c x).1.2.2.2.2.2.2.2.2.2.2.2.2.1, (mkA b1 b2 b3 c x).1.2.2.2.2.2.2.2.2.2.2.2.2.2.1, ()) : RouteT) = x := by cases b1 <;> cases b2 <;> cases b3 <;> rfl
theorem uniq (r : RouterT) (h : g_r8_routeMaps r = 0) : ∀ i, i < r.2.2.2.2.1.length → ∀ j, j < i → ((List.getD r.2.2.2.2.1 j RouteMapD : RouteMapT).1 == (List.getD r.2.2.2.2.1 i RouteMapD : RouteMapT).1) = false := by
  unfold g_r8_routeMaps at h
  have h := (cond_ne (by decide) h).2
  unfold S_r8_routeMaps_0 at h
  refine fun i hi => (upV_err (P := fun i => ∀ j, j < i → ((List.getD r.2.2.2.2.1 j RouteMapD : RouteMapT).1 == (List.getD r.2.2.2.2.1 i RouteMapD : RouteMapT).1) = false) _ _ (fun c _ _ x hx => ?_) h).1 i (Nat.zero_le _) (by omega)
  have hx := (cond_ne (by decide) hx).2
  unfold S_r8_routeMaps_1 at hx
  have hx := upV_err (P := fun j => ((List.getD r.2.2.2.2.1 j RouteMapD : RouteMapT).1 == (List.getD r.2.2.2.2.1 c RouteMapD : RouteMapT).1) = false) _ _ (fun c _ _ x hx => cond_ne (by decide) hx) hx
  refine ⟨fun j hj => hx.1 j (Nat.zero_le _) (by omega), ?_⟩
  have hx := (cond_ne (by decide) (cond_ne (by decide) hx.2).2).2
  unfold S_r8_routeMaps_2 at hx
  exact (upV_err (P := fun _ => True) _ _ (fun j _ _ x hx => ⟨trivial, (cond_ne (by decide) (cond_ne (by decide) hx).2).2⟩) hx).2
theorem map_self (r : RouterT) (h : g_r8_routeMaps r = 0) (i : Nat) (hi : i < r.2.2.2.2.1.length) : g_r8_RouteMap r (List.getD r.2.2.2.2.1 i RouteMapD : RouteMapT).1 = (i : Int) := by
  unfold g_r8_RouteMap S_r8_RouteMap_0
  exact upV_hit (v := fun c => (c : Int)) _ _ i (Nat.zero_le _) (by omega) (beq_self_eq_true _) fun c _ hc => uniq r h i hi c hc
theorem name_self (r : RouterT) (h : g_r8_routeMaps r = 0) (i : Nat) (hi : i < r.2.2.2.2.1.length) : ((List.getD r.2.2.2.2.1 i RouteMapD : RouteMapT).1 == []) = false := by
  have hn := names_ok r h i hi
  cases hb : (List.getD r.2.2.2.2.1 i RouteMapD : RouteMapT).1 == [] with
  | false => rfl
  | true =>
    have e : (List.getD r.2.2.2.2.1 i RouteMapD : RouteMapT).1 = [] := eq_of_beq hb
    rw [e] at hn
    exact absurd hn (by decide)
theorem key_cond {d e : Bool} (h : d = false → e = true) : cond d true e = true := by
  cases d with
  | true => rfl
  | false => exact h rfl
theorem true_law6_PolicyKeeps (r : RouterT) (k : Int) (x : RouteT) (_hw : VSs.wf e_law6_PolicyKeeps.A (r, k, x, ())) : g_law6_PolicyKeeps r k x = true := by
  unfold g_law6_PolicyKeeps
  refine key_cond fun hd => ?_
  simp only [Bool.or_eq_false_iff, decide_eq_false_iff_not, Bool.not_eq_false'] at hd
  have hf := hd.1.1.1.1.1
  have hk0 := hd.1.1.1.1.2
  have hk1 := hd.1.1.1.2
  have hm := check_maps _ (few_ok r hf)
  have hlen : Int.toNat k < (g_law6_part r).2.2.2.2.1.length := by
    show Int.toNat k < r.2.2.2.2.1.length
    omega
  clear hd hf hk0 hk1
  generalize g_law6_part r = q at hm hlen ⊢
  have hs := map_self q hm _ hlen
  have hn := name_self q hm _ hlen
  generalize he : (List.getD q.2.2.2.2.1 (Int.toNat k) RouteMapD : RouteMapT) = m at hs hn ⊢
  obtain ⟨n, cls, _⟩ := m
  simp only [apply_eq q hm, clause_eq] at hs hn ⊢
  have h1 := apply_r8 q n x
  rw [hn, cond_false] at h1
  cases hc : decide (g_r8_Clause q n x < 0) with
  | true =>
    rw [hc, cond_true] at h1
    rw [h1]
    show (g_law6_Same noR.1 noR.1 && g_law6_sane) = true
    rw [same_refl, sane_law6]; rfl
  | false =>
    rw [hc, cond_false] at h1
    cases hc1 : (clA q n x).1 with
    | false =>
      rw [hc1] at h1
      have h1 : g_r8_Apply q n x = noR := h1
      rw [h1]
      show (g_law6_Same noR.1 noR.1 && g_law6_sane) = true
      rw [same_refl, sane_law6]; rfl
    | true =>
      rw [hc1] at h1
      simp only [Bool.not_true, cond_false] at h1
      have hin : (decide (g_r8_Clause q n x ≥ 0)) = true ∧ decide (g_r8_Clause q n x < (cls.length : Int)) = true := by
        have h0 : ¬ g_r8_Clause q n x < 0 := of_decide_eq_false hc
        refine ⟨decide_eq_true (by omega), decide_eq_true ?_⟩
        rcases ix_r8_Clause q n x with h | ⟨_, h⟩
        · exact absurd h h0
        · rw [hs, Int.toNat_natCast, he] at h
          simp only [okIx, Bool.and_eq_true, decide_eq_true_eq] at h
          exact h.2
      rw [h1, mkA_ok, mkA_back, same_refl]
      simp only [Bool.not_true, cond_false]
      rw [hin.1, hin.2, sane_law6]
      refine key_cond fun hd => ?_
      simp only [Bool.or_eq_false_iff] at hd
      have h2 := apply_r8 q n (mkA (decide ((clA q n x).2.2.2.1 ≥ 0)) (decide ((clA q n x).2.2.2.2.1 ≥ 0)) (decide ((clA q n x).2.2.2.2.2.1 ≥ 0)) (clA q n x) x).1
      have hcl : g_r8_Clause q n (mkA (decide ((clA q n x).2.2.2.1 ≥ 0)) (decide ((clA q n x).2.2.2.2.1 ≥ 0)) (decide ((clA q n x).2.2.2.2.2.1 ≥ 0)) (clA q n x) x).1 = g_r8_Clause q n x := by simpa using hd.2
      have hca : clA q n (mkA (decide ((clA q n x).2.2.2.1 ≥ 0)) (decide ((clA q n x).2.2.2.2.1 ≥ 0)) (decide ((clA q n x).2.2.2.2.2.1 ≥ 0)) (clA q n x) x).1 = clA q n x := by
        unfold clA at hcl ⊢
        rw [hcl]
      rw [hn, hcl, hc, hca, hc1] at h2
      simp only [Bool.not_true, cond_false] at h2
      rw [h2, mkA_ok, mkA_again, same_refl]
      rfl
end Go.Proofs.Ytabhhkjjpmcodaa
