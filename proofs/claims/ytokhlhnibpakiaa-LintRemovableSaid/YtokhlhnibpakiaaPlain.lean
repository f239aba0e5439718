/-
  Lint: a list that is reported as unused can go, in plain Lean; the law.
-/
import Derived.Test.YtokhlhnibpakiaaAmG
import Derived.Test.YtokhlhnibpakiaaAmBits
import Derived.KernelRfl
namespace Go.Proofs.Ytokhlhnibpakiaa
open Go Go.AM
set_option maxRecDepth 100000

theorem sane_law11 : g_law11_sane = true := by kernel_rfl
theorem cond_nz {x r : Int} (h : cond (x != 0) x r = 0) : x = 0 ∧ r = 0 := by
  by_cases hx : x = 0
  · subst hx; exact ⟨rfl, by simpa using h⟩
  · have : (x != 0) = true := by simpa using hx
    rw [this] at h
    exact absurd h hx
theorem cond_ne {b : Bool} {k x : Int} (hk : k ≠ 0) (h : cond b k x = 0) : b = false ∧ x = 0 := by
  cases b with
  | true => exact absurd h hk
  | false => exact ⟨rfl, h⟩
theorem upV_eq {R : Type} {v0 : R} {body : Nat → R → R} {r : R} {P : Nat → Prop} : ∀ (m s : Nat), (∀ c, s ≤ c → c < s + m → ∀ x, body c x = v0 → P c ∧ x = v0) → upV body r m s = v0 → (∀ c, s ≤ c → c < s + m → P c) ∧ r = v0
  | 0, s, _, h => ⟨fun c _ _ => by omega, h⟩
  | m + 1, s, hb, h => by
    simp only [upV] at h
    obtain ⟨h1, h2⟩ := hb s (Nat.le_refl _) (by omega) _ h
    obtain ⟨h3, h4⟩ := upV_eq m (s + 1) (fun c h5 h6 => hb c (by omega) (by omega)) h2
    refine ⟨fun c h5 h6 => ?_, h4⟩
    by_cases hc : c = s
    · subst hc; exact h1
    · exact h3 c (by omega) (by omega)

/-! ### A list of named things -/
section
variable {A : Type} (nm : A → List UInt8) (ok : A → Int → Int) (d : A)
def chk (l : List A) : Int := upV (fun c0 next0 => cond (!(g_r4_Name (nm (List.getD l c0 d)))) 3 (upV (fun c1 next1 => cond ((nm (List.getD l c1 d)) == (nm (List.getD l c0 d))) 4 next1) (ok (List.getD l c0 d) next0) (c0 - 0) 0)) (0) (l.length - 0) 0
def good (l : List A) (c : Nat) : Prop := g_r4_Name (nm (List.getD l c d)) = true ∧ (∀ j, j < c → ((nm (List.getD l j d)) == (nm (List.getD l c d))) = false) ∧ ok (List.getD l c d) 0 = 0
theorem chk_all (hok : ∀ x y, ok x y = 0 → y = 0) {l : List A} (h : chk nm ok d l = 0) : ∀ c, c < l.length → good nm ok d l c := by
  unfold chk at h
  refine fun c hc => (upV_eq (P := good nm ok d l) _ _ (fun c _ _ x hx => ?_) h).1 c (Nat.zero_le _) (by omega)
  obtain ⟨h1, hx⟩ := cond_ne (by decide) hx
  obtain ⟨h2, hx⟩ := upV_eq (P := fun j => ((nm (List.getD l j d)) == (nm (List.getD l c d))) = false) _ _ (fun j _ _ y hy => cond_ne (by decide) hy) hx
  have h3 := hok _ _ hx
  subst h3
  exact ⟨⟨by simpa using h1, fun j hj => h2 j (Nat.zero_le _) (by omega), hx⟩, rfl⟩
theorem chk_mk {l : List A} (h : ∀ c, c < l.length → good nm ok d l c) : chk nm ok d l = 0 := by
  unfold chk
  refine upV_ind (P := fun x : Int => x = 0) rfl _ _ fun c _ hc x hx => ?_
  obtain ⟨h1, h2, h3⟩ := h c (by omega)
  subst hx
  rw [h1]
  show upV _ _ _ _ = 0
  refine upV_ind (P := fun x : Int => x = 0) h3 _ _ fun j _ hj y hy => ?_
  rw [h2 j (by omega)]
  exact hy
theorem getD_erase (l : List A) (i c : Nat) : (l.eraseIdx i).getD c d = l.getD (if c < i then c else c + 1) d := by
  simp only [List.getD_eq_getElem?_getD, List.getElem?_eraseIdx]
  split <;> rfl
theorem chk_erase (hok : ∀ x y, ok x y = 0 → y = 0) {l : List A} (i : Nat) (hi : i < l.length) (h : chk nm ok d l = 0) : chk nm ok d (l.eraseIdx i) = 0 := by
  have h := chk_all nm ok d hok h
  refine chk_mk nm ok d fun c hc => ?_
  rw [List.length_eraseIdx_of_lt hi] at hc
  have hk : (if c < i then c else c + 1) < l.length := by split <;> omega
  obtain ⟨h1, h2, h3⟩ := h _ hk
  refine ⟨by rw [getD_erase]; exact h1, fun j hj => ?_, by rw [getD_erase]; exact h3⟩
  rw [getD_erase, getD_erase]
  exact h2 _ (by split <;> split <;> omega)
/-- The first of that name: there is one. -/
def fst (n : List UInt8) (l : List A) : Int := upV (fun c0 next0 => cond ((nm (List.getD l c0 d)) == n) (c0 : Int) next0) (-1) (l.length - 0) 0
theorem fst_neg (n : List UInt8) (l : List A) : fst nm d n l < 0 ↔ ∀ c, c < l.length → ((nm (List.getD l c d)) == n) = false := by
  unfold fst
  rcases first_or (f := fun c => (nm (List.getD l c d)) == n) (l.length - 0) 0 with h | ⟨b, h1, h2, h3, h4⟩
  · rw [upV_none (v := fun c : Nat => (c : Int)) _ _ h]
    exact ⟨fun _ c hc => h c (Nat.zero_le _) (by omega), fun _ => by decide⟩
  · rw [upV_hit (v := fun c : Nat => (c : Int)) _ _ b h1 h2 h3 h4]
    refine ⟨fun h => absurd h (by omega), fun h => ?_⟩
    have h5 := h b (by omega)
    rw [h3] at h5
    cases h5
theorem fst_erase (n : List UInt8) (l : List A) (i : Nat) (hi : i < l.length) (hn : ((nm (List.getD l i d)) == n) = false) : decide (fst nm d n (l.eraseIdx i) < 0) = decide (fst nm d n l < 0) := by
  refine decide_eq_decide.2 ((fst_neg nm d n _).trans (Iff.trans ?_ (fst_neg nm d n l).symm))
  rw [List.length_eraseIdx_of_lt hi]
  constructor
  · intro h c hc
    rcases Nat.lt_trichotomy c i with h1 | h1 | h1
    · have h2 := h c (by omega)
      rw [getD_erase, if_pos h1] at h2
      exact h2
    · subst h1; exact hn
    · have h2 := h (c - 1) (by omega)
      rw [getD_erase, if_neg (by omega), Nat.sub_add_cancel (by omega)] at h2
      exact h2
  · intro h c hc
    rw [getD_erase]
    exact h _ (by split <;> omega)
end

/-! ### The router's parts -/
structure Valid (r : RouterT) : Prop where
  nm : g_r4_Name r.1 = true
  as : g_r8_within r.2.1 0 65535 = true
  ifs : g_r8_interfaces r.2.2.1 = 0
  lists : g_r8_prefixLists r.2.2.2.1 = 0
  maps : g_r8_routeMaps r = 0
  acls : g_r8_accessLists r.2.2.2.2.2.1 = 0
  nat : g_r8_translations r = 0
  fil : g_r8_filters r = 0
  stat : g_r8_statics r = 0
  ls : g_r8_linkState r = 0
  dv : g_r8_distance r = 0
  pv : g_r8_pathVector r = 0
theorem valid_of {r : RouterT} (h : g_r8_CheckRouter r = 0) : Valid r := by
  unfold g_r8_CheckRouter at h
  obtain ⟨h1, h⟩ := cond_ne (by decide) h
  obtain ⟨h2, h⟩ := cond_ne (by decide) h
  obtain ⟨h3, h⟩ := cond_nz h
  obtain ⟨h4, h⟩ := cond_nz h
  obtain ⟨h5, h⟩ := cond_nz h
  obtain ⟨h6, h⟩ := cond_nz h
  obtain ⟨h7, h⟩ := cond_nz h
  obtain ⟨h8, h⟩ := cond_nz h
  obtain ⟨h9, h⟩ := cond_nz h
  obtain ⟨h10, h⟩ := cond_nz h
  obtain ⟨h11, h⟩ := cond_nz h
  obtain ⟨h12, h⟩ := cond_nz h
  exact ⟨by simpa using h1, by simpa using h2, h3, h4, h5, h6, h7, h8, h9, h10, h11, h12⟩
theorem valid_mk {r : RouterT} (h : Valid r) : g_r8_CheckRouter r = 0 := by
  unfold g_r8_CheckRouter
  rw [h.nm, h.as, h.ifs, h.lists, h.maps, h.acls, h.nat, h.fil, h.stat, h.ls, h.dv, h.pv]
  rfl
theorem lists_iff (l : List PrefixListT) : g_r8_prefixLists l = cond (decide ((l.length : Int) > 8)) 7 (chk (fun x : PrefixListT => x.1) (fun x next => cond ((x.2.1.length : Int) == 0) 1 (cond (decide ((x.2.1.length : Int) > 16)) 7 (upV (fun c2 next2 => cond (!(g_r8_ValidPrefixRule (List.getD x.2.1 c2 PrefixRuleD))) 1 next2) next (x.2.1.length - 0) 0))) PrefixListD l) := rfl
theorem acls_iff (l : List ACLT) : g_r8_accessLists l = cond (decide ((l.length : Int) > 8)) 7 (chk (fun x : ACLT => x.1) (fun x next => cond ((x.2.1.length : Int) == 0) 1 (cond (decide ((x.2.1.length : Int) > 16)) 7 (upV (fun c2 next2 => cond (!(g_r8_ValidRule (List.getD x.2.1 c2 RuleD))) 1 next2) next (x.2.1.length - 0) 0))) ACLD l) := rfl
def okM (r : RouterT) (x : RouteMapT) (next : Int) : Int := cond ((x.2.1.length : Int) == 0) 1 (cond (decide ((x.2.1.length : Int) > 8)) 7 (upV (fun c2 next2 => cond ((!((List.getD x.2.1 c2 ClauseD).2.1 == [])) && (decide ((g_r8_PrefixList r (List.getD x.2.1 c2 ClauseD).2.1) < 0))) 5 (cond (((((!(g_r8_within (List.getD x.2.1 c2 ClauseD).2.2.1 (-1) 65535)) || (!(g_r8_within (List.getD x.2.1 c2 ClauseD).2.2.2.2.1 (-1) 65535))) || (!(g_r8_within (List.getD x.2.1 c2 ClauseD).2.2.2.1 (-1) 16777215))) || (!(g_r8_within (List.getD x.2.1 c2 ClauseD).2.2.2.2.2.1 (-1) 1000000))) || (!(g_r8_within (List.getD x.2.1 c2 ClauseD).2.2.2.2.2.2.1 0 8))) 1 next2)) next (x.2.1.length - 0) 0))
theorem maps_iff (r : RouterT) : g_r8_routeMaps r = cond (decide ((r.2.2.2.2.1.length : Int) > 8)) 7 (chk (fun x : RouteMapT => x.1) (okM r) RouteMapD r.2.2.2.2.1) := rfl
theorem dec_erase {A : Type} {l : List A} {i : Nat} (hi : i < l.length) (h : decide ((l.length : Int) > 8) = false) : decide (((l.eraseIdx i).length : Int) > 8) = false := by
  rw [List.length_eraseIdx_of_lt hi]
  simp only [decide_eq_false_iff_not] at h ⊢
  omega
theorem lists_erase {l : List PrefixListT} {i : Nat} (hi : i < l.length) (h : g_r8_prefixLists l = 0) : g_r8_prefixLists (l.eraseIdx i) = 0 := by
  rw [lists_iff] at h ⊢
  obtain ⟨h1, h2⟩ := cond_ne (by decide) h
  rw [dec_erase hi h1]
  refine chk_erase _ _ _ (fun x y hx => ?_) i hi h2
  exact (upV_eq (P := fun _ => True) _ _ (fun j _ _ x hx => ⟨trivial, (cond_ne (by decide) hx).2⟩) (cond_ne (by decide) (cond_ne (by decide) hx).2).2).2
theorem acls_erase {l : List ACLT} {i : Nat} (hi : i < l.length) (h : g_r8_accessLists l = 0) : g_r8_accessLists (l.eraseIdx i) = 0 := by
  rw [acls_iff] at h ⊢
  obtain ⟨h1, h2⟩ := cond_ne (by decide) h
  rw [dec_erase hi h1]
  refine chk_erase _ _ _ (fun x y hx => ?_) i hi h2
  exact (upV_eq (P := fun _ => True) _ _ (fun j _ _ x hx => ⟨trivial, (cond_ne (by decide) hx).2⟩) (cond_ne (by decide) (cond_ne (by decide) hx).2).2).2
def setL (r : RouterT) (l : List PrefixListT) : RouterT := (r.1, r.2.1, r.2.2.1, l, r.2.2.2.2.1, r.2.2.2.2.2.1, r.2.2.2.2.2.2.1, r.2.2.2.2.2.2.2.1, r.2.2.2.2.2.2.2.2.1, r.2.2.2.2.2.2.2.2.2.1, r.2.2.2.2.2.2.2.2.2.2.1, r.2.2.2.2.2.2.2.2.2.2.2.1, r.2.2.2.2.2.2.2.2.2.2.2.2.1, r.2.2.2.2.2.2.2.2.2.2.2.2.2.1, r.2.2.2.2.2.2.2.2.2.2.2.2.2.2.1, r.2.2.2.2.2.2.2.2.2.2.2.2.2.2.2.1, r.2.2.2.2.2.2.2.2.2.2.2.2.2.2.2.2.1, r.2.2.2.2.2.2.2.2.2.2.2.2.2.2.2.2.2.1, r.2.2.2.2.2.2.2.2.2.2.2.2.2.2.2.2.2.2.1, r.2.2.2.2.2.2.2.2.2.2.2.2.2.2.2.2.2.2.2.1, r.2.2.2.2.2.2.2.2.2.2.2.2.2.2.2.2.2.2.2.2.1, r.2.2.2.2.2.2.2.2.2.2.2.2.2.2.2.2.2.2.2.2.2.1, r.2.2.2.2.2.2.2.2.2.2.2.2.2.2.2.2.2.2.2.2.2.2.1, r.2.2.2.2.2.2.2.2.2.2.2.2.2.2.2.2.2.2.2.2.2.2.2.1, r.2.2.2.2.2.2.2.2.2.2.2.2.2.2.2.2.2.2.2.2.2.2.2.2.1, ())
def setM (r : RouterT) (l : List RouteMapT) : RouterT := (r.1, r.2.1, r.2.2.1, r.2.2.2.1, l, r.2.2.2.2.2.1, r.2.2.2.2.2.2.1, r.2.2.2.2.2.2.2.1, r.2.2.2.2.2.2.2.2.1, r.2.2.2.2.2.2.2.2.2.1, r.2.2.2.2.2.2.2.2.2.2.1, r.2.2.2.2.2.2.2.2.2.2.2.1, r.2.2.2.2.2.2.2.2.2.2.2.2.1, r.2.2.2.2.2.2.2.2.2.2.2.2.2.1, r.2.2.2.2.2.2.2.2.2.2.2.2.2.2.1, r.2.2.2.2.2.2.2.2.2.2.2.2.2.2.2.1, r.2.2.2.2.2.2.2.2.2.2.2.2.2.2.2.2.1, r.2.2.2.2.2.2.2.2.2.2.2.2.2.2.2.2.2.1, r.2.2.2.2.2.2.2.2.2.2.2.2.2.2.2.2.2.2.1, r.2.2.2.2.2.2.2.2.2.2.2.2.2.2.2.2.2.2.2.1, r.2.2.2.2.2.2.2.2.2.2.2.2.2.2.2.2.2.2.2.2.1, r.2.2.2.2.2.2.2.2.2.2.2.2.2.2.2.2.2.2.2.2.2.1, r.2.2.2.2.2.2.2.2.2.2.2.2.2.2.2.2.2.2.2.2.2.2.1, r.2.2.2.2.2.2.2.2.2.2.2.2.2.2.2.2.2.2.2.2.2.2.2.1, r.2.2.2.2.2.2.2.2.2.2.2.2.2.2.2.2.2.2.2.2.2.2.2.2.1, ())
def setA (r : RouterT) (l : List ACLT) : RouterT := (r.1, r.2.1, r.2.2.1, r.2.2.2.1, r.2.2.2.2.1, l, r.2.2.2.2.2.2.1, r.2.2.2.2.2.2.2.1, r.2.2.2.2.2.2.2.2.1, r.2.2.2.2.2.2.2.2.2.1, r.2.2.2.2.2.2.2.2.2.2.1, r.2.2.2.2.2.2.2.2.2.2.2.1, r.2.2.2.2.2.2.2.2.2.2.2.2.1, r.2.2.2.2.2.2.2.2.2.2.2.2.2.1, r.2.2.2.2.2.2.2.2.2.2.2.2.2.2.1, r.2.2.2.2.2.2.2.2.2.2.2.2.2.2.2.1, r.2.2.2.2.2.2.2.2.2.2.2.2.2.2.2.2.1, r.2.2.2.2.2.2.2.2.2.2.2.2.2.2.2.2.2.1, r.2.2.2.2.2.2.2.2.2.2.2.2.2.2.2.2.2.2.1, r.2.2.2.2.2.2.2.2.2.2.2.2.2.2.2.2.2.2.2.1, r.2.2.2.2.2.2.2.2.2.2.2.2.2.2.2.2.2.2.2.2.1, r.2.2.2.2.2.2.2.2.2.2.2.2.2.2.2.2.2.2.2.2.2.1, r.2.2.2.2.2.2.2.2.2.2.2.2.2.2.2.2.2.2.2.2.2.2.1, r.2.2.2.2.2.2.2.2.2.2.2.2.2.2.2.2.2.2.2.2.2.2.2.1, r.2.2.2.2.2.2.2.2.2.2.2.2.2.2.2.2.2.2.2.2.2.2.2.2.1, ())
theorem maps_erase {r : RouterT} {i : Nat} (hi : i < r.2.2.2.2.1.length) (h : g_r8_routeMaps r = 0) : g_r8_routeMaps (setM r (r.2.2.2.2.1.eraseIdx i)) = 0 := by
  rw [maps_iff] at h ⊢
  obtain ⟨h1, h2⟩ := cond_ne (by decide) h
  show cond (decide (((r.2.2.2.2.1.eraseIdx i).length : Int) > 8)) 7 (chk (fun x : RouteMapT => x.1) (okM r) RouteMapD (r.2.2.2.2.1.eraseIdx i)) = 0
  rw [dec_erase hi h1]
  refine chk_erase _ _ _ (fun x y hx => ?_) i hi h2
  exact (upV_eq (P := fun _ => True) _ _ (fun j _ _ x hx => ⟨trivial, (cond_ne (by decide) (cond_ne (by decide) hx).2).2⟩) (cond_ne (by decide) (cond_ne (by decide) hx).2).2).2

/-! ### What an unused list is not named by -/
theorem or2 {a b : Bool} (h : (a || b) = false) : a = false ∧ b = false := by cases a <;> cases b <;> first | exact ⟨rfl, rfl⟩ | cases h
theorem cond_tf {b x : Bool} (h : cond b true x = false) : b = false ∧ x = false := by
  cases b with
  | true => cases h
  | false => exact ⟨rfl, h⟩
theorem noList {r : RouterT} {n : List UInt8} (h : g_lint_usesPrefixList r n = false) : (∀ i, i < r.2.2.2.2.1.length → ∀ j, j < (List.getD r.2.2.2.2.1 i RouteMapD : RouteMapT).2.1.length → ((List.getD (List.getD r.2.2.2.2.1 i RouteMapD : RouteMapT).2.1 j ClauseD).2.1 == n) = false) ∧ (r.2.2.2.2.2.2.2.2.2.2.2.2.2.2.1 == n) = false ∧ (r.2.2.2.2.2.2.2.2.2.2.2.2.2.2.2.1 == n) = false := by
  unfold g_lint_usesPrefixList S_lint_usesPrefixList_0 at h
  obtain ⟨h1, h2⟩ := upV_eq (P := fun i => ∀ j, j < (List.getD r.2.2.2.2.1 i RouteMapD : RouteMapT).2.1.length → ((List.getD (List.getD r.2.2.2.2.1 i RouteMapD : RouteMapT).2.1 j ClauseD).2.1 == n) = false) _ _ (fun c _ _ x hx => by
    unfold S_lint_usesPrefixList_1 at hx
    obtain ⟨h1, h2⟩ := upV_eq (P := fun j => ((List.getD (List.getD r.2.2.2.2.1 c RouteMapD : RouteMapT).2.1 j ClauseD).2.1 == n) = false) _ _ (fun j _ _ y hy => cond_tf hy) hx
    exact ⟨fun j hj => h1 j (Nat.zero_le _) (by omega), h2⟩) h
  exact ⟨fun i hi => h1 i (Nat.zero_le _) (by omega), or2 h2⟩
theorem noACL {r : RouterT} {n : List UInt8} (h : g_lint_usesACL r n = false) : (∀ i, i < r.2.2.1.length → ((List.getD r.2.2.1 i InterfaceD : InterfaceT).2.2.2.2.2.2.2.2.2.1 == n) = false ∧ ((List.getD r.2.2.1 i InterfaceD : InterfaceT).2.2.2.2.2.2.2.2.2.2.1 == n) = false) ∧ ∀ i, i < r.2.2.2.2.2.2.1.length → ((List.getD r.2.2.2.2.2.2.1 i TranslationD : TranslationT).2.2.2.2.2.2.1 == n) = false := by
  unfold g_lint_usesACL S_lint_usesACL_0 at h
  obtain ⟨h1, h2⟩ := upV_eq (P := fun i => ((List.getD r.2.2.1 i InterfaceD : InterfaceT).2.2.2.2.2.2.2.2.2.1 == n) = false ∧ ((List.getD r.2.2.1 i InterfaceD : InterfaceT).2.2.2.2.2.2.2.2.2.2.1 == n) = false) _ _ (fun c _ _ x hx => ⟨or2 (cond_tf hx).1, (cond_tf hx).2⟩) h
  unfold S_lint_usesACL_1 at h2
  obtain ⟨h3, _⟩ := upV_eq (P := fun i => ((List.getD r.2.2.2.2.2.2.1 i TranslationD : TranslationT).2.2.2.2.2.2.1 == n) = false) _ _ (fun c _ _ x hx => cond_tf hx) h2
  exact ⟨fun i hi => h1 i (Nat.zero_le _) (by omega), fun i hi => h3 i (Nat.zero_le _) (by omega)⟩
theorem concat_three (x y z : TLRedistT) : g_slices_Concat_Redist [x, y, z] = x.1 ++ (y.1 ++ z.1) := by
  simp [g_slices_Concat_Redist, S_slices_Concat_Redist_0, S_slices_Concat_Redist_1, upS, grow_nil]
theorem getD_of {α : Type} {l : List α} {x : α} (h : x ∈ l) (d : α) : ∃ c, c < l.length ∧ l.getD c d = x := by
  obtain ⟨c, hc, e⟩ := List.mem_iff_getElem.1 h
  exact ⟨c, hc, by simp [List.getD, hc, e]⟩
theorem noMap {r : RouterT} {n : List UInt8} (h : g_lint_usesMap r n = false) : (∀ i, i < r.2.2.2.2.2.2.2.2.2.2.2.2.2.2.2.2.2.2.2.2.1.length → ((List.getD r.2.2.2.2.2.2.2.2.2.2.2.2.2.2.2.2.2.2.2.2.1 i NeighborD : NeighborT).2.2.1 == n) = false ∧ ((List.getD r.2.2.2.2.2.2.2.2.2.2.2.2.2.2.2.2.2.2.2.2.1 i NeighborD : NeighborT).2.2.2.1 == n) = false) ∧
    ∀ x : RedistT, x ∈ r.2.2.2.2.2.2.2.2.2.2.2.1 ++ (r.2.2.2.2.2.2.2.2.2.2.2.2.2.2.2.2.1 ++ r.2.2.2.2.2.2.2.2.2.2.2.2.2.2.2.2.2.2.2.2.2.2.2.2.1) → (x.2.2.2.1 == n) = false := by
  unfold g_lint_usesMap S_lint_usesMap_0 at h
  obtain ⟨h1, h2⟩ := upV_eq (P := fun i => ((List.getD r.2.2.2.2.2.2.2.2.2.2.2.2.2.2.2.2.2.2.2.2.1 i NeighborD : NeighborT).2.2.1 == n) = false ∧ ((List.getD r.2.2.2.2.2.2.2.2.2.2.2.2.2.2.2.2.2.2.2.2.1 i NeighborD : NeighborT).2.2.2.1 == n) = false) _ _ (fun c _ _ x hx => ⟨or2 (cond_tf hx).1, (cond_tf hx).2⟩) h
  unfold S_lint_usesMap_1 at h2
  rw [concat_three] at h2
  obtain ⟨h3, _⟩ := upV_eq (P := fun i => ((List.getD (r.2.2.2.2.2.2.2.2.2.2.2.1 ++ (r.2.2.2.2.2.2.2.2.2.2.2.2.2.2.2.2.1 ++ r.2.2.2.2.2.2.2.2.2.2.2.2.2.2.2.2.2.2.2.2.2.2.2.2.1)) i RedistD : RedistT).2.2.2.1 == n) = false) _ _ (fun c _ _ x hx => cond_tf hx) h2
  refine ⟨fun i hi => h1 i (Nat.zero_le _) (by omega), fun x hx => ?_⟩
  obtain ⟨c, hc, e⟩ := getD_of hx RedistD
  rw [← e]
  exact h3 c (Nat.zero_le _) (by rw [Nat.zero_add, Nat.sub_zero]; exact hc)

/-! ### A name that no one bears is not missed -/
theorem ne_comm' {a b : List UInt8} (h : (a == b) = false) : (b == a) = false := by
  cases hb : b == a with
  | false => rfl
  | true => rw [eq_of_beq hb, beq_self_eq_true] at h; cases h
theorem list_look (r : RouterT) (i : Nat) (hi : i < r.2.2.2.1.length) (m : List UInt8) (h : (m == (List.getD r.2.2.2.1 i PrefixListD : PrefixListT).1) = false) : decide (g_r8_PrefixList (setL r (r.2.2.2.1.eraseIdx i)) m < 0) = decide (g_r8_PrefixList r m < 0) :=
  fst_erase (fun x : PrefixListT => x.1) PrefixListD m r.2.2.2.1 i hi (ne_comm' h)
theorem map_look (r : RouterT) (i : Nat) (hi : i < r.2.2.2.2.1.length) (m : List UInt8) (h : (m == (List.getD r.2.2.2.2.1 i RouteMapD : RouteMapT).1) = false) : decide (g_r8_RouteMap (setM r (r.2.2.2.2.1.eraseIdx i)) m < 0) = decide (g_r8_RouteMap r m < 0) :=
  fst_erase (fun x : RouteMapT => x.1) RouteMapD m r.2.2.2.2.1 i hi (ne_comm' h)
theorem acl_look (r : RouterT) (i : Nat) (hi : i < r.2.2.2.2.2.1.length) (m : List UInt8) (h : (m == (List.getD r.2.2.2.2.2.1 i ACLD : ACLT).1) = false) : decide (g_r8_ACL (setA r (r.2.2.2.2.2.1.eraseIdx i)) m < 0) = decide (g_r8_ACL r m < 0) :=
  fst_erase (fun x : ACLT => x.1) ACLD m r.2.2.2.2.2.1 i hi (ne_comm' h)

/-! ### The router without the list -/
theorem cutL {r : RouterT} {i : Nat} (hi : i < r.2.2.2.1.length) (hu : g_lint_usesPrefixList r (List.getD r.2.2.2.1 i PrefixListD : PrefixListT).1 = false) (h : Valid r) : Valid (setL r (r.2.2.2.1.eraseIdx i)) := by
  obtain ⟨u1, u2, u3⟩ := noList hu
  have hm : g_r8_routeMaps (setL r (r.2.2.2.1.eraseIdx i)) = g_r8_routeMaps r := by
    rw [maps_iff, maps_iff]
    show cond _ 7 (chk _ _ _ r.2.2.2.2.1) = _
    congr 1
    unfold chk
    refine upV_congr rfl _ _ fun c _ hc x => ?_
    congr 1
    refine upV_congr ?_ _ _ fun _ _ _ _ => rfl
    unfold okM
    congr 2
    refine upV_congr rfl _ _ fun j _ hj y => ?_
    rw [list_look r i hi _ (u1 c (by omega) j (by omega))]
  have hd : g_r8_distance (setL r (r.2.2.2.1.eraseIdx i)) = g_r8_distance r := by
    unfold g_r8_distance
    rw [show (setL r (r.2.2.2.1.eraseIdx i)).2.2.2.2.2.2.2.2.2.2.2.2.2.2.1 = r.2.2.2.2.2.2.2.2.2.2.2.2.2.2.1 from rfl, show (setL r (r.2.2.2.1.eraseIdx i)).2.2.2.2.2.2.2.2.2.2.2.2.2.2.2.1 = r.2.2.2.2.2.2.2.2.2.2.2.2.2.2.2.1 from rfl, list_look r i hi _ u2, list_look r i hi _ u3]
    rfl
  exact ⟨h.nm, h.as, h.ifs, lists_erase hi h.lists, hm.trans h.maps, h.acls, h.nat, h.fil, h.stat, h.ls, hd.trans h.dv, h.pv⟩
theorem cutA {r : RouterT} {i : Nat} (hi : i < r.2.2.2.2.2.1.length) (hu : g_lint_usesACL r (List.getD r.2.2.2.2.2.1 i ACLD : ACLT).1 = false) (h : Valid r) : Valid (setA r (r.2.2.2.2.2.1.eraseIdx i)) := by
  obtain ⟨u1, u2⟩ := noACL hu
  have hf : g_r8_filters (setA r (r.2.2.2.2.2.1.eraseIdx i)) = g_r8_filters r := by
    unfold g_r8_filters S_r8_filters_0
    rw [show (setA r (r.2.2.2.2.2.1.eraseIdx i)).2.2.1 = r.2.2.1 from rfl]
    refine upV_congr rfl _ _ fun c _ hc x => ?_
    rw [acl_look r i hi _ (u1 c (by omega)).1, acl_look r i hi _ (u1 c (by omega)).2]
  have ht : g_r8_translations (setA r (r.2.2.2.2.2.1.eraseIdx i)) = g_r8_translations r := by
    unfold g_r8_translations S_r8_translations_0
    rw [show (setA r (r.2.2.2.2.2.1.eraseIdx i)).2.2.2.2.2.2.1 = r.2.2.2.2.2.2.1 from rfl]
    congr 1
    refine upV_congr rfl _ _ fun c _ hc x => ?_
    rw [acl_look r i hi _ (u2 c (by omega))]
  exact ⟨h.nm, h.as, h.ifs, h.lists, h.maps, acls_erase hi h.acls, ht.trans h.nat, hf.trans h.fil, h.stat, h.ls, h.dv, h.pv⟩
theorem redist_eq {r : RouterT} {i : Nat} (hi : i < r.2.2.2.2.1.length) (l : List RedistT) (a b c : Int) (hu : ∀ x ∈ l, (x.2.2.2.1 == (List.getD r.2.2.2.2.1 i RouteMapD : RouteMapT).1) = false) : g_r8_redistributions (setM r (r.2.2.2.2.1.eraseIdx i)) l a b c = g_r8_redistributions r l a b c := by
  unfold g_r8_redistributions S_r8_redistributions_0
  congr 1
  refine upV_congr rfl _ _ fun c _ hc x => ?_
  rw [map_look r i hi _ (hu _ (getD_mem (show c < l.length by omega) RedistD))]
  rfl
theorem cutM {r : RouterT} {i : Nat} (hi : i < r.2.2.2.2.1.length) (hu : g_lint_usesMap r (List.getD r.2.2.2.2.1 i RouteMapD : RouteMapT).1 = false) (h : Valid r) : Valid (setM r (r.2.2.2.2.1.eraseIdx i)) := by
  obtain ⟨u1, u2⟩ := noMap hu
  have e1 := fun a b c => redist_eq hi r.2.2.2.2.2.2.2.2.2.2.2.1 a b c fun x hx => u2 x (List.mem_append_left _ hx)
  have e2 := fun a b c => redist_eq hi r.2.2.2.2.2.2.2.2.2.2.2.2.2.2.2.2.1 a b c fun x hx => u2 x (List.mem_append_right _ (List.mem_append_left _ hx))
  have e3 := fun a b c => redist_eq hi r.2.2.2.2.2.2.2.2.2.2.2.2.2.2.2.2.2.2.2.2.2.2.2.2.1 a b c fun x hx => u2 x (List.mem_append_right _ (List.mem_append_right _ hx))
  have hl : g_r8_linkState (setM r (r.2.2.2.2.1.eraseIdx i)) = g_r8_linkState r := by
    unfold g_r8_linkState
    have e : S_r8_linkState_0 (setM r (r.2.2.2.2.1.eraseIdx i)) = S_r8_linkState_0 r := by
      unfold S_r8_linkState_0
      rw [show (setM r (r.2.2.2.2.1.eraseIdx i)).2.2.2.2.2.2.2.2.2.2.2.1 = r.2.2.2.2.2.2.2.2.2.2.2.1 from rfl, e1]
      rfl
    rw [e]
    rfl
  have hd : g_r8_distance (setM r (r.2.2.2.2.1.eraseIdx i)) = g_r8_distance r := by
    unfold g_r8_distance
    rw [show (setM r (r.2.2.2.2.1.eraseIdx i)).2.2.2.2.2.2.2.2.2.2.2.2.2.2.2.2.1 = r.2.2.2.2.2.2.2.2.2.2.2.2.2.2.2.2.1 from rfl, e2]
    rfl
  have hn : g_r8_neighbors (setM r (r.2.2.2.2.1.eraseIdx i)) = g_r8_neighbors r := by
    unfold g_r8_neighbors S_r8_neighbors_0
    rw [show (setM r (r.2.2.2.2.1.eraseIdx i)).2.2.2.2.2.2.2.2.2.2.2.2.2.2.2.2.2.2.2.2.1 = r.2.2.2.2.2.2.2.2.2.2.2.2.2.2.2.2.2.2.2.2.1 from rfl]
    congr 1
    refine upV_congr rfl _ _ fun c _ hc x => ?_
    rw [map_look r i hi _ (u1 c (by omega)).1, map_look r i hi _ (u1 c (by omega)).2]
    rfl
  have hp : g_r8_pathVector (setM r (r.2.2.2.2.1.eraseIdx i)) = g_r8_pathVector r := by
    unfold g_r8_pathVector
    rw [show (setM r (r.2.2.2.2.1.eraseIdx i)).2.2.2.2.2.2.2.2.2.2.2.2.2.2.2.2.2.2.2.2.2.2.2.2.1 = r.2.2.2.2.2.2.2.2.2.2.2.2.2.2.2.2.2.2.2.2.2.2.2.2.1 from rfl, e3, hn]
    rfl
  exact ⟨h.nm, h.as, h.ifs, h.lists, maps_erase hi h.maps, h.acls, h.nat, h.fil, h.stat, hl.trans h.ls, hd.trans h.dv, hp.trans h.pv⟩

/-! ### What Unused finds -/
theorem upS_inv {S R : Type} {b : Nat → S → (S → R) → R} {rest : S → R} (P : S → Prop) (Q : R → Prop) (f : Nat → S → S) (hb : ∀ c v k, b c v k = k (f c v)) (hr : ∀ v, P v → Q (rest v)) : ∀ (m s : Nat) (v : S), (∀ c v, s ≤ c → c < s + m → P v → P (f c v)) → P v → Q (upS b rest m s v)
  | 0, _, v, _, h => hr v h
  | m + 1, s, v, hf, h => by
    simp only [upS, hb]
    exact upS_inv P Q f hb hr m (s + 1) _ (fun c v h1 h2 => hf c v (by omega) (by omega)) (hf s v (Nat.le_refl _) (by omega) h)
theorem app_cond {S R : Type} (p : Bool) (x y : S) (k : S → R) : cond p (k x) (k y) = k (cond p x y) := by cases p <;> rfl
theorem add_one {P : FindingT → Prop} {p : Bool} {v : List FindingT} {x : FindingT} (h : ∀ y ∈ v, P y) (hx : p = true → P x) : ∀ y ∈ cond p (v ++ [x]) v, P y := by
  cases p with
  | false => exact h
  | true =>
    intro y hy
    rcases List.mem_append.1 hy with h1 | h1
    · exact h y h1
    · rw [List.mem_singleton.1 h1]; exact hx rfl
theorem seg_all {α : Type} (v : List α) : segL v 0 (List.length v) = v := by simp [segL]
def UF (r : RouterT) (f : FindingT) : Prop := ∃ i : Nat, f.2.2.2.1 = (i : Int) ∧ ((f.1 = 4 ∧ i < r.2.2.2.1.length ∧ g_lint_usesPrefixList r (List.getD r.2.2.2.1 i PrefixListD : PrefixListT).1 = false) ∨ (f.1 = 5 ∧ i < r.2.2.2.2.1.length ∧ g_lint_usesMap r (List.getD r.2.2.2.2.1 i RouteMapD : RouteMapT).1 = false) ∨ (f.1 = 6 ∧ i < r.2.2.2.2.2.1.length ∧ g_lint_usesACL r (List.getD r.2.2.2.2.2.1 i ACLD : ACLT).1 = false))
theorem all_UF (r : RouterT) : ∀ f ∈ g_lint_Unused r, UF r f := by
  unfold g_lint_Unused S_lint_Unused_0
  refine upS_inv (fun v => ∀ y ∈ v, UF r y) (fun v => ∀ y ∈ v, UF r y) (fun c v => cond (!(g_lint_usesPrefixList r (List.getD r.2.2.2.1 c PrefixListD).1)) (v ++ [(4, 0, (List.getD r.2.2.2.1 c PrefixListD).1, (c : Int), 0, ())]) v) (fun _ _ _ => app_cond _ _ _ _) (fun v hv => ?_) _ _ _ (fun c v _ hc hv => add_one hv fun h => ⟨c, rfl, Or.inl ⟨rfl, by omega, by simpa using h⟩⟩) (fun y hy => by cases hy)
  unfold S_lint_Unused_1
  refine upS_inv (fun v => ∀ y ∈ v, UF r y) (fun v => ∀ y ∈ v, UF r y) (fun c v => cond (!(g_lint_usesMap r (List.getD r.2.2.2.2.1 c RouteMapD).1)) (v ++ [(5, 0, (List.getD r.2.2.2.2.1 c RouteMapD).1, (c : Int), 0, ())]) v) (fun _ _ _ => app_cond _ _ _ _) (fun v hv => ?_) _ _ _ (fun c v _ hc hv => add_one hv fun h => ⟨c, rfl, Or.inr (Or.inl ⟨rfl, by omega, by simpa using h⟩)⟩) hv
  unfold S_lint_Unused_2
  exact upS_inv (fun v => ∀ y ∈ v, UF r y) (fun v => ∀ y ∈ v, UF r y) (fun c v => cond (!(g_lint_usesACL r (List.getD r.2.2.2.2.2.1 c ACLD).1)) (v ++ [(6, 0, (List.getD r.2.2.2.2.2.1 c ACLD).1, (c : Int), 0, ())]) v) (fun _ _ _ => app_cond _ _ _ _) (fun v hv => by rw [seg_all]; exact hv) _ _ _ (fun c v _ hc hv => add_one hv fun h => ⟨c, rfl, Or.inr (Or.inr ⟨rfl, by omega, by simpa using h⟩)⟩) hv
theorem cut_eq {A : Type} (l : List A) (i : Nat) (hi : i < l.length) (hl : l.length ≤ 12) : segL ((slcL l 0 (i : Int)) ++ (slcL l (IntKind.wrap .i64 ((i : Int) + 1)) (l.length : Int))) 0 ((slcL l 0 (i : Int)).length + (slcL l (IntKind.wrap .i64 ((i : Int) + 1)) (l.length : Int)).length) = l.eraseIdx i := by
  rw [← List.length_append, seg_all, w64 (by omega) (by omega), List.eraseIdx_eq_take_drop_succ]
  have e : ((i : Int) + 1).toNat = i + 1 := by omega
  have e2 : List.take (l.length - (i + 1)) (List.drop (i + 1) l) = List.drop (i + 1) l := by
    rw [← List.length_drop]
    exact List.take_length
  simp [slcL, e, e2]
theorem okI {i : Nat} {n : Nat} (h : i < n) : ((decide ((i : Int) < 0)) || (decide ((i : Int) ≥ (n : Int)))) = false := by
  simp only [Bool.or_eq_false_iff, decide_eq_false_iff_not]
  omega
theorem true_law11_LintRemovable (r : RouterT) (k : Int) (_hw : VSs.wf e_law11_LintRemovable.A (r, k, ())) : g_law11_LintRemovable r k = true := by
  unfold g_law11_LintRemovable
  cases hr : g_law11_right r with
  | false => rfl
  | true =>
    have hr2 := hr
    unfold g_law11_right at hr2
    have hsm : SmallR r := small_of (Bool.and_eq_true_iff.1 hr2).1
    have hv : Valid r := valid_of (eq_of_beq (Bool.and_eq_true_iff.1 hr2).2)
    show cond ((decide (k < 0)) || (decide (k ≥ ((g_lint_Unused r).length : Int)))) g_law11_sane _ = true
    cases hk : (decide (k < 0)) || (decide (k ≥ ((g_lint_Unused r).length : Int))) with
    | true => exact sane_law11
    | false =>
      have hk2 : Int.toNat k < (g_lint_Unused r).length := by
        simp only [Bool.or_eq_false_iff, decide_eq_false_iff_not] at hk
        omega
      have hf := all_UF r _ (getD_mem hk2 FindingD)
      rw [sane_law11]
      generalize List.getD (g_lint_Unused r) (Int.toNat k) FindingD = f at hf ⊢
      obtain ⟨i, e, h⟩ := hf
      rw [e]
      rcases h with ⟨e1, hi, hu⟩ | ⟨e1, hi, hu⟩ | ⟨e1, hi, hu⟩
      · rw [e1, okI hi, cut_eq _ i hi hsm.lists]
        show ((g_r8_CheckRouter (setL r (r.2.2.2.1.eraseIdx i)) == 0) && true) = true
        rw [valid_mk (cutL hi hu hv)]
        rfl
      · rw [e1, okI hi, cut_eq _ i hi hsm.maps]
        show ((g_r8_CheckRouter (setM r (r.2.2.2.2.1.eraseIdx i)) == 0) && true) = true
        rw [valid_mk (cutM hi hu hv)]
        rfl
      · rw [e1, okI hi, cut_eq _ i hi hsm.acls]
        show ((g_r8_CheckRouter (setA r (r.2.2.2.2.2.1.eraseIdx i)) == 0) && true) = true
        rw [valid_mk (cutA hi hu hv)]
        rfl
end Go.Proofs.Ytokhlhnibpakiaa
