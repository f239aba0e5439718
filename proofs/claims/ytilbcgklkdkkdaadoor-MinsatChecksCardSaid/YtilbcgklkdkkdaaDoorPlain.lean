/-
  Minsat: the law MinsatChecks, in plain Lean.
-/
import Derived.Test.YtilbcgklkdkkdaaDoorAmG
import Derived.KernelRfl
namespace Go.Proofs.YtilbcgklkdkkdaaDoor
open Go Go.AM
set_option maxRecDepth 100000

theorem awake_true : g_law43_awake = true := by kernel_rfl

theorem any_go {α : Type} {f : α → Bool} {d : α} {r : Bool} (l : List α) : ∀ (m s : Nat), s + m = l.length → upV (fun c x => cond (f (List.getD l c d)) true x) r m s = ((l.drop s).any f || r)
  | 0, s, h => by rw [List.drop_of_length_le (by omega)]; rfl
  | m + 1, s, h => by
    unfold upV
    rw [any_go l m (s + 1) (by omega), List.drop_eq_getElem_cons (show s < l.length by omega)]
    have : l.getD s d = l[s]'(by omega) := by simp [List.getD, show s < l.length by omega]
    rw [this, List.any_cons]
    cases f (l[s]'(by omega)) <;> rfl
theorem any_eq {α : Type} {f : α → Bool} {d : α} {r : Bool} (l : List α) : upV (fun c x => cond (f (List.getD l c d)) true x) r (l.length - 0) 0 = (l.any f || r) := by
  rw [any_go l _ _ (by omega)]; rfl
theorem all_go {α : Type} {f : α → Bool} {d : α} (l : List α) : ∀ (m s : Nat), s + m = l.length → upV (fun c x => cond (f (List.getD l c d)) false x) true m s = ((l.drop s).all fun x => !(f x))
  | 0, s, h => by rw [List.drop_of_length_le (by omega)]; rfl
  | m + 1, s, h => by
    unfold upV
    rw [all_go l m (s + 1) (by omega), List.drop_eq_getElem_cons (show s < l.length by omega)]
    have : l.getD s d = l[s]'(by omega) := by simp [List.getD, show s < l.length by omega]
    rw [this, List.all_cons]
    cases f (l[s]'(by omega)) <;> rfl
theorem all_eq {α : Type} {f : α → Bool} {d : α} (l : List α) : upV (fun c x => cond (f (List.getD l c d)) false x) true (l.length - 0) 0 = (l.all fun x => !(f x)) := by
  rw [all_go l _ _ (by omega)]; rfl
/-- Is there one? By its index. -/
theorem ix_go {α : Type} {f : α → Bool} {d : α} (l : List α) : ∀ (m s : Nat), s + m = l.length → (decide (upV (fun c x => cond (f (List.getD l c d)) (c : Int) x) (-1) m s ≥ 0)) = (l.drop s).any f
  | 0, s, h => by rw [List.drop_of_length_le (by omega)]; rfl
  | m + 1, s, h => by
    unfold upV
    rw [List.drop_eq_getElem_cons (show s < l.length by omega), List.any_cons, ← ix_go (f := f) (d := d) l m (s + 1) (by omega)]
    have : l.getD s d = l[s]'(by omega) := by simp [List.getD, show s < l.length by omega]
    rw [this]
    cases f (l[s]'(by omega)) with
    | true => simp
    | false => rfl
theorem ix_eq {α : Type} {f : α → Bool} {d : α} (l : List α) : (decide (upV (fun c x => cond (f (List.getD l c d)) (c : Int) x) (-1) (l.length - 0) 0 ≥ 0)) = l.any f := by
  rw [ix_go l _ _ (by omega)]; rfl
theorem put_go {R : Type} {r : List Int → R} (l : List Ti64T) : ∀ (m s : Nat) (v : List Int), s + m = l.length → upS (fun c (v : List Int) (next : List Int → R) => next (v ++ [(List.getD l c Ti64D).1])) r m s v = r (v ++ (l.drop s).map fun x => x.1)
  | 0, s, v, h => by rw [List.drop_of_length_le (by omega)]; simp [upS]
  | m + 1, s, v, h => by
    unfold upS
    rw [put_go l m (s + 1) _ (by omega), List.drop_eq_getElem_cons (show s < l.length by omega)]
    have : l.getD s Ti64D = l[s]'(by omega) := by simp [List.getD, show s < l.length by omega]
    rw [this, List.map_cons, List.append_assoc]
    rfl
theorem put_eq {R : Type} {r : List Int → R} (l : List Ti64T) : upS (fun c (v : List Int) (next : List Int → R) => next (v ++ [(List.getD l c Ti64D).1])) r (l.length - 0) 0 [] = r (l.map fun x => x.1) := by
  rw [put_go l _ _ _ (by omega)]; rfl

theorem elements_eq (l : List Ti64T) (n : Int) : g_r42_elements l n = !(g_slices_ContainsFunc_int_minsat_Check_1 l n) := by
  have key : g_r42_elements l n = true ↔ ∀ x ∈ l, 0 ≤ x.1 ∧ x.1 < n := by
    unfold g_r42_elements S_r42_elements_0
    rw [upV_all (f := fun c0 => (decide ((List.getD l c0 Ti64D).1 < 0)) || (decide ((List.getD l c0 Ti64D).1 ≥ n)))]
    constructor
    · intro h x hx
      obtain ⟨c, hc, rfl⟩ := List.mem_iff_getElem.1 hx
      have h2 := h c hc
      have e : List.getD l c Ti64D = l[c] := by simp [List.getD, hc]
      simp only [Bool.or_eq_false_iff, decide_eq_false_iff_not] at h2
      rw [e] at h2
      omega
    · intro h c hc
      have := h _ (getD_mem hc Ti64D)
      simp only [Bool.or_eq_false_iff, decide_eq_false_iff_not]
      omega
  cases h1 : g_slices_ContainsFunc_int_minsat_Check_1 l n with
  | false => exact key.2 (contains_iff.1 h1)
  | true =>
    cases h2 : g_r42_elements l n with
    | false => rfl
    | true => rw [contains_iff.2 (key.1 h2)] at h1; cases h1
theorem check_eq (n : Int) (cs : List ConstraintT) : g_r42_Check n cs = g_minsat_Check n cs := by
  unfold g_r42_Check g_minsat_Check S_r42_Check_0 S_minsat_Check_0
  congr 2
  refine upV_congr rfl _ _ fun c _ _ x => ?_
  rw [elements_eq, elements_eq, Bool.not_not, Bool.not_not]
theorem has_eq (l : List Ti64T) (y : Int) : g_r42_has l y = l.any fun x => x.1 == y := by
  unfold g_r42_has S_r42_has_0
  rw [any_eq (f := fun x : Ti64T => x.1 == y) (d := Ti64D), Bool.or_false]
theorem satisfied_eq (set : List Ti64T) (c : ConstraintT) : g_r42_Satisfied set c = ((c.1.any fun x => g_r42_has set x.1) || c.2.1.any fun x => !(g_r42_has set x.1)) := by
  unfold g_r42_Satisfied S_r42_Satisfied_0 S_r42_Satisfied_1
  rw [any_eq (f := fun x : Ti64T => g_r42_has set x.1) (d := Ti64D), any_eq (f := fun x : Ti64T => !(g_r42_has set x.1)) (d := Ti64D), Bool.or_false]
theorem satisfies_eq (set : List Ti64T) (cs : List ConstraintT) : g_r42_Satisfies set cs = cs.all fun c => g_r42_Satisfied set c := by
  unfold g_r42_Satisfies S_r42_Satisfies_0
  rw [all_eq (f := fun c : ConstraintT => !(g_r42_Satisfied set c)) (d := ConstraintD)]
  simp only [Bool.not_not]
theorem has_map (l : List Ti64T) (y : Int) : ((l.map fun x => x.1).any fun z => z == y) = g_r42_has l y := by
  rw [has_eq, List.any_map]; rfl
theorem cont1 (s : List Ti64T) (m : List Int) : g_slices_ContainsFunc_int_minsat_Satisfies_1 s m = s.any fun x => m.any fun z => z == x.1 := by
  unfold g_slices_ContainsFunc_int_minsat_Satisfies_1 g_slices_IndexFunc_int_minsat_Satisfies_1 S_slices_IndexFunc_int_minsat_Satisfies_1_0 g_minsat_Satisfies_1
  exact ix_eq (f := fun x : Ti64T => m.any fun z => z == x.1) (d := Ti64D) s
theorem cont2 (s : List Ti64T) (m : List Int) : g_slices_ContainsFunc_int_minsat_Satisfies_2 s m = s.any fun x => !(m.any fun z => z == x.1) := by
  unfold g_slices_ContainsFunc_int_minsat_Satisfies_2 g_slices_IndexFunc_int_minsat_Satisfies_2 S_slices_IndexFunc_int_minsat_Satisfies_2_0 g_minsat_Satisfies_2
  exact ix_eq (f := fun x : Ti64T => !(m.any fun z => z == x.1)) (d := Ti64D) s
theorem sat_same (set : List Ti64T) (cs : List ConstraintT) : g_minsat_Satisfies set cs = g_r42_Satisfies set cs := by
  unfold g_minsat_Satisfies S_minsat_Satisfies_0
  rw [put_eq (r := fun v => S_minsat_Satisfies_1 set cs v), satisfies_eq]
  unfold S_minsat_Satisfies_1
  rw [all_eq (f := fun c : ConstraintT => (!(g_slices_ContainsFunc_int_minsat_Satisfies_1 c.1 (set.map fun x => x.1))) && (!(g_slices_ContainsFunc_int_minsat_Satisfies_2 c.2.1 (set.map fun x => x.1)))) (d := ConstraintD)]
  congr 1
  funext c
  rw [cont1, cont2, satisfied_eq]
  simp only [has_map]
  cases (c.1.any fun x => g_r42_has set x.1) <;> cases (c.2.1.any fun x => !(g_r42_has set x.1)) <;> rfl

theorem true_law43_MinsatChecks (n : Int) (cs : List ConstraintT) (set : List Ti64T) (_hw : VSs.wf e_law43_MinsatChecks.A (n, cs, set, ())) : g_law43_MinsatChecks n cs set = true := by
  unfold g_law43_MinsatChecks
  rw [awake_true]
  show cond ((decide ((cs.length : Int) > 100)) || (decide ((set.length : Int) > 40))) true (S_law43_MinsatChecks_0 n cs set) = true
  cases ((decide ((cs.length : Int) > 100)) || (decide ((set.length : Int) > 40))) with
  | true => rfl
  | false =>
    show S_law43_MinsatChecks_0 n cs set = true
    unfold S_law43_MinsatChecks_0
    have e : (((g_minsat_Check n cs) == (g_r42_Check n cs)) && ((g_minsat_Satisfies (segL set 0 set.length) cs) == (g_r42_Satisfies set cs))) = true := by
      rw [check_eq, show segL set 0 set.length = set by simp [segL], sat_same]
      simp
    rw [e]
    rw [any_eq (f := fun c : ConstraintT => (decide ((c.1.length : Int) > 40)) || (decide ((c.2.1.length : Int) > 40))) (d := ConstraintD), Bool.or_true]
end Go.Proofs.YtilbcgklkdkkdaaDoor
