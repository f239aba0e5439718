/-
  Minsat: the law MinsatCore, in plain Lean.
-/
import Derived.Test.YtilbcgklkdkkdaaDoorPlainC
namespace Go.Proofs.YtilbcgklkdkkdaaDoor
open Go Go.AM
set_option maxRecDepth 100000

/-! ### Loops that fill, that pick -/
theorem upS_filt {β R : Type} {p : Nat → Bool} {f : Nat → β} {r : List β → R} : ∀ (k c : Nat) (v : List β), upS (fun c (v : List β) (next : List β → R) => cond (p c) (next (v ++ [f c])) (next v)) r k c v = r (v ++ ((List.range' c k).filter p).map f)
  | 0, c, v => by simp [upS]
  | k + 1, c, v => by
    unfold upS
    rw [List.range'_succ, List.filter_cons]
    cases h : p c with
    | true => simp only [cond_true]; rw [upS_filt k]; simp
    | false => simp only [cond_false]; rw [upS_filt k]; simp
theorem upS_map {β R : Type} {f : Nat → β} {r : List β → R} : ∀ (k c : Nat) (v : List β), upS (fun c (v : List β) (next : List β → R) => next (v ++ [f c])) r k c v = r (v ++ (List.range' c k).map f)
  | 0, c, v => by simp [upS]
  | k + 1, c, v => by
    unfold upS
    rw [List.range'_succ, upS_map k]
    simp
theorem upS_put {β R : Type} {f : Nat → β} {r : List β → R} : ∀ (k c : Nat) (v : List β), c + k = v.length → upS (fun c (v : List β) (next : List β → R) => next (List.set v c (f c))) r k c v = r (v.take c ++ (List.range' c k).map f)
  | 0, c, v, h => by
    have : c = v.length := by omega
    subst this
    simp [upS]
  | k + 1, c, v, h => by
    unfold upS
    rw [List.range'_succ, upS_put k (c + 1) _ (by rw [List.length_set]; omega)]
    congr 1
    have : (List.set v c (f c)).take (c + 1) = v.take c ++ [f c] := by
      apply List.ext_getElem?
      intro i
      have hc : c < v.length := by omega
      simp only [List.getElem?_take, List.getElem?_append, List.length_take, List.getElem?_set]
      rcases Nat.lt_trichotomy i c with h1 | h1 | h1
      · simp [show i < c + 1 by omega, show c ≠ i by omega, show i < min c v.length by omega, h1]
      · subst h1
        simp [hc, show min i v.length = i by omega]
      · obtain ⟨q, rfl⟩ : ∃ q, i = c + 1 + q := ⟨i - c - 1, by omega⟩
        simp [show ¬ c + 1 + q < c + 1 by omega, show min c v.length = c by omega, show ¬ c + 1 + q < c by omega, show c + 1 + q - c = q + 1 by omega]
    rw [this]
    simp

/-! ### The constraints that are kept -/
def krow (K : Nat → Bool) (m : Nat) : List BooT := (List.range m).map fun i => (K i, ())
def ksub (cs : List ConstraintT) (K : Nat → Bool) : List ConstraintT := ((List.range cs.length).filter K).map fun i => List.getD cs i ConstraintD
def koff (K : Nat → Bool) (c : Nat) : Nat → Bool := fun i => !(i == c) && K i
def kst (n : Int) (cs : List ConstraintT) (K : Nat → Bool) (c : Nat) : Nat → Bool := bif (g_r42_Best n (ksub cs (koff K c))).2.1 then K else koff K c
def kfin (n : Int) (cs : List ConstraintT) : Nat → Nat → (Nat → Bool) → Nat → Bool
  | 0, _, K => K
  | k + 1, c, K => kfin n cs k (c + 1) (kst n cs K c)
theorem krow_len {K : Nat → Bool} {m : Nat} : (krow K m).length = m := by simp [krow]
theorem krow_get {K : Nat → Bool} {m i : Nat} (h : i < m) : (List.getD (krow K m) i BooD).1 = K i := by
  simp [krow, List.getD, h]
theorem krow_set {K : Nat → Bool} {m c : Nat} {b : Bool} : List.set (krow K m) c (b, ()) = krow (fun i => bif i == c then b else K i) m := by
  apply List.ext_getElem?
  intro i
  simp only [krow, List.getElem?_set, List.getElem?_map, List.length_map, List.length_range]
  by_cases h : c = i
  · subst h
    by_cases hm : c < m
    · simp [hm]
    · simp [hm]
  · have h2 : (i == c) = false := by simpa using fun e => h e.symm
    by_cases hm : i < m
    · simp [h, hm, h2]
    · simp [h, hm]
theorem krow_off {K : Nat → Bool} {m c : Nat} : List.set (krow K m) c (false, ()) = krow (koff K c) m := by
  rw [krow_set]
  congr 1
  funext i
  unfold koff
  cases i == c <;> rfl
theorem krow_on {K : Nat → Bool} {m c : Nat} (h : K c = true) : List.set (krow (koff K c) m) c (true, ()) = krow K m := by
  rw [krow_set]
  congr 1
  funext i
  unfold koff
  cases hi : i == c with
  | true => rw [eq_of_beq hi, h]; rfl
  | false => rfl
theorem seg_self {α : Type} (s : List α) : segL s 0 (List.length s) = s := seg_all s
theorem kpart {cs : List ConstraintT} {K : Nat → Bool} : g_r42_part cs (krow K cs.length) = ksub cs K := by
  unfold g_r42_part S_r42_part_0
  rw [upS_filt, seg_self, List.nil_append, Nat.sub_zero, ← List.range_eq_range']
  unfold ksub
  congr 1
  exact List.filter_congr fun i hi => krow_get (List.mem_range.1 hi)
theorem ksub_chk {n : Int} {cs : List ConstraintT} (h : Chk n cs) (K : Nat → Bool) : Chk n (ksub cs K) := by
  refine ⟨h.n0, h.n1, ?_, fun c hc => ?_⟩
  · unfold ksub
    rw [List.length_map]
    have := List.length_filter_le K (List.range cs.length)
    rw [List.length_range] at this
    have := h.len
    omega
  · obtain ⟨i, hi, rfl⟩ := List.mem_map.1 hc
    exact h.el _ (getD_mem (List.mem_range.1 (List.mem_filter.1 hi).1) _)
theorem find_best {n : Int} {cs : List ConstraintT} (h : Chk n cs) : (g_fn_22 (n, g_minsat_clauses cs, ()) 0 0 n).2.1 = (g_r42_Best n cs).2.1 := by
  have F := found_at h (l := g_minsat_clauses cs) (fun _ h => h) n
  rcases best_spec h with ⟨h1, h2⟩ | ⟨r, h1, h2⟩
  · rw [h2]
    cases hok : (g_fn_22 (n, g_minsat_clauses cs, ()) 0 0 n).2.1 with
    | false => rfl
    | true =>
      have := (sol_sat h _ _).1 (F.2 hok).2.1
      exact (h1 _ this.1 this.2.2).elim
  · rw [h2]
    cases hok : (g_fn_22 (n, g_minsat_clauses cs, ()) 0 0 n).2.1 with
    | true => rfl
    | false => exact (F.1 hok _ ((sol_sat h _ _).2 ⟨h1.low, card_low h.n0 h.n1 h1.low, h1.sat⟩)).elim

/-! ### The reference -/
theorem rcore_2 {n : Int} {cs : List ConstraintT} {K : Nat → Bool} : S_r42_Core_2 n cs (krow K cs.length) [] = lst K cs.length := by
  unfold S_r42_Core_2
  rw [upS_filt, seg_self, List.nil_append, Nat.sub_zero, ← List.range_eq_range']
  unfold lst
  congr 1
  exact List.filter_congr fun i hi => krow_get (List.mem_range.1 hi)
theorem rcore_1 {n : Int} {cs : List ConstraintT} {R : Type} {rest : List BooT → R} : ∀ (k c : Nat) (K : Nat → Bool), c + k = cs.length → (∀ i, c ≤ i → K i = true) →
    upS (fun c1 (v1 : List BooT) => fun (next1 : (List BooT) → R) => cond (g_r42_Best n (g_r42_part cs (List.take (Int.toNat (cs.length : Int)) (List.set v1 c1 (false, ()))))).2.1 (next1 (List.set (List.set v1 c1 (false, ())) c1 (true, ()))) (next1 (List.set v1 c1 (false, ())))) rest k c (krow K cs.length) = rest (krow (kfin n cs k c K) cs.length)
  | 0, _, _, _, _ => rfl
  | k + 1, c, K, h, hK => by
    unfold upS
    have e : g_r42_part cs (List.take (Int.toNat (cs.length : Int)) (List.set (krow K cs.length) c (false, ()))) = ksub cs (koff K c) := by
      rw [krow_off, Int.toNat_natCast, List.take_of_length_le (by rw [krow_len]; exact Nat.le_refl _), kpart]
    have e2 : kfin n cs (k + 1) c K = kfin n cs k (c + 1) (kst n cs K c) := rfl
    simp only [e, e2]
    rw [krow_off, krow_on (hK c (Nat.le_refl _))]
    unfold kst
    cases (g_r42_Best n (ksub cs (koff K c))).2.1 with
    | true => rw [cond_true, cond_true]; exact rcore_1 k (c + 1) K (by omega) fun i hi => hK i (by omega)
    | false =>
      rw [cond_false, cond_false]
      refine rcore_1 k (c + 1) _ (by omega) fun i hi => ?_
      unfold koff
      have : (i == c) = false := by simp; omega
      rw [this, hK i (by omega)]; rfl
theorem rcore_eq {n : Int} {cs : List ConstraintT} : g_r42_Core n cs = lst (kfin n cs cs.length 0 fun _ => true) cs.length := by
  unfold g_r42_Core S_r42_Core_0
  rw [Int.toNat_natCast, Nat.sub_zero, upS_put (f := fun _ => ((true, ()) : BooT)) _ _ _ (by simp), List.take_zero, List.nil_append, ← List.range_eq_range']
  have e : (List.range cs.length).map (fun _ => ((true, ()) : BooT)) = krow (fun _ => true) cs.length := rfl
  rw [e]
  unfold S_r42_Core_1
  rw [Nat.sub_zero, rcore_1 _ _ _ (by omega) fun _ _ => rfl, rcore_2]

/-! ### The program -/
theorem lst_off {K : Nat → Bool} {m c : Nat} : (lst K m).filter (dl (c : Int)) = lst (koff K c) m := by
  unfold lst
  rw [List.filter_map, List.filter_filter]
  congr 1
  refine List.filter_congr fun i _ => ?_
  unfold koff dl el
  have e : ((i : Int) == (c : Int)) = (i == c) := by
    by_cases h : i = c
    · subst h; simp
    · rw [beq_eq_false_iff_ne.2 h, beq_eq_false_iff_ne.2 (by omega)]
  simp [Function.comp, e]
theorem lst_clauses {cs : List ConstraintT} {K : Nat → Bool} : (lst K cs.length).map (fun x => List.getD (g_minsat_clauses cs) (Int.toNat x.1) clauseD) = g_minsat_clauses (ksub cs K) := by
  unfold lst ksub
  rw [clauses_eq (List.map _ _), List.map_map, List.map_map]
  refine List.map_congr_left fun i hi => ?_
  have hi := List.mem_range.1 (List.mem_filter.1 hi).1
  simp only [Function.comp, el, Int.toNat_natCast, clauses_eq]
  simp [List.getD, hi]
theorem range_map {α β : Type} (l : List α) (d : α) (f : α → β) : (List.range' 0 l.length).map (fun c => f (List.getD l c d)) = l.map f := by
  apply List.ext_getElem?
  intro i
  simp only [List.getElem?_map, ← List.range_eq_range']
  by_cases h : i < l.length
  · simp [List.getD, h]
  · simp [h]
theorem mcore_2 {n : Int} {cs : List ConstraintT} (h : Chk n cs) {c : Nat} {K J : Nat → Bool} {next : List Ti64T → (List Ti64T) × Int × Unit} : S_minsat_Core_2 n cs c (lst K cs.length) (lst J cs.length) next [] = cond (g_r42_Best n (ksub cs J)).2.1 (next (lst K cs.length)) (next (lst J cs.length)) := by
  unfold S_minsat_Core_2
  rw [upS_map (f := fun c => List.getD (g_minsat_clauses cs) (Int.toNat (List.getD (lst J cs.length) c Ti64D).1) clauseD), List.nil_append, Nat.sub_zero, range_map (lst J cs.length) Ti64D (fun x => List.getD (g_minsat_clauses cs) (Int.toNat x.1) clauseD), lst_clauses, seg_self, find_best (ksub_chk h J)]
  cases (g_r42_Best n (ksub cs J)).2.1 <;> rfl
theorem lst_pl {cs : List ConstraintT} {K : Nat → Bool} : (lst K cs.length).length ≤ cs.length := by
  unfold lst
  rw [List.length_map]
  have := List.length_filter_le K (List.range cs.length)
  rwa [List.length_range] at this
theorem mcore_1 {n : Int} {cs : List ConstraintT} (h : Chk n cs) : ∀ (k c : Nat) (K : Nat → Bool), upS (fun c1 (v2 : List Ti64T) => fun (next1 : (List Ti64T) → ((List Ti64T) × Int × Unit)) => (S_minsat_Core_2 n cs c1 v2 (g_slices_DeleteFunc_int (g_slices_Clone_int (segL v2 0 (List.length v2))) (c1 : Int)) next1 [])) (fun (v2 : List Ti64T) => ((segL v2 0 (List.length v2)), 0, ())) k c (lst K cs.length) = (lst (kfin n cs k c K) cs.length, 0, ())
  | 0, _, _ => by unfold upS kfin; rw [seg_self]
  | k + 1, c, K => by
    unfold upS
    have hl := lst_pl (cs := cs) (K := K)
    have hc := h.len
    have e : g_slices_DeleteFunc_int (g_slices_Clone_int (segL (lst K cs.length) 0 (List.length (lst K cs.length)))) (c : Int) = lst (koff K c) cs.length := by
      rw [seg_self]
      show g_slices_DeleteFunc_int (lst K cs.length) (c : Int) = _
      rw [delete_eq (by unfold p_slices_DeleteFunc_int; simp; omega), lst_off]
    have e2 : kfin n cs (k + 1) c K = kfin n cs k (c + 1) (kst n cs K c) := rfl
    rw [e, mcore_2 h, e2]
    unfold kst
    cases (g_r42_Best n (ksub cs (koff K c))).2.1 with
    | true => rw [cond_true, cond_true]; exact mcore_1 h k (c + 1) K
    | false => rw [cond_false, cond_false]; exact mcore_1 h k (c + 1) _
theorem mcore_eq {n : Int} {cs : List ConstraintT} (h : Chk n cs) : S_minsat_Core_0 n cs (List.replicate (Int.toNat (cs.length : Int)) Ti64D) = (lst (kfin n cs cs.length 0 fun _ => true) cs.length, 0, ()) := by
  unfold S_minsat_Core_0
  rw [Int.toNat_natCast, Int.toNat_natCast, Nat.sub_zero, upS_put (f := fun c : Nat => (((c : Int), ()) : Ti64T)) _ _ _ (by simp), List.take_zero, List.nil_append, ← List.range_eq_range']
  have e : (List.range cs.length).map (fun c : Nat => (((c : Int), ()) : Ti64T)) = lst (fun _ => true) cs.length := by
    unfold lst
    rw [List.filter_eq_self.2 fun _ _ => rfl]; rfl
  rw [e]
  unfold S_minsat_Core_1
  rw [Nat.sub_zero, mcore_1 h]

theorem core_one (n : Int) (cs : List ConstraintT) : cond ((g_r42_Check n cs) != 0) (((g_minsat_Core n cs).2.1 == (g_r42_Check n cs)) && (((g_minsat_Core n cs).1.length : Int) == 0)) (cond (g_r42_Best n cs).2.1 (((g_minsat_Core n cs).2.1 == 8) && (((g_minsat_Core n cs).1.length : Int) == 0)) (((g_minsat_Core n cs).2.1 == 0) && (g_keep_Ints (g_minsat_Core n cs).1 (g_r42_Core n cs)))) = true := by
  cases hc : (g_r42_Check n cs) != 0 with
  | true =>
    rw [cond_true, check_eq]
    rw [check_eq] at hc
    unfold g_minsat_Core
    rw [hc, cond_true]
    simp
  | false =>
    have h := rchk hc
    rw [cond_false]
    have hz : ((g_minsat_Check n cs) != 0) = false := by rw [check_iff.2 h]; rfl
    unfold g_minsat_Core
    rw [hz, cond_false, find_best h, mcore_eq h, rcore_eq]
    cases (g_r42_Best n cs).2.1 with
    | true => rfl
    | false =>
      rw [cond_false, cond_false]
      show (((0 : Int) == 0) && g_keep_Ints (lst _ cs.length) (lst _ cs.length)) = true
      rw [ints_self]; rfl
theorem true_law43_MinsatCore (n : Int) (cs : List ConstraintT) (near : Bool) (_hw : VSs.wf e_law43_MinsatCore.A (n, cs, near, ())) : g_law43_MinsatCore n cs near = true := by
  unfold g_law43_MinsatCore
  rw [awake_true, Bool.not_true, cond_false, core_one, core_one]
  cases (((!(g_law43_small n cs)) || (decide (n > 7))) || (decide ((cs.length : Int) > 10))) <;> cases near && decide (n ≥ 1) <;> rfl
end Go.Proofs.YtilbcgklkdkkdaaDoor
