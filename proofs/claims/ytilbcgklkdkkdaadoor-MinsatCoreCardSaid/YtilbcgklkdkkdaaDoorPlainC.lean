/-
  Minsat: the reference's least set, in plain Lean.
-/
import Derived.Test.YtilbcgklkdkkdaaDoorPlainB
namespace Go.Proofs.YtilbcgklkdkkdaaDoor
open Go Go.AM
set_option maxRecDepth 100000
/-! ### Members -/
theorem bit64 {x c : Nat} (hx : x < 9223372036854775808) (hc : c ≤ 64) : ((iand .i64 (ishr .i64 (x : Int) (c : Int)) 1) == 1) = x.testBit c := by
  have h1 : ishr .i64 (x : Int) (c : Int) = ((x >>> c : Nat) : Int) := by
    unfold ishr
    rw [Int.toNat_natCast, Nat.min_eq_left (show c ≤ IntKind.bits .i64 from hc), Int.fdiv_eq_ediv_of_nonneg _ (by exact Int.pow_nonneg (by decide)), Nat.shiftRight_eq_div_pow]
    norm_cast
  rw [h1]
  have hm : x >>> c < 9223372036854775808 := Nat.lt_of_le_of_lt (Nat.shiftRight_le _ _) hx
  have h2 : iand .i64 ((x >>> c : Nat) : Int) 1 = (((x >>> c) % 2 : Nat) : Int) := by
    have e3 : (BitVec.ofNat 64 (x >>> c) &&& BitVec.ofNat 64 1).toNat = (x >>> c) % 2 := by
      rw [BitVec.toNat_and, BitVec.toNat_ofNat, BitVec.toNat_ofNat, Nat.mod_eq_of_lt (show x >>> c < 2 ^ 64 by omega)]
      exact Nat.and_one_is_mod _
    show IntKind.wrap .i64 ((((BitVec.ofInt 64 ((x >>> c : Nat) : Int)) &&& (BitVec.ofInt 64 1)).toNat : Nat) : Int) = _
    rw [BitVec.ofInt_natCast, show BitVec.ofInt 64 1 = BitVec.ofNat 64 1 from rfl, e3]
    exact w64 (by omega) (by omega)
  rw [h2]
  have h3 : x.testBit c = decide ((x >>> c) % 2 = 1) := by
    rw [Nat.testBit, Nat.and_comm, Nat.and_one_is_mod]
    rcases Nat.mod_two_eq_zero_or_one (x >>> c) with h | h <;> rw [h] <;> rfl
  rw [h3]
  rcases Nat.mod_two_eq_zero_or_one (x >>> c) with h | h <;> rw [h] <;> rfl
theorem members_list {x n : Nat} (hx : x < 9223372036854775808) (hn : n ≤ 64) : g_r42_Members (x : Int) (n : Int) = lst x.testBit n := by
  unfold g_r42_Members S_r42_Members_0
  refine upS_ind (P := fun r => r = lst x.testBit n) (I := fun c (v : List Ti64T) => v = lst x.testBit c) _ 0 (fun v hI => ?_) (fun c _ hc next hnext v hI => ?_) [] rfl
  · rw [Int.toNat_natCast, Nat.sub_zero, Nat.zero_add] at hI
    show segL v 0 v.length = _
    rw [seg_all, hI]
  · rw [Int.toNat_natCast] at hc
    rw [bit64 hx (by omega)]
    cases hb : x.testBit c with
    | true => exact hnext _ (by rw [hI, lst_succ, hb]; rfl)
    | false => exact hnext _ (by rw [hI, lst_succ, hb]; exact (List.append_nil _).symm)

/-! ### The reference's least set -/
set_option maxHeartbeats 1000000 in
theorem best_spec {n : Int} {cs : List ConstraintT} (h : Chk n cs) : ((∀ X, Low n X → ¬ Sat cs X) ∧ (g_r42_Best n cs).2.1 = false) ∨ ∃ r, Least n cs r ∧ g_r42_Best n cs = (lst (bt r) n.toNat, true, ()) := by
  have n0 := h.n0; have n1 := h.n1
  obtain ⟨k, rfl⟩ := Int.eq_ofNat_of_zero_le n0
  have hk : k ≤ 24 := by omega
  obtain ⟨e1, e2⟩ := ishl64 hk
  have p24 : (2 : Nat) ^ 24 = 16777216 := by decide
  have memL : ∀ x : Nat, x < 2 ^ k → g_r42_Members (x : Int) (k : Int) = lst x.testBit k := fun x hx => members_list (by omega) (by omega)
  have lowL : ∀ x : Nat, x < 2 ^ k → Low (k : Int) x.testBit := fun x hx i hi => by
    rcases Nat.lt_or_ge i k with h1 | h1
    · omega
    · have : x < 2 ^ i := Nat.lt_of_lt_of_le hx (Nat.pow_le_pow_right (by decide) h1)
      rw [Nat.testBit_lt_two_pow this] at hi; cases hi
  have satL : ∀ x : Nat, x < 2 ^ k → (g_r42_Satisfies (g_r42_Members (x : Int) (k : Int)) cs = true ↔ Sat cs x.testBit) := fun x hx => by
    rw [memL x hx]; exact satisfies_sat h (Int.le_refl _)
  unfold g_r42_Best S_r42_Best_0
  rw [e1, Int.toNat_natCast, Nat.sub_zero]
  rcases min_spec h with ⟨h1, _⟩ | ⟨r, h1, _⟩
  · left
    refine ⟨h1, ?_⟩
    refine upS_ind (P := fun z : (List Ti64T) × Bool × Unit => z.2.1 = false) (I := fun _ (v : (List Ti64T) × Bool) => v.2 = false) (2 ^ k) 0 (fun v hI => hI) (fun c _ hc next hnext v hI => ?_) ([], false) rfl
    have hs : g_r42_Satisfies (g_r42_Members (c : Int) (k : Int)) cs = false := by
      cases hb : g_r42_Satisfies (g_r42_Members (c : Int) (k : Int)) cs with
      | false => rfl
      | true => exact (h1 _ (lowL c (by omega)) ((satL c (by omega)).1 hb)).elim
    show (cond ((g_r42_Satisfies (g_r42_Members (c : Int) (k : Int)) cs) && ((!v.2) || (g_r42_Less (g_r42_Members (c : Int) (k : Int)) v.1))) (next ((g_r42_Members (c : Int) (k : Int)), true)) (next (v.1, v.2))).2.1 = false
    rw [hs, Bool.false_and, cond_false]
    exact hnext _ hI
  · right
    refine ⟨r, h1, ?_⟩
    rw [Int.toNat_natCast]
    -- the number of the least set
    obtain ⟨m, hm⟩ := Int.eq_ofNat_of_zero_le h1.u.1
    have hm32 : m < 4294967296 := by have := h1.u.2; omega
    have hbt : ∀ i, bt r i = m.testBit i := fun i => by rw [hm]; exact bt_nat hm32 i
    have hmk : m < 2 ^ k := by
      refine Nat.lt_pow_two_of_testBit m fun i hi => ?_
      cases hb : m.testBit i with
      | false => rfl
      | true => have := h1.low i (by rw [hbt]; exact hb); omega
    have hA : g_r42_Members (m : Int) (k : Int) = lst (bt r) k := by rw [memL m hmk]; exact lst_congr fun i _ => (hbt i).symm
    have hAs : g_r42_Satisfies (lst (bt r) k) cs = true := (satisfies_sat h (Int.le_refl _)).2 h1.sat
    have lr : ∀ i, bt r i = true → i < k := fun i hi => by have := h1.low i hi; omega
    have ord : ∀ x : Nat, x < 2 ^ k → Sat cs x.testBit → lst x.testBit k = lst (bt r) k ∨ (g_r42_Less (lst (bt r) k) (lst x.testBit k) = true ∧ g_r42_Less (lst x.testBit k) (lst (bt r) k) = false) := fun x hx hs => by
      have lx : ∀ i, x.testBit i = true → i < k := fun i hi => by have := lowL x hx i hi; omega
      rcases h1.le _ (lowL x hx) hs with h2 | ⟨h2, h3 | h3⟩
      · exact .inr (less_len (by rw [lst_len_n (by omega) lr, lst_len_n (by omega) lx]; exact h2))
      · exact .inl (lst_congr fun i _ => h3 i)
      · exact .inr (less_at (by omega) lr lx h2 h3)
    refine upS_ind (P := fun z : (List Ti64T) × Bool × Unit => z = (lst (bt r) k, true, ())) (I := fun c (v : (List Ti64T) × Bool) => (v.2 = true → ∃ x : Nat, x < 2 ^ k ∧ Sat cs x.testBit ∧ v.1 = lst x.testBit k) ∧ (m < c → v.2 = true ∧ v.1 = lst (bt r) k)) (2 ^ k) 0 (fun v hI => ?_) (fun c _ hc next hnext v hI => ?_) ([], false) ⟨fun h => Bool.noConfusion h, fun h => absurd h (Nat.not_lt_zero _)⟩
    · obtain ⟨h2, h3⟩ := hI.2 (by omega)
      show (v.1, v.2, ()) = _
      rw [h2, h3]
    · have hc' : c < 2 ^ k := by omega
      obtain ⟨i1, i2⟩ := hI
      show cond ((g_r42_Satisfies (g_r42_Members (c : Int) (k : Int)) cs) && ((!v.2) || (g_r42_Less (g_r42_Members (c : Int) (k : Int)) v.1))) (next ((g_r42_Members (c : Int) (k : Int)), true)) (next (v.1, v.2)) = (lst (bt r) k, true, ())
      cases hs : g_r42_Satisfies (g_r42_Members (c : Int) (k : Int)) cs with
      | false =>
        rw [Bool.false_and, cond_false]
        refine hnext _ ⟨i1, fun hmc => i2 ?_⟩
        rcases Nat.lt_or_ge m c with h2 | h2
        · exact h2
        · have : c = m := by omega
          subst this; rw [hA, hAs] at hs; cases hs
      | true =>
        have hsat := (satL c hc').1 hs
        rw [Bool.true_and, memL c hc']
        cases hv : v.2 with
        | false =>
          rw [Bool.not_false, Bool.true_or, cond_true]
          refine hnext _ ⟨fun _ => ⟨c, hc', hsat, rfl⟩, fun hmc => ?_⟩
          rcases Nat.lt_or_ge m c with h2 | h2
          · have := (i2 h2).1; rw [hv] at this; cases this
          · have : c = m := by omega
            subst this; exact ⟨rfl, lst_congr fun i _ => (hbt i).symm⟩
        | true =>
          rw [Bool.not_true, Bool.false_or]
          cases hL : g_r42_Less (lst c.testBit k) v.1 with
          | true =>
            rw [cond_true]
            refine hnext _ ⟨fun _ => ⟨c, hc', hsat, rfl⟩, fun hmc => ⟨rfl, ?_⟩⟩
            rcases Nat.lt_or_ge m c with h2 | h2
            · rw [(i2 h2).2] at hL
              rcases ord c hc' hsat with h3 | ⟨_, h3⟩
              · exact h3
              · rw [h3] at hL; cases hL
            · have : c = m := by omega
              subst this; exact lst_congr fun i _ => (hbt i).symm
          | false =>
            rw [cond_false]
            refine hnext (v.1, true) ⟨fun _ => i1 hv, fun hmc => ⟨rfl, ?_⟩⟩
            rcases Nat.lt_or_ge m c with h2 | h2
            · exact (i2 h2).2
            · have : c = m := by omega
              subst this
              obtain ⟨x, hx, hxs, hxv⟩ := i1 hv
              rw [hxv] at hL ⊢
              have hcr : lst c.testBit k = lst (bt r) k := lst_congr fun i _ => (hbt i).symm
              rw [hcr] at hL
              rcases ord x hx hxs with h3 | ⟨h3, _⟩
              · exact h3
              · rw [h3] at hL; cases hL
end Go.Proofs.YtilbcgklkdkkdaaDoor
