/-
  Route policy: which rule covers which, in plain Lean; the law PolicyCovers.
-/
import Derived.Test.YtabhhkjjpmcodaaAmG
import Derived.Test.YtabhhkjjpmcodaaAmBits
import Derived.KernelRfl
namespace Go.Proofs.Ytabhhkjjpmcodaa
open Go Go.AM
set_option maxRecDepth 100000

theorem sane_law6 : g_law6_sane = true := by kernel_rfl
theorem upS_congr {R S : Type} {b b' : Nat → S → (S → R) → R} {r : S → R} : ∀ (m s : Nat) (v : S), (∀ c, s ≤ c → c < s + m → ∀ v k, b c v k = b' c v k) → upS b r m s v = upS b' r m s v
  | 0, _, _, _ => rfl
  | m + 1, s, v, h => by
    simp only [upS]
    rw [h s (Nat.le_refl _) (by omega)]
    congr 1
    funext w
    exact upS_congr m (s + 1) w fun c h1 h2 => h c (by omega) (by omega)
theorem mask_clamp (n : Int) : g_r4_Mask n = g_r4_Mask (g_addr_clamp n) := by
  unfold g_r4_Mask S_r4_Mask_0
  refine upS_congr _ _ _ fun c _ h v k => ?_
  have e : decide ((c : Int) < n) = decide ((c : Int) < g_addr_clamp n) := by
    congr 1
    apply propext
    unfold g_addr_clamp
    simp only [Bool.cond_eq_ite, decide_eq_true_eq]
    repeat' split
    all_goals omega
  rw [e]
theorem clamp_clamp (n : Int) : g_addr_clamp (g_addr_clamp n) = g_addr_clamp n := by
  have := clamp_range n
  generalize g_addr_clamp n = k at this ⊢
  unfold g_addr_clamp
  simp only [Bool.cond_eq_ite, decide_eq_true_eq]
  repeat' split
  all_goals omega
theorem masks_all : (List.range 33).all (fun k => g_addr_Mask (k : Int) == g_r4_Mask (k : Int)) = true := by kernel_rfl
theorem mask_eq (n : Int) : g_addr_Mask n = g_r4_Mask n := by
  have h1 : g_addr_Mask n = g_addr_Mask (g_addr_clamp n) := by unfold g_addr_Mask; rw [clamp_clamp]
  rw [mask_clamp, h1]
  have hr := clamp_range n
  generalize g_addr_clamp n = k at hr ⊢
  obtain ⟨m, rfl⟩ := Int.eq_ofNat_of_zero_le hr.1
  have h := List.all_eq_true.1 masks_all m (List.mem_range.2 (by omega))
  exact eq_of_beq h

/-! ### Bits -/
theorem bits_all : (List.range 33).all (fun k => (List.range 32).all fun c => (B (g_addr_Mask (k : Int))).getLsbD c == decide (32 - k ≤ c)) = true := by kernel_rfl
theorem mask_bit {k c : Nat} (hk : k ≤ 32) (hc : c < 32) : (B (g_addr_Mask (k : Int))).getLsbD c = decide (32 - k ≤ c) :=
  eq_of_beq (List.all_eq_true.1 (List.all_eq_true.1 bits_all k (List.mem_range.2 (by omega))) c (List.mem_range.2 hc))
theorem mask_u32 (n : Int) : u32 (g_addr_Mask n) := by unfold g_addr_Mask; exact u32_ishl _ _
theorem bv_ext {x y : BitVec 32} : x = y ↔ ∀ c, c < 32 → x.getLsbD c = y.getLsbD c :=
  ⟨fun h c _ => by rw [h], fun h => BitVec.eq_of_getLsbD_eq fun c hc => h c hc⟩
/-- The bits of an address behind k bits are those of another. -/
def Top (k : Nat) (q p : Int) : Prop := ∀ c, c < 32 → ((B q).getLsbD c && decide (32 - k ≤ c)) = (B p).getLsbD c
theorem contains_iff {p : PrefixT} {k : Nat} (hp : u32 p.1) (hk : p.2.1 = (k : Int)) (h32 : k ≤ 32) (q : Int) : g_addr_Contains p q = true ↔ Top k q p.1 := by
  unfold g_addr_Contains
  rw [eq_B (u32_iand _ _) hp, beq_iff_eq, B_iand, bv_ext, hk]
  refine forall_congr' fun c => forall_congr' fun hc => ?_
  rw [BitVec.getLsbD_and, mask_bit h32 hc]
theorem covers_iff {p q : PrefixT} {k : Nat} (hp : u32 p.1) (hk : p.2.1 = (k : Int)) (h32 : k ≤ 32) : g_addr_Covers p q = true ↔ p.2.1 ≤ q.2.1 ∧ Top k q.1 p.1 := by
  unfold g_addr_Covers
  rw [Bool.and_eq_true, decide_eq_true_eq, contains_iff hp hk h32]
theorem Top.down {j k : Nat} {q p a : Int} (h : j ≤ k) (h1 : Top j p a) (h2 : Top k q p) : Top j q a := fun c hc => by
  have g1 := h1 c hc
  have g2 := h2 c hc
  rw [← g1, ← g2]
  by_cases hj : 32 - j ≤ c
  · have : 32 - k ≤ c := by omega
    simp [hj, this]
  · simp [hj]
theorem matches_iff {x : PrefixRuleT} {q : PrefixT} {k : Nat} (hp : u32 x.2.1) (hk : x.2.2.1 = (k : Int)) (h32 : k ≤ 32) : g_policy_Matches x q = true ↔ (x.2.2.1 ≤ q.2.1 ∧ Top k q.1 x.2.1) ∧ x.2.2.2.1 ≤ q.2.1 ∧ q.2.1 ≤ x.2.2.2.2.1 := by
  unfold g_policy_Matches
  rw [Bool.and_eq_true, Bool.and_eq_true, decide_eq_true_eq, decide_eq_true_eq, covers_iff (p := (x.2.1, x.2.2.1, ())) hp hk h32, and_assoc]
theorem cov_iff {a b : PrefixRuleT} {k : Nat} (hp : u32 a.2.1) (hk : a.2.2.1 = (k : Int)) (h32 : k ≤ 32) : g_policy_Covers a b = true ↔ (a.2.2.1 ≤ b.2.2.1 ∧ Top k b.2.1 a.2.1) ∧ a.2.2.2.1 ≤ b.2.2.2.1 ∧ b.2.2.2.2.1 ≤ a.2.2.2.2.1 := by
  unfold g_policy_Covers
  rw [Bool.and_eq_true, Bool.and_eq_true, decide_eq_true_eq, decide_eq_true_eq, covers_iff (p := (a.2.1, a.2.2.1, ())) hp hk h32, and_assoc]

/-! ### A valid rule -/
structure VR (x : PrefixRuleT) (k i j : Nat) : Prop where
  len : x.2.2.1 = (k : Int)
  lo : x.2.2.2.1 = (i : Int)
  hi : x.2.2.2.2.1 = (j : Int)
  ki : k ≤ i
  ij : i ≤ j
  j32 : j ≤ 32
  top : Top k x.2.1 x.2.1
theorem valid_rule {x : PrefixRuleT} (h : g_r8_ValidPrefixRule x = true) : ∃ k i j, VR x k i j := by
  unfold g_r8_ValidPrefixRule g_r4_Valid at h
  simp only [Bool.and_eq_true, decide_eq_true_eq] at h
  obtain ⟨⟨⟨⟨⟨h1, h2⟩, h3⟩, h4⟩, h5⟩, h6⟩ := h
  obtain ⟨k, hk⟩ := Int.eq_ofNat_of_zero_le (show 0 ≤ x.2.2.1 from h1)
  obtain ⟨i, hi⟩ := Int.eq_ofNat_of_zero_le (show 0 ≤ x.2.2.2.1 by omega)
  obtain ⟨j, hj⟩ := Int.eq_ofNat_of_zero_le (show 0 ≤ x.2.2.2.2.1 by omega)
  refine ⟨k, i, j, hk, hi, hj, by omega, by omega, by omega, fun c hc => ?_⟩
  rw [← mask_eq, eq_B (u32_iandnot _ _) u32_zero, beq_iff_eq, B_iandnot] at h3
  have h7 := bv_zero.1 (show _ = 0#32 from h3) c hc
  rw [BitVec.getLsbD_and, BitVec.getLsbD_not, hk, mask_bit (by omega) hc] at h7
  simp only [hc, decide_true, Bool.true_and] at h7
  revert h7
  cases (B x.2.1).getLsbD c <;> simp
theorem net_eq (a : Int) {n : Nat} (h : n ≤ 32) : g_r4_Network a (n : Int) = (iand .u32 a (g_addr_Mask (n : Int)), (n : Int), ()) := by
  unfold g_r4_Network
  have h1 : decide ((32 : Int) < (n : Int)) = false := by simp; omega
  have h2 : decide ((0 : Int) > (n : Int)) = false := by simp
  rw [h1]
  simp only [cond_false]
  rw [h2, mask_eq]
  rfl
theorem inot_eq (x : Int) : inot .u32 x = ixor .u32 4294967295 x := rfl
theorem ones_all : (List.range 32).all (fun c => (B 4294967295).getLsbD c) = true := by kernel_rfl
theorem B_inot (x : Int) : B (inot .u32 x) = ~~~ B x := by
  rw [inot_eq, B_ixor, bv_ext]
  intro c hc
  rw [BitVec.getLsbD_xor, BitVec.getLsbD_not, List.all_eq_true.1 ones_all c (List.mem_range.2 hc)]
  simp [hc]
theorem last_bit (p : PrefixT) {k c : Nat} (hk : p.2.1 = (k : Int)) (h32 : k ≤ 32) (hc : c < 32) : (B (g_r4_Last p)).getLsbD c = ((B p.1).getLsbD c || decide (c < 32 - k)) := by
  unfold g_r4_Last
  rw [B_ior, BitVec.getLsbD_or, B_inot, BitVec.getLsbD_not, ← mask_eq, hk, mask_bit h32 hc]
  have : (!decide (32 - k ≤ c)) = decide (c < 32 - k) := by
    by_cases h : 32 - k ≤ c
    · have h2 : ¬ c < 32 - k := by omega
      simp [h, h2]
    · have h2 : c < 32 - k := by omega
      simp [h, h2]
  rw [this]
  simp [hc]
theorem true_law6_PolicyCovers (a b : PrefixRuleT) (p : PrefixT) (hw : VSs.wf e_law6_PolicyCovers.A (a, b, p, ())) : g_law6_PolicyCovers a b p = true := by
  have ua : u32 a.2.1 := u32_of hw.1.2.1
  have ub : u32 b.2.1 := u32_of hw.2.1.2.1
  unfold g_law6_PolicyCovers
  rw [sane_law6]
  cases ha : g_r8_ValidPrefixRule a with
  | false => rfl
  | true =>
    cases hb : g_r8_ValidPrefixRule b with
    | false => rfl
    | true =>
      cases g_r4_Valid p with
      | false => rfl
      | true =>
        obtain ⟨ka, ia, ja, va⟩ := valid_rule ha
        obtain ⟨kb, ib, jb, vb⟩ := valid_rule hb
        have a32 : ka ≤ 32 := by have := va.ki; have := va.ij; have := va.j32; omega
        have b32 : kb ≤ 32 := by have := vb.ki; have := vb.ij; have := vb.j32; omega
        have a1 := va.len; have a2 := va.lo; have a3 := va.hi; have a4 := va.ki; have a5 := va.ij; have a6 := va.j32
        have b1 := vb.len; have b2 := vb.lo; have b3 := vb.hi; have b4 := vb.ki; have b5 := vb.ij; have b6 := vb.j32
        show cond (g_policy_Covers a b) _ _ = true
        cases hc : g_policy_Covers a b with
        | true =>
          show ((!g_policy_Matches b p || g_policy_Matches a p) && true) = true
          cases hm : g_policy_Matches b p with
          | false => rfl
          | true =>
            have h1 := (cov_iff ua a1 a32).1 hc
            have h2 := (matches_iff ub b1 b32).1 hm
            rw [(matches_iff ua a1 a32).2 ⟨⟨by omega, h1.1.2.down (by omega) h2.1.2⟩, by omega, by omega⟩]
            rfl
        | false =>
          -- the four prefixes
          have tl : ∀ n : Nat, kb ≤ n → n ≤ 32 → Top kb (iand .u32 (g_r4_Last (b.2.1, b.2.2.1, ())) (g_addr_Mask (n : Int))) b.2.1 := fun n h1 h2 c hc => by
            rw [B_iand, BitVec.getLsbD_and, mask_bit h2 hc, last_bit _ b1 b32 hc]
            have := vb.top c hc
            by_cases h3 : 32 - kb ≤ c
            · have h4 : 32 - n ≤ c := by omega
              have h5 : ¬ c < 32 - kb := by omega
              simp [h3, h4, h5]
            · simp only [h3, decide_false, Bool.and_false] at this ⊢
              exact this
          have mb : ∀ (x : Int) (n : Nat), ib ≤ n → n ≤ jb → Top kb x b.2.1 → g_policy_Matches b (x, (n : Int), ()) = true := fun x n h1 h2 h3 => (matches_iff ub b1 b32).2 ⟨⟨show b.2.2.1 ≤ (n : Int) by omega, h3⟩, show b.2.2.2.1 ≤ (n : Int) by omega, show (n : Int) ≤ b.2.2.2.2.1 by omega⟩
          have e1 : g_policy_Matches b (b.2.1, b.2.2.2.1, ()) = true := by rw [b2]; exact mb _ _ (by omega) (by omega) vb.top
          have e2 : g_policy_Matches b (b.2.1, b.2.2.2.2.1, ()) = true := by rw [b3]; exact mb _ _ (by omega) (by omega) vb.top
          have e3 : g_policy_Matches b (g_r4_Network (g_r4_Last (b.2.1, b.2.2.1, ())) b.2.2.2.2.1) = true := by rw [b3, net_eq _ b6]; exact mb _ _ (by omega) (by omega) (tl _ (by omega) b6)
          have e4 : g_policy_Matches b (g_r4_Network (g_r4_Last (b.2.1, b.2.2.1, ())) b.2.2.2.1) = true := by rw [b2, net_eq _ (by omega)]; exact mb _ _ (by omega) (by omega) (tl _ (by omega) (by omega))
          rw [e1, e2, e3, e4]
          show (((((!(g_policy_Matches a (b.2.1, b.2.2.2.1, ()))) || (!(g_policy_Matches a (b.2.1, b.2.2.2.2.1, ())))) || (!(g_policy_Matches a (g_r4_Network (g_r4_Last (b.2.1, b.2.2.1, ())) b.2.2.2.2.1)))) || (!(g_policy_Matches a (g_r4_Network (g_r4_Last (b.2.1, b.2.2.1, ())) b.2.2.2.1)))) && true) = true
          cases m1 : g_policy_Matches a (b.2.1, b.2.2.2.1, ()) with
          | false => rfl
          | true =>
            cases m2 : g_policy_Matches a (b.2.1, b.2.2.2.2.1, ()) with
            | false => rfl
            | true =>
              cases m4 : g_policy_Matches a (g_r4_Network (g_r4_Last (b.2.1, b.2.2.1, ())) b.2.2.2.1) with
              | false => simp
              | true =>
                exfalso
                have n1 := (matches_iff ua a1 a32).1 m1
                have n2 := (matches_iff ua a1 a32).1 m2
                rw [b2, net_eq _ (by omega)] at m4
                have n4 := (matches_iff ua a1 a32).1 m4
                have l1 : a.2.2.2.1 ≤ b.2.2.2.1 := n1.2.1
                have l2 : b.2.2.2.2.1 ≤ a.2.2.2.2.1 := n2.2.2
                have l3 : a.2.2.1 ≤ b.2.2.2.1 := n1.1.1
                have hlt : kb < ka := by
                  rcases Nat.lt_or_ge kb ka with h | h
                  · exact h
                  · rw [(cov_iff ua a1 a32).2 ⟨⟨by omega, n1.1.2⟩, l1, l2⟩] at hc
                    cases hc
                -- the bit behind b's prefix
                have g1 := n1.1.2 (31 - kb) (by omega)
                have g4 := n4.1.2 (31 - kb) (by omega)
                have gb := vb.top (31 - kb) (by omega)
                simp only at g1 g4
                rw [B_iand, BitVec.getLsbD_and, mask_bit (show ib ≤ 32 by omega) (by omega), last_bit _ b1 b32 (by omega)] at g4
                have d1 : decide (32 - ka ≤ 31 - kb) = true := by simp; omega
                have d2 : decide (32 - ib ≤ 31 - kb) = true := by simp; omega
                have d3 : decide (31 - kb < 32 - kb) = true := by simp; omega
                have d4 : decide (32 - kb ≤ 31 - kb) = false := by simp; omega
                rw [d4, Bool.and_false] at gb
                rw [d1, Bool.and_true, ← gb] at g1
                rw [d1, d2, d3, ← g1] at g4
                simp at g4
end Go.Proofs.Ytabhhkjjpmcodaa
