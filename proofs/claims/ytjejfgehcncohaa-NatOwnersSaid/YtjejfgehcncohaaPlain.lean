/-
  Address translation: what the program's functions give and what the reference's give, in plain Lean; the laws.
-/
import Derived.Test.YtjejfgehcncohaaAmG
import Derived.Test.YtjejfgehcncohaaAmBits
import Derived.KernelRfl
namespace Go.Proofs.Ytjejfgehcncohaa
open Go Go.AM
set_option maxRecDepth 100000

theorem sane_law8 : g_law8_sane = true := by kernel_rfl

/-! ### The router -/
def mkR (l : List TranslationT) (a : List ACLT) : RouterT := ([114], 0, [], [], [], a, l, [], false, 0, [], [], false, 0, [], [], [], false, 0, 0, [], [], [], [], [], ())
theorem router_ok (l : List TranslationT) (a : List ACLT) (h : (g_law8_router l a).2.1 = true) : (g_law8_router l a).1 = mkR l a ∧ g_r8_CheckRouter (mkR l a) = 0 := by
  unfold g_law8_router at h ⊢
  generalize hc : (decide ((l.length : Int) > 8) || decide ((a.length : Int) > 8)) = c at h ⊢
  cases c with
  | true => cases h
  | false =>
    simp only [cond_false] at h ⊢
    have key : (S_law8_router_0 l a).2.1 = true → S_law8_router_0 l a = (mkR l a, (g_r8_CheckRouter (mkR l a) == 0), ()) := by
      unfold S_law8_router_0
      refine upV_ind (P := fun x : RouterT × Bool × Unit => x.2.1 = true → x = (mkR l a, (g_r8_CheckRouter (mkR l a) == 0), ())) (fun _ => rfl) _ _ fun c _ _ x hx => ?_
      cases decide (((List.getD a c ACLD).2.1.length : Int) > 16) with
      | true => intro h; cases h
      | false => exact hx
    have e := key h
    rw [e] at h ⊢
    exact ⟨rfl, by simpa using h⟩
theorem cond_nz {x r : Int} (h : cond (x != 0) x r = 0) : x = 0 ∧ r = 0 := by
  by_cases hx : x = 0
  · subst hx; exact ⟨rfl, by simpa using h⟩
  · have : (x != 0) = true := by simpa using hx
    rw [this] at h
    exact absurd h hx
theorem upV_err {body : Nat → Int → Int} {r : Int} {P : Nat → Prop} : ∀ (m s : Nat), (∀ c, s ≤ c → c < s + m → ∀ x, body c x = 0 → P c ∧ x = 0) → upV body r m s = 0 → (∀ c, s ≤ c → c < s + m → P c) ∧ r = 0
  | 0, s, _, h => ⟨fun c _ _ => by omega, h⟩
  | m + 1, s, hb, h => by
    simp only [upV] at h
    obtain ⟨h1, h2⟩ := hb s (Nat.le_refl _) (by omega) _ h
    obtain ⟨h3, h4⟩ := upV_err m (s + 1) (fun c h5 h6 => hb c (by omega) (by omega)) h2
    refine ⟨fun c h5 h6 => ?_, h4⟩
    by_cases hc : c = s
    · subst hc; exact h1
    · exact h3 c (by omega) (by omega)
/-- A valid translation. -/
structure VT (x : TranslationT) : Prop where
  kind : x.1 = 1 ∨ x.1 = 2 ∨ x.1 = 3
  one : x.1 = 1 → x.2.1 ≠ 0 ∧ x.2.2.1 ≠ 0
  two : x.1 = 2 → x.2.2.2.2.2.2.2.1 ≠ 0 ∧ x.2.2.2.2.2.2.2.1 ≤ x.2.2.2.2.2.2.2.2.1 ∧ IntKind.wrap .u32 (x.2.2.2.2.2.2.2.2.1 - x.2.2.2.2.2.2.2.1) < 8
  three : x.1 = 3 → x.2.1 ≠ 0 ∧ x.2.2.1 ≠ 0 ∧ (x.2.2.2.1 = 6 ∨ x.2.2.2.1 = 17) ∧ (0 ≤ x.2.2.2.2.1 ∧ x.2.2.2.2.1 ≤ 65535) ∧ (0 ≤ x.2.2.2.2.2.1 ∧ x.2.2.2.2.2.1 ≤ 65535)
theorem trans_ok (l : List TranslationT) (a : List ACLT) (h : g_r8_translations (mkR l a) = 0) : ∀ c, c < l.length → VT (List.getD l c TranslationD) := by
  unfold g_r8_translations at h
  generalize (decide (((mkR l a).2.2.2.2.2.2.1.length : Int) > 8)) = d at h
  cases d with
  | true => simp at h
  | false =>
    simp only [cond_false] at h
    unfold S_r8_translations_0 at h
    refine fun c hc => (upV_err (P := fun c => VT (List.getD l c TranslationD)) _ _ (fun c _ _ x hx => ?_) h).1 c (Nat.zero_le _) (by show c < 0 + (l.length - 0); omega)
    change cond ((List.getD l c TranslationD).1 == 1) _ _ = 0 at hx
    generalize hy : List.getD (mkR l a).2.2.2.2.2.2.1 c TranslationD = y at hx
    have hy' : List.getD l c TranslationD = y := hy
    rw [hy'] at hx ⊢
    clear hy hy'
    simp only [Bool.cond_eq_ite, g_r8_within] at hx
    split at hx
    · rename_i k1
      split at hx
      · simp at hx
      · rename_i k2
        split at hx
        · simp at hx
        · simp at k1 k2
          exact ⟨⟨Or.inl k1, fun _ => ⟨by simp_all, by simp_all⟩, fun h => by omega, fun h => by omega⟩, hx⟩
    · rename_i k1
      split at hx
      · rename_i k2
        split at hx
        · simp at hx
        · rename_i k3
          split at hx
          · simp at hx
          · simp at k2 k3
            exact ⟨⟨Or.inr (Or.inl k2), fun h => by omega, fun _ => ⟨by simp_all, by omega, by omega⟩, fun h => by omega⟩, hx⟩
      · rename_i k2
        split at hx
        · rename_i k3
          split at hx
          · simp at hx
          · rename_i k4
            split at hx
            · simp at hx
            · simp at k3 k4
              exact ⟨⟨Or.inr (Or.inr k3), fun h => by omega, fun h => by omega, fun _ => ⟨by simp_all, by simp_all, by omega, by omega, by omega⟩⟩, hx⟩
        · simp at hx
theorem check_parts (r : RouterT) (h : g_r8_CheckRouter r = 0) : g_r8_translations r = 0 := by
  unfold g_r8_CheckRouter at h
  cases h1 : (!g_r4_Name r.1) with
  | true => rw [h1] at h; simp at h
  | false =>
    rw [h1] at h
    cases h2 : (!g_r8_within r.2.1 0 65535) with
    | true => simp [h2] at h
    | false =>
      simp only [cond_false, h2] at h
      exact (cond_nz (cond_nz (cond_nz (cond_nz (cond_nz h).2).2).2).2).1
theorem trans_valid (l : List TranslationT) (a : List ACLT) (h : (g_law8_router l a).2.1 = true) : (g_law8_router l a).1 = mkR l a ∧ ∀ c, c < l.length → VT (List.getD l c TranslationD) := by
  obtain ⟨h1, h2⟩ := router_ok l a h
  exact ⟨h1, trans_ok l a (check_parts _ h2)⟩

/-! ### Owners -/
theorem own_one (y : TranslationT) (x : Int) (hv : VT y) (c n : Int) : cond (y.1 == 1) (cond (y.1 == 1) (cond (y.2.2.1 == x) c n) (cond (y.1 == 2) (cond ((decide (y.2.2.2.2.2.2.2.1 ≤ x)) && (decide (x ≤ y.2.2.2.2.2.2.2.2.1))) c n) n)) (cond (y.1 == 3) (cond (y.2.2.1 == x) c n) (cond (y.1 == 2) (cond ((decide (y.2.2.2.2.2.2.2.1 ≤ x)) && (decide (x ≤ y.2.2.2.2.2.2.2.2.1))) c n) n)) =
    cond ((((y.1 == 2) && (decide (y.2.2.2.2.2.2.2.1 ≤ x))) && (decide (x ≤ y.2.2.2.2.2.2.2.2.1))) || ((y.1 != 2) && (y.2.2.1 == x))) c n := by
  rcases hv.kind with h | h | h
  · simp [h]
  · simp [h]
  · simp [h]
theorem Owner_eq (l : List TranslationT) (a : List ACLT) (x : Int) (hv : ∀ c, c < l.length → VT (List.getD l c TranslationD)) : g_nat_Owner (mkR l a) x = g_r8_Owner (mkR l a) x := by
  refine upV_congr rfl _ _ fun c _ hc n => ?_
  exact own_one (List.getD l c TranslationD) x (hv c (by have : c < 0 + (l.length - 0) := hc; omega)) c n
theorem true_law8_NatOwners (l : List TranslationT) (a : List ACLT) (x : Int) (_hw : VSs.wf e_law8_NatOwners.A (l, a, x, ())) : g_law8_NatOwners l a x = true := by
  unfold g_law8_NatOwners
  cases h : (g_law8_router l a).2.1 with
  | false => rfl
  | true =>
    obtain ⟨h1, h2⟩ := trans_valid l a h
    rw [h1, Owner_eq l a x h2, sane_law8]; simp

/-! ### Packets -/
theorem keep_refl (s : List PacketT) : g_keep_Packets s s = true := by
  have e : S_keep_Packets_0 s s = true := upV_none _ _ fun c _ _ => by simp
  unfold g_keep_Packets
  rw [e]; simp

/-! ### Matches, in both packages -/
theorem rm_iff {w : WildcardT} {a : Int} (h1 : u32 w.1) (h2 : u32 w.2.1) (ha : u32 a) : g_r8_MatchesAddress w a = true ↔ ∀ c, c < 32 → (B w.2.1).getLsbD c = true ∨ (B w.1).getLsbD c = (B a).getLsbD c := by
  refine upV_all.trans ⟨fun h c hc => ?_, fun h c hc => ?_⟩
  · have := h c hc
    rw [bit_at h1 hc, bit_at h2 hc, bit_at ha hc] at this
    revert this
    cases (B w.2.1).getLsbD c <;> cases (B w.1).getLsbD c <;> cases (B a).getLsbD c <;> simp
  · have := h c hc
    rw [bit_at h1 hc, bit_at h2 hc, bit_at ha hc]
    revert this
    cases (B w.2.1).getLsbD c <;> cases (B w.1).getLsbD c <;> cases (B a).getLsbD c <;> simp
theorem am_iff {w : WildcardT} {a : Int} : g_acl_MatchesAddress w a = true ↔ ∀ c, c < 32 → (B w.2.1).getLsbD c = true ∨ (B w.1).getLsbD c = (B a).getLsbD c := by
  unfold g_acl_MatchesAddress
  rw [eq_B (u32_iandnot _ _) u32_zero, beq_iff_eq, B_iandnot, B_ixor]
  show _ = 0#32 ↔ _
  rw [bv_zero]
  refine forall_congr' fun c => forall_congr' fun hc => ?_
  rw [BitVec.getLsbD_and, BitVec.getLsbD_not, BitVec.getLsbD_xor]
  simp only [hc, decide_true, Bool.true_and]
  cases (B w.2.1).getLsbD c <;> cases (B w.1).getLsbD c <;> cases (B a).getLsbD c <;> simp
theorem ma_eq {w : WildcardT} {a : Int} (h1 : u32 w.1) (h2 : u32 w.2.1) (ha : u32 a) : g_acl_MatchesAddress w a = g_r8_MatchesAddress w a := by
  rw [Bool.eq_iff_iff, am_iff, rm_iff h1 h2 ha]
theorem wf_rule {x : RuleT} (h : Sch.wf RuleS x) : u32 x.2.2.1 ∧ u32 x.2.2.2.1 ∧ u32 x.2.2.2.2.1 ∧ u32 x.2.2.2.2.2.1 :=
  ⟨u32_of h.2.2.1, u32_of h.2.2.2.1, u32_of h.2.2.2.2.1, u32_of h.2.2.2.2.2.1⟩
theorem wf_pack {p : PacketT} (h : Sch.wf PacketS p) : u32 p.1 ∧ u32 p.2.1 := ⟨u32_of h.1, u32_of h.2.1⟩
theorem matches_eq {x : RuleT} {p : PacketT} (hx : Sch.wf RuleS x) (hp : Sch.wf PacketS p) : g_acl_Matches x p = g_r8_Matches x p := by
  obtain ⟨a1, a2, a3, a4⟩ := wf_rule hx
  obtain ⟨b1, b2⟩ := wf_pack hp
  unfold g_acl_Matches g_r8_Matches
  rw [ma_eq a1 a2 b1, ma_eq a3 a4 b2]
  unfold g_acl_inRange g_r8_within
  have e : (x.2.1 == -1 || x.2.1 == p.2.2.1) = !(x.2.1 != -1 && x.2.1 != p.2.2.1) := by
    simp only [bne]; cases (x.2.1 == -1) <;> cases (x.2.1 == p.2.2.1) <;> rfl
  rw [e]
  cases (x.2.1 != -1 && x.2.1 != p.2.2.1) <;> simp
theorem wf_r {l : List RuleT} (hl : Cell.wf (.sl RuleS) l) (c : Nat) : Sch.wf RuleS (List.getD l c RuleD) := wf_getD hl c
theorem First_eq {l : ACLT} {p : PacketT} (hl : Cell.wf (.sl RuleS) l.2.1) (hp : Sch.wf PacketS p) : g_acl_First l p = g_r8_First l p := by
  refine upV_congr rfl _ _ fun c _ hc x => ?_
  have e : g_acl_Matches (List.getD l.2.1 c RuleD) p = g_r8_Matches (List.getD l.2.1 c RuleD) p := matches_eq (wf_r hl c) hp
  show cond (g_acl_Matches (List.getD l.2.1 c RuleD) p) (c : Int) x = cond (g_r8_Matches (List.getD l.2.1 c RuleD) p) (c : Int) x
  rw [e]
theorem wf_acl {l : List ACLT} (hl : Cell.wf (.sl ACLS) l) (c : Nat) : Cell.wf (.sl RuleS) (List.getD l c ACLD).2.1 := (wf_getD hl c).2.1
theorem Permits_eq {r : RouterT} {name : List UInt8} {p : PacketT} (hr : Cell.wf (.sl ACLS) r.2.2.2.2.2.1) (hp : Sch.wf PacketS p) : g_acl_Permits r name p = g_r8_Permits r name p := by
  unfold g_acl_Permits g_r8_Permits
  have e : g_model_ACL r name = g_r8_ACL r name := rfl
  rw [e, First_eq (wf_acl hr _) hp]

/-! ### Pools -/
/-- The packets of a pool: from the k-th on, m of them. -/
def poolL (lo : Int) (p : PacketT) (k : Nat) : Nat → List PacketT
  | 0 => []
  | m + 1 => (lo + k, p.2.1, p.2.2.1, p.2.2.2.1, p.2.2.2.2.1, ()) :: poolL lo p (k + 1) m
theorem poolL_snoc (lo : Int) (p : PacketT) : ∀ (m k : Nat), poolL lo p k (m + 1) = poolL lo p k m ++ [(lo + (k + m : Nat), p.2.1, p.2.2.1, p.2.2.2.1, p.2.2.2.2.1, ())]
  | 0, k => rfl
  | m + 1, k => by
    rw [poolL, poolL_snoc lo p m (k + 1), poolL]
    simp [Nat.add_assoc, Nat.add_comm 1 m]
theorem poolL_len (lo : Int) (p : PacketT) : ∀ (m k : Nat), (poolL lo p k m).length = m
  | 0, _ => rfl
  | m + 1, k => by simp [poolL, poolL_len lo p m (k + 1)]
/-- The number of addresses. -/
def pn (t : TranslationT) : Nat := (t.2.2.2.2.2.2.2.2.1 - t.2.2.2.2.2.2.2.1).toNat + 1
theorem poolGo_eq {t : TranslationT} (lo hi : Int) (h1 : u32 lo) (h2 : u32 hi) (hlo : t.2.2.2.2.2.2.2.1 = lo) (hhi : t.2.2.2.2.2.2.2.2.1 = hi) (hle : lo ≤ hi) (p : PacketT) : ∀ (m k : Nat) (q : PacketT), k + m = 8 → pn t ≤ 8 → k ≤ pn t → q.2 = p.2 →
    poolGo t m (lo + k) q (poolL lo p 0 k) = poolL lo p 0 (pn t)
  | 0, k, q, hk, hn, hkn, hq => by
    have : k = pn t := by omega
    rw [← this]; rfl
  | m + 1, k, q, hk, hn, hkn, hq => by
    unfold u32 at h1 h2
    unfold poolGo
    rw [hhi, IntWalk.u64_in hi (by omega)]
    unfold pn at hkn hn
    rw [hlo, hhi] at hkn hn
    by_cases hc : lo + k ≤ hi
    · have e : decide (lo + (k : Int) ≤ hi) = true := by simpa using hc
      rw [e, cond_true, IntWalk.u64_in _ (by omega), IntWalk.u32_in _ (by omega)]
      have e2 : ((lo + (k : Int), q.2.1, q.2.2.1, q.2.2.2.1, q.2.2.2.2.1, ()) : PacketT) = (lo + ((0 + k : Nat) : Int), p.2.1, p.2.2.1, p.2.2.2.1, p.2.2.2.2.1, ()) := by
        rw [hq, Nat.zero_add]
      rw [e2, ← poolL_snoc]
      have := poolGo_eq lo hi h1 h2 hlo hhi hle p m (k + 1) (lo + ((0 + k : Nat) : Int), p.2.1, p.2.2.1, p.2.2.2.1, p.2.2.2.2.1, ()) (by omega) (by unfold pn; rw [hlo, hhi]; omega) (by unfold pn; rw [hlo, hhi]; omega) rfl
      rw [← this]
      congr 1
      omega
    · have e : decide (lo + (k : Int) ≤ hi) = false := by simpa using hc
      rw [e, cond_false]
      have : k = pn t := by unfold pn; rw [hlo, hhi]; omega
      rw [this]
theorem sub_u32 {lo hi : Int} (h1 : u32 lo) (h2 : u32 hi) (hle : lo ≤ hi) : IntKind.wrap .u32 (hi - lo) = hi - lo := by
  unfold u32 at h1 h2
  exact IntWalk.u32_in _ (by omega)
theorem pool_eq {t : TranslationT} (p : PacketT) (h1 : u32 t.2.2.2.2.2.2.2.1) (h2 : u32 t.2.2.2.2.2.2.2.2.1) (hle : t.2.2.2.2.2.2.2.1 ≤ t.2.2.2.2.2.2.2.2.1) (hn : pn t ≤ 8) : g_nat_pool t p = poolL t.2.2.2.2.2.2.2.1 p 0 (pn t) := by
  unfold g_nat_pool
  have := poolGo_eq (t := t) _ _ h1 h2 rfl rfl hle p 8 0 p rfl hn (Nat.zero_le _) rfl
  rw [← this, IntWalk.u64_in _ (by unfold u32 at h1; omega)]
  simp [poolL]
theorem src_eq (r : RouterT) (p : PacketT) (c : Nat) (t : TranslationT) (nx : List PacketT) (h1 : u32 t.2.2.2.2.2.2.2.1) (h2 : u32 t.2.2.2.2.2.2.2.2.1) (hle : t.2.2.2.2.2.2.2.1 ≤ t.2.2.2.2.2.2.2.2.1) (hn : pn t ≤ 8) :
    S_r8_Source_1 r p c t nx [] = poolL t.2.2.2.2.2.2.2.1 p 0 (pn t) := by
  unfold S_r8_Source_1
  rw [sub_u32 h1 h2 hle]
  have seg : ∀ s : List PacketT, segL s 0 s.length = s := fun s => by simp [segL]
  suffices h : ∀ (m k : Nat), k + m = 8 → k ≤ pn t → upS (fun c1 (v2 : List PacketT) => fun (next1 : (List PacketT) → (List PacketT)) => cond (decide ((c1 : Int) ≤ t.2.2.2.2.2.2.2.2.1 - t.2.2.2.2.2.2.2.1)) (next1 (v2 ++ [((IntKind.wrap .u32 (t.2.2.2.2.2.2.2.1 + (c1 : Int))), p.2.1, p.2.2.1, p.2.2.2.1, p.2.2.2.2.1, ())])) (segL v2 0 (List.length v2))) (fun (v2 : List PacketT) => (segL v2 0 (List.length v2))) m k (poolL t.2.2.2.2.2.2.2.1 p 0 k) = poolL t.2.2.2.2.2.2.2.1 p 0 (pn t) from h 8 0 rfl (Nat.zero_le _)
  unfold u32 at h1 h2
  intro m
  induction m with
  | zero =>
    intro k hk hkn
    simp only [upS, seg]
    rw [show k = pn t by omega]
  | succ m ih =>
    intro k hk hkn
    simp only [upS, seg]
    unfold pn at hkn hn
    by_cases hc : (k : Int) ≤ t.2.2.2.2.2.2.2.2.1 - t.2.2.2.2.2.2.2.1
    · have e : decide ((k : Int) ≤ t.2.2.2.2.2.2.2.2.1 - t.2.2.2.2.2.2.2.1) = true := by simpa using hc
      rw [e, cond_true, IntWalk.u32_in _ (by omega)]
      have := poolL_snoc t.2.2.2.2.2.2.2.1 p k 0
      rw [Nat.zero_add] at this
      rw [← this]
      have h9 := ih (k + 1) (by omega) (by unfold pn; omega)
      simp only [seg] at h9
      exact h9
    · have e : decide ((k : Int) ≤ t.2.2.2.2.2.2.2.2.1 - t.2.2.2.2.2.2.2.1) = false := by simpa using hc
      rw [e, cond_false, show k = pn t by unfold pn; omega]

/-! ### Source -/
theorem wf_t {l : List TranslationT} (hl : Cell.wf (.sl TranslationS) l) (c : Nat) : Sch.wf TranslationS (List.getD l c TranslationD) := wf_getD hl c
theorem pool_facts {t : TranslationT} (hw : Sch.wf TranslationS t) (hv : VT t) (h : t.1 = 2) : u32 t.2.2.2.2.2.2.2.1 ∧ u32 t.2.2.2.2.2.2.2.2.1 ∧ t.2.2.2.2.2.2.2.1 ≤ t.2.2.2.2.2.2.2.2.1 ∧ pn t ≤ 8 := by
  have a1 : u32 t.2.2.2.2.2.2.2.1 := u32_of hw.2.2.2.2.2.2.2.1
  have a2 : u32 t.2.2.2.2.2.2.2.2.1 := u32_of hw.2.2.2.2.2.2.2.2.1
  obtain ⟨_, h2, h3⟩ := hv.two h
  rw [sub_u32 a1 a2 h2] at h3
  exact ⟨a1, a2, h2, by unfold pn; omega⟩
theorem src_one (r : RouterT) (p : PacketT) (c : Nat) (t : TranslationT) (hw : Sch.wf TranslationS t) (hv : VT t) (hP : g_acl_Permits r t.2.2.2.2.2.2.1 p = g_r8_Permits r t.2.2.2.2.2.2.1 p) (n : List PacketT) :
    cond ((t.1 == 1) && (t.2.1 == p.1)) [(t.2.2.1, p.2.1, p.2.2.1, p.2.2.2.1, p.2.2.2.2.1, ())] (cond ((t.1 == 2) && (g_acl_Permits r t.2.2.2.2.2.2.1 p)) (g_nat_pool t p) (cond ((((t.1 == 3) && (t.2.1 == p.1)) && (t.2.2.2.1 == p.2.2.1)) && (t.2.2.2.2.1 == p.2.2.2.1)) [(t.2.2.1, p.2.1, p.2.2.1, t.2.2.2.2.2.1, p.2.2.2.2.1, ())] n)) =
    cond (t.1 == 1) (cond (t.2.1 == p.1) [(t.2.2.1, p.2.1, p.2.2.1, p.2.2.2.1, p.2.2.2.2.1, ())] n) (cond (t.1 == 2) (cond (g_r8_Permits r t.2.2.2.2.2.2.1 p) (S_r8_Source_1 r p c t n []) n) (cond (t.1 == 3) (cond (((t.2.1 == p.1) && (t.2.2.2.1 == p.2.2.1)) && (t.2.2.2.2.1 == p.2.2.2.1)) [(t.2.2.1, p.2.1, p.2.2.1, t.2.2.2.2.2.1, p.2.2.2.2.1, ())] n) n)) := by
  rw [hP]
  rcases hv.kind with h | h | h
  · simp [h]
  · obtain ⟨a1, a2, a3, a4⟩ := pool_facts hw hv h
    rw [pool_eq p a1 a2 a3 a4, src_eq r p c t n a1 a2 a3 a4]
    simp [h]
  · simp [h]
theorem Source_eq (l : List TranslationT) (a : List ACLT) (p : PacketT) (hl : Cell.wf (.sl TranslationS) l) (ha : Cell.wf (.sl ACLS) a) (hp : Sch.wf PacketS p) (hv : ∀ c, c < l.length → VT (List.getD l c TranslationD)) : g_nat_Source (mkR l a) p = g_r8_Source (mkR l a) p := by
  refine upV_congr rfl _ _ fun c _ hc n => ?_
  exact src_one (mkR l a) p c (List.getD l c TranslationD) (wf_t hl c) (hv c (by have : c < 0 + (l.length - 0) := hc; omega)) (Permits_eq ha hp) n
theorem true_law8_NatTranslates (l : List TranslationT) (a : List ACLT) (p : PacketT) (hw : VSs.wf e_law8_NatTranslates.A (l, a, p, ())) : g_law8_NatTranslates l a p = true := by
  obtain ⟨hl, ha, hp, _⟩ := hw
  unfold g_law8_NatTranslates
  cases h : (g_law8_router l a).2.1 with
  | false => rfl
  | true =>
    obtain ⟨h1, h2⟩ := trans_valid l a h
    have e : g_nat_Destination (mkR l a) p = g_r8_Destination (mkR l a) p := rfl
    rw [h1, Source_eq l a p hl ha hp h2, keep_refl, sane_law8, e]
    cases (!g_r8_ValidPacket p) <;> simp
end Go.Proofs.Ytjejfgehcncohaa
