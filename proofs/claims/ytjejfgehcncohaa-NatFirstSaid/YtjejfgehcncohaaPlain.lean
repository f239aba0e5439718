/-
  Address translation: what the program's functions give and what the reference's give, in plain Lean; the laws.
-/
import Derived.Test.YtjejfgehcncohaaAmG
import Derived.Test.YtjejfgehcncohaaAmBits
import Derived.KernelRfl
namespace Go.Proofs.Ytjejfgehcncohaa
open Go Go.AM
set_option maxRecDepth 100000

theorem sane_law8 : g_law8_sane = true := by kernel_rfl

/-! ### The router -/
def mkR (l : List TranslationT) (a : List ACLT) : RouterT := ([114], 0, [], [], [], a, l, [], false, 0, [], [], false, 0, [], [], [], false, 0, 0, [], [], [], [], [], ())
theorem router_ok (l : List TranslationT) (a : List ACLT) (h : (g_law8_router l a).2.1 = true) : (g_law8_router l a).1 = mkR l a ∧ g_r8_CheckRouter (mkR l a) = 0 := by
  unfold g_law8_router at h ⊢
  generalize hc : (decide ((l.length : Int) > 8) || decide ((a.length : Int) > 8)) = c at h ⊢
  cases c with
  | true => cases h
  | false =>
    simp only [cond_false] at h ⊢
    have key : (S_law8_router_0 l a).2.1 = true → S_law8_router_0 l a = (mkR l a, (g_r8_CheckRouter (mkR l a) == 0), ()) := by
      unfold S_law8_router_0
      refine upV_ind (P := fun x : RouterT × Bool × Unit => x.2.1 = true → x = (mkR l a, (g_r8_CheckRouter (mkR l a) == 0), ())) (fun _ => rfl) _ _ fun c _ _ x hx => ?_
      cases decide (((List.getD a c ACLD).2.1.length : Int) > 16) with
      | true => intro h; cases h
      | false => exact hx
    have e := key h
    rw [e] at h ⊢
    exact ⟨rfl, by simpa using h⟩
theorem cond_nz {x r : Int} (h : cond (x != 0) x r = 0) : x = 0 ∧ r = 0 := by
  by_cases hx : x = 0
  · subst hx; exact ⟨rfl, by simpa using h⟩
  · have : (x != 0) = true := by simpa using hx
    rw [this] at h
    exact absurd h hx
theorem upV_err {body : Nat → Int → Int} {r : Int} {P : Nat → Prop} : ∀ (m s : Nat), (∀ c, s ≤ c → c < s + m → ∀ x, body c x = 0 → P c ∧ x = 0) → upV body r m s = 0 → (∀ c, s ≤ c → c < s + m → P c) ∧ r = 0
  | 0, s, _, h => ⟨fun c _ _ => by omega, h⟩
  | m + 1, s, hb, h => by
    simp only [upV] at h
    obtain ⟨h1, h2⟩ := hb s (Nat.le_refl _) (by omega) _ h
    obtain ⟨h3, h4⟩ := upV_err m (s + 1) (fun c h5 h6 => hb c (by omega) (by omega)) h2
    refine ⟨fun c h5 h6 => ?_, h4⟩
    by_cases hc : c = s
    · subst hc; exact h1
    · exact h3 c (by omega) (by omega)
/-- A valid translation. -/
structure VT (x : TranslationT) : Prop where
  kind : x.1 = 1 ∨ x.1 = 2 ∨ x.1 = 3
  one : x.1 = 1 → x.2.1 ≠ 0 ∧ x.2.2.1 ≠ 0
  two : x.1 = 2 → x.2.2.2.2.2.2.2.1 ≠ 0 ∧ x.2.2.2.2.2.2.2.1 ≤ x.2.2.2.2.2.2.2.2.1 ∧ IntKind.wrap .u32 (x.2.2.2.2.2.2.2.2.1 - x.2.2.2.2.2.2.2.1) < 8
  three : x.1 = 3 → x.2.1 ≠ 0 ∧ x.2.2.1 ≠ 0 ∧ (x.2.2.2.1 = 6 ∨ x.2.2.2.1 = 17) ∧ (0 ≤ x.2.2.2.2.1 ∧ x.2.2.2.2.1 ≤ 65535) ∧ (0 ≤ x.2.2.2.2.2.1 ∧ x.2.2.2.2.2.1 ≤ 65535)
theorem trans_ok (l : List TranslationT) (a : List ACLT) (h : g_r8_translations (mkR l a) = 0) : ∀ c, c < l.length → VT (List.getD l c TranslationD) := by
  unfold g_r8_translations at h
  generalize (decide (((mkR l a).2.2.2.2.2.2.1.length : Int) > 8)) = d at h
  cases d with
  | true => simp at h
  | false =>
    simp only [cond_false] at h
    unfold S_r8_translations_0 at h
    refine fun c hc => (upV_err (P := fun c => VT (List.getD l c TranslationD)) _ _ (fun c _ _ x hx => ?_) h).1 c (Nat.zero_le _) (by show c < 0 + (l.length - 0); omega)
    change cond ((List.getD l c TranslationD).1 == 1) _ _ = 0 at hx
    generalize hy : List.getD (mkR l a).2.2.2.2.2.2.1 c TranslationD = y at hx
    have hy' : List.getD l c TranslationD = y := hy
    rw [hy'] at hx ⊢
    clear hy hy'
    simp only [Bool.cond_eq_ite, g_r8_within] at hx
    split at hx
    · rename_i k1
      split at hx
      · simp at hx
      · rename_i k2
        split at hx
        · simp at hx
        · simp at k1 k2
          exact ⟨⟨Or.inl k1, fun _ => ⟨by simp_all, by simp_all⟩, fun h => by omega, fun h => by omega⟩, hx⟩
    · rename_i k1
      split at hx
      · rename_i k2
        split at hx
        · simp at hx
        · rename_i k3
          split at hx
          · simp at hx
          · simp at k2 k3
            exact ⟨⟨Or.inr (Or.inl k2), fun h => by omega, fun _ => ⟨by simp_all, by omega, by omega⟩, fun h => by omega⟩, hx⟩
      · rename_i k2
        split at hx
        · rename_i k3
          split at hx
          · simp at hx
          · rename_i k4
            split at hx
            · simp at hx
            · simp at k3 k4
              exact ⟨⟨Or.inr (Or.inr k3), fun h => by omega, fun h => by omega, fun _ => ⟨by simp_all, by simp_all, by omega, by omega, by omega⟩⟩, hx⟩
        · simp at hx
theorem check_parts (r : RouterT) (h : g_r8_CheckRouter r = 0) : g_r8_translations r = 0 := by
  unfold g_r8_CheckRouter at h
  cases h1 : (!g_r4_Name r.1) with
  | true => rw [h1] at h; simp at h
  | false =>
    rw [h1] at h
    cases h2 : (!g_r8_within r.2.1 0 65535) with
    | true => simp [h2] at h
    | false =>
      simp only [cond_false, h2] at h
      exact (cond_nz (cond_nz (cond_nz (cond_nz (cond_nz h).2).2).2).2).1
theorem trans_valid (l : List TranslationT) (a : List ACLT) (h : (g_law8_router l a).2.1 = true) : (g_law8_router l a).1 = mkR l a ∧ ∀ c, c < l.length → VT (List.getD l c TranslationD) := by
  obtain ⟨h1, h2⟩ := router_ok l a h
  exact ⟨h1, trans_ok l a (check_parts _ h2)⟩

/-! ### Owners -/
theorem own_one (y : TranslationT) (x : Int) (hv : VT y) (c n : Int) : cond (y.1 == 1) (cond (y.1 == 1) (cond (y.2.2.1 == x) c n) (cond (y.1 == 2) (cond ((decide (y.2.2.2.2.2.2.2.1 ≤ x)) && (decide (x ≤ y.2.2.2.2.2.2.2.2.1))) c n) n)) (cond (y.1 == 3) (cond (y.2.2.1 == x) c n) (cond (y.1 == 2) (cond ((decide (y.2.2.2.2.2.2.2.1 ≤ x)) && (decide (x ≤ y.2.2.2.2.2.2.2.2.1))) c n) n)) =
    cond ((((y.1 == 2) && (decide (y.2.2.2.2.2.2.2.1 ≤ x))) && (decide (x ≤ y.2.2.2.2.2.2.2.2.1))) || ((y.1 != 2) && (y.2.2.1 == x))) c n := by
  rcases hv.kind with h | h | h
  · simp [h]
  · simp [h]
  · simp [h]
theorem Owner_eq (l : List TranslationT) (a : List ACLT) (x : Int) (hv : ∀ c, c < l.length → VT (List.getD l c TranslationD)) : g_nat_Owner (mkR l a) x = g_r8_Owner (mkR l a) x := by
  refine upV_congr rfl _ _ fun c _ hc n => ?_
  exact own_one (List.getD l c TranslationD) x (hv c (by have : c < 0 + (l.length - 0) := hc; omega)) c n
theorem true_law8_NatOwners (l : List TranslationT) (a : List ACLT) (x : Int) (_hw : VSs.wf e_law8_NatOwners.A (l, a, x, ())) : g_law8_NatOwners l a x = true := by
  unfold g_law8_NatOwners
  cases h : (g_law8_router l a).2.1 with
  | false => rfl
  | true =>
    obtain ⟨h1, h2⟩ := trans_valid l a h
    rw [h1, Owner_eq l a x h2, sane_law8]; simp

/-! ### Packets -/
theorem keep_refl (s : List PacketT) : g_keep_Packets s s = true := by
  have e : S_keep_Packets_0 s s = true := upV_none _ _ fun c _ _ => by simp
  unfold g_keep_Packets
  rw [e]; simp

/-! ### Matches, in both packages -/
theorem rm_iff {w : WildcardT} {a : Int} (h1 : u32 w.1) (h2 : u32 w.2.1) (ha : u32 a) : g_r8_MatchesAddress w a = true ↔ ∀ c, c < 32 → (B w.2.1).getLsbD c = true ∨ (B w.1).getLsbD c = (B a).getLsbD c := by
  refine upV_all.trans ⟨fun h c hc => ?_, fun h c hc => ?_⟩
  · have := h c hc
    rw [bit_at h1 hc, bit_at h2 hc, bit_at ha hc] at this
    revert this
    cases (B w.2.1).getLsbD c <;> cases (B w.1).getLsbD c <;> cases (B a).getLsbD c <;> simp
  · have := h c hc
    rw [bit_at h1 hc, bit_at h2 hc, bit_at ha hc]
    revert this
    cases (B w.2.1).getLsbD c <;> cases (B w.1).getLsbD c <;> cases (B a).getLsbD c <;> simp
theorem am_iff {w : WildcardT} {a : Int} : g_acl_MatchesAddress w a = true ↔ ∀ c, c < 32 → (B w.2.1).getLsbD c = true ∨ (B w.1).getLsbD c = (B a).getLsbD c := by
  unfold g_acl_MatchesAddress
  rw [eq_B (u32_iandnot _ _) u32_zero, beq_iff_eq, B_iandnot, B_ixor]
  show _ = 0#32 ↔ _
  rw [bv_zero]
  refine forall_congr' fun c => forall_congr' fun hc => ?_
  rw [BitVec.getLsbD_and, BitVec.getLsbD_not, BitVec.getLsbD_xor]
  simp only [hc, decide_true, Bool.true_and]
  cases (B w.2.1).getLsbD c <;> cases (B w.1).getLsbD c <;> cases (B a).getLsbD c <;> simp
theorem ma_eq {w : WildcardT} {a : Int} (h1 : u32 w.1) (h2 : u32 w.2.1) (ha : u32 a) : g_acl_MatchesAddress w a = g_r8_MatchesAddress w a := by
  rw [Bool.eq_iff_iff, am_iff, rm_iff h1 h2 ha]
theorem wf_rule {x : RuleT} (h : Sch.wf RuleS x) : u32 x.2.2.1 ∧ u32 x.2.2.2.1 ∧ u32 x.2.2.2.2.1 ∧ u32 x.2.2.2.2.2.1 :=
  ⟨u32_of h.2.2.1, u32_of h.2.2.2.1, u32_of h.2.2.2.2.1, u32_of h.2.2.2.2.2.1⟩
theorem wf_pack {p : PacketT} (h : Sch.wf PacketS p) : u32 p.1 ∧ u32 p.2.1 := ⟨u32_of h.1, u32_of h.2.1⟩
theorem matches_eq {x : RuleT} {p : PacketT} (hx : Sch.wf RuleS x) (hp : Sch.wf PacketS p) : g_acl_Matches x p = g_r8_Matches x p := by
  obtain ⟨a1, a2, a3, a4⟩ := wf_rule hx
  obtain ⟨b1, b2⟩ := wf_pack hp
  unfold g_acl_Matches g_r8_Matches
  rw [ma_eq a1 a2 b1, ma_eq a3 a4 b2]
  unfold g_acl_inRange g_r8_within
  have e : (x.2.1 == -1 || x.2.1 == p.2.2.1) = !(x.2.1 != -1 && x.2.1 != p.2.2.1) := by
    simp only [bne]; cases (x.2.1 == -1) <;> cases (x.2.1 == p.2.2.1) <;> rfl
  rw [e]
  cases (x.2.1 != -1 && x.2.1 != p.2.2.1) <;> simp
theorem wf_r {l : List RuleT} (hl : Cell.wf (.sl RuleS) l) (c : Nat) : Sch.wf RuleS (List.getD l c RuleD) := wf_getD hl c
theorem First_eq {l : ACLT} {p : PacketT} (hl : Cell.wf (.sl RuleS) l.2.1) (hp : Sch.wf PacketS p) : g_acl_First l p = g_r8_First l p := by
  refine upV_congr rfl _ _ fun c _ hc x => ?_
  have e : g_acl_Matches (List.getD l.2.1 c RuleD) p = g_r8_Matches (List.getD l.2.1 c RuleD) p := matches_eq (wf_r hl c) hp
  show cond (g_acl_Matches (List.getD l.2.1 c RuleD) p) (c : Int) x = cond (g_r8_Matches (List.getD l.2.1 c RuleD) p) (c : Int) x
  rw [e]
theorem wf_acl {l : List ACLT} (hl : Cell.wf (.sl ACLS) l) (c : Nat) : Cell.wf (.sl RuleS) (List.getD l c ACLD).2.1 := (wf_getD hl c).2.1
theorem Permits_eq {r : RouterT} {name : List UInt8} {p : PacketT} (hr : Cell.wf (.sl ACLS) r.2.2.2.2.2.1) (hp : Sch.wf PacketS p) : g_acl_Permits r name p = g_r8_Permits r name p := by
  unfold g_acl_Permits g_r8_Permits
  have e : g_model_ACL r name = g_r8_ACL r name := rfl
  rw [e, First_eq (wf_acl hr _) hp]

/-! ### Pools -/
/-- The packets of a pool: from the k-th on, m of them. -/
def poolL (lo : Int) (p : PacketT) (k : Nat) : Nat → List PacketT
  | 0 => []
  | m + 1 => (lo + k, p.2.1, p.2.2.1, p.2.2.2.1, p.2.2.2.2.1, ()) :: poolL lo p (k + 1) m
theorem poolL_snoc (lo : Int) (p : PacketT) : ∀ (m k : Nat), poolL lo p k (m + 1) = poolL lo p k m ++ [(lo + (k + m : Nat), p.2.1, p.2.2.1, p.2.2.2.1, p.2.2.2.2.1, ())]
  | 0, k => rfl
  | m + 1, k => by
    rw [poolL, poolL_snoc lo p m (k + 1), poolL]
    simp [Nat.add_assoc, Nat.add_comm 1 m]
theorem poolL_len (lo : Int) (p : PacketT) : ∀ (m k : Nat), (poolL lo p k m).length = m
  | 0, _ => rfl
  | m + 1, k => by simp [poolL, poolL_len lo p m (k + 1)]
/-- The number of addresses. -/
def pn (t : TranslationT) : Nat := (t.2.2.2.2.2.2.2.2.1 - t.2.2.2.2.2.2.2.1).toNat + 1
theorem poolGo_eq {t : TranslationT} (lo hi : Int) (h1 : u32 lo) (h2 : u32 hi) (hlo : t.2.2.2.2.2.2.2.1 = lo) (hhi : t.2.2.2.2.2.2.2.2.1 = hi) (hle : lo ≤ hi) (p : PacketT) : ∀ (m k : Nat) (q : PacketT), k + m = 8 → pn t ≤ 8 → k ≤ pn t → q.2 = p.2 →
    poolGo t m (lo + k) q (poolL lo p 0 k) = poolL lo p 0 (pn t)
  | 0, k, q, hk, hn, hkn, hq => by
    have : k = pn t := by omega
    rw [← this]; rfl
  | m + 1, k, q, hk, hn, hkn, hq => by
    unfold u32 at h1 h2
    unfold poolGo
    rw [hhi, IntWalk.u64_in hi (by omega)]
    unfold pn at hkn hn
    rw [hlo, hhi] at hkn hn
    by_cases hc : lo + k ≤ hi
    · have e : decide (lo + (k : Int) ≤ hi) = true := by simpa using hc
      rw [e, cond_true, IntWalk.u64_in _ (by omega), IntWalk.u32_in _ (by omega)]
      have e2 : ((lo + (k : Int), q.2.1, q.2.2.1, q.2.2.2.1, q.2.2.2.2.1, ()) : PacketT) = (lo + ((0 + k : Nat) : Int), p.2.1, p.2.2.1, p.2.2.2.1, p.2.2.2.2.1, ()) := by
        rw [hq, Nat.zero_add]
      rw [e2, ← poolL_snoc]
      have := poolGo_eq lo hi h1 h2 hlo hhi hle p m (k + 1) (lo + ((0 + k : Nat) : Int), p.2.1, p.2.2.1, p.2.2.2.1, p.2.2.2.2.1, ()) (by omega) (by unfold pn; rw [hlo, hhi]; omega) (by unfold pn; rw [hlo, hhi]; omega) rfl
      rw [← this]
      congr 1
      omega
    · have e : decide (lo + (k : Int) ≤ hi) = false := by simpa using hc
      rw [e, cond_false]
      have : k = pn t := by unfold pn; rw [hlo, hhi]; omega
      rw [this]
theorem sub_u32 {lo hi : Int} (h1 : u32 lo) (h2 : u32 hi) (hle : lo ≤ hi) : IntKind.wrap .u32 (hi - lo) = hi - lo := by
  unfold u32 at h1 h2
  exact IntWalk.u32_in _ (by omega)
theorem pool_eq {t : TranslationT} (p : PacketT) (h1 : u32 t.2.2.2.2.2.2.2.1) (h2 : u32 t.2.2.2.2.2.2.2.2.1) (hle : t.2.2.2.2.2.2.2.1 ≤ t.2.2.2.2.2.2.2.2.1) (hn : pn t ≤ 8) : g_nat_pool t p = poolL t.2.2.2.2.2.2.2.1 p 0 (pn t) := by
  unfold g_nat_pool
  have := poolGo_eq (t := t) _ _ h1 h2 rfl rfl hle p 8 0 p rfl hn (Nat.zero_le _) rfl
  rw [← this, IntWalk.u64_in _ (by unfold u32 at h1; omega)]
  simp [poolL]
theorem src_eq (r : RouterT) (p : PacketT) (c : Nat) (t : TranslationT) (nx : List PacketT) (h1 : u32 t.2.2.2.2.2.2.2.1) (h2 : u32 t.2.2.2.2.2.2.2.2.1) (hle : t.2.2.2.2.2.2.2.1 ≤ t.2.2.2.2.2.2.2.2.1) (hn : pn t ≤ 8) :
    S_r8_Source_1 r p c t nx [] = poolL t.2.2.2.2.2.2.2.1 p 0 (pn t) := by
  unfold S_r8_Source_1
  rw [sub_u32 h1 h2 hle]
  have seg : ∀ s : List PacketT, segL s 0 s.length = s := fun s => by simp [segL]
  suffices h : ∀ (m k : Nat), k + m = 8 → k ≤ pn t → upS (fun c1 (v2 : List PacketT) => fun (next1 : (List PacketT) → (List PacketT)) => cond (decide ((c1 : Int) ≤ t.2.2.2.2.2.2.2.2.1 - t.2.2.2.2.2.2.2.1)) (next1 (v2 ++ [((IntKind.wrap .u32 (t.2.2.2.2.2.2.2.1 + (c1 : Int))), p.2.1, p.2.2.1, p.2.2.2.1, p.2.2.2.2.1, ())])) (segL v2 0 (List.length v2))) (fun (v2 : List PacketT) => (segL v2 0 (List.length v2))) m k (poolL t.2.2.2.2.2.2.2.1 p 0 k) = poolL t.2.2.2.2.2.2.2.1 p 0 (pn t) from h 8 0 rfl (Nat.zero_le _)
  unfold u32 at h1 h2
  intro m
  induction m with
  | zero =>
    intro k hk hkn
    simp only [upS, seg]
    rw [show k = pn t by omega]
  | succ m ih =>
    intro k hk hkn
    simp only [upS, seg]
    unfold pn at hkn hn
    by_cases hc : (k : Int) ≤ t.2.2.2.2.2.2.2.2.1 - t.2.2.2.2.2.2.2.1
    · have e : decide ((k : Int) ≤ t.2.2.2.2.2.2.2.2.1 - t.2.2.2.2.2.2.2.1) = true := by simpa using hc
      rw [e, cond_true, IntWalk.u32_in _ (by omega)]
      have := poolL_snoc t.2.2.2.2.2.2.2.1 p k 0
      rw [Nat.zero_add] at this
      rw [← this]
      have h9 := ih (k + 1) (by omega) (by unfold pn; omega)
      simp only [seg] at h9
      exact h9
    · have e : decide ((k : Int) ≤ t.2.2.2.2.2.2.2.2.1 - t.2.2.2.2.2.2.2.1) = false := by simpa using hc
      rw [e, cond_false, show k = pn t by unfold pn; omega]

/-! ### Source -/
theorem wf_t {l : List TranslationT} (hl : Cell.wf (.sl TranslationS) l) (c : Nat) : Sch.wf TranslationS (List.getD l c TranslationD : TranslationT) := wf_getD hl c
theorem pool_facts {t : TranslationT} (hw : Sch.wf TranslationS t) (hv : VT t) (h : t.1 = 2) : u32 t.2.2.2.2.2.2.2.1 ∧ u32 t.2.2.2.2.2.2.2.2.1 ∧ t.2.2.2.2.2.2.2.1 ≤ t.2.2.2.2.2.2.2.2.1 ∧ pn t ≤ 8 := by
  have a1 : u32 t.2.2.2.2.2.2.2.1 := u32_of hw.2.2.2.2.2.2.2.1
  have a2 : u32 t.2.2.2.2.2.2.2.2.1 := u32_of hw.2.2.2.2.2.2.2.2.1
  obtain ⟨_, h2, h3⟩ := hv.two h
  rw [sub_u32 a1 a2 h2] at h3
  exact ⟨a1, a2, h2, by unfold pn; omega⟩
theorem src_one (r : RouterT) (p : PacketT) (c : Nat) (t : TranslationT) (hw : Sch.wf TranslationS t) (hv : VT t) (hP : g_acl_Permits r t.2.2.2.2.2.2.1 p = g_r8_Permits r t.2.2.2.2.2.2.1 p) (n : List PacketT) :
    cond ((t.1 == 1) && (t.2.1 == p.1)) [(t.2.2.1, p.2.1, p.2.2.1, p.2.2.2.1, p.2.2.2.2.1, ())] (cond ((t.1 == 2) && (g_acl_Permits r t.2.2.2.2.2.2.1 p)) (g_nat_pool t p) (cond ((((t.1 == 3) && (t.2.1 == p.1)) && (t.2.2.2.1 == p.2.2.1)) && (t.2.2.2.2.1 == p.2.2.2.1)) [(t.2.2.1, p.2.1, p.2.2.1, t.2.2.2.2.2.1, p.2.2.2.2.1, ())] n)) =
    cond (t.1 == 1) (cond (t.2.1 == p.1) [(t.2.2.1, p.2.1, p.2.2.1, p.2.2.2.1, p.2.2.2.2.1, ())] n) (cond (t.1 == 2) (cond (g_r8_Permits r t.2.2.2.2.2.2.1 p) (S_r8_Source_1 r p c t n []) n) (cond (t.1 == 3) (cond (((t.2.1 == p.1) && (t.2.2.2.1 == p.2.2.1)) && (t.2.2.2.2.1 == p.2.2.2.1)) [(t.2.2.1, p.2.1, p.2.2.1, t.2.2.2.2.2.1, p.2.2.2.2.1, ())] n) n)) := by
  rw [hP]
  rcases hv.kind with h | h | h
  · simp [h]
  · obtain ⟨a1, a2, a3, a4⟩ := pool_facts hw hv h
    rw [pool_eq p a1 a2 a3 a4, src_eq r p c t n a1 a2 a3 a4]
    simp [h]
  · simp [h]
theorem Source_eq (l : List TranslationT) (a : List ACLT) (p : PacketT) (hl : Cell.wf (.sl TranslationS) l) (ha : Cell.wf (.sl ACLS) a) (hp : Sch.wf PacketS p) (hv : ∀ c, c < l.length → VT (List.getD l c TranslationD)) : g_nat_Source (mkR l a) p = g_r8_Source (mkR l a) p := by
  refine upV_congr rfl _ _ fun c _ hc n => ?_
  exact src_one (mkR l a) p c (List.getD l c TranslationD) (wf_t hl c) (hv c (by have : c < 0 + (l.length - 0) := hc; omega)) (Permits_eq ha hp) n
theorem true_law8_NatTranslates (l : List TranslationT) (a : List ACLT) (p : PacketT) (hw : VSs.wf e_law8_NatTranslates.A (l, a, p, ())) : g_law8_NatTranslates l a p = true := by
  obtain ⟨hl, ha, hp, _⟩ := hw
  unfold g_law8_NatTranslates
  cases h : (g_law8_router l a).2.1 with
  | false => rfl
  | true =>
    obtain ⟨h1, h2⟩ := trans_valid l a h
    have e : g_nat_Destination (mkR l a) p = g_r8_Destination (mkR l a) p := rfl
    rw [h1, Source_eq l a p hl ha hp h2, keep_refl, sane_law8, e]
    cases (!g_r8_ValidPacket p) <;> simp

/-! ### What Source gives, as a search -/
def srcV (t : TranslationT) (p : PacketT) : List PacketT := cond (t.1 == 1) [(t.2.2.1, p.2.1, p.2.2.1, p.2.2.2.1, p.2.2.2.2.1, ())] (cond (t.1 == 2) (poolL t.2.2.2.2.2.2.2.1 p 0 (pn t)) [(t.2.2.1, p.2.1, p.2.2.1, t.2.2.2.2.2.1, p.2.2.2.2.1, ())])
theorem src_body (r : RouterT) (p : PacketT) (c : Nat) (t : TranslationT) (hw : Sch.wf TranslationS t) (hv : VT t) (n : List PacketT) :
    cond (t.1 == 1) (cond (t.2.1 == p.1) [(t.2.2.1, p.2.1, p.2.2.1, p.2.2.2.1, p.2.2.2.2.1, ())] n) (cond (t.1 == 2) (cond (g_r8_Permits r t.2.2.2.2.2.2.1 p) (S_r8_Source_1 r p c t n []) n) (cond (t.1 == 3) (cond (((t.2.1 == p.1) && (t.2.2.2.1 == p.2.2.1)) && (t.2.2.2.2.1 == p.2.2.2.1)) [(t.2.2.1, p.2.1, p.2.2.1, t.2.2.2.2.2.1, p.2.2.2.2.1, ())] n) n)) =
    cond (g_law8_applies r t p) (srcV t p) n := by
  unfold g_law8_applies srcV
  rcases hv.kind with h | h | h
  · simp [h]
  · obtain ⟨a1, a2, a3, a4⟩ := pool_facts hw hv h
    rw [src_eq r p c t n a1 a2 a3 a4]
    simp [h]
  · simp [h]
theorem Source_search (l : List TranslationT) (a : List ACLT) (p : PacketT) (hl : Cell.wf (.sl TranslationS) l) (ha : Cell.wf (.sl ACLS) a) (hp : Sch.wf PacketS p) (hv : ∀ c, c < l.length → VT (List.getD l c TranslationD)) :
    g_nat_Source (mkR l a) p = upV (fun c n => cond (g_law8_applies (mkR l a) (List.getD l c TranslationD) p) (srcV (List.getD l c TranslationD) p) n) [p] (l.length - 0) 0 := by
  rw [Source_eq l a p hl ha hp hv]
  refine upV_congr rfl _ _ fun c _ hc n => ?_
  exact src_body (mkR l a) p c (List.getD l c TranslationD) (wf_t hl c) (hv c (by have : c < 0 + (l.length - 0) := hc; omega)) n

/-! ### NatFirst -/
theorem packet_eta (q : PacketT) : (q.1 == q.1) && ((q.2.1 == q.2.1) && ((q.2.2.1 == q.2.2.1) && ((q.2.2.2.1 == q.2.2.2.1) && (q.2.2.2.2.1 == q.2.2.2.2.1)))) = true := by simp
theorem slc_one {l : List TranslationT} {c : Nat} (h : c < l.length) : slcL l (c : Int) ((c + 1 : Nat) : Int) = [List.getD l c TranslationD] := by
  unfold slcL
  rw [Int.toNat_natCast, Int.toNat_natCast, drop_at h TranslationD]
  simp
theorem alone_src (l : List TranslationT) (a : List ACLT) (p : PacketT) (hl : Cell.wf (.sl TranslationS) l) (ha : Cell.wf (.sl ACLS) a) (hp : Sch.wf PacketS p) (hv : ∀ c, c < l.length → VT (List.getD l c TranslationD)) {c : Nat} (hc : c < l.length)
    (happ : g_law8_applies (mkR l a) (List.getD l c TranslationD) p = true) : g_nat_Source (mkR [List.getD l c TranslationD] a) p = srcV (List.getD l c TranslationD) p := by
  have hw1 : Cell.wf (.sl TranslationS) [List.getD l c TranslationD] := ⟨by simp [lenD, maxLen], fun i x hx => by
    cases i with
    | zero => simp [nthD] at hx; subst hx; exact wf_t hl c
    | succ i => simp [nthD] at hx⟩
  rw [Source_search [List.getD l c TranslationD] a p hw1 ha hp (fun i hi => by
    have : i = 0 := by simpa using hi
    subst this; exact hv c hc)]
  have e : g_law8_applies (mkR [List.getD l c TranslationD] a) (List.getD l c TranslationD) p = g_law8_applies (mkR l a) (List.getD l c TranslationD) p := rfl
  show cond (g_law8_applies (mkR [List.getD l c TranslationD] a) (List.getD l c TranslationD) p) _ _ = _
  rw [e, happ]; rfl
theorem true_law8_NatFirst (l : List TranslationT) (a : List ACLT) (p : PacketT) (hw : VSs.wf e_law8_NatFirst.A (l, a, p, ())) : g_law8_NatFirst l a p = true := by
  have hl : Cell.wf (.sl TranslationS) l := hw.1
  have ha : Cell.wf (.sl ACLS) a := hw.2.1
  have hp : Sch.wf PacketS p := hw.2.2.1
  unfold g_law8_NatFirst
  cases h : (g_law8_router l a).2.1 with
  | false => rfl
  | true =>
    obtain ⟨h1, hv⟩ := trans_valid l a h
    suffices hS : S_law8_NatFirst_0 l a p = true by rw [hS]; cases (!g_r8_ValidPacket p) <;> rfl
    unfold S_law8_NatFirst_0
    rw [h1]
    have hsrc := Source_search l a p hl ha hp hv
    rcases first_or (f := fun c => g_law8_applies (mkR l a) (List.getD l c TranslationD) p) (l.length - 0) 0 with hno | ⟨c0, _, hc0, hit, hbef⟩
    · refine (upV_none _ _ hno).trans ?_
      rw [hsrc, upV_none _ _ hno, sane_law8]
      simp
    · have hc : c0 < l.length := by omega
      refine (upV_hit _ _ c0 (Nat.zero_le _) hc0 hit hbef).trans ?_
      rw [hsrc, upV_hit _ _ c0 (Nat.zero_le _) hc0 hit hbef, wrap_i64n (show l.length ≤ maxLen from hl.1) c0 hc, slc_one hc]
      have e := alone_src l a p hl ha hp hv hc hit
      have e2 : (g_keep_Packets (g_nat_Source (mkR [List.getD l c0 TranslationD] a) p) (srcV (List.getD l c0 TranslationD) p) && g_law8_sane) = true := by
        rw [e, keep_refl, sane_law8]; rfl
      exact e2

/-! ### NatReply -/
theorem Dest_search (l : List TranslationT) (a : List ACLT) (p : PacketT) (hv : ∀ c, c < l.length → VT (List.getD l c TranslationD)) :
    g_nat_Destination (mkR l a) p = upV (fun c n => cond (((List.getD l c TranslationD).2.2.1 == p.2.1) && (((List.getD l c TranslationD).1 == 1) || (((List.getD l c TranslationD).1 == 3) && (((List.getD l c TranslationD).2.2.2.1 == p.2.2.1) && ((List.getD l c TranslationD).2.2.2.2.2.1 == p.2.2.2.2.1)))))
      (p.1, (List.getD l c TranslationD).2.1, p.2.2.1, p.2.2.2.1, cond ((List.getD l c TranslationD).1 == 1) p.2.2.2.2.1 (List.getD l c TranslationD).2.2.2.2.1, ()) n) p (l.length - 0) 0 := by
  refine upV_congr rfl _ _ fun c _ hc n => ?_
  have hv := hv c (by have : c < 0 + (l.length - 0) := hc; omega)
  show cond (((List.getD l c TranslationD).1 == 1) && ((List.getD l c TranslationD).2.2.1 == p.2.1)) (p.1, (List.getD l c TranslationD).2.1, p.2.2.1, p.2.2.2.1, p.2.2.2.2.1, ()) (cond (((((List.getD l c TranslationD).1 == 3) && ((List.getD l c TranslationD).2.2.1 == p.2.1)) && ((List.getD l c TranslationD).2.2.2.1 == p.2.2.1)) && ((List.getD l c TranslationD).2.2.2.2.2.1 == p.2.2.2.2.1)) (p.1, (List.getD l c TranslationD).2.1, p.2.2.1, p.2.2.2.1, (List.getD l c TranslationD).2.2.2.2.1, ()) n) = _
  generalize List.getD l c TranslationD = t at hv
  rcases hv.kind with h | h | h
  · simp [h]
  · simp [h]
  · simp [h, Bool.and_assoc]
theorem getD_one (x d : PacketT) : List.getD [x] 0 d = x := rfl
theorem reply_src (l : List TranslationT) (q : PacketT) (k : Nat) (hl : Cell.wf (.sl TranslationS) l) (hq : Sch.wf PacketS q) (hv : ∀ c, c < l.length → VT (List.getD l c TranslationD)) (hk : k < l.length)
    (hne : ∀ c, c < l.length → c ≠ k → (List.getD l c TranslationD).1 ≠ 2 ∧ (List.getD l c TranslationD).2.1 ≠ (List.getD l k TranslationD).2.1) (hsrc : q.1 = (List.getD l k TranslationD).2.1)
    (happ : g_law8_applies (mkR l []) (List.getD l k TranslationD) q = true) : g_nat_Source (mkR l []) q = srcV (List.getD l k TranslationD) q := by
  rw [Source_search l [] q hl (dflt_wf (.sl ACLS)) hq hv]
  refine upV_hit _ _ k (Nat.zero_le _) (by omega) happ fun c _ hc => ?_
  obtain ⟨h1, h2⟩ := hne c (by omega) (by omega)
  have hv := hv c (by omega)
  have h3 : ((List.getD l c TranslationD).2.1 == q.1) = false := by rw [hsrc]; simpa using h2
  unfold g_law8_applies
  rw [h3]
  rcases hv.kind with h | h | h
  · simp [-List.getD_eq_getElem?_getD, h]
  · exact absurd h h1
  · simp [-List.getD_eq_getElem?_getD, h]
theorem reply_dst (l : List TranslationT) (q : PacketT) (k : Nat) (hv : ∀ c, c < l.length → VT (List.getD l c TranslationD)) (hk : k < l.length)
    (hne : ∀ c, c < l.length → c ≠ k → (List.getD l c TranslationD).2.2.1 ≠ (List.getD l k TranslationD).2.2.1) (hd : q.2.1 = (List.getD l k TranslationD).2.2.1)
    (h : (List.getD l k TranslationD).1 = 1 ∨ ((List.getD l k TranslationD).1 = 3 ∧ (List.getD l k TranslationD).2.2.2.1 = q.2.2.1 ∧ (List.getD l k TranslationD).2.2.2.2.2.1 = q.2.2.2.2.1)) :
    g_nat_Destination (mkR l []) q = (q.1, (List.getD l k TranslationD).2.1, q.2.2.1, q.2.2.2.1, cond ((List.getD l k TranslationD).1 == 1) q.2.2.2.2.1 (List.getD l k TranslationD).2.2.2.2.1, ()) := by
  rw [Dest_search l [] q hv]
  refine upV_hit (v := fun c => (q.1, (List.getD l c TranslationD).2.1, q.2.2.1, q.2.2.2.1, cond ((List.getD l c TranslationD).1 == 1) q.2.2.2.2.1 (List.getD l c TranslationD).2.2.2.2.1, ())) _ _ k (Nat.zero_le _) (by omega) ?_ fun c _ hc => ?_
  · rw [hd]
    rcases h with h | ⟨h, h2, h3⟩
    · simp [-List.getD_eq_getElem?_getD, h]
    · simp [-List.getD_eq_getElem?_getD, h, h2, h3]
  · have h3 : ((List.getD l c TranslationD).2.2.1 == q.2.1) = false := by rw [hd]; simpa using hne c (by omega) (by omega)
    rw [h3]; rfl
theorem true_law8_NatReply (l : List TranslationT) (p : PacketT) (k : Int) (hw : VSs.wf e_law8_NatReply.A (l, p, k, ())) : g_law8_NatReply l p k = true := by
  have hl : Cell.wf (.sl TranslationS) l := hw.1
  have hp : Sch.wf PacketS p := hw.2.1
  unfold g_law8_NatReply
  cases h : (g_law8_router l []).2.1 with
  | false => rfl
  | true =>
    obtain ⟨h1, hv⟩ := trans_valid l [] h
    generalize hc : ((((!true) || (!(g_r8_ValidPacket p))) || (decide (k < 0))) || (decide (k ≥ (l.length : Int))) || ((List.getD l (Int.toNat k) TranslationD).1 == 2)) = c
    cases c with
    | true => rfl
    | false =>
      simp only [Bool.or_eq_false_iff, decide_eq_false_iff_not, beq_eq_false_iff_ne] at hc
      obtain ⟨⟨⟨_, h2⟩, h3⟩, h4⟩ := hc
      obtain ⟨n, rfl⟩ : ∃ n : Nat, k = (n : Int) := ⟨k.toNat, by omega⟩
      simp only [Int.toNat_natCast] at h4
      have hn : n < l.length := by omega
      show S_law8_NatReply_0 l p n = true
      unfold S_law8_NatReply_0
      simp only [Int.toNat_natCast]
      rcases first_or (f := fun c0 => ((c0 : Int) != (n : Int)) && ((((List.getD l c0 TranslationD).1 == 2) || ((List.getD l c0 TranslationD).2.2.1 == (List.getD l n TranslationD).2.2.1)) || ((List.getD l c0 TranslationD).2.1 == (List.getD l n TranslationD).2.1))) (l.length - 0) 0 with hno | ⟨c0, _, hc0, hit, hbef⟩
      · refine (upV_none _ _ hno).trans ?_
        have hne : ∀ c, c < l.length → c ≠ n → (List.getD l c TranslationD).1 ≠ 2 ∧ (List.getD l c TranslationD).2.2.1 ≠ (List.getD l n TranslationD).2.2.1 ∧ (List.getD l c TranslationD).2.1 ≠ (List.getD l n TranslationD).2.1 := fun c hc hcn => by
          have h5 := hno c (Nat.zero_le _) (by omega)
          have h6 : ((c : Int) != (n : Int)) = true := by simp; omega
          rw [h6, Bool.true_and] at h5
          simp only [Bool.or_eq_false_iff, beq_eq_false_iff_ne] at h5
          exact ⟨h5.1.1, h5.1.2, h5.2⟩
        have hvn := hv n hn
        have hwn := wf_t hl n
        rw [h1]
        have hk := hvn.kind
        rcases hk with hk | hk | hk
        · -- a static one
          have e3 : ((List.getD l n TranslationD).1 == 3) = false := by rw [hk]; rfl
          rw [e3, cond_false]
          have hq : Sch.wf PacketS ((List.getD l n TranslationD).2.1, p.2.1, p.2.2.1, p.2.2.2.1, p.2.2.2.2.1, ()) := ⟨hwn.2.1, hp.2.1, hp.2.2.1, hp.2.2.2.1, hp.2.2.2.2.1, trivial⟩
          have es := reply_src l (((List.getD l n TranslationD).2.1, p.2.1, p.2.2.1, p.2.2.2.1, p.2.2.2.2.1, ()) : PacketT) n hl hq hv hn (fun c hc hcn => ⟨(hne c hc hcn).1, (hne c hc hcn).2.2⟩) rfl (by unfold g_law8_applies; simp [-List.getD_eq_getElem?_getD, hk])
          have ev : srcV (List.getD l n TranslationD) ((List.getD l n TranslationD).2.1, p.2.1, p.2.2.1, p.2.2.2.1, p.2.2.2.2.1, ()) = [((List.getD l n TranslationD).2.2.1, p.2.1, p.2.2.1, p.2.2.2.1, p.2.2.2.2.1, ())] := by unfold srcV; simp [-List.getD_eq_getElem?_getD, hk]
          have es := es.trans ev
          rw [es]
          have ed := reply_dst l (p.2.1, (List.getD l n TranslationD).2.2.1, p.2.2.1, p.2.2.2.2.1, p.2.2.2.1, ()) n hv hn (fun c hc hcn => (hne c hc hcn).2.1) rfl (Or.inl hk)
          have ed2 : g_nat_Destination (mkR l []) (p.2.1, (List.getD l n TranslationD).2.2.1, p.2.2.1, p.2.2.2.2.1, p.2.2.2.1, ()) = (p.2.1, (List.getD l n TranslationD).2.1, p.2.2.1, p.2.2.2.2.1, p.2.2.2.1, ()) := by rw [ed]; simp [-List.getD_eq_getElem?_getD, hk]
          simp [-List.getD_eq_getElem?_getD, getD_one, ed2, sane_law8]
        · exact absurd hk h4
        · -- a port forwarding
          have e3 : ((List.getD l n TranslationD).1 == 3) = true := by rw [hk]; rfl
          rw [e3, cond_true]
          have hq : Sch.wf PacketS ((List.getD l n TranslationD).2.1, p.2.1, (List.getD l n TranslationD).2.2.2.1, (List.getD l n TranslationD).2.2.2.2.1, p.2.2.2.2.1, ()) := ⟨hwn.2.1, hp.2.1, hwn.2.2.2.1, hwn.2.2.2.2.1, hp.2.2.2.2.1, trivial⟩
          have es := reply_src l (((List.getD l n TranslationD).2.1, p.2.1, (List.getD l n TranslationD).2.2.2.1, (List.getD l n TranslationD).2.2.2.2.1, p.2.2.2.2.1, ()) : PacketT) n hl hq hv hn (fun c hc hcn => ⟨(hne c hc hcn).1, (hne c hc hcn).2.2⟩) rfl (by unfold g_law8_applies; simp [-List.getD_eq_getElem?_getD, hk])
          have ev : srcV (List.getD l n TranslationD) ((List.getD l n TranslationD).2.1, p.2.1, (List.getD l n TranslationD).2.2.2.1, (List.getD l n TranslationD).2.2.2.2.1, p.2.2.2.2.1, ()) = [((List.getD l n TranslationD).2.2.1, p.2.1, (List.getD l n TranslationD).2.2.2.1, (List.getD l n TranslationD).2.2.2.2.2.1, p.2.2.2.2.1, ())] := by unfold srcV; simp [-List.getD_eq_getElem?_getD, hk]
          have es := es.trans ev
          rw [es]
          have ed := reply_dst l (p.2.1, (List.getD l n TranslationD).2.2.1, (List.getD l n TranslationD).2.2.2.1, p.2.2.2.2.1, (List.getD l n TranslationD).2.2.2.2.2.1, ()) n hv hn (fun c hc hcn => (hne c hc hcn).2.1) rfl (Or.inr ⟨hk, rfl, rfl⟩)
          have ed2 : g_nat_Destination (mkR l []) (p.2.1, (List.getD l n TranslationD).2.2.1, (List.getD l n TranslationD).2.2.2.1, p.2.2.2.2.1, (List.getD l n TranslationD).2.2.2.2.2.1, ()) = (p.2.1, (List.getD l n TranslationD).2.1, (List.getD l n TranslationD).2.2.2.1, p.2.2.2.2.1, (List.getD l n TranslationD).2.2.2.2.1, ()) := by rw [ed]; simp [-List.getD_eq_getElem?_getD, hk]
          simp [-List.getD_eq_getElem?_getD, getD_one, ed2, sane_law8]
      · exact upV_hit (v := fun _ => true) _ _ c0 (Nat.zero_le _) hc0 hit hbef

/-! ### NatKeeps -/
theorem valid_iff (q : PacketT) : g_r8_ValidPacket q = true ↔ (0 ≤ q.2.2.1 ∧ q.2.2.1 ≤ 255) ∧ (0 ≤ q.2.2.2.1 ∧ q.2.2.2.1 ≤ 65535) ∧ (0 ≤ q.2.2.2.2.1 ∧ q.2.2.2.2.1 ≤ 65535) := by
  unfold g_r8_ValidPacket g_r8_within
  simp only [Bool.and_eq_true, decide_eq_true_eq, and_assoc]
theorem Dest_keeps (l : List TranslationT) (a : List ACLT) (p : PacketT) (hv : ∀ c, c < l.length → VT (List.getD l c TranslationD)) (hp : g_r8_ValidPacket p = true) :
    (g_nat_Destination (mkR l a) p).1 = p.1 ∧ (g_nat_Destination (mkR l a) p).2.2.2.1 = p.2.2.2.1 ∧ (g_nat_Destination (mkR l a) p).2.2.1 = p.2.2.1 ∧ g_r8_ValidPacket (g_nat_Destination (mkR l a) p) = true := by
  rw [Dest_search l a p hv]
  refine upV_ind (P := fun d : PacketT => d.1 = p.1 ∧ d.2.2.2.1 = p.2.2.2.1 ∧ d.2.2.1 = p.2.2.1 ∧ g_r8_ValidPacket d = true) ⟨rfl, rfl, rfl, hp⟩ _ _ fun c _ hc x hx => ?_
  have hv := hv c (by omega)
  generalize List.getD l c TranslationD = t at hv
  generalize hb : ((t.2.2.1 == p.2.1) && ((t.1 == 1) || ((t.1 == 3) && ((t.2.2.2.1 == p.2.2.1) && (t.2.2.2.2.2.1 == p.2.2.2.2.1))))) = b
  cases b with
  | false => exact hx
  | true =>
    refine ⟨rfl, rfl, rfl, ?_⟩
    have h0 := (valid_iff p).1 hp
    refine (valid_iff _).2 ⟨h0.1, h0.2.1, ?_⟩
    show 0 ≤ cond (t.1 == 1) p.2.2.2.2.1 t.2.2.2.2.1 ∧ cond (t.1 == 1) p.2.2.2.2.1 t.2.2.2.2.1 ≤ 65535
    by_cases h1 : t.1 = 1
    · simp only [h1, beq_self_eq_true, cond_true]; exact h0.2.2
    · have h2 : (t.1 == 1) = false := by simpa using h1
      simp only [h2, Bool.false_or, Bool.and_eq_true, beq_iff_eq] at hb
      simp only [h2, cond_false]
      exact (hv.three hb.2.1).2.2.2.1
theorem Owner_some (l : List TranslationT) (a : List ACLT) (x : Int) {c : Nat} (hc : c < l.length) (h : ((((((List.getD l c TranslationD).1 == 2) && (decide ((List.getD l c TranslationD).2.2.2.2.2.2.2.1 ≤ x))) && (decide (x ≤ (List.getD l c TranslationD).2.2.2.2.2.2.2.2.1))) || (((List.getD l c TranslationD).1 != 2) && ((List.getD l c TranslationD).2.2.1 == x)))) = true) : 0 ≤ g_r8_Owner (mkR l a) x := by
  rcases first_or (f := fun c => (((((List.getD l c TranslationD).1 == 2) && (decide ((List.getD l c TranslationD).2.2.2.2.2.2.2.1 ≤ x))) && (decide (x ≤ (List.getD l c TranslationD).2.2.2.2.2.2.2.2.1))) || (((List.getD l c TranslationD).1 != 2) && ((List.getD l c TranslationD).2.2.1 == x)))) (l.length - 0) 0 with hno | ⟨c0, _, hc0, hit, hbef⟩
  · have := hno c (Nat.zero_le _) (by omega)
    rw [h] at this; cases this
  · have : g_r8_Owner (mkR l a) x = (c0 : Int) := upV_hit (v := fun c => (c : Int)) _ _ c0 (Nat.zero_le _) hc0 hit hbef
    rw [this]; omega
theorem poolL_get (lo : Int) (p : PacketT) : ∀ (m k i : Nat), i < m → List.getD (poolL lo p k m) i PacketD = (lo + (k + i : Nat), p.2.1, p.2.2.1, p.2.2.2.1, p.2.2.2.2.1, ())
  | 0, _, _, h => by omega
  | m + 1, k, 0, _ => rfl
  | m + 1, k, i + 1, h => by
    have := poolL_get lo p m (k + 1) i (by omega)
    rw [show k + 1 + i = k + (i + 1) by omega] at this
    exact this
/-- What the law asks of the packets. -/
def Good (r : RouterT) (p : PacketT) (s : List PacketT) : Prop :=
  1 ≤ s.length ∧ s.length ≤ 8 ∧ ∀ i, i < s.length → (List.getD s i PacketD).2.1 = p.2.1 ∧ (List.getD s i PacketD).2.2.2.2.1 = p.2.2.2.2.1 ∧ (List.getD s i PacketD).2.2.1 = p.2.2.1 ∧ g_r8_ValidPacket (List.getD s i PacketD) = true ∧
    (0 < i → (List.getD s (i - 1) PacketD).1 < (List.getD s i PacketD).1) ∧ (List.getD s i PacketD = p ∨ 0 ≤ g_r8_Owner r (List.getD s i PacketD).1)
theorem good_one {r : RouterT} {p q : PacketT} (h1 : q.2.1 = p.2.1) (h2 : q.2.2.2.2.1 = p.2.2.2.2.1) (h3 : q.2.2.1 = p.2.2.1) (h4 : g_r8_ValidPacket q = true) (h5 : q = p ∨ 0 ≤ g_r8_Owner r q.1) : Good r p [q] :=
  ⟨by simp, by simp, fun i hi => by
    have : i = 0 := by simpa using hi
    subst this
    exact ⟨h1, h2, h3, h4, fun h => absurd h (Nat.lt_irrefl 0), h5⟩⟩
theorem Source_good (l : List TranslationT) (a : List ACLT) (p : PacketT) (hl : Cell.wf (.sl TranslationS) l) (ha : Cell.wf (.sl ACLS) a) (hp : Sch.wf PacketS p) (hv : ∀ c, c < l.length → VT (List.getD l c TranslationD)) (hpv : g_r8_ValidPacket p = true) : Good (mkR l a) p (g_nat_Source (mkR l a) p) := by
  rw [Source_search l a p hl ha hp hv]
  refine upV_ind (P := Good (mkR l a) p) (good_one rfl rfl rfl hpv (Or.inl rfl)) _ _ fun c _ hc x hx => ?_
  cases happ : g_law8_applies (mkR l a) (List.getD l c TranslationD) p with
  | false => exact hx
  | true =>
    rw [cond_true]
    have hcl : c < l.length := by omega
    have hvc := hv c hcl
    have hwc := wf_t hl c
    have own := @Owner_some l a
    have h0 := (valid_iff p).1 hpv
    unfold srcV
    rcases hvc.kind with h | h | h
    · have e : ((List.getD l c TranslationD).1 == 1) = true := by rw [h]; rfl
      rw [e, cond_true]
      exact good_one rfl rfl rfl ((valid_iff _).2 h0) (Or.inr (own _ hcl (by simp [-List.getD_eq_getElem?_getD, h])))
    · have e : ((List.getD l c TranslationD).1 == 1) = false := by rw [h]; rfl
      have e2 : ((List.getD l c TranslationD).1 == 2) = true := by rw [h]; rfl
      rw [e, e2, cond_false, cond_true]
      obtain ⟨a1, a2, a3, a4⟩ := pool_facts hwc hvc h
      have hlen := poolL_len (List.getD l c TranslationD).2.2.2.2.2.2.2.1 p (pn (List.getD l c TranslationD)) 0
      refine ⟨by rw [hlen]; unfold pn; omega, by rw [hlen]; exact a4, fun i hi => ?_⟩
      rw [hlen] at hi
      rw [poolL_get _ _ _ _ _ hi]
      have hown : ∀ x : Int, (List.getD l c TranslationD).2.2.2.2.2.2.2.1 ≤ x → x ≤ (List.getD l c TranslationD).2.2.2.2.2.2.2.2.1 → 0 ≤ g_r8_Owner (mkR l a) x := fun x hx1 hx2 => own x hcl (by simp [-List.getD_eq_getElem?_getD, h, hx1, hx2])
      refine ⟨rfl, rfl, rfl, (valid_iff _).2 h0, fun hpos => ?_, Or.inr (hown ((List.getD l c TranslationD).2.2.2.2.2.2.2.1 + ((0 + i : Nat) : Int)) (by omega) (by unfold pn at hi; omega))⟩
      rw [poolL_get _ _ _ _ _ (show i - 1 < _ by omega)]
      show (List.getD l c TranslationD).2.2.2.2.2.2.2.1 + ((0 + (i - 1) : Nat) : Int) < (List.getD l c TranslationD).2.2.2.2.2.2.2.1 + ((0 + i : Nat) : Int)
      omega
    · have e : ((List.getD l c TranslationD).1 == 1) = false := by rw [h]; rfl
      have e2 : ((List.getD l c TranslationD).1 == 2) = false := by rw [h]; rfl
      rw [e, e2, cond_false, cond_false]
      have h3 := hvc.three h
      exact good_one rfl rfl rfl ((valid_iff _).2 ⟨h0.1, h3.2.2.2.2, h0.2.2⟩) (Or.inr (own _ hcl (by simp [-List.getD_eq_getElem?_getD, h])))
theorem true_law8_NatKeeps (l : List TranslationT) (a : List ACLT) (p : PacketT) (hw : VSs.wf e_law8_NatKeeps.A (l, a, p, ())) : g_law8_NatKeeps l a p = true := by
  have hl : Cell.wf (.sl TranslationS) l := hw.1
  have ha : Cell.wf (.sl ACLS) a := hw.2.1
  have hp : Sch.wf PacketS p := hw.2.2.1
  unfold g_law8_NatKeeps
  cases h : (g_law8_router l a).2.1 with
  | false => rfl
  | true =>
    cases hpv : g_r8_ValidPacket p with
    | false => rfl
    | true =>
      obtain ⟨h1, hv⟩ := trans_valid l a h
      obtain ⟨d1, d2, d3, d4⟩ := Dest_keeps l a p hv hpv
      obtain ⟨s1, s2, s3⟩ := Source_good l a p hl ha hp hv hpv
      rw [h1, d1, d2, d3, d4]
      have e1 : decide (((g_nat_Source (mkR l a) p).length : Int) < 1) = false := by simp; omega
      have e2 : decide (((g_nat_Source (mkR l a) p).length : Int) > 8) = false := by simp; omega
      rw [e1, e2]
      suffices hS : S_law8_NatKeeps_0 l a p = true by rw [hS]; simp
      unfold S_law8_NatKeeps_0
      rw [h1]
      refine (upV_none _ _ fun c _ hc => ?_).trans sane_law8
      have hc : c < (g_nat_Source (mkR l a) p).length := by omega
      obtain ⟨g1, g2, g3, g4, g5, g6⟩ := s3 c hc
      have hm : (decide ((c : Int) > 0) && decide ((List.getD (g_nat_Source (mkR l a) p) (Int.toNat (IntKind.wrap .i64 ((c : Int) - 1))) PacketD).1 ≥ (List.getD (g_nat_Source (mkR l a) p) c PacketD).1)) = false := by
        rcases Nat.eq_zero_or_pos c with hz | hz
        · subst hz; rfl
        · have hml : (g_nat_Source (mkR l a) p).length ≤ maxLen := by unfold maxLen; omega
          rw [wm1 hml hc hz, Int.toNat_natCast]
          have := g5 hz
          simp only [Bool.and_eq_false_iff, decide_eq_false_iff_not]
          right; omega
      rw [hm, g1, g2, g3, g4]
      have ho : g_nat_Owner (mkR l a) (List.getD (g_nat_Source (mkR l a) p) c PacketD).1 = g_r8_Owner (mkR l a) (List.getD (g_nat_Source (mkR l a) p) c PacketD).1 := Owner_eq l a _ hv
      rw [ho]
      rcases g6 with g6 | g6
      · rw [g6]; simp
      · have : decide (g_r8_Owner (mkR l a) (List.getD (g_nat_Source (mkR l a) p) c PacketD).1 < 0) = false := by simpa using g6
        rw [this]; simp
end Go.Proofs.Ytjejfgehcncohaa
