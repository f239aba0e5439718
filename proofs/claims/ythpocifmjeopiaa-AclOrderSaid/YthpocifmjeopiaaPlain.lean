/-
  Access lists: what the program's functions give and what the reference's give, in plain Lean; the laws.
-/
import Derived.Test.YthpocifmjeopiaaAmG
import Derived.Test.YthpocifmjeopiaaAmBits
import Derived.KernelRfl
namespace Go.Proofs.Ythpocifmjeopiaa
open Go Go.AM
set_option maxRecDepth 100000

theorem sane_law7 : g_law7_sane = true := by kernel_rfl

/-! ### Addresses -/
theorem rm_iff {w : WildcardT} {a : Int} (h1 : u32 w.1) (h2 : u32 w.2.1) (ha : u32 a) : g_r8_MatchesAddress w a = true ↔ ∀ c, c < 32 → (B w.2.1).getLsbD c = true ∨ (B w.1).getLsbD c = (B a).getLsbD c := by
  refine upV_all.trans ⟨fun h c hc => ?_, fun h c hc => ?_⟩
  · have := h c hc
    rw [bit_at h1 hc, bit_at h2 hc, bit_at ha hc] at this
    revert this
    cases (B w.2.1).getLsbD c <;> cases (B w.1).getLsbD c <;> cases (B a).getLsbD c <;> simp
  · have := h c hc
    rw [bit_at h1 hc, bit_at h2 hc, bit_at ha hc]
    revert this
    cases (B w.2.1).getLsbD c <;> cases (B w.1).getLsbD c <;> cases (B a).getLsbD c <;> simp
theorem am_iff {w : WildcardT} {a : Int} : g_acl_MatchesAddress w a = true ↔ ∀ c, c < 32 → (B w.2.1).getLsbD c = true ∨ (B w.1).getLsbD c = (B a).getLsbD c := by
  unfold g_acl_MatchesAddress
  rw [eq_B (u32_iandnot _ _) u32_zero, beq_iff_eq, B_iandnot, B_ixor]
  show _ = 0#32 ↔ _
  rw [bv_zero]
  refine forall_congr' fun c => forall_congr' fun hc => ?_
  rw [BitVec.getLsbD_and, BitVec.getLsbD_not, BitVec.getLsbD_xor]
  simp only [hc, decide_true, Bool.true_and]
  cases (B w.2.1).getLsbD c <;> cases (B w.1).getLsbD c <;> cases (B a).getLsbD c <;> simp
theorem ma_eq {w : WildcardT} {a : Int} (h1 : u32 w.1) (h2 : u32 w.2.1) (ha : u32 a) : g_acl_MatchesAddress w a = g_r8_MatchesAddress w a := by
  rw [Bool.eq_iff_iff, am_iff, rm_iff h1 h2 ha]

theorem vp_eq (p : PacketT) : g_acl_ValidPacket p = g_r8_ValidPacket p := by
  simp only [g_acl_ValidPacket, g_r8_ValidPacket, g_acl_inRange, g_r8_within]

theorem true_law7_AclPackets (p : PacketT) (w : WildcardT) (a : Int) (hw : VSs.wf e_law7_AclPackets.A (p, w, a, ())) : g_law7_AclPackets p w a = true := by
  obtain ⟨_, hw1, ha, _⟩ := hw
  have h1 : u32 w.1 := u32_of hw1.1
  have h2 : u32 w.2.1 := u32_of hw1.2.1
  have h3 : u32 a := u32_of ha
  have e1 : g_acl_MatchesAddress w w.1 = true := am_iff.2 fun c _ => Or.inr rfl
  have e2 : g_acl_MatchesAddress w (ixor .u32 w.1 (iand .u32 a w.2.1)) = true := am_iff.2 fun c hc => by
    rw [B_ixor, B_iand, BitVec.getLsbD_xor, BitVec.getLsbD_and]
    cases (B w.2.1).getLsbD c <;> simp
  simp [g_law7_AclPackets, vp_eq, ma_eq h1 h2 h3, e2, sane_law7]
  exact e1

/-! ### Rules -/
theorem wf_rule {x : RuleT} (h : Sch.wf RuleS x) : u32 x.2.2.1 ∧ u32 x.2.2.2.1 ∧ u32 x.2.2.2.2.1 ∧ u32 x.2.2.2.2.2.1 :=
  ⟨u32_of h.2.2.1, u32_of h.2.2.2.1, u32_of h.2.2.2.2.1, u32_of h.2.2.2.2.2.1⟩
theorem wf_pack {p : PacketT} (h : Sch.wf PacketS p) : u32 p.1 ∧ u32 p.2.1 := ⟨u32_of h.1, u32_of h.2.1⟩
theorem matches_eq {x : RuleT} {p : PacketT} (hx : Sch.wf RuleS x) (hp : Sch.wf PacketS p) : g_acl_Matches x p = g_r8_Matches x p := by
  obtain ⟨a1, a2, a3, a4⟩ := wf_rule hx
  obtain ⟨b1, b2⟩ := wf_pack hp
  unfold g_acl_Matches g_r8_Matches
  rw [ma_eq a1 a2 b1, ma_eq a3 a4 b2]
  unfold g_acl_inRange g_r8_within
  have e : (x.2.1 == -1 || x.2.1 == p.2.2.1) = !(x.2.1 != -1 && x.2.1 != p.2.2.1) := by
    simp only [bne]; cases (x.2.1 == -1) <;> cases (x.2.1 == p.2.2.1) <;> rfl
  rw [e]
  cases (x.2.1 != -1 && x.2.1 != p.2.2.1) <;> simp
theorem wf_r {l : List RuleT} (hl : Cell.wf (.sl RuleS) l) (c : Nat) : Sch.wf RuleS (List.getD l c RuleD) := wf_getD hl c
theorem First_eq {l : ACLT} {p : PacketT} (hl : Cell.wf (.sl RuleS) l.2.1) (hp : Sch.wf PacketS p) : g_acl_First l p = g_r8_First l p := by
  refine upV_congr rfl _ _ fun c _ hc x => ?_
  have e : g_acl_Matches (List.getD l.2.1 c RuleD) p = g_r8_Matches (List.getD l.2.1 c RuleD) p := matches_eq (wf_r hl c) hp
  show cond (g_acl_Matches (List.getD l.2.1 c RuleD) p) (c : Int) x = cond (g_r8_Matches (List.getD l.2.1 c RuleD) p) (c : Int) x
  rw [e]

theorem true_law7_AclMatches (l : List RuleT) (p : PacketT) (hw : VSs.wf e_law7_AclMatches.A (l, p, ())) : g_law7_AclMatches l p = true := by
  obtain ⟨hl, hp, _⟩ := hw
  have e : S_law7_AclMatches_0 l p = true := by
    refine (upV_none _ _ fun c _ hc => ?_).trans ?_
    · have e : g_acl_Matches (List.getD l c RuleD) p = g_r8_Matches (List.getD l c RuleD) p := matches_eq (wf_r hl c) hp
      show (!(g_acl_Matches (List.getD l c RuleD) p == g_r8_Matches (List.getD l c RuleD) p)) = false
      rw [e]; simp
    · rw [First_eq (l := ([], l, ())) hl hp, sane_law7]; simp
  unfold g_law7_AclMatches
  rw [e]; cases (!g_law7_right l || !g_r8_ValidPacket p) <;> rfl

theorem wf_acl {l : List ACLT} (hl : Cell.wf (.sl ACLS) l) (c : Nat) : Cell.wf (.sl RuleS) (List.getD l c ACLD).2.1 := (wf_getD hl c).2.1
theorem Permits_eq {r : RouterT} {name : List UInt8} {p : PacketT} (hr : Cell.wf (.sl ACLS) r.2.2.2.2.2.1) (hp : Sch.wf PacketS p) : g_acl_Permits r name p = g_r8_Permits r name p := by
  unfold g_acl_Permits g_r8_Permits
  have e : g_model_ACL r name = g_r8_ACL r name := rfl
  rw [e, First_eq (wf_acl hr _) hp]

theorem true_law7_AclPermits (l : List ACLT) (name : List UInt8) (p : PacketT) (hw : VSs.wf e_law7_AclPermits.A (l, name, p, ())) : g_law7_AclPermits l name p = true := by
  obtain ⟨hl, _, hp, _⟩ := hw
  have hP : ∀ n, g_acl_Permits ([114], 0, [], [], [], l, [], [], false, 0, [], [], false, 0, [], [], [], false, 0, 0, [], [], [], [], [], ()) n p = g_r8_Permits ([114], 0, [], [], [], l, [], [], false, 0, [], [], false, 0, [], [], [], false, 0, 0, [], [], [], [], [], ()) n p := fun n => Permits_eq hl hp
  have e1 : S_law7_AclPermits_1 l name p = true := by
    refine (upV_none _ _ fun c _ hc => ?_).trans ?_
    · rw [hP]; simp
    · rw [hP, hP, sane_law7]; simp [g_r8_Permits]
  have e0 : S_law7_AclPermits_0 l name p = true := by
    refine upV_ind (P := fun b => b = true) ?_ _ _ fun c _ _ x hx => ?_
    · rw [e1]; cases (g_r8_CheckRouter _ != 0) <;> rfl
    · subst hx; cases (!g_law7_right _) <;> rfl
  unfold g_law7_AclPermits
  rw [e0]; cases ((decide ((l.length : Int) > 8) || decide ((name.length : Int) > 40)) || !g_r8_ValidPacket p) <;> rfl

/-! ### One list: what it permits -/
def pl (p : PacketT) : List RuleT → Bool
  | [] => false
  | x :: r => cond (g_acl_Matches x p) x.1 (pl p r)
theorem go_first (p : PacketT) : ∀ (l : List RuleT) (s : Nat), (goL (fun x c n => cond (g_acl_Matches x p) (c : Int) n) (-1) l s = -1 ∧ pl p l = false ∧ ∀ x ∈ l, g_acl_Matches x p = false) ∨
    ∃ j, j < l.length ∧ goL (fun x c n => cond (g_acl_Matches x p) (c : Int) n) (-1) l s = ((s + j : Nat) : Int) ∧ pl p l = (l.getD j RuleD).1 ∧ g_acl_Matches (l.getD j RuleD) p = true ∧ ∀ i, i < j → g_acl_Matches (l.getD i RuleD) p = false
  | [], s => Or.inl ⟨rfl, rfl, fun x h => by cases h⟩
  | x :: r, s => by
    simp only [goL, pl]
    cases hx : g_acl_Matches x p with
    | true => exact Or.inr ⟨0, by simp, by simp, by simp [List.getD], by simpa [List.getD] using hx, fun i hi => by omega⟩
    | false =>
      simp only [cond_false]
      rcases go_first p r (s + 1) with ⟨h1, h2, h3⟩ | ⟨j, h1, h2, h3, h4, h5⟩
      · refine Or.inl ⟨h1, h2, fun y hy => ?_⟩
        cases hy with
        | head => exact hx
        | tail _ hy => exact h3 y hy
      · refine Or.inr ⟨j + 1, by simp; omega, by rw [h2]; congr 1; omega, by rw [h3]; rfl, h4, fun i hi => ?_⟩
        cases i with
        | zero => exact hx
        | succ i => exact h5 i (by omega)
theorem First_list (n : List UInt8) (l : List RuleT) (p : PacketT) : g_acl_First (n, l, ()) p = goL (fun x c n => cond (g_acl_Matches x p) (c : Int) n) (-1) l 0 :=
  upV_list (b := fun x c n => cond (g_acl_Matches x p) (c : Int) n) (d := RuleD) l
/-- A router with the one list 'a'. -/
def one (l : List RuleT) : RouterT := ([114], 0, [], [], [], [([97], l, ())], [], [], false, 0, [], [], false, 0, [], [], [], false, 0, 0, [], [], [], [], [], ())
theorem Permits_one (l : List RuleT) (p : PacketT) : g_acl_Permits (one l) [97] p = pl p l := by
  have e : g_model_ACL (one l) [97] = 0 := rfl
  have e2 : List.getD (one l).2.2.2.2.2.1 (Int.toNat 0) ACLD = ([97], l, ()) := rfl
  unfold g_acl_Permits
  rw [e, e2, First_list]
  rcases go_first p l 0 with ⟨h1, h2, _⟩ | ⟨j, h1, h2, h3, _⟩
  · rw [h1, h2]; rfl
  · rw [h2, h3]
    simp

theorem pl_append (p : PacketT) : ∀ (a b : List RuleT), pl p (a ++ b) = cond (a.any fun x => g_acl_Matches x p) (pl p a) (pl p b)
  | [], b => rfl
  | x :: r, b => by
    simp only [List.cons_append, pl, List.any_cons]
    cases g_acl_Matches x p with
    | true => rfl
    | false => exact pl_append p r b
theorem pl_swap (p : PacketT) (a b : List RuleT) (x y : RuleT) (h : x.1 = y.1) : pl p (a ++ x :: y :: b) = pl p (a ++ y :: x :: b) := by
  rw [pl_append, pl_append]
  congr 1
  simp only [pl]
  cases g_acl_Matches x p <;> cases g_acl_Matches y p <;> simp [h]

theorem split_at {l : List RuleT} {k : Nat} (h1 : 1 ≤ k) (h2 : k < l.length) : l = l.take (k - 1) ++ List.getD l (k - 1) RuleD :: List.getD l k RuleD :: l.drop (k + 1) := by
  have e1 := List.take_append_drop (k - 1) l
  rw [drop_at (show k - 1 < l.length by omega) RuleD, show k - 1 + 1 = k by omega, drop_at h2 RuleD] at e1
  exact e1.symm
theorem set_at {l : List RuleT} {k : Nat} (h1 : 1 ≤ k) (h2 : k < l.length) (x y : RuleT) : List.set (List.set l k x) (k - 1) y = l.take (k - 1) ++ y :: x :: l.drop (k + 1) := by
  have e := split_at h1 h2
  have hl : (l.take (k - 1)).length = k - 1 := by simp; omega
  generalize l.take (k - 1) = a at *
  generalize List.getD l (k - 1) RuleD = u at *
  generalize List.getD l k RuleD = v at *
  generalize l.drop (k + 1) = b at *
  subst e
  rw [List.set_append_right _ _ (by omega), List.set_append_right _ _ (by omega), hl]
  have : k - (k - 1) = 1 := by omega
  rw [this, Nat.sub_self]
  rfl
theorem true_law7_AclSwap (l : List RuleT) (k : Int) (p : PacketT) (hw : VSs.wf e_law7_AclSwap.A (l, k, p, ())) : g_law7_AclSwap l k p = true := by
  have hk : inR .i64 k := hw.2.1
  unfold g_law7_AclSwap
  generalize hc : (((((!(g_law7_right l)) || (decide ((l.length : Int) > 16))) || (decide (k < 1))) || (decide (k ≥ (l.length : Int)))) || (!((List.getD l (Int.toNat k) RuleD).1 == (List.getD l (Int.toNat (IntKind.wrap .i64 (k - 1))) RuleD).1))) = c
  cases c with
  | true => simp
  | false =>
    simp only [Bool.or_eq_false_iff, decide_eq_false_iff_not, Bool.not_eq_false'] at hc
    obtain ⟨⟨⟨⟨_, h1⟩, h2⟩, h3⟩, h4⟩ := hc
    rw [wk1 (by omega) hk] at h4 ⊢
    obtain ⟨n, rfl⟩ : ∃ n : Nat, k = (n : Int) := ⟨k.toNat, by omega⟩
    have h5 : ((n : Int) - 1).toNat = n - 1 := by omega
    simp only [h5, Int.toNat_natCast, Nat.zero_add] at h4 ⊢
    have h6 : (List.getD l n RuleD).1 = (List.getD l (n - 1) RuleD).1 := by simpa using h4
    have hn : 1 ≤ n := by omega
    have hn2 : n < l.length := by omega
    have e1 : g_acl_Permits (one l) [97] p = g_acl_Permits (one (segL (List.set (List.set l n (List.getD l (n - 1) RuleD)) (n - 1) (List.getD l n RuleD)) 0 l.length)) [97] p := by
      rw [Permits_one, Permits_one]
      have : segL (List.set (List.set l n (List.getD l (n - 1) RuleD)) (n - 1) (List.getD l n RuleD)) 0 l.length = List.set (List.set l n (List.getD l (n - 1) RuleD)) (n - 1) (List.getD l n RuleD) := by
        unfold segL
        rw [List.drop_zero]
        exact List.take_of_length_le (by simp)
      rw [this, set_at hn hn2, ← pl_swap p _ _ _ _ h6.symm, ← split_at hn hn2]
    have e2 : ((g_acl_Permits (one l) [97] p == g_acl_Permits (one (segL (List.set (List.set l n (List.getD l (n - 1) RuleD)) (n - 1) (List.getD l n RuleD)) 0 l.length)) [97] p) && g_law7_sane) = true := by rw [e1, sane_law7]; simp
    refine Eq.trans ?_ (by cases (!g_r8_ValidPacket p) <;> rfl : cond (false || !g_r8_ValidPacket p) true true = true)
    exact congrArg (cond (false || !g_r8_ValidPacket p) true) e2

/-! ### Which rule covers which -/
def MA (A M X : BitVec 32) : Prop := ∀ c, c < 32 → M.getLsbD c = true ∨ A.getLsbD c = X.getLsbD c
def CA (Va Vm Wa Wm : BitVec 32) : Prop := ∀ c, c < 32 → (Wm.getLsbD c = true → Vm.getLsbD c = true) ∧ (Vm.getLsbD c = true ∨ Va.getLsbD c = Wa.getLsbD c)
theorem CA.mat {Va Vm Wa Wm X : BitVec 32} (h : CA Va Vm Wa Wm) (g : MA Wa Wm X) : MA Va Vm X := fun c hc => by
  obtain ⟨h1, h2⟩ := h c hc
  rcases g c hc with g1 | g1
  · exact Or.inl (h1 g1)
  · rcases h2 with h2 | h2
    · exact Or.inl h2
    · exact Or.inr (h2.trans g1)
theorem CA.refl (Va Vm : BitVec 32) : CA Va Vm Va Vm := fun _ _ => ⟨id, Or.inr rfl⟩
theorem CA.trans {Ua Um Va Vm Wa Wm : BitVec 32} (h : CA Ua Um Va Vm) (g : CA Va Vm Wa Wm) : CA Ua Um Wa Wm := fun c hc => by
  obtain ⟨h1, h2⟩ := h c hc
  obtain ⟨g1, g2⟩ := g c hc
  refine ⟨fun hw => h1 (g1 hw), ?_⟩
  rcases h2 with h2 | h2
  · exact Or.inl h2
  · rcases g2 with g2 | g2
    · exact Or.inl (h1 g2)
    · exact Or.inr (h2.trans g2)
theorem sample_in {Va Vm Wa Wm : BitVec 32} : MA Wa Wm (Wa ||| (Wm &&& ~~~Vm &&& ~~~Va)) := fun c hc => by
  rw [BitVec.getLsbD_or, BitVec.getLsbD_and, BitVec.getLsbD_and, BitVec.getLsbD_not, BitVec.getLsbD_not]
  cases Wm.getLsbD c <;> cases Wa.getLsbD c <;> simp
theorem sample_out {Va Vm Wa Wm : BitVec 32} (hv : ∀ c, c < 32 → Wa.getLsbD c = true → Wm.getLsbD c = false) (h : MA Va Vm (Wa ||| (Wm &&& ~~~Vm &&& ~~~Va))) : CA Va Vm Wa Wm := fun c hc => by
  have h1 := h c hc
  have h2 := hv c hc
  rw [BitVec.getLsbD_or, BitVec.getLsbD_and, BitVec.getLsbD_and, BitVec.getLsbD_not, BitVec.getLsbD_not] at h1
  simp only [hc, decide_true, Bool.true_and] at h1
  revert h1 h2
  cases Va.getLsbD c <;> cases Vm.getLsbD c <;> cases Wa.getLsbD c <;> cases Wm.getLsbD c <;> simp
theorem ca_iff (v w : WildcardT) : g_acl_coversAddresses v w = true ↔ CA (B v.1) (B v.2.1) (B w.1) (B w.2.1) := by
  unfold g_acl_coversAddresses
  rw [Bool.and_eq_true, am_iff, eq_B (u32_iandnot _ _) u32_zero, beq_iff_eq, B_iandnot]
  have e : (B w.2.1 &&& ~~~B v.2.1 = B 0) ↔ ∀ c, c < 32 → (B w.2.1).getLsbD c = true → (B v.2.1).getLsbD c = true := by
    show _ = 0#32 ↔ _
    rw [bv_zero]
    refine forall_congr' fun c => forall_congr' fun hc => ?_
    rw [BitVec.getLsbD_and, BitVec.getLsbD_not]
    simp only [hc, decide_true, Bool.true_and]
    cases (B w.2.1).getLsbD c <;> cases (B v.2.1).getLsbD c <;> simp
  rw [e]
  exact ⟨fun h c hc => ⟨h.1 c hc, h.2 c hc⟩, fun h => ⟨fun c hc => (h c hc).1, fun c hc => (h c hc).2⟩⟩
def MatP (x : RuleT) (p : PacketT) : Prop := (x.2.1 = -1 ∨ x.2.1 = p.2.2.1) ∧ MA (B x.2.2.1) (B x.2.2.2.1) (B p.1) ∧ MA (B x.2.2.2.2.1) (B x.2.2.2.2.2.1) (B p.2.1) ∧
  (x.2.2.2.2.2.2.1 ≤ p.2.2.2.1 ∧ p.2.2.2.1 ≤ x.2.2.2.2.2.2.2.1) ∧ (x.2.2.2.2.2.2.2.2.1 ≤ p.2.2.2.2.1 ∧ p.2.2.2.2.1 ≤ x.2.2.2.2.2.2.2.2.2.1)
def CovP (a b : RuleT) : Prop := (a.2.1 = -1 ∨ a.2.1 = b.2.1) ∧ CA (B a.2.2.1) (B a.2.2.2.1) (B b.2.2.1) (B b.2.2.2.1) ∧ CA (B a.2.2.2.2.1) (B a.2.2.2.2.2.1) (B b.2.2.2.2.1) (B b.2.2.2.2.2.1) ∧
  (a.2.2.2.2.2.2.1 ≤ b.2.2.2.2.2.2.1 ∧ b.2.2.2.2.2.2.2.1 ≤ a.2.2.2.2.2.2.2.1) ∧ (a.2.2.2.2.2.2.2.2.1 ≤ b.2.2.2.2.2.2.2.2.1 ∧ b.2.2.2.2.2.2.2.2.2.1 ≤ a.2.2.2.2.2.2.2.2.2.1)
theorem mat_iff (x : RuleT) (p : PacketT) : g_acl_Matches x p = true ↔ MatP x p := by
  unfold g_acl_Matches g_acl_inRange MatP
  simp only [Bool.and_eq_true, Bool.or_eq_true, beq_iff_eq, decide_eq_true_eq, am_iff, and_assoc]
  rfl
theorem cov_iff (a b : RuleT) : g_acl_Covers a b = true ↔ CovP a b := by
  unfold g_acl_Covers g_acl_coversPorts CovP
  simp only [Bool.and_eq_true, Bool.or_eq_true, beq_iff_eq, decide_eq_true_eq, ca_iff, and_assoc]
theorem CovP.mat {a b : RuleT} {p : PacketT} (h : CovP a b) (g : MatP b p) : MatP a p := by
  obtain ⟨h1, h2, h3, h4, h5⟩ := h
  obtain ⟨g1, g2, g3, g4, g5⟩ := g
  exact ⟨by omega, h2.mat g2, h3.mat g3, by omega, by omega⟩
theorem CovP.refl (a : RuleT) : CovP a a := ⟨Or.inr rfl, CA.refl _ _, CA.refl _ _, ⟨Int.le_refl _, Int.le_refl _⟩, ⟨Int.le_refl _, Int.le_refl _⟩⟩
theorem CovP.trans {a b c : RuleT} (h : CovP a b) (g : CovP b c) : CovP a c := by
  obtain ⟨h1, h2, h3, h4, h5⟩ := h
  obtain ⟨g1, g2, g3, g4, g5⟩ := g
  exact ⟨by omega, h2.trans g2, h3.trans g3, by omega, by omega⟩

theorem true_law7_AclOrder (a b c : RuleT) (_hw : VSs.wf e_law7_AclOrder.A (a, b, c, ())) : g_law7_AclOrder a b c = true := by
  have e : (((g_acl_Covers a a) && (((!(g_acl_Covers a b)) || (!(g_acl_Covers b c))) || (g_acl_Covers a c))) && g_law7_sane) = true := by
    rw [(cov_iff a a).2 (CovP.refl a), sane_law7]
    cases h1 : g_acl_Covers a b with
    | false => rfl
    | true =>
      cases h2 : g_acl_Covers b c with
      | false => rfl
      | true => rw [(cov_iff a c).2 (((cov_iff a b).1 h1).trans ((cov_iff b c).1 h2))]; rfl
  unfold g_law7_AclOrder
  rw [e]; cases (!g_law7_right [a, b, c]) <;> rfl

/-! ### A packet that shows it -/
theorem rule_valid {x : RuleT} (h : g_r8_ValidRule x = true) : (-1 ≤ x.2.1 ∧ x.2.1 ≤ 255) ∧ iand .u32 x.2.2.1 x.2.2.2.1 = 0 ∧ iand .u32 x.2.2.2.2.1 x.2.2.2.2.2.1 = 0 ∧ (0 ≤ x.2.2.2.2.2.2.1 ∧ x.2.2.2.2.2.2.1 ≤ x.2.2.2.2.2.2.2.1 ∧ x.2.2.2.2.2.2.2.1 ≤ 65535) ∧ (0 ≤ x.2.2.2.2.2.2.2.2.1 ∧ x.2.2.2.2.2.2.2.2.1 ≤ x.2.2.2.2.2.2.2.2.2.1 ∧ x.2.2.2.2.2.2.2.2.2.1 ≤ 65535) := by
  unfold g_r8_ValidRule g_r8_within g_r8_ports at h
  revert h
  generalize ((x.2.1 == 6) || (x.2.1 == 17)) = u
  generalize (g_r8_all _ && g_r8_all _) = v
  intro h
  rw [Bool.cond_eq_ite] at h
  split at h
  · cases h
  · rename_i hn
    simp only [Bool.not_eq_true, Bool.or_eq_false_iff, Bool.not_eq_false', Bool.and_eq_true, decide_eq_true_eq, bne_eq_false_iff_eq] at hn
    omega
theorem bits_apart {x y : Int} (h : iand .u32 x y = 0) : ∀ c, c < 32 → (B x).getLsbD c = true → (B y).getLsbD c = false := by
  have h1 : B x &&& B y = 0#32 := by rw [← B_iand, h]; rfl
  intro c hc h2
  have := bv_zero.1 h1 c hc
  rw [BitVec.getLsbD_and, h2] at this
  simpa using this
theorem smp1 (a b : RuleT) : (g_r8_Sample a b).1 = ior .u32 b.2.2.1 (iandnot .u32 (iandnot .u32 b.2.2.2.1 a.2.2.2.1) a.2.2.1) := by
  unfold g_r8_Sample
  cases (b.2.1 == -1) <;> cases (a.2.1 == 0) <;> cases decide (b.2.2.2.2.2.2.2.1 > a.2.2.2.2.2.2.2.1) <;> cases decide (b.2.2.2.2.2.2.2.2.2.1 > a.2.2.2.2.2.2.2.2.2.1) <;> rfl
theorem smp2 (a b : RuleT) : (g_r8_Sample a b).2.1 = ior .u32 b.2.2.2.2.1 (iandnot .u32 (iandnot .u32 b.2.2.2.2.2.1 a.2.2.2.2.2.1) a.2.2.2.2.1) := by
  unfold g_r8_Sample
  cases (b.2.1 == -1) <;> cases (a.2.1 == 0) <;> cases decide (b.2.2.2.2.2.2.2.1 > a.2.2.2.2.2.2.2.1) <;> cases decide (b.2.2.2.2.2.2.2.2.2.1 > a.2.2.2.2.2.2.2.2.2.1) <;> rfl
theorem smp3 (a b : RuleT) : (g_r8_Sample a b).2.2.1 = cond (b.2.1 == -1) (cond (a.2.1 == 0) 1 0) b.2.1 := by
  unfold g_r8_Sample
  cases (b.2.1 == -1) <;> cases (a.2.1 == 0) <;> cases decide (b.2.2.2.2.2.2.2.1 > a.2.2.2.2.2.2.2.1) <;> cases decide (b.2.2.2.2.2.2.2.2.2.1 > a.2.2.2.2.2.2.2.2.2.1) <;> rfl
theorem smp4 (a b : RuleT) : (g_r8_Sample a b).2.2.2.1 = cond (decide (b.2.2.2.2.2.2.2.1 > a.2.2.2.2.2.2.2.1)) b.2.2.2.2.2.2.2.1 b.2.2.2.2.2.2.1 := by
  unfold g_r8_Sample
  cases (b.2.1 == -1) <;> cases (a.2.1 == 0) <;> cases decide (b.2.2.2.2.2.2.2.1 > a.2.2.2.2.2.2.2.1) <;> cases decide (b.2.2.2.2.2.2.2.2.2.1 > a.2.2.2.2.2.2.2.2.2.1) <;> rfl
theorem smp5 (a b : RuleT) : (g_r8_Sample a b).2.2.2.2.1 = cond (decide (b.2.2.2.2.2.2.2.2.2.1 > a.2.2.2.2.2.2.2.2.2.1)) b.2.2.2.2.2.2.2.2.2.1 b.2.2.2.2.2.2.2.2.1 := by
  unfold g_r8_Sample
  cases (b.2.1 == -1) <;> cases (a.2.1 == 0) <;> cases decide (b.2.2.2.2.2.2.2.1 > a.2.2.2.2.2.2.2.1) <;> cases decide (b.2.2.2.2.2.2.2.2.2.1 > a.2.2.2.2.2.2.2.2.2.1) <;> rfl
theorem ite3 {a b c d : Int} (h : a = cond (decide (b > c)) b d) : (b > c ∧ a = b) ∨ (b ≤ c ∧ a = d) := by
  by_cases hb : b > c
  · exact Or.inl ⟨hb, by simpa [hb] using h⟩
  · exact Or.inr ⟨by omega, by simpa [hb] using h⟩
theorem proto3 {q x y : Int} (h : q = cond (y == -1) (cond (x == 0) 1 0) y) : (y = -1 ∧ x = 0 ∧ q = 1) ∨ (y = -1 ∧ x ≠ 0 ∧ q = 0) ∨ (y ≠ -1 ∧ q = y) := by
  by_cases hy : y = -1
  · by_cases hx : x = 0
    · simp [hy, hx] at h; omega
    · have : (x == 0) = false := by simpa using hx
      simp [hy, this] at h; omega
  · have : (y == -1) = false := by simpa using hy
    rw [this] at h; simp at h; omega
theorem sample_spec {a b : RuleT} (ha : g_r8_ValidRule a = true) (hb : g_r8_ValidRule b = true) (hc : ¬ CovP a b) : g_r8_ValidPacket (g_r8_Sample a b) = true ∧ MatP b (g_r8_Sample a b) ∧ ¬ MatP a (g_r8_Sample a b) := by
  obtain ⟨b1, b2, b3, b4, b5⟩ := rule_valid hb
  obtain ⟨a1, _, _, a4, a5⟩ := rule_valid ha
  have e1 := smp1 a b
  have e2 := smp2 a b
  have e3 := proto3 (smp3 a b)
  have e4 := ite3 (smp4 a b)
  have e5 := ite3 (smp5 a b)
  generalize g_r8_Sample a b = q at *
  have hB1 : B q.1 = B b.2.2.1 ||| (B b.2.2.2.1 &&& ~~~B a.2.2.2.1 &&& ~~~B a.2.2.1) := by rw [e1, B_ior, B_iandnot, B_iandnot]
  have hB2 : B q.2.1 = B b.2.2.2.2.1 ||| (B b.2.2.2.2.2.1 &&& ~~~B a.2.2.2.2.2.1 &&& ~~~B a.2.2.2.2.1) := by rw [e2, B_ior, B_iandnot, B_iandnot]
  refine ⟨?_, ⟨by omega, by rw [hB1]; exact sample_in, by rw [hB2]; exact sample_in, by omega, by omega⟩, fun hm => hc ?_⟩
  · unfold g_r8_ValidPacket g_r8_within
    simp only [Bool.and_eq_true, decide_eq_true_eq]
    omega
  · obtain ⟨m1, m2, m3, m4, m5⟩ := hm
    rw [hB1] at m2
    rw [hB2] at m3
    exact ⟨by omega, sample_out (bits_apart b2) m2, sample_out (bits_apart b3) m3, by omega, by omega⟩
theorem true_law7_AclCovers (a b : RuleT) (p : PacketT) (_hw : VSs.wf e_law7_AclCovers.A (a, b, p, ())) : g_law7_AclCovers a b p = true := by
  unfold g_law7_AclCovers
  cases ha : g_r8_ValidRule a with
  | false => rfl
  | true =>
    cases hb : g_r8_ValidRule b with
    | false => rfl
    | true =>
      cases hp : g_r8_ValidPacket p with
      | false => rfl
      | true =>
        show cond (g_acl_Covers a b) _ _ = true
        cases hc : g_acl_Covers a b with
        | true =>
          show ((!g_acl_Matches b p || g_acl_Matches a p) && g_law7_sane) = true
          rw [sane_law7]
          cases hm : g_acl_Matches b p with
          | false => rfl
          | true => rw [(mat_iff a p).2 (((cov_iff a b).1 hc).mat ((mat_iff b p).1 hm))]; rfl
        | false =>
          obtain ⟨s1, s2, s3⟩ := sample_spec ha hb (fun h => by rw [(cov_iff a b).2 h] at hc; cases hc)
          have s4 : g_acl_Matches a (g_r8_Sample a b) = false := by
            cases h : g_acl_Matches a (g_r8_Sample a b) with
            | false => rfl
            | true => exact absurd ((mat_iff _ _).1 h) s3
          show (((g_r8_ValidPacket (g_r8_Sample a b) && g_acl_Matches b (g_r8_Sample a b)) && !g_acl_Matches a (g_r8_Sample a b)) && g_law7_sane) = true
          rw [s1, (mat_iff b _).2 s2, s4, sane_law7]; rfl

/-! ### A rule behind one that covers it -/
theorem pl_without (p : PacketT) (a b : List RuleT) (x : RuleT) (h : ∃ y ∈ a, CovP y x) : pl p (a ++ x :: b) = pl p (a ++ b) := by
  rw [pl_append, pl_append]
  cases ha : a.any fun x => g_acl_Matches x p with
  | true => rfl
  | false =>
    simp only [cond_false, pl]
    obtain ⟨y, hy, hc⟩ := h
    have hx : g_acl_Matches x p = false := by
      cases hx : g_acl_Matches x p with
      | false => rfl
      | true =>
        have := List.any_eq_false.1 ha y hy
        exact absurd ((mat_iff y p).2 (hc.mat ((mat_iff x p).1 hx))) this
    rw [hx]; rfl
theorem any_loop (f : Nat → Bool) {R : Type} (g : Bool → R) : ∀ (m s : Nat) (v : Bool), upS (fun c (v : Bool) => fun (next : Bool → R) => next (v || f c)) g m s v = g (v || (List.range' s m).any f)
  | 0, s, v => by simp [upS]
  | m + 1, s, v => by
    simp only [upS]
    rw [any_loop f g m (s + 1) (v || f s)]
    simp [List.range'_succ, Bool.or_assoc]
theorem true_law7_AclShadowed (l : List RuleT) (k : Int) (p : PacketT) (hw : VSs.wf e_law7_AclShadowed.A (l, k, p, ())) : g_law7_AclShadowed l k p = true := by
  have hk : inR .i64 k := hw.2.1
  unfold g_law7_AclShadowed
  generalize hc : ((((!(g_law7_right l)) || (decide ((l.length : Int) > 16))) || (decide (k < 1))) || (decide (k ≥ (l.length : Int)))) = c
  cases c with
  | true => rfl
  | false =>
    simp only [Bool.or_eq_false_iff, decide_eq_false_iff_not, Bool.not_eq_false'] at hc
    obtain ⟨⟨⟨_, h1⟩, h2⟩, h3⟩ := hc
    obtain ⟨n, rfl⟩ : ∃ n : Nat, k = (n : Int) := ⟨k.toNat, by omega⟩
    have hn : n < l.length := by omega
    suffices h : S_law7_AclShadowed_0 l n p false = true by rw [h]; cases (!g_r8_ValidPacket p) <;> rfl
    unfold S_law7_AclShadowed_0
    rw [any_loop (fun c0 => g_acl_Covers (List.getD l c0 RuleD) (List.getD l (Int.toNat n) RuleD))]
    simp only [Bool.false_or, Int.toNat_natCast, Nat.sub_zero]
    cases hv : (List.range' 0 n).any fun c0 => g_acl_Covers (List.getD l c0 RuleD) (List.getD l n RuleD) with
    | false => exact sane_law7
    | true =>
      simp only [List.any_eq_true, List.mem_range'_1] at hv
      obtain ⟨i, ⟨_, hi⟩, hcov⟩ := hv
      have hcov := (cov_iff _ _).1 hcov
      have e : l = l.take n ++ List.getD l n RuleD :: l.drop (n + 1) := by
        have := List.take_append_drop n l
        rw [drop_at hn RuleD] at this
        exact this.symm
      have hmem : List.getD l i RuleD ∈ l.take n := by
        have : List.getD l i RuleD = List.getD (l.take n) i RuleD := by
          have hi : i < n := by omega
          simp [List.getD, hi]
        rw [this]
        exact getD_mem (by simp; omega) _
      have hs1 : slcL l 0 n = l.take n := by simp [slcL]
      have hw1 : IntKind.wrap .i64 ((n : Int) + 1) = ((n + 1 : Nat) : Int) := w64n (by omega)
      have hs2 : slcL l ((n + 1 : Nat) : Int) (l.length : Int) = l.drop (n + 1) := by
        unfold slcL
        rw [Int.toNat_natCast, Int.toNat_natCast]
        exact List.take_of_length_le (by simp)
      have hs3 : segL (l.take n ++ l.drop (n + 1)) 0 ((l.take n).length + (l.drop (n + 1)).length) = l.take n ++ l.drop (n + 1) := by
        unfold segL
        rw [List.drop_zero, ← List.length_append]
        exact List.take_length
      have e1 : pl p l = pl p (l.take n ++ l.drop (n + 1)) := by
        have := pl_without p (l.take n) (l.drop (n + 1)) (List.getD l n RuleD) ⟨_, hmem, hcov⟩
        rw [← e] at this; exact this
      have e2 : (g_acl_First ([], l, ()) p != (n : Int)) = true := by
        rw [First_list]
        rcases go_first p l 0 with ⟨h4, _⟩ | ⟨j, h4, h5, _, h6, h7⟩
        · rw [h4]; simp
        · rw [h5]
          simp only [Nat.zero_add, bne_iff_ne, ne_eq]
          intro hj
          have hj : j = n := by omega
          subst hj
          have h8 := h7 i (by omega)
          rw [(mat_iff _ _).2 (hcov.mat ((mat_iff _ _).1 h6))] at h8
          cases h8
      rw [hw1, hs1, hs2, hs3]
      show ((_ != (n : Int)) && (g_acl_Permits (one l) [97] p == g_acl_Permits (one (l.take n ++ l.drop (n + 1))) [97] p) && g_law7_sane) = true
      rw [e2, Permits_one, Permits_one, e1, sane_law7]; simp
end Go.Proofs.Ythpocifmjeopiaa
