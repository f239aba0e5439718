/-
  The law of the covering prefixes, in plain Lean.
-/
import Derived.Test.YthjhlpbiljpccaaPlain
namespace Go.Proofs.Ythjhlpbiljpccaa
open Go Go.AM

theorem cov_mem {m : Mp} {a : Int} : ∀ {c : Nat} {x : PrefixT}, x ∈ cov m a c → ∃ i, i < c ∧ x = g_addr_Network a (i : Int) ∧ ∃ v, m (kp a i) = some v
  | 0, x, h => by cases h
  | c + 1, x, h => by
    simp only [cov, List.mem_append] at h
    rcases h with h | h
    · obtain ⟨i, h1, h2⟩ := cov_mem h
      exact ⟨i, by omega, h2⟩
    · cases hm : m (kp a c) with
      | none => rw [hm] at h; cases h
      | some v =>
        rw [hm] at h
        simp only [List.mem_singleton] at h
        exact ⟨c, Nat.lt_succ_self _, h, v, hm⟩
theorem cov_pw {m : Mp} {a : Int} : ∀ {c : Nat}, c ≤ 33 → (cov m a c).Pairwise fun x y => x.2.1 < y.2.1
  | 0, _ => List.Pairwise.nil
  | c + 1, h => by
    simp only [cov]
    refine List.pairwise_append.2 ⟨cov_pw (by omega), ?_, fun x hx y hy => ?_⟩
    · cases m (kp a c) with
      | none => exact List.Pairwise.nil
      | some v => exact List.pairwise_singleton _ _
    · obtain ⟨i, h1, rfl, _⟩ := cov_mem hx
      cases hm : m (kp a c) with
      | none => rw [hm] at hy; cases hy
      | some v =>
        rw [hm] at hy
        simp only [List.mem_singleton] at hy
        subst hy
        rw [net_eq a (show i ≤ 32 by omega), net_eq a (show c ≤ 32 by omega)]
        show (i : Int) < (c : Int)
        omega
theorem cov_best {m : Mp} {a : Int} : ∀ {c : Nat}, match best m a c with
    | none => cov m a c = []
    | some (n, _) => ∃ pre, cov m a c = pre ++ [g_addr_Network a (n : Int)]
  | 0 => rfl
  | c + 1 => by
    simp only [best, cov]
    cases hm : m (kp a c) with
    | none => simp only [List.append_nil]; exact cov_best
    | some v => exact ⟨cov m a c, rfl⟩
theorem cov_next (m : Mp) (a : Int) (c : Nat) : (cov m a (c + 1)).length = (cov m a c).length + hc m (kp a c) := by
  simp only [cov, List.length_append, hc]
  cases m (kp a c) <;> rfl

/-- The prefixes that cover p. -/
def cv (p : PrefixT) (e : TableEntryT) : Bool := g_r4_Covers (e.1, e.2.1, ()) p
def AtP (p : PrefixT) (a : Int) (d : Nat) : Prop := d ≤ p.2.1.toNat ∧ kp a d = kp p.1 d
theorem cv_iff {p : PrefixT} (h0 : 0 ≤ p.2.1) {a : Int} {d : Nat} (h : Vp a d) {v : Int} : cv p (a, (d : Int), v, ()) = true ↔ AtP p a d := by
  unfold cv g_r4_Covers
  simp only [Bool.and_eq_true, decide_eq_true_eq]
  have hc := contains_iff (p := (a, (d : Int), ())) (a := p.1) (by show 0 ≤ (d : Int); omega) (by show Vp a ((d : Int)).toNat; rw [Int.toNat_natCast]; exact h)
  rw [hc]
  show (d : Int) ≤ p.2.1 ∧ kp a ((d : Int)).toNat = kp p.1 ((d : Int)).toNat ↔ _
  rw [Int.toNat_natCast]
  unfold AtP
  constructor
  · rintro ⟨h1, h2⟩; exact ⟨by omega, h2⟩
  · rintro ⟨h1, h2⟩; exact ⟨by omega, h2⟩
theorem he_count {p : PrefixT} (h0 : 0 ≤ p.2.1) {m : Mp} {a : Int} {d : Nat} (h : Vp a d) : (AtP p a d → (he m (kp a d) a d).countP (cv p) = hc m (kp p.1 d)) ∧ (¬ AtP p a d → (he m (kp a d) a d).countP (cv p) = 0) := by
  unfold he hc
  constructor
  · intro hA
    rw [← hA.2]
    cases m (kp a d) with
    | none => rfl
    | some v => rw [List.countP_cons, List.countP_nil, if_pos ((cv_iff h0 h).2 hA)]
  · intro hA
    cases m (kp a d) with
    | none => rfl
    | some v => rw [List.countP_cons, List.countP_nil, if_neg fun h1 => hA ((cv_iff h0 h).1 h1)]
theorem atp_down {p : PrefixT} {a a' : Int} {d : Nat} {b : Bool} (e : b :: kp a d = kp a' (d + 1)) : AtP p a' (d + 1) ↔ AtP p a d ∧ d < p.2.1.toNat ∧ ab p.1 d = b := by
  unfold AtP
  rw [← e]
  show d + 1 ≤ p.2.1.toNat ∧ b :: kp a d = ab p.1 d :: kp p.1 d ↔ _
  simp only [List.cons.injEq]
  constructor
  · rintro ⟨h1, h2, h3⟩; exact ⟨⟨by omega, h3⟩, by omega, h2.symm⟩
  · rintro ⟨⟨_, h3⟩, h1, h2⟩; exact ⟨by omega, h2.symm, h3⟩
theorem count_En {m : Mp} {p : PrefixT} (h0 : 0 ≤ p.2.1) (h32 : p.2.1.toNat ≤ 32) : ∀ (k : Nat) (a : Int) (d : Nat), Vp a d → d + k = 32 →
    (AtP p a d → (En m k (kp a d) a d).countP (cv p) + (cov m p.1 d).length = (cov m p.1 (p.2.1.toNat + 1)).length) ∧ (¬ AtP p a d → (En m k (kp a d) a d).countP (cv p) = 0)
  | 0, a, d, hv, hk => by
    refine ⟨fun hA => ?_, (he_count h0 hv).2⟩
    have h1 := (he_count (m := m) h0 hv).1 hA
    have : d = p.2.1.toNat := by have := hA.1; omega
    show (he m (kp a d) a d).countP (cv p) + _ = _
    rw [h1, ← this, cov_next]; omega
  | k + 1, a, d, hv, hk => by
    have hd : d < 32 := by omega
    have e0 := kp_lo hv hd
    have e1 := kp_hi (a := a) hd
    have i0 := count_En (m := m) (p := p) h0 h32 k a (d + 1) (hv.lo hd) (by omega)
    have i1 := count_En (m := m) (p := p) h0 h32 k (hi32 a d) (d + 1) (hv.hi hd) (by omega)
    rw [← e0] at i0
    rw [← e1] at i1
    have d0 := atp_down (p := p) e0
    have d1 := atp_down (p := p) e1
    simp only [En, List.countP_append]
    refine ⟨fun hA => ?_, fun hA => ?_⟩
    · have h1 := (he_count (m := m) h0 hv).1 hA
      have h2 := cov_next m p.1 d
      by_cases hdn : d < p.2.1.toNat
      · cases hb : ab p.1 d with
        | false =>
          have a0 := i0.1 (d0.2 ⟨hA, hdn, hb⟩)
          have a1 := i1.2 fun h => by have := (d1.1 h).2.2; rw [hb] at this; cases this
          omega
        | true =>
          have a0 := i0.2 fun h => by have := (d0.1 h).2.2; rw [hb] at this; cases this
          have a1 := i1.1 (d1.2 ⟨hA, hdn, hb⟩)
          omega
      · have a0 := i0.2 fun h => hdn (d0.1 h).2.1
        have a1 := i1.2 fun h => hdn (d1.1 h).2.1
        have : d = p.2.1.toNat := by have := hA.1; omega
        rw [← this]
        omega
    · have h1 := (he_count (m := m) h0 hv).2 hA
      have a0 := i0.2 fun h => hA (d0.1 h).1
      have a1 := i1.2 fun h => hA (d1.1 h).1
      omega

theorem true_law4_TrieCovers (l : List TableEntryT) (p : PrefixT) (hw : VSs.wf e_law4_TrieCovers.A (l, p, ())) : g_law4_TrieCovers l p = true := by
  have hwl : Cell.wf (.sl TableEntryS) l := hw.1
  have hu : u32 p.1 := u32_of hw.2.1.1
  unfold g_law4_TrieCovers
  cases hg : ((decide ((l.length : Int) > 40)) || (!(g_r4_Valid p))) with
  | true => rfl
  | false =>
    obtain ⟨hl, hv⟩ := tc_0 hg
    rw [rvalid_eq] at hv
    obtain ⟨h0, hvp⟩ := key_vp hu hv
    have h32 : p.2.1.toNat ≤ 32 := hvp.le
    have R := bR false hwl hl
    have hS := bS false hwl hl
    have hc14 := cover_eq R hu hv
    have hv32 : g_addr_Valid (p.1, 32, ()) = true := (valid_iff (p := (p.1, 32, ())) hu).2 ⟨(by show (0 : Int) ≤ 32; decide), ⟨hu, (by show (32 : Int).toNat ≤ 32; decide), fun i h1 h2 => absurd h1 (by show ¬ (32 : Int).toNat ≤ i; simp; omega)⟩⟩
    have hc32 : g_fn_14 (g_law4_built l false).1 (g_law4_built l false).2 (p.1, 32, ()) = cov (bM l false) p.1 33 := cover_eq R (p := (p.1, 32, ())) hu hv32
    have hlk := lookup_eq R hu
    have hE := ent_eq R
    have hEl := ent_len R
    simp only [cond_false]
    unfold S_law4_TrieCovers_0
    refine (upV_none _ _ fun c _ hc => ?_).trans ?_
    · rw [hc14] at hc ⊢
      have hlt : c < (cov (bM l false) p.1 (p.2.1.toNat + 1)).length := by omega
      obtain ⟨i, i1, i2, v, i3⟩ := cov_mem (getD_mem hlt PrefixD)
      have hi : i ≤ 32 := by omega
      rw [net_eq p.1 hi] at i2
      have hget := get_yes R (p := (cut32 p.1 i, (i : Int), ())) (u32_iand _ _) (net_valid p.1 hi) (v := v) (by rw [net_key p.1 hi]; exact i3)
      have hcv : g_r4_Covers (cut32 p.1 i, (i : Int), ()) p = true := (cv_iff (v := 0) h0 (vp_cut p.1 hi)).2 ⟨by omega, kp_cut p.1 hi⟩
      rw [i2, hget, hcv]
      simp only [Bool.not_true, Bool.or_false, Bool.false_or]
      cases hc0 : decide ((c : Int) > 0) with
      | false => rfl
      | true =>
        have hc0 := of_decide_eq_true hc0
        have hlen := cov_len (bM l false) p.1 (p.2.1.toNat + 1)
        rw [Bool.true_and, Nat.zero_add, w64 (by omega) (by omega), show ((c : Int) - 1).toNat = c - 1 by omega]
        have hpw := List.pairwise_iff_getElem.1 (cov_pw (m := bM l false) (a := p.1) (c := p.2.1.toNat + 1) (by omega)) (c - 1) c (by omega) hlt (by omega)
        have e1 : List.getD (cov (bM l false) p.1 (p.2.1.toNat + 1)) (c - 1) PrefixD = (cov (bM l false) p.1 (p.2.1.toNat + 1))[c - 1]'(by omega) := by simp [List.getD, show c - 1 < (cov (bM l false) p.1 (p.2.1.toNat + 1)).length by omega]
        have e2 : List.getD (cov (bM l false) p.1 (p.2.1.toNat + 1)) c PrefixD = (cov (bM l false) p.1 (p.2.1.toNat + 1))[c]'hlt := by simp [List.getD, hlt]
        rw [e1]
        rw [← e2, i2] at hpw
        exact decide_eq_false (by simp only at hpw ⊢; omega)
    · unfold S_law4_TrieCovers_1
      have hlen40 : (g_fn_16 (g_law4_built l false).1 (g_law4_built l false).2).length ≤ 40 := by omega
      have key := upS_to (S := Int) (R := Bool) (n := (g_fn_16 (g_law4_built l false).1 (g_law4_built l false).2).length) (s := fun c => (((((g_fn_16 (g_law4_built l false).1 (g_law4_built l false).2).take c).countP (cv p) : Nat)) : Int))
        (body := fun c1 (v0 : Int) => fun (next1 : Int → Bool) => cond (g_r4_Covers ((List.getD (g_fn_16 (g_law4_built l false).1 (g_law4_built l false).2) c1 TableEntryD).1, (List.getD (g_fn_16 (g_law4_built l false).1 (g_law4_built l false).2) c1 TableEntryD).2.1, ()) p) (next1 (IntKind.wrap .i64 (v0 + 1))) (next1 v0))
        (rest := fun (v0 : Int) => ((((v0 == ((g_fn_14 (g_law4_built l false).1 (g_law4_built l false).2 p).length : Int)) && ((g_fn_9 (g_law4_built l false).1 (g_law4_built l false).2 p.1).2.2.1 == (decide (((g_fn_14 (g_law4_built l false).1 (g_law4_built l false).2 (p.1, 32, ())).length : Int) > 0)))) && ((!(g_fn_9 (g_law4_built l false).1 (g_law4_built l false).2 p.1).2.2.1) || (((List.getD (g_fn_14 (g_law4_built l false).1 (g_law4_built l false).2 (p.1, 32, ())) (0 + (Int.toNat (IntKind.wrap .i64 (((g_fn_14 (g_law4_built l false).1 (g_law4_built l false).2 (p.1, 32, ())).length : Int) - 1)))) PrefixD).1 == (g_fn_9 (g_law4_built l false).1 (g_law4_built l false).2 p.1).1.1) && ((List.getD (g_fn_14 (g_law4_built l false).1 (g_law4_built l false).2 (p.1, 32, ())) (0 + (Int.toNat (IntKind.wrap .i64 (((g_fn_14 (g_law4_built l false).1 (g_law4_built l false).2 (p.1, 32, ())).length : Int) - 1)))) PrefixD).2.1 == (g_fn_9 (g_law4_built l false).1 (g_law4_built l false).2 p.1).1.2.1)))) && g_law4_sane))
        (fun c hc next => by
          have htk : (g_fn_16 (g_law4_built l false).1 (g_law4_built l false).2).take (c + 1) = (g_fn_16 (g_law4_built l false).1 (g_law4_built l false).2).take c ++ [List.getD (g_fn_16 (g_law4_built l false).1 (g_law4_built l false).2) c TableEntryD] := by
            rw [List.take_add_one, List.getElem?_eq_getElem hc]; simp [List.getD, hc]
          have hle : ((g_fn_16 (g_law4_built l false).1 (g_law4_built l false).2).take c).countP (cv p) ≤ 40 := Nat.le_trans List.countP_le_length (by rw [List.length_take]; omega)
          simp only [htk, List.countP_append, List.countP_cons, List.countP_nil, Nat.zero_add]
          show cond (cv p (List.getD (g_fn_16 (g_law4_built l false).1 (g_law4_built l false).2) c TableEntryD)) _ _ = _
          cases cv p (List.getD (g_fn_16 (g_law4_built l false).1 (g_law4_built l false).2) c TableEntryD) with
          | true =>
            simp only [cond_true, if_true]
            rw [w64 (by omega) (by omega)]
            congr 1
          | false => simp) (g_fn_16 (g_law4_built l false).1 (g_law4_built l false).2).length 0 (by omega)
      refine Eq.trans (show _ = _ from key) ?_
      simp only [List.take_length]
      have hcount := (count_En (m := bM l false) (p := p) h0 h32 32 0 0 vp0 (by omega)).1 ⟨Nat.zero_le _, rfl⟩
      have hcount : (g_fn_16 (g_law4_built l false).1 (g_law4_built l false).2).countP (cv p) = (cov (bM l false) p.1 (p.2.1.toNat + 1)).length := by
        rw [hE]
        have h8 : (En (bM l false) 32 [] 0 0).countP (cv p) + 0 = (cov (bM l false) p.1 (p.2.1.toNat + 1)).length := hcount
        omega
      have hcb := cov_best (m := bM l false) (a := p.1) (c := 33)
      rw [hcount, hc14, hc32, hlk, sane_true]
      cases hb : best (bM l false) p.1 33 with
      | none =>
        rw [hb] at hcb
        rw [show cov (bM l false) p.1 33 = [] from hcb]
        simp [resL]
      | some x =>
        obtain ⟨n, v⟩ := x
        rw [hb] at hcb
        obtain ⟨pre, hpre⟩ := hcb
        have hpl := cov_len (bM l false) p.1 33
        rw [hpre, List.length_append, List.length_cons, List.length_nil] at hpl
        rw [hpre]
        have e1 : (0 + (Int.toNat (IntKind.wrap .i64 ((((pre ++ [g_addr_Network p.1 (n : Int)]).length : Nat) : Int) - 1)))) = pre.length := by
          rw [List.length_append, List.length_cons, List.length_nil, w64 (by omega) (by omega)]; omega
        rw [e1]
        have e2 : List.getD (pre ++ [g_addr_Network p.1 (n : Int)]) pre.length PrefixD = g_addr_Network p.1 (n : Int) := by simp [List.getD]
        rw [e2]
        have e3 : decide (((((pre ++ [g_addr_Network p.1 (n : Int)]).length : Nat)) : Int) > 0) = true := decide_eq_true (by rw [List.length_append]; simp)
        rw [e3]
        simp [resL]
end Go.Proofs.Ythjhlpbiljpccaa
