/-
  The table's laws, in plain Lean.
-/
import Derived.Test.YthjhlpbiljpccaaAmTh
namespace Go.Proofs.Ythjhlpbiljpccaa
open Go Go.AM

theorem sane_true : g_law4_sane = true := by decide +kernel

/-! ### The longest prefix -/
theorem best_some {m : Mp} {a : Int} : ∀ {c n : Nat} {v : Int}, best m a c = some (n, v) → n < c ∧ m (kp a n) = some v ∧ ∀ j, n < j → j < c → m (kp a j) = none
  | 0, _, _, h => by cases h
  | c + 1, n, v, h => by
    simp only [best] at h
    cases hm : m (kp a c) with
    | some w => rw [hm] at h; cases h; exact ⟨Nat.lt_succ_self _, hm, fun j h1 h2 => by omega⟩
    | none =>
      rw [hm] at h
      obtain ⟨h1, h2, h3⟩ := best_some h
      exact ⟨by omega, h2, fun j h4 h5 => by
        by_cases hj : j = c
        · subst hj; exact hm
        · exact h3 j h4 (by omega)⟩
theorem best_none {m : Mp} {a : Int} : ∀ {c : Nat}, best m a c = none → ∀ j, j < c → m (kp a j) = none
  | 0, _, j, h => absurd h (Nat.not_lt_zero j)
  | c + 1, h, j, hj => by
    simp only [best] at h
    cases hm : m (kp a c) with
    | some w => rw [hm] at h; cases h
    | none =>
      rw [hm] at h
      by_cases hjc : j = c
      · subst hjc; exact hm
      · exact best_none h j (by omega)
theorem net_valid (a : Int) {n : Nat} (hn : n ≤ 32) : g_addr_Valid (cut32 a n, (n : Int), ()) = true := (valid_iff (p := (cut32 a n, (n : Int), ())) (u32_iand _ _)).2 ⟨by show 0 ≤ (n : Int); omega, by simpa using vp_cut a hn⟩
theorem net_key (a : Int) {n : Nat} (hn : n ≤ 32) : key (cut32 a n, (n : Int), ()) = kp a n := by show kp (cut32 a n) (n : Int).toNat = _; rw [Int.toNat_natCast, kp_cut a hn]
theorem getD_map {l : List TableEntryT} {c : Nat} (hc : c < l.length) : l.getD c TableEntryD ∈ l := getD_mem hc _

theorem true_law4_TrieLongest (l : List TableEntryT) (a : Int) (hw : VSs.wf e_law4_TrieLongest.A (l, a, ())) : g_law4_TrieLongest l a = true := by
  have hwl : Cell.wf (.sl TableEntryS) l := hw.1
  have hu : u32 a := u32_of hw.2.1
  unfold g_law4_TrieLongest
  cases h40 : decide ((l.length : Int) > 40) with
  | true => rfl
  | false =>
    have hl : l.length ≤ 40 := by have := of_decide_eq_false h40; omega
    have R := bR false hwl hl
    have hlk := lookup_eq R hu
    simp only [cond_false]
    -- what an entry that contains the address says
    have ent : ∀ e ∈ l, g_r4_Valid (e.1, e.2.1, ()) = true → g_r4_Contains (e.1, e.2.1, ()) a = true → ∃ n : Nat, e.2.1 = (n : Int) ∧ n < 33 ∧ bM l false (kp a n) ≠ none := fun e he hv hc => by
      rw [rvalid_eq] at hv
      obtain ⟨h0, hvp⟩ := key_vp (p := (e.1, e.2.1, ())) (u32_ents hwl e he) hv
      have hk := (contains_iff (p := (e.1, e.2.1, ())) h0 hvp).1 hc
      obtain ⟨v, hv2⟩ := bM_mem (back := false) he hv
      have hle := hvp.le
      refine ⟨e.2.1.toNat, by simp only at h0; omega, by simp only at hle; omega, ?_⟩
      rw [hk] at hv2
      rw [hv2]; exact fun h => by cases h
    cases hb : best (bM l false) a 33 with
    | none =>
      rw [hb] at hlk
      have e1 : (g_fn_9 (g_law4_built l false).1 (g_law4_built l false).2 a).2.2.1 = false := by rw [hlk]; rfl
      rw [e1]
      simp only [Bool.false_and, cond_false]
      unfold S_law4_TrieLongest_0
      refine (upV_none _ _ fun c _ hc => ?_).trans sane_true
      have hmem := getD_map (l := l) (c := c) (by omega)
      cases hv : g_r4_Valid ((List.getD l c TableEntryD).1, (List.getD l c TableEntryD).2.1, ()) with
      | false => rfl
      | true =>
        cases hct : g_r4_Contains ((List.getD l c TableEntryD).1, (List.getD l c TableEntryD).2.1, ()) a with
        | false => rfl
        | true =>
          obtain ⟨n, _, h2, h3⟩ := ent _ hmem hv hct
          exact absurd (best_none hb n h2) h3
    | some x =>
      obtain ⟨n, v⟩ := x
      obtain ⟨b1, b2, b3⟩ := best_some hb
      rw [hb] at hlk
      have hn : n ≤ 32 := by omega
      have hlk : g_fn_9 (g_law4_built l false).1 (g_law4_built l false).2 a = ((cut32 a n, (n : Int), ()), v, true, ()) := by rw [hlk]; simp only [resL, net_eq a hn]
      have hget := get_yes R (p := (cut32 a n, (n : Int), ())) (u32_iand _ _) (net_valid a hn) (v := v) (by rw [net_key a hn]; exact b2)
      have hct : g_r4_Contains (cut32 a n, (n : Int), ()) a = true := (contains_iff (p := (cut32 a n, (n : Int), ())) (by show 0 ≤ (n : Int); omega) (by simpa using vp_cut a hn)).2 (by rw [net_key a hn]; simp)
      rw [hlk]
      simp only [hget, hct, Bool.not_true, Bool.or_false, bne_self_eq_false, Bool.and_false, cond_false]
      unfold S_law4_TrieLongest_0
      refine (upV_none _ _ fun c _ hc => ?_).trans sane_true
      have hmem := getD_map (l := l) (c := c) (by omega)
      rw [hlk]
      cases hv : g_r4_Valid ((List.getD l c TableEntryD).1, (List.getD l c TableEntryD).2.1, ()) with
      | false => rfl
      | true =>
        cases hct : g_r4_Contains ((List.getD l c TableEntryD).1, (List.getD l c TableEntryD).2.1, ()) a with
        | false => rfl
        | true =>
          obtain ⟨j, h1, h2, h3⟩ := ent _ hmem hv hct
          have hjn : j ≤ n := Classical.byContradiction fun h => h3 (b3 j (by omega) h2)
          simp only [Bool.not_true, Bool.false_or, Bool.true_and, decide_eq_false_iff_not, h1]
          omega

/-! ### The entries alike -/
theorem keep_self (l : List TableEntryT) : g_keep_Entries l l = true := by
  unfold g_keep_Entries
  rw [bne_self_eq_false]
  exact upV_none _ _ fun c _ _ => by simp
theorem seg_self (l : List TableEntryT) : segL l 0 l.length = l := by simp [segL]

theorem true_law4_TrieDeletes (l : List TableEntryT) (k : Int) (hw : VSs.wf e_law4_TrieDeletes.A (l, k, ())) : g_law4_TrieDeletes l k = true := by
  have hwl : Cell.wf (.sl TableEntryS) l := hw.1
  unfold g_law4_TrieDeletes
  cases hg : ((((decide ((l.length : Int) > 30)) || (decide (k < 0))) || (decide (k ≥ (l.length : Int)))) || (!(g_r4_Valid (tdK l k)))) with
  | true => rfl
  | false =>
    obtain ⟨v, hmv, t⟩ := td_all hwl hg
    obtain ⟨h1, h2, h3, h4⟩ := td_0 hg
    have R := bR false hwl (td_len hg)
    have hS := bS false hwl (td_len hg)
    have hmemk : List.getD l (Int.toNat k) TableEntryD ∈ l := getD_mem (by omega) _
    have huk : u32 (tdK l k).1 := u32_ents hwl _ hmemk
    rw [rvalid_eq] at h4
    show cond (((!(g_fn_10 (g_law4_built l false).1 (g_law4_built l false).2 (tdK l k)).2.1) || (!(g_fn_18 (g_law4_built l false).1 (g_law4_built l false).2 (tdK l k)).1)) || (g_fn_18 (tdA (g_law4_built l false).1 (g_law4_built l false).2 (tdK l k)) (tdB (g_law4_built l false).1 (g_law4_built l false).2 (tdK l k)) (tdK l k)).1) false
      (cond ((g_fn_10 (td2 (g_law4_built l false).1 (g_law4_built l false).2 (tdK l k)) (td1 (g_law4_built l false).1 (g_law4_built l false).2 (tdK l k)) (tdK l k)).2.1 || ((g_fn_20 (td2 (g_law4_built l false).1 (g_law4_built l false).2 (tdK l k)) (td1 (g_law4_built l false).1 (g_law4_built l false).2 (tdK l k))) != (IntKind.wrap .i64 (((g_fn_16 (g_law4_built l false).1 (g_law4_built l false).2).length : Int) - 1)))) false (S_law4_TrieDeletes_0 l k)) = true
    have e1 : (g_fn_10 (g_law4_built l false).1 (g_law4_built l false).2 (tdK l k)).2.1 = true := by rw [t.get]
    have hk0 : (upd (bM l false) (key (tdK l k)) none) (key (tdK l k)) = none := by simp [upd]
    have e2 := get_no t.rep huk fun _ => hk0
    have hel := ent_len R
    have hcz := R.sz
    have e3 : g_fn_20 (td2 (g_law4_built l false).1 (g_law4_built l false).2 (tdK l k)) (td1 (g_law4_built l false).1 (g_law4_built l false).2 (tdK l k)) = IntKind.wrap .i64 (((g_fn_16 (g_law4_built l false).1 (g_law4_built l false).2).length : Int) - 1) := by
      show td1 _ _ _ = _
      rw [t.szd, hel, w64 (by omega) (by omega)]
    rw [e1, t.del, t.del2, e2, e3]
    simp only [Bool.not_true, Bool.or_false, bne_self_eq_false, cond_false]
    show upV (fun c0 next0 => cond ((!(((List.getD (g_fn_16 (g_law4_built l false).1 (g_law4_built l false).2) c0 TableEntryD).1 == (List.getD l (Int.toNat k) TableEntryD).1) && ((List.getD (g_fn_16 (g_law4_built l false).1 (g_law4_built l false).2) c0 TableEntryD).2.1 == (List.getD l (Int.toNat k) TableEntryD).2.1))) && ((!(g_fn_10 (td2 (g_law4_built l false).1 (g_law4_built l false).2 (tdK l k)) (td1 (g_law4_built l false).1 (g_law4_built l false).2 (tdK l k)) ((List.getD (g_fn_16 (g_law4_built l false).1 (g_law4_built l false).2) c0 TableEntryD).1, (List.getD (g_fn_16 (g_law4_built l false).1 (g_law4_built l false).2) c0 TableEntryD).2.1, ())).2.1) || ((g_fn_10 (td2 (g_law4_built l false).1 (g_law4_built l false).2 (tdK l k)) (td1 (g_law4_built l false).1 (g_law4_built l false).2 (tdK l k)) ((List.getD (g_fn_16 (g_law4_built l false).1 (g_law4_built l false).2) c0 TableEntryD).1, (List.getD (g_fn_16 (g_law4_built l false).1 (g_law4_built l false).2) c0 TableEntryD).2.1, ())).1 != (List.getD (g_fn_16 (g_law4_built l false).1 (g_law4_built l false).2) c0 TableEntryD).2.2.1))) false next0)
      ((((g_fn_17 (td2 (g_law4_built l false).1 (g_law4_built l false).2 (tdK l k)) (td1 (g_law4_built l false).1 (g_law4_built l false).2 (tdK l k)) (tdK l k) (g_fn_10 (g_law4_built l false).1 (g_law4_built l false).2 (tdK l k)).1).1 && (g_keep_Entries (segL (g_fn_16 (g_fn_17 (td2 (g_law4_built l false).1 (g_law4_built l false).2 (tdK l k)) (td1 (g_law4_built l false).1 (g_law4_built l false).2 (tdK l k)) (tdK l k) (g_fn_10 (g_law4_built l false).1 (g_law4_built l false).2 (tdK l k)).1).2.1 (g_fn_17 (td2 (g_law4_built l false).1 (g_law4_built l false).2 (tdK l k)) (td1 (g_law4_built l false).1 (g_law4_built l false).2 (tdK l k)) (tdK l k) (g_fn_10 (g_law4_built l false).1 (g_law4_built l false).2 (tdK l k)).1).2.2) 0 (g_fn_16 (g_fn_17 (td2 (g_law4_built l false).1 (g_law4_built l false).2 (tdK l k)) (td1 (g_law4_built l false).1 (g_law4_built l false).2 (tdK l k)) (tdK l k) (g_fn_10 (g_law4_built l false).1 (g_law4_built l false).2 (tdK l k)).1).2.1 (g_fn_17 (td2 (g_law4_built l false).1 (g_law4_built l false).2 (tdK l k)) (td1 (g_law4_built l false).1 (g_law4_built l false).2 (tdK l k)) (tdK l k) (g_fn_10 (g_law4_built l false).1 (g_law4_built l false).2 (tdK l k)).1).2.2).length) (segL (g_fn_16 (g_law4_built l false).1 (g_law4_built l false).2) 0 (g_fn_16 (g_law4_built l false).1 (g_law4_built l false).2).length))) && g_law4_sane)) ((g_fn_16 (g_law4_built l false).1 (g_law4_built l false).2).length - 0) 0 = true
    refine (upV_none _ _ fun c _ hc => ?_).trans ?_
    · have hmem : List.getD (g_fn_16 (g_law4_built l false).1 (g_law4_built l false).2) c TableEntryD ∈ g_fn_16 (g_law4_built l false).1 (g_law4_built l false).2 := getD_mem (by omega) _
      generalize List.getD (g_fn_16 (g_law4_built l false).1 (g_law4_built l false).2) c TableEntryD = e at hmem
      rw [ent_eq R] at hmem
      obtain ⟨j, j1, j2, j3⟩ := En_mem 32 0 0 vp0 (by omega) e hmem
      cases hs : ((e.1 == (List.getD l (Int.toNat k) TableEntryD).1) && (e.2.1 == (List.getD l (Int.toNat k) TableEntryD).2.1)) with
      | true => rfl
      | false =>
        have hve : g_addr_Valid (e.1, e.2.1, ()) = true := (valid_iff (p := (e.1, e.2.1, ())) j2.u).2 ⟨by show 0 ≤ e.2.1; omega, by show Vp e.1 e.2.1.toNat; rw [j1, Int.toNat_natCast]; exact j2⟩
        have hke : key (e.1, e.2.1, ()) = kp e.1 j := by show kp e.1 e.2.1.toNat = _; rw [j1, Int.toNat_natCast]
        have hne : key (e.1, e.2.1, ()) ≠ key (tdK l k) := fun hk => by
          obtain ⟨q1, q2⟩ := key_vp huk h4
          have := j2.inj q2 (by rw [← hke]; exact hk)
          have a1 : e.1 = (List.getD l (Int.toNat k) TableEntryD).1 := this.1
          have a2 : e.2.1 = (List.getD l (Int.toNat k) TableEntryD).2.1 := by
            have := this.2; have q1 : 0 ≤ (List.getD l (Int.toNat k) TableEntryD).2.1 := q1
            show e.2.1 = _
            rw [j1, this]
            show (((List.getD l (Int.toNat k) TableEntryD).2.1.toNat : Nat) : Int) = _
            omega
          rw [a1, a2] at hs
          simp at hs
        have hval : (upd (bM l false) (key (tdK l k)) none) (key (e.1, e.2.1, ())) = some e.2.2.1 := by
          unfold upd; rw [if_neg hne, hke]; exact j3
        rw [get_yes t.rep j2.u hve hval]
        simp
    · rw [t.ins, seg_self, seg_self, ent_eq t.back, ent_eq R, keep_self, sane_true]; rfl

/-! ### The order of insertion -/
theorem fold_out {q : List Bool} : ∀ (l : List TableEntryT) {m : Mp}, (∀ e ∈ l, g_addr_Valid (e.1, e.2.1, ()) = true → key (e.1, e.2.1, ()) ≠ q) → l.foldl insM m q = m q
  | [], _, _ => rfl
  | e :: l, m, h => by
    rw [List.foldl_cons, fold_out l fun d hd => h d (List.mem_cons_of_mem _ hd)]
    unfold insM
    cases hv : g_addr_Valid (e.1, e.2.1, ()) with
    | false => rfl
    | true =>
      have := h e (List.mem_cons_self ..) hv
      simp only [cond_true, upd]
      rw [if_neg fun h => this h.symm]
def Apart (x y : TableEntryT) : Prop := ¬ (x.1 = y.1 ∧ x.2.1 = y.2.1)
theorem fold_in {q : List Bool} {e : TableEntryT} (hv : g_addr_Valid (e.1, e.2.1, ()) = true) (hq : key (e.1, e.2.1, ()) = q) : ∀ (l : List TableEntryT) {m : Mp}, (∀ d ∈ l, u32 d.1) → u32 e.1 → l.Pairwise Apart → e ∈ l → l.foldl insM m q = some e.2.2.1
  | [], _, _, _, _, h => by cases h
  | d :: l, m, hu, hue, hp, h => by
    rw [List.foldl_cons]
    have hp1 : ∀ {x : TableEntryT}, x ∈ l → Apart d x := fun hx => List.rel_of_pairwise_cons hp hx
    rcases List.mem_cons.1 h with rfl | h
    · rw [fold_out l fun d hd hvd hk => ?_]
      · unfold insM; rw [hv]; simp only [cond_true, upd]; rw [if_pos hq.symm]
      · have h1 := key_vp (p := (d.1, d.2.1, ())) (hu d (List.mem_cons_of_mem _ hd)) hvd
        have h2 := key_vp (p := (e.1, e.2.1, ())) hue hv
        have := h2.2.inj h1.2 (hq.trans hk.symm)
        have h3 : 0 ≤ d.2.1 := h1.1
        have h4 : 0 ≤ e.2.1 := h2.1
        have h5 : e.2.1.toNat = d.2.1.toNat := this.2
        exact hp1 hd ⟨this.1, by omega⟩
    · exact fold_in hv hq l (fun d hd => hu d (List.mem_cons_of_mem _ hd)) hue (List.Pairwise.of_cons hp) h
theorem bM_back {l : List TableEntryT} (hu : ∀ e ∈ l, u32 e.1) (hp : l.Pairwise Apart) : bM l false = bM l true := by
  have hpr : l.reverse.Pairwise Apart := List.pairwise_reverse.2 (hp.imp fun {x y} h h2 => h ⟨h2.1.symm, h2.2.symm⟩)
  have hur : ∀ e ∈ l.reverse, u32 e.1 := fun e he => hu e (List.mem_reverse.1 he)
  funext q
  show l.foldl insM (fun _ => none) q = l.reverse.foldl insM (fun _ => none) q
  by_cases h : ∃ e ∈ l, g_addr_Valid (e.1, e.2.1, ()) = true ∧ key (e.1, e.2.1, ()) = q
  · obtain ⟨e, he, hv, hk⟩ := h
    rw [fold_in hv hk l hu (hu e he) hp he, fold_in hv hk l.reverse hur (hu e he) hpr (List.mem_reverse.2 he)]
  · rw [fold_out l fun e he hv hk => h ⟨e, he, hv, hk⟩, fold_out l.reverse fun e he hv hk => h ⟨e, List.mem_reverse.1 he, hv, hk⟩]
theorem upV_true {b : Nat → Bool → Bool} (hb : ∀ c x, x = true → b c x = true) {r : Bool} {c0 : Nat} (h0 : ∀ x, b c0 x = true) : ∀ (m s : Nat), s ≤ c0 → c0 < s + m → upV b r m s = true
  | 0, s, h1, h2 => by omega
  | m + 1, s, h1, h2 => by
    show b s _ = true
    by_cases hs : s = c0
    · subst hs; exact h0 _
    · exact hb s _ (upV_true hb h0 m (s + 1) (by omega) (by omega))

theorem true_law4_TrieOrder (l : List TableEntryT) (extra : List PrefixT) (a : Int) (hw : VSs.wf e_law4_TrieOrder.A (l, extra, a, ())) : g_law4_TrieOrder l extra a = true := by
  have hwl : Cell.wf (.sl TableEntryS) l := hw.1
  have hwe : Cell.wf (.sl PrefixS) extra := hw.2.1
  have hu : u32 a := u32_of hw.2.2.1
  unfold g_law4_TrieOrder
  cases hg : ((decide ((l.length : Int) > 30)) || (decide ((extra.length : Int) > 20))) with
  | true => rfl
  | false =>
    have hl := ord_0 hg
    simp only [cond_false]
    unfold S_law4_TrieOrder_0
    have same : ∀ (c : Nat) (x : Bool), x = true → S_law4_TrieOrder_1 l extra a c x = true := fun c x hx => by
      unfold S_law4_TrieOrder_1
      exact upV_ind (P := fun x => x = true) hx _ _ fun c1 _ _ y hy => by rw [hy]; cases ((List.getD l c TableEntryD).1 == (List.getD l c1 TableEntryD).1) && ((List.getD l c TableEntryD).2.1 == (List.getD l c1 TableEntryD).2.1) <;> rfl
    by_cases hp : l.Pairwise Apart
    · refine upV_ind (P := fun x => x = true) ?_ _ _ fun c _ _ x hx => same c x hx
      have R := bR false hwl hl
      have step := upS_inv (S := (List Nd) × Int) (R := Bool) (n := extra.length - 0) (I := OrdI l)
        (body := fun c2 (s2 : (List Nd) × Int) => fun (next2 : ((List Nd) × Int) → Bool) => cond (((!(g_fn_10 s2.1 s2.2 (List.getD extra c2 PrefixD)).2.1) && (g_fn_17 s2.1 s2.2 (List.getD extra c2 PrefixD) 7).1) && (!(g_fn_18 (cond (((!(g_fn_10 s2.1 s2.2 (List.getD extra c2 PrefixD)).2.1) == true) && true) (g_fn_17 s2.1 s2.2 (List.getD extra c2 PrefixD) 7).2.1 s2.1) (cond (((!(g_fn_10 s2.1 s2.2 (List.getD extra c2 PrefixD)).2.1) == true) && true) (g_fn_17 s2.1 s2.2 (List.getD extra c2 PrefixD) 7).2.2 s2.2) (List.getD extra c2 PrefixD)).1)) false (next2 ((cond ((((!(g_fn_10 s2.1 s2.2 (List.getD extra c2 PrefixD)).2.1) && (g_fn_17 s2.1 s2.2 (List.getD extra c2 PrefixD) 7).1) == true) && true) (g_fn_18 (cond (((!(g_fn_10 s2.1 s2.2 (List.getD extra c2 PrefixD)).2.1) == true) && true) (g_fn_17 s2.1 s2.2 (List.getD extra c2 PrefixD) 7).2.1 s2.1) (cond (((!(g_fn_10 s2.1 s2.2 (List.getD extra c2 PrefixD)).2.1) == true) && true) (g_fn_17 s2.1 s2.2 (List.getD extra c2 PrefixD) 7).2.2 s2.2) (List.getD extra c2 PrefixD)).2.1 (cond (((!(g_fn_10 s2.1 s2.2 (List.getD extra c2 PrefixD)).2.1) == true) && true) (g_fn_17 s2.1 s2.2 (List.getD extra c2 PrefixD) 7).2.1 s2.1)), (cond ((((!(g_fn_10 s2.1 s2.2 (List.getD extra c2 PrefixD)).2.1) && (g_fn_17 s2.1 s2.2 (List.getD extra c2 PrefixD) 7).1) == true) && true) (g_fn_18 (cond (((!(g_fn_10 s2.1 s2.2 (List.getD extra c2 PrefixD)).2.1) == true) && true) (g_fn_17 s2.1 s2.2 (List.getD extra c2 PrefixD) 7).2.1 s2.1) (cond (((!(g_fn_10 s2.1 s2.2 (List.getD extra c2 PrefixD)).2.1) == true) && true) (g_fn_17 s2.1 s2.2 (List.getD extra c2 PrefixD) 7).2.2 s2.2) (List.getD extra c2 PrefixD)).2.2 (cond (((!(g_fn_10 s2.1 s2.2 (List.getD extra c2 PrefixD)).2.1) == true) && true) (g_fn_17 s2.1 s2.2 (List.getD extra c2 PrefixD) 7).2.2 s2.2)))))
        (rest := fun (s2 : (List Nd) × Int) => ((((((g_keep_Entries (segL (g_fn_16 (g_law4_built l false).1 (g_law4_built l false).2) 0 (g_fn_16 (g_law4_built l false).1 (g_law4_built l false).2).length) (segL (g_fn_16 s2.1 s2.2) 0 (g_fn_16 s2.1 s2.2).length)) && (((g_fn_9 (g_law4_built l false).1 (g_law4_built l false).2 a).1.1 == (g_fn_9 s2.1 s2.2 a).1.1) && ((g_fn_9 (g_law4_built l false).1 (g_law4_built l false).2 a).1.2.1 == (g_fn_9 s2.1 s2.2 a).1.2.1))) && ((g_fn_9 (g_law4_built l false).1 (g_law4_built l false).2 a).2.1 == (g_fn_9 s2.1 s2.2 a).2.1)) && ((g_fn_9 (g_law4_built l false).1 (g_law4_built l false).2 a).2.2.1 == (g_fn_9 s2.1 s2.2 a).2.2.1)) && ((g_fn_20 (g_law4_built l false).1 (g_law4_built l false).2) == (g_fn_20 s2.1 s2.2))) && g_law4_sane))
        (fun c hc s hI => by
          obtain ⟨o1, o2⟩ := ord_step hI.1 hI.2 (u32_pfxs hwe (show c < extra.length by omega))
          have hI' : OrdI l (c + 1) (_, _) := ⟨o2, Int.le_trans (Int.le_of_eq (rep_sz o2 hI.1)) hI.2⟩
          refine ⟨_, hI', fun next => ?_⟩
          show cond _ _ _ = _
          rw [o1]
          rfl) (extra.length - 0) 0 (by omega) ((g_law4_built l true).1, (g_law4_built l true).2) (ord_e hwl hl)
      obtain ⟨s', ⟨h1, _⟩, h3⟩ := step
      have e : S_law4_TrieOrder_2 l extra a (g_law4_built l true).1 (g_law4_built l true).2 = _ := h3
      rw [e]
      rw [← bM_back (u32_ents hwl) hp] at h1
      rw [seg_self, seg_self, ent_eq R, ent_eq h1, keep_self, lookup_eq R hu, lookup_eq h1 hu, sane_true]
      have : g_fn_20 (g_law4_built l false).1 (g_law4_built l false).2 = g_fn_20 s'.1 s'.2 := rep_sz R h1
      rw [this]
      simp
    · -- two entries with one prefix
      have hex : ∃ i j, j < i ∧ i < l.length ∧ (List.getD l i TableEntryD).1 = (List.getD l j TableEntryD).1 ∧ (List.getD l i TableEntryD).2.1 = (List.getD l j TableEntryD).2.1 := by
        apply Classical.byContradiction
        intro hno
        refine hp (List.pairwise_iff_getElem.2 fun j i hj hi hji hs => hno ⟨i, j, hji, hi, ?_, ?_⟩)
        · simp [List.getD, hi, hj, hs.1]
        · simp [List.getD, hi, hj, hs.2]
      obtain ⟨i, j, hji, hi, e1, e2⟩ := hex
      refine upV_true (c0 := i) same (fun x => ?_) _ _ (by omega) (by omega)
      unfold S_law4_TrieOrder_1
      refine upV_true (b := fun c1 next1 => cond (((List.getD l i TableEntryD).1 == (List.getD l c1 TableEntryD).1) && ((List.getD l i TableEntryD).2.1 == (List.getD l c1 TableEntryD).2.1)) true next1) (c0 := j) (fun c y hy => ?_) (fun y => ?_) _ _ (by omega) (by omega)
      · rw [hy]; cases ((List.getD l i TableEntryD).1 == (List.getD l c TableEntryD).1) && ((List.getD l i TableEntryD).2.1 == (List.getD l c TableEntryD).2.1) <;> rfl
      · simp only [e1, e2, beq_self_eq_true, Bool.and_self, cond_true]
end Go.Proofs.Ythjhlpbiljpccaa
