/-
  What the table's functions give, in terms of what the table holds.
-/
import Derived.Test.YthjhlpbiljpccaaAmG
namespace Go.Proofs.Ythjhlpbiljpccaa
open Go Go.AM

theorem upS_inv {S R : Type} {body : Nat → S → (S → R) → R} {rest : S → R} {n : Nat} {I : Nat → S → Prop} (hs : ∀ c, c < n → ∀ s, I c s → ∃ s', I (c + 1) s' ∧ ∀ next, body c s next = next s') : ∀ (m c : Nat), c + m = n → ∀ s, I c s → ∃ s', I n s' ∧ upS body rest m c s = rest s'
  | 0, c, h, s, hI => by
    obtain rfl : c = n := by omega
    exact ⟨s, hI, rfl⟩
  | m + 1, c, h, s, hI => by
    obtain ⟨s1, h1, h2⟩ := hs c (by omega) s hI
    obtain ⟨s2, h3, h4⟩ := upS_inv hs (rest := rest) m (c + 1) (by omega) s1 h1
    exact ⟨s2, h3, (h2 _).trans h4⟩
theorem upS_fin {S R : Type} {body : Nat → S → (S → R) → R} {rest : S → R} {N : Nat} {I : Nat → S → Prop} {P : R → Prop} (hs : ∀ c s, c < N → I c s → (∃ r, P r ∧ ∀ next, body c s next = r) ∨ ∃ s', I (c + 1) s' ∧ ∀ next, body c s next = next s') (hN : ∀ s, I N s → P (rest s)) :
    ∀ (m c : Nat), c + m = N → ∀ s, I c s → P (upS body rest m c s)
  | 0, c, h, s, hI => by
    obtain rfl : c = N := by omega
    exact hN s hI
  | m + 1, c, h, s, hI => by
    rcases hs c s (by omega) hI with ⟨r, h1, h2⟩ | ⟨s1, h1, h2⟩
    · show P (body c s _)
      rw [h2]; exact h1
    · show P (body c s _)
      rw [h2]
      exact upS_fin hs hN m (c + 1) (by omega) s1 h1

/-- What the table holds, and how many. -/
structure Rep (tr : List Nd) (sz : Int) (m : Mp) : Prop where
  good : Gd tr
  eq : ∀ q, tm tr q = m q
  dp : ∀ q, m q ≠ none → q.length ≤ 32
  sz : sz = (cnt m 32 [] : Int)

theorem gp_kp {a : Int} (ha : u32 a) {n : Nat} (hn : n ≤ 32) : gp a n = kp a n := pth_congr fun i hi => bit_ab ha (by omega)
/-- The key of a prefix. -/
abbrev key (p : PrefixT) : List Bool := kp p.1 p.2.1.toNat

theorem rep_new : Rep g_trie_New.1 g_trie_New.2 fun _ => none := by
  have h : ∀ q i, lok g_trie_New.1 q = some i → q = [] ∧ i = 0 := fun q => by
    induction q with
    | nil => intro i h; cases h; exact ⟨rfl, rfl⟩
    | cons b r ih =>
      intro i h
      obtain ⟨j, h1, h2⟩ := look_cons h
      obtain ⟨_, rfl⟩ := ih j h1
      cases b <;> cases h2
  refine ⟨⟨by decide, fun q i hq => by rw [(h q i hq).2]; decide, fun p q i hp hq => by rw [(h p i hp).1, (h q i hq).1]⟩, fun q => ?_, fun q hq => absurd rfl hq, ?_⟩
  · unfold tm
    cases hq : lok g_trie_New.1 q with
    | none => rfl
    | some i => obtain ⟨_, rfl⟩ := h q i hq; rfl
  · rw [cnt_zero 32 [] fun _ => rfl]; rfl

theorem hc_some {m : Mp} {q : List Bool} {v : Int} (h : m q = some v) : hc m q = 1 := by simp only [hc, h]
theorem hc_none {m : Mp} {q : List Bool} (h : m q = none) : hc m q = 0 := by simp only [hc, h]
theorem upd_dp {m : Mp} (hd : ∀ q, m q ≠ none → q.length ≤ 32) {q0 : List Bool} (h0 : q0.length ≤ 32) {v : Option Int} : ∀ q, upd m q0 v q ≠ none → q.length ≤ 32 := fun q h => by
  unfold upd at h
  by_cases hq : q = q0
  · rw [hq]; exact h0
  · rw [if_neg hq] at h; exact hd q h

theorem ins_no {tr : List Nd} {sz : Int} {p : PrefixT} {v : Int} (h : g_addr_Valid p = false) : g_fn_17 tr sz p v = (false, tr, sz) := by
  unfold g_fn_17; rw [h]; rfl
theorem ins_yes {tr : List Nd} {sz : Int} {m : Mp} (R : Rep tr sz m) {p : PrefixT} {v : Int} (hu : u32 p.1) (hsz : sz ≤ 1000000) (h : g_addr_Valid p = true) :
    (g_fn_17 tr sz p v).1 = true ∧ Rep (g_fn_17 tr sz p v).2.1 (g_fn_17 tr sz p v).2.2 (upd m (key p) (some v)) := by
  have hl := vlen h
  have hn : p.2.1.toNat ≤ 32 := by omega
  unfold g_fn_17
  simp only [h, Bool.not_true, cond_false]
  unfold S_fn_17_0
  have hstep := upS_inv (S := (Option Nat) × (List Nd)) (R := Bool × List Nd × Int) (n := p.2.1.toNat - 0) (I := fun c s => ∃ i, s.1 = some i ∧ lok s.2 (gp p.1 c) = some i ∧ Gd s.2 ∧ ∀ q, tm s.2 q = m q)
    (body := fun c0 (s0 : (Option Nat) × (List Nd)) => fun (next0 : ((Option Nat) × (List Nd)) → (Bool × List Nd × Int)) => cond (Option.isNone (Nd.ch (List.getD s0.2 (Option.getD s0.1 0) Nd.z) (g_trie_bit p.1 (c0 : Int)))) (next0 ((Nd.ch (List.getD ((List.set s0.2 (Option.getD s0.1 0) (Nd.put (List.getD s0.2 (Option.getD s0.1 0) Nd.z) (g_trie_bit p.1 (c0 : Int)) (some s0.2.length))) ++ [(Nd.mk none none false 0)]) (Option.getD s0.1 0) Nd.z) (g_trie_bit p.1 (c0 : Int))), ((List.set s0.2 (Option.getD s0.1 0) (Nd.put (List.getD s0.2 (Option.getD s0.1 0) Nd.z) (g_trie_bit p.1 (c0 : Int)) (some s0.2.length))) ++ [(Nd.mk none none false 0)]))) (next0 ((Nd.ch (List.getD s0.2 (Option.getD s0.1 0) Nd.z) (g_trie_bit p.1 (c0 : Int))), s0.2)))
    (rest := fun (s0 : (Option Nat) × (List Nd)) => cond (!(List.getD s0.2 (Option.getD s0.1 0) Nd.z).has) (true, (List.set (List.set s0.2 (Option.getD s0.1 0) (Nd.wHas (List.getD s0.2 (Option.getD s0.1 0) Nd.z) true)) (Option.getD s0.1 0) (Nd.wVal (List.getD (List.set s0.2 (Option.getD s0.1 0) (Nd.wHas (List.getD s0.2 (Option.getD s0.1 0) Nd.z) true)) (Option.getD s0.1 0) Nd.z) v)), (IntKind.wrap .i64 (sz + 1))) (true, (List.set s0.2 (Option.getD s0.1 0) (Nd.wVal (List.getD s0.2 (Option.getD s0.1 0) Nd.z) v)), sz))
    (fun c hc s hI => by
    obtain ⟨o, l⟩ := s
    obtain ⟨i, h1, h2, h3, h4⟩ := hI
    simp only at h1 h2 h3 h4
    subst h1
    simp only [Option.getD_some]
    cases hch : (Nd.ch (List.getD l i Nd.z) (g_trie_bit p.1 (c : Int))) with
    | none =>
      have hcb : (ndAt l i).cb (bz (g_trie_bit p.1 (c : Int))) = none := by rw [← ch_cb]; exact hch
      have hat := add_at h3 h2 hcb (y := Nd.mk none none false 0)
      have hnext : Nd.ch (List.getD (List.set l i (Nd.put (List.getD l i Nd.z) (g_trie_bit p.1 (c : Int)) (some l.length)) ++ [Nd.mk none none false 0]) i Nd.z) (g_trie_bit p.1 (c : Int)) = some l.length := by
        rw [ch_cb, ← look_snoc (add_old h3 h2 hcb (gp p.1 c) i h2)]; exact hat
      refine ⟨(some l.length, List.set l i (Nd.put (List.getD l i Nd.z) (g_trie_bit p.1 (c : Int)) (some l.length)) ++ [Nd.mk none none false 0]), ⟨l.length, rfl, hat, good_add h3 h2 rfl rfl, fun q => by rw [tm_add h3 h2 hcb rfl rfl rfl]; exact h4 q⟩, fun next => ?_⟩
      rw [hnext]; rfl
    | some j =>
      refine ⟨(some j, l), ⟨j, rfl, ?_, h3, h4⟩, fun next => rfl⟩
      rw [← look_next h2]; exact hch) (p.2.1.toNat - 0) 0 (by omega) (some 0, tr) ⟨0, rfl, rfl, R.good, R.eq⟩
  obtain ⟨s', ⟨i, h1, h2, h3, h4⟩, h5⟩ := hstep
  rw [h5]
  obtain ⟨o, l⟩ := s'
  simp only at h1 h2 h3 h4
  subst h1
  rw [Nat.sub_zero, gp_kp hu hn] at h2
  have hkl : (key p).length ≤ 32 := by rw [pth_len]; exact hn
  have hm : m (key p) = bif (ndAt l i).has then some (ndAt l i).val else none := by rw [← h4]; unfold tm; rw [h2]; rfl
  have hcu := cnt_upd (m := m) (q0 := key p) (v := some v) 32 [] (key p) (by simp) hkl
  have hR := R.sz
  simp only [Option.getD_some]
  cases hh : (List.getD l i Nd.z).has with
  | false =>
    have hh' : (ndAt l i).has = false := hh
    rw [hh'] at hm
    simp only [Bool.not_false, cond_true, List.set_set]
    have hself : ∀ x, List.getD (List.set l i x) i Nd.z = x := fun x => ndAt_set_self (h3.rng _ _ h2)
    rw [hself]
    refine ⟨trivial, ⟨good_mark h3 h2 rfl rfl, fun q => ?_, upd_dp R.dp hkl, ?_⟩⟩
    · rw [tm_mark h3 h2 (x := ((List.getD l i Nd.z).wHas true).wVal v) rfl rfl, h4]
      rfl
    · rw [hc_none hm] at hcu
      simp only at hcu
      rw [w64 (by omega) (by omega)]; omega
  | true =>
    have hh' : (ndAt l i).has = true := hh
    rw [hh'] at hm
    simp only [Bool.not_true, cond_false]
    refine ⟨trivial, ⟨good_mark h3 h2 rfl rfl, fun q => ?_, upd_dp R.dp hkl, ?_⟩⟩
    · rw [tm_mark h3 h2 (x := (List.getD l i Nd.z).wVal v) rfl rfl, h4]
      show (if q = key p then (bif (List.getD l i Nd.z).has then some v else none) else m q) = _
      rw [hh]; rfl
    · rw [hc_some hm] at hcu
      simp only at hcu
      omega

/-! ### The tables of the laws -/
/-- What an entry's insertion makes of what the table holds. -/
def insM (m : Mp) (e : TableEntryT) : Mp := bif g_addr_Valid (e.1, e.2.1, ()) then upd m (key (e.1, e.2.1, ())) (some e.2.2.1) else m
theorem ins_rep {tr : List Nd} {sz : Int} {m : Mp} (R : Rep tr sz m) {e : TableEntryT} (hu : u32 e.1) (hsz : sz ≤ 1000000) : Rep (g_fn_17 tr sz (e.1, e.2.1, ()) e.2.2.1).2.1 (g_fn_17 tr sz (e.1, e.2.1, ()) e.2.2.1).2.2 (insM m e) ∧ (g_fn_17 tr sz (e.1, e.2.1, ()) e.2.2.1).2.2 ≤ sz + 1 := by
  unfold insM
  cases hv : g_addr_Valid (e.1, e.2.1, ()) with
  | false => rw [ins_no hv]; exact ⟨R, by show sz ≤ sz + 1; omega⟩
  | true =>
    obtain ⟨_, h2⟩ := ins_yes R (p := (e.1, e.2.1, ())) (v := e.2.2.1) hu hsz hv
    refine ⟨h2, ?_⟩
    have hcu := cnt_upd (m := m) (q0 := key (e.1, e.2.1, ())) (v := some e.2.2.1) 32 [] (key (e.1, e.2.1, ())) (by simp) (by rw [pth_len]; have := vlen hv; simp only at this ⊢; omega)
    have h3 := h2.sz
    have h4 := R.sz
    simp only at hcu
    omega
/-- The entries in the order of a law's table. -/
def ordL (l : List TableEntryT) (back : Bool) : List TableEntryT := bif back then l.reverse else l
theorem rev_at {l : List TableEntryT} (hl : l.length ≤ maxLen) {c : Nat} (hc : c < l.length) : List.getD l (Int.toNat (IntKind.wrap .i64 ((IntKind.wrap .i64 ((l.length : Int) - 1)) - (c : Int)))) TableEntryD = l.reverse.getD c TableEntryD := by
  unfold maxLen at hl
  rw [w64 (x := (l.length : Int) - 1) (by omega) (by omega), w64 (by omega) (by omega)]
  have : ((l.length : Int) - 1 - (c : Int)).toNat = l.length - 1 - c := by omega
  rw [this]
  simp only [List.getD, List.getElem?_reverse hc]
theorem ordL_len (l : List TableEntryT) (back : Bool) : (ordL l back).length = l.length := by cases back <;> simp [ordL]
theorem built_rep {l : List TableEntryT} {back : Bool} (hl : l.length ≤ 100) (hu : ∀ e ∈ l, u32 e.1) : Rep (g_law4_built l back).1 (g_law4_built l back).2 ((ordL l back).foldl insM fun _ => none) ∧ (g_law4_built l back).2 ≤ (l.length : Int) := by
  have hlm : l.length ≤ maxLen := by unfold maxLen; omega
  have hstep := upS_inv (S := (List Nd) × Int) (R := List Nd × Int) (n := l.length - 0) (I := fun c s => Rep s.1 s.2 (((ordL l back).take c).foldl insM fun _ => none) ∧ s.2 ≤ (c : Int))
    (body := fun c0 (s0 : (List Nd) × Int) => fun (next0 : ((List Nd) × Int) → (List Nd × Int)) => cond back (next0 ((g_fn_17 s0.1 s0.2 ((List.getD l (Int.toNat (IntKind.wrap .i64 ((IntKind.wrap .i64 ((l.length : Int) - 1)) - (c0 : Int)))) TableEntryD).1, (List.getD l (Int.toNat (IntKind.wrap .i64 ((IntKind.wrap .i64 ((l.length : Int) - 1)) - (c0 : Int)))) TableEntryD).2.1, ()) (List.getD l (Int.toNat (IntKind.wrap .i64 ((IntKind.wrap .i64 ((l.length : Int) - 1)) - (c0 : Int)))) TableEntryD).2.2.1).2.1, (g_fn_17 s0.1 s0.2 ((List.getD l (Int.toNat (IntKind.wrap .i64 ((IntKind.wrap .i64 ((l.length : Int) - 1)) - (c0 : Int)))) TableEntryD).1, (List.getD l (Int.toNat (IntKind.wrap .i64 ((IntKind.wrap .i64 ((l.length : Int) - 1)) - (c0 : Int)))) TableEntryD).2.1, ()) (List.getD l (Int.toNat (IntKind.wrap .i64 ((IntKind.wrap .i64 ((l.length : Int) - 1)) - (c0 : Int)))) TableEntryD).2.2.1).2.2)) (next0 ((g_fn_17 s0.1 s0.2 ((List.getD l c0 TableEntryD).1, (List.getD l c0 TableEntryD).2.1, ()) (List.getD l c0 TableEntryD).2.2.1).2.1, (g_fn_17 s0.1 s0.2 ((List.getD l c0 TableEntryD).1, (List.getD l c0 TableEntryD).2.1, ()) (List.getD l c0 TableEntryD).2.2.1).2.2)))
    (rest := fun s0 => (s0.1, s0.2)) (fun c hc s hI => by
      have hlt : c < (ordL l back).length := by rw [ordL_len]; omega
      have hmem : (ordL l back).getD c TableEntryD ∈ l := by
        have h1 := getD_mem hlt TableEntryD
        cases back with
        | false => exact h1
        | true => exact List.mem_reverse.1 h1
      have hr := ins_rep hI.1 (e := (ordL l back).getD c TableEntryD) (hu _ hmem) (by have := hI.2; omega)
      have htk : (ordL l back).take (c + 1) = (ordL l back).take c ++ [(ordL l back).getD c TableEntryD] := by
        rw [List.take_add_one, List.getElem?_eq_getElem hlt]; simp [List.getD, hlt]
      refine ⟨((g_fn_17 s.1 s.2 (((ordL l back).getD c TableEntryD).1, ((ordL l back).getD c TableEntryD).2.1, ()) ((ordL l back).getD c TableEntryD).2.2.1).2.1, (g_fn_17 s.1 s.2 (((ordL l back).getD c TableEntryD).1, ((ordL l back).getD c TableEntryD).2.1, ()) ((ordL l back).getD c TableEntryD).2.2.1).2.2), ⟨?_, ?_⟩, fun next => ?_⟩
      · rw [htk, List.foldl_append]; exact hr.1
      · have := hr.2; have := hI.2; simp only; omega
      · cases back with
        | false => rfl
        | true => simp only [cond_true, rev_at hlm (show c < l.length by omega)]; rfl) (l.length - 0) 0 (by omega) (g_trie_New.1, g_trie_New.2) ⟨rep_new, by decide⟩
  obtain ⟨s', ⟨h1, h2⟩, h3⟩ := hstep
  have e : g_law4_built l back = (s'.1, s'.2) := h3
  rw [e]
  rw [Nat.sub_zero, show (ordL l back).take l.length = ordL l back from List.take_of_length_le (by rw [ordL_len]; exact Nat.le_refl _)] at h1
  exact ⟨h1, by simpa using h2⟩

/-! ### The entries -/
theorem look_app {l : List Nd} {q : List Bool} (h : lok l q = none) : ∀ r, lok l (r ++ q) = none
  | [] => h
  | b :: r => by show (lok l (r ++ q)).bind _ = none; rw [look_app h r]; rfl
theorem halves_no {p : PrefixT} (h : p.2.1 ≥ 32) : (!(g_addr_Halves p).2.2.1) = true := by
  unfold g_addr_Halves
  have : ((decide (p.2.1 < 0)) || (decide (p.2.1 ≥ 32))) = true := by rw [decide_eq_true h, Bool.or_true]
  rw [this]; rfl
theorem halves_yes {p : PrefixT} (h0 : 0 ≤ p.2.1) (h : p.2.1 < 32) : (!(g_addr_Halves p).2.2.1) = false := by
  unfold g_addr_Halves
  have : ((decide (p.2.1 < 0)) || (decide (p.2.1 ≥ 32))) = false := by rw [decide_eq_false (by omega), decide_eq_false (by omega)]; rfl
  rw [this]; rfl
theorem collect_eq {tr : List Nd} {m : Mp} (hm : ∀ q, tm tr q = m q) : ∀ (k : Nat) (l : List TableEntryT) (n : Nat) (a : Int) (d : Nat), Vp a d → d + k = 32 → lok tr (kp a d) = some n → gk0_collect (k + 1) tr l n (a, (d : Int), ()) = l ++ En m k (kp a d) a d
  | k, l, n, a, d, hv, hk, hl => by
    have hmq : m (kp a d) = bif (ndAt tr n).has then some (ndAt tr n).val else none := by rw [← hm]; unfold tm; rw [hl]; rfl
    have hl1 : (bif (List.getD tr n Nd.z).has then l ++ [(a, (d : Int), (List.getD tr n Nd.z).val, ())] else l) = l ++ he m (kp a d) a d := by
      unfold he
      rw [hmq]
      show (bif (ndAt tr n).has then l ++ [(a, (d : Int), (ndAt tr n).val, ())] else l) = _
      cases (ndAt tr n).has <;> simp
    unfold gk0_collect
    simp only [hl1]
    cases k with
    | zero =>
      have : (!(g_addr_Halves (a, (d : Int), ())).2.2.1) = true := halves_no (by show (d : Int) ≥ 32; omega)
      rw [this]; rfl
    | succ k =>
      have h32 : d < 32 := by omega
      have hy : (!(g_addr_Halves (a, (d : Int), ())).2.2.1) = false := halves_yes (by show 0 ≤ (d : Int); omega) (by show (d : Int) < 32; omega)
      obtain ⟨_, _, e1, e2⟩ := halves_len hy
      rw [hy, e1, e2]
      simp only [cond_false, Int.toNat_natCast]
      have hc0 : lok tr (false :: kp a d) = (ndAt tr n).c0 := by rw [look_snoc hl]; rfl
      have hc1 : lok tr (true :: kp a d) = (ndAt tr n).c1 := by rw [look_snoc hl]; rfl
      have sub : ∀ (b : Bool) (o : Option Nat) (l : List TableEntryT) (a' : Int), lok tr (b :: kp a d) = o → Vp a' (d + 1) → b :: kp a d = kp a' (d + 1) →
          (bif Option.isSome o then gk0_collect (k + 1) tr l (Option.getD o 0) (a', ((d : Int) + 1), ()) else l) = l ++ En m k (b :: kp a d) a' (d + 1) := fun b o l a' ho hv' hb => by
        cases o with
        | none =>
          rw [En_none fun r _ => ?_]
          · simp
          · rw [← hm]; unfold tm; rw [look_app ho r]; rfl
        | some i =>
          have := collect_eq hm k l i a' (d + 1) hv' (by omega) (by rw [← hb]; exact ho)
          simp only [Option.isSome_some, cond_true, Option.getD_some]
          rw [hb]
          exact this
      have s1 := sub false (ndAt tr n).c0 (l ++ he m (kp a d) a d) a hc0 (hv.lo h32) (kp_lo hv h32)
      have s2 := sub true (ndAt tr n).c1 (l ++ he m (kp a d) a d ++ En m k (false :: kp a d) a (d + 1)) (hi32 a d) hc1 (hv.hi h32) (kp_hi h32)
      show (bif Option.isSome (ndAt tr n).c1 then gk0_collect (k + 1) tr (bif Option.isSome (ndAt tr n).c0 then gk0_collect (k + 1) tr (l ++ he m (kp a d) a d) (Option.getD (ndAt tr n).c0 0) (a, ((d : Int) + 1), ()) else (l ++ he m (kp a d) a d)) (Option.getD (ndAt tr n).c1 0) (hi32 a d, ((d : Int) + 1), ()) else _) = _
      rw [s1]
      rw [s2]
      simp only [En, List.append_assoc]
theorem vp0 : Vp 0 0 := ⟨u32_zero, by omega, fun i _ _ => bt_zero _⟩
theorem collect0 {tr : List Nd} {sz : Int} {m : Mp} (R : Rep tr sz m) : ∀ k, k = 32 → gk0_collect (k + 1) tr [] 0 (0, 0, ()) = En m k [] 0 0 := fun k hk => by
  have h := collect_eq R.eq k [] 0 0 0 vp0 (by omega) rfl
  rw [List.nil_append] at h
  exact h
theorem gk_33 {tr : List Nd} {sz : Int} {m : Mp} (R : Rep tr sz m) : gk0_collect 33 tr [] 0 (0, 0, ()) = En m 32 [] 0 0 := collect0 R 32 rfl
theorem ent_eq {tr : List Nd} {sz : Int} {m : Mp} (R : Rep tr sz m) : g_fn_16 tr sz = En m 32 [] 0 0 := by
  unfold g_fn_16
  rw [List.take_of_length_le (Nat.le_refl _)]
  unfold g_trie_collect
  rw [gk_eq R.good.pos, gk_33 R]
theorem ent_pre {tr : List Nd} {sz : Int} {m : Mp} (R : Rep tr sz m) (hs : sz ≤ 1000000) : p_fn_16 tr sz = true := by
  unfold p_fn_16 p_trie_collect pk_trie_collect
  refine guardL_pos R.good.pos (decide_eq_true ?_)
  rw [gk_33 R, En_len]
  have := R.sz
  exact ⟨by decide, by decide, by decide, by omega⟩
theorem ent_len {tr : List Nd} {sz : Int} {m : Mp} (R : Rep tr sz m) : ((g_fn_16 tr sz).length : Int) = sz := by rw [ent_eq R, En_len, R.sz]

/-! ### Get, Delete -/
theorem tm_some {tr : List Nd} {q : List Bool} {v : Int} (h : tm tr q = some v) : ∃ i, lok tr q = some i ∧ (ndAt tr i).has = true ∧ (ndAt tr i).val = v := by
  unfold tm at h
  cases hl : lok tr q with
  | none => rw [hl] at h; cases h
  | some i =>
    rw [hl] at h
    simp only [Option.bind_some] at h
    cases hh : (ndAt tr i).has with
    | false => rw [hh] at h; cases h
    | true => rw [hh] at h; exact ⟨i, rfl, hh, Option.some.inj h⟩
theorem find_some {tr : List Nd} {sz : Int} {m : Mp} (R : Rep tr sz m) {p : PrefixT} (hu : u32 p.1) (hv : g_addr_Valid p = true) {v : Int} (h : m (key p) = some v) : ∃ i, g_fn_30 tr sz p = some i ∧ lok tr (key p) = some i ∧ (ndAt tr i).has = true ∧ (ndAt tr i).val = v := by
  have hl := vlen hv
  obtain ⟨i, h1, h2, h3⟩ := tm_some (show tm tr (key p) = some v by rw [R.eq]; exact h)
  refine ⟨i, ?_, h1, h2, h3⟩
  rw [find_eq, hv, gp_kp hu (by omega), h1]
  simp only [cond_true, Option.bind_some, h2]
theorem find_none {tr : List Nd} {sz : Int} {m : Mp} (R : Rep tr sz m) {p : PrefixT} (hu : u32 p.1) (h : g_addr_Valid p = true → m (key p) = none) : g_fn_30 tr sz p = none := by
  rw [find_eq]
  cases hv : g_addr_Valid p with
  | false => rfl
  | true =>
    have hl := vlen hv
    have h := h hv
    rw [← R.eq] at h
    unfold tm at h
    rw [gp_kp hu (by omega)]
    simp only [cond_true]
    cases hl : lok tr (kp p.1 p.2.1.toNat) with
    | none => rfl
    | some i =>
      rw [hl] at h
      simp only [Option.bind_some] at h ⊢
      cases hh : (ndAt tr i).has with
      | false => rfl
      | true => rw [hh] at h; cases h
theorem get_yes {tr : List Nd} {sz : Int} {m : Mp} (R : Rep tr sz m) {p : PrefixT} (hu : u32 p.1) (hv : g_addr_Valid p = true) {v : Int} (h : m (key p) = some v) : g_fn_10 tr sz p = (v, true, ()) := by
  obtain ⟨i, h1, _, _, h4⟩ := find_some R hu hv h
  unfold g_fn_10
  rw [h1]
  show ((ndAt tr i).val, true, ()) = _
  rw [h4]
theorem get_no {tr : List Nd} {sz : Int} {m : Mp} (R : Rep tr sz m) {p : PrefixT} (hu : u32 p.1) (h : g_addr_Valid p = true → m (key p) = none) : g_fn_10 tr sz p = (0, false, ()) := by
  unfold g_fn_10; rw [find_none R hu h]; rfl
theorem del_no {tr : List Nd} {sz : Int} {m : Mp} (R : Rep tr sz m) {p : PrefixT} (hu : u32 p.1) (h : g_addr_Valid p = true → m (key p) = none) : g_fn_18 tr sz p = (false, tr, sz) := by
  unfold g_fn_18; rw [find_none R hu h]; rfl
theorem gp_len (a : Int) (n : Nat) : (gp a n).length = n := pth_len _ n
theorem del_yes {tr : List Nd} {sz : Int} {m : Mp} (R : Rep tr sz m) {p : PrefixT} (hu : u32 p.1) (hsz : sz ≤ 1000000) (hv : g_addr_Valid p = true) {v : Int} (h : m (key p) = some v) :
    (g_fn_18 tr sz p).1 = true ∧ Rep (g_fn_18 tr sz p).2.1 (g_fn_18 tr sz p).2.2 (upd m (key p) none) := by
  have hl := vlen hv
  have hn : p.2.1.toNat ≤ 32 := by omega
  obtain ⟨i0, hf, hlk, hhas, _⟩ := find_some (sz := sz) R hu hv h
  have hkg : key p = gp p.1 p.2.1.toNat := (gp_kp hu hn).symm
  have hkl : (key p).length ≤ 32 := by rw [pth_len]; exact hn
  have hlk' : lok tr (gp p.1 p.2.1.toNat) = some i0 := by rw [← hkg]; exact hlk
  have fs : Fnd tr p := ⟨hl, fun j hj => look_dn hlk' hj⟩
  have hcu := cnt_upd (m := m) (q0 := key p) (v := none) 32 [] (key p) (by simp) hkl
  rw [hc_some h] at hcu
  have hRs := R.sz
  -- the tree with the mark taken off
  have hG0 : Gd (tr.set i0 (((ndAt tr i0).wHas false).wVal 0)) := good_mark R.good hlk rfl rfl
  have hT0 : ∀ q, tm (tr.set i0 (((ndAt tr i0).wHas false).wVal 0)) q = upd m (key p) none q := fun q => by
    rw [tm_mark R.good hlk (x := ((ndAt tr i0).wHas false).wVal 0) rfl rfl, R.eq]; rfl
  have hL0 : ∀ q, lok (tr.set i0 (((ndAt tr i0).wHas false).wVal 0)) q = lok tr q := look_mark R.good hlk rfl rfl
  unfold g_fn_18
  rw [hf]
  simp only [Option.isNone_some, cond_false]
  have hstep := upS_inv (S := List (Option Nat)) (R := Bool × List Nd × Int) (n := p.2.1.toNat - 0) (I := fun c v => DelI tr p c v)
    (body := fun c0 (v1 : List (Option Nat)) => fun (next0 : (List (Option Nat)) → (Bool × List Nd × Int)) => (next0 (List.set v1 (Int.toNat (IntKind.wrap .i64 ((c0 : Int) + 1))) (Nd.ch (List.getD tr (Option.getD (List.getD v1 c0 none) 0) Nd.z) (g_trie_bit p.1 (c0 : Int))))))
    (rest := fun (v1 : List (Option Nat)) => (S_fn_18_1 tr sz p v1 p.2.1 (List.set (List.set tr (Option.getD (List.getD v1 (Int.toNat p.2.1) none) 0) (Nd.wHas (List.getD tr (Option.getD (List.getD v1 (Int.toNat p.2.1) none) 0) Nd.z) false)) (Option.getD (List.getD v1 (Int.toNat p.2.1) none) 0) (Nd.wVal (List.getD (List.set tr (Option.getD (List.getD v1 (Int.toNat p.2.1) none) 0) (Nd.wHas (List.getD tr (Option.getD (List.getD v1 (Int.toNat p.2.1) none) 0) Nd.z) false)) (Option.getD (List.getD v1 (Int.toNat p.2.1) none) 0) Nd.z) 0))))
    (fun c hc s hI => ⟨_, del_p fs hI (by omega), fun next => rfl⟩) (p.2.1.toNat - 0) 0 (by omega) [(some 0), none, none, none, none, none, none, none, none, none, none, none, none, none, none, none, none, none, none, none, none, none, none, none, none, none, none, none, none, none, none, none, none] (del_e tr p)
  obtain ⟨s', hI, h5⟩ := hstep
  rw [Nat.sub_zero] at hI
  have e0 : S_fn_18_0 tr sz p [(some 0), none, none, none, none, none, none, none, none, none, none, none, none, none, none, none, none, none, none, none, none, none, none, none, none, none, none, none, none, none, none, none, none] = _ := h5
  rw [e0]
  have hi0 : List.getD s' (Int.toNat p.2.1) none = some i0 := by rw [hI.2 _ (Nat.le_refl _), ← hkg]; exact hlk
  rw [hi0]
  simp only [Option.getD_some, List.set_set]
  have hself : ∀ x, List.getD (List.set tr i0 x) i0 Nd.z = x := fun x => ndAt_set_self (R.good.rng _ _ hlk)
  rw [hself]
  show (S_fn_18_1 tr sz p s' p.2.1 (tr.set i0 (((ndAt tr i0).wHas false).wVal 0))).1 = true ∧ Rep (S_fn_18_1 tr sz p s' p.2.1 (tr.set i0 (((ndAt tr i0).wHas false).wVal 0))).2.1 (S_fn_18_1 tr sz p s' p.2.1 (tr.set i0 (((ndAt tr i0).wHas false).wVal 0))).2.2 (upd m (key p) none)
  have fin : ∀ l : List Nd, Gd l → (∀ q, tm l q = upd m (key p) none q) → (true, l, IntKind.wrap .i64 (sz - 1)).1 = true ∧ Rep (true, l, IntKind.wrap .i64 (sz - 1)).2.1 (true, l, IntKind.wrap .i64 (sz - 1)).2.2 (upd m (key p) none) := fun l hg ht => by
    refine ⟨rfl, hg, ht, upd_dp R.dp hkl, ?_⟩
    simp only at hcu ⊢
    rw [w64 (by omega) (by omega)]; omega
  unfold S_fn_18_1
  refine upS_fin (S := Int × (List Nd)) (R := Bool × List Nd × Int) (N := 33) (P := fun r => r.1 = true ∧ Rep r.2.1 r.2.2 (upd m (key p) none))
    (I := fun c s => s.1 = p.2.1 - (c : Int) ∧ (c : Int) ≤ p.2.1 ∧ Gd s.2 ∧ (∀ q, tm s.2 q = upd m (key p) none q) ∧ ∀ j : Nat, (j : Int) ≤ s.1 → lok s.2 (gp p.1 j) = lok tr (gp p.1 j))
    (fun c s hc hIs => ?_) (fun s hIs => ?_) 33 0 (by omega) _ ⟨by simp, by simp only [Int.natCast_zero]; omega, hG0, hT0, fun j _ => hL0 _⟩
  rotate_left
  · have := hIs.2.1; omega
  obtain ⟨x, l⟩ := s
  obtain ⟨g1, g2, g3, g4, g5⟩ := hIs
  simp only at g1 g2 g3 g4 g5
  cases hx : decide (x > 0) with
  | false => exact .inl ⟨_, fin l g3 g4, fun next => by simp only [hx, cond_false]⟩
  | true =>
    have hx0 := of_decide_eq_true hx
    -- the node, and the one above it
    obtain ⟨j, hj⟩ := fs.2 x.toNat (by omega)
    obtain ⟨i, hi⟩ := fs.2 (x.toNat - 1) (by omega)
    have hpj : List.getD s' (Int.toNat x) none = some j := by rw [hI.2 _ (by omega)]; exact hj
    have hw1 : IntKind.wrap .i64 (x - 1) = ((x.toNat - 1 : Nat) : Int) := by rw [w64 (by omega) (by omega)]; omega
    have hpi : List.getD s' (x.toNat - 1) none = some i := by rw [hI.2 _ (by omega)]; exact hi
    simp only [hx, cond_true, hpj, hw1, Int.toNat_natCast, hpi, Option.getD_some]
    cases hb : (((List.getD l j Nd.z).has || (Option.isSome ((List.getD l j Nd.z).c0))) || (Option.isSome ((List.getD l j Nd.z).c1))) with
    | true => exact .inl ⟨_, fin l g3 g4, fun next => rfl⟩
    | false =>
      simp only [Bool.or_eq_false_iff] at hb
      obtain ⟨⟨b1, b2⟩, b3⟩ := hb
      have c0 : (ndAt l j).c0 = none := by cases hc : (List.getD l j Nd.z).c0 with | none => rfl | some k => rw [hc] at b2; cases b2
      have c1 : (ndAt l j).c1 = none := by cases hc : (List.getD l j Nd.z).c1 with | none => rfl | some k => rw [hc] at b3; cases b3
      have hli : lok l (gp p.1 (x.toNat - 1)) = some i := by rw [g5 (x.toNat - 1) (by omega)]; exact hi
      have hlj : lok l (gp p.1 (x.toNat - 1 + 1)) = some j := by rw [show x.toNat - 1 + 1 = x.toNat by omega, g5 x.toNat (by omega)]; exact hj
      have hcb : (ndAt l i).cb (bz (g_trie_bit p.1 ((x.toNat - 1 : Nat) : Int))) = some j := by
        have h7 : lok l (gp p.1 (x.toNat - 1 + 1)) = (ndAt l i).cb (gb p.1 (x.toNat - 1)) := look_snoc hli
        rw [← hlj, h7]; rfl
      refine .inr ⟨(((x.toNat - 1 : Nat) : Int), l.set i ((ndAt l i).put (g_trie_bit p.1 ((x.toNat - 1 : Nat) : Int)) none)), ⟨by simp only; omega, by omega, good_cut g3 hli, fun q => ?_, fun t ht => ?_⟩, fun next => rfl⟩
      · rw [tm_cut g3 hli hcb c0 c1 b1]; exact g4 q
      · have ht : (t : Int) ≤ ((x.toNat - 1 : Nat) : Int) := ht
        obtain ⟨k, hk⟩ := fs.2 t (by omega)
        have hkl2 : lok l (gp p.1 t) = some k := by rw [g5 t (by omega)]; exact hk
        rw [hk]
        rcases cut_fwd g3 hli hcb c0 c1 (gp p.1 t) k hkl2 with h8 | ⟨h8, _⟩
        · exact h8
        · have := congrArg List.length h8
          rw [gp_len, List.length_cons, gp_len] at this; omega

/-! ### Lookup, Covering -/
/-- The longest prefix of the table among the first n that contain an address. -/
def best (m : Mp) (a : Int) : Nat → Option (Nat × Int)
  | 0 => none
  | c + 1 => match m (kp a c) with
    | some v => some (c, v)
    | none => best m a c
theorem best_up {m : Mp} {a : Int} {c : Nat} (h : ∀ n, c ≤ n → m (kp a n) = none) : ∀ k, best m a (c + k) = best m a c
  | 0 => rfl
  | k + 1 => by show best m a (c + k + 1) = _; simp only [best, h (c + k) (by omega)]; exact best_up h k
def resL (a : Int) : Option (Nat × Int) → PrefixT × Int × Bool × Unit
  | some (n, v) => (g_addr_Network a (n : Int), v, true, ())
  | none => ((0, 0, ()), 0, false, ())
theorem lookup_eq {tr : List Nd} {sz : Int} {m : Mp} (R : Rep tr sz m) {a : Int} (hu : u32 a) : g_fn_9 tr sz a = resL a (best m a 33) := by
  unfold g_fn_9 S_fn_9_0
  refine upS_fin (S := (Option Nat) × (Option Nat) × Int × Int) (R := PrefixT × Int × Bool × Unit) (N := 33) (P := fun r => r = resL a (best m a 33))
    (I := fun c s => s.2.2.1 = (c : Int) ∧ c ≤ 32 ∧ s.2.1 = lok tr (kp a c) ∧ match best m a c with
      | none => s.1 = none
      | some (n, v) => s.2.2.2 = (n : Int) ∧ ∃ i, s.1 = some i ∧ (ndAt tr i).val = v)
    (fun c s hc hI => ?_) (fun s hI => ?_) 33 0 (by omega) _ ⟨rfl, by omega, rfl, rfl⟩
  rotate_left
  · have := hI.2.1; omega
  obtain ⟨o, n, i, d⟩ := s
  obtain ⟨h1, h2, h3, h4⟩ := hI
  simp only at h1 h3 h4
  subst h1
  -- what is handed back at an end
  have fin : ∀ (o : Option Nat) (d : Int) (b : Option (Nat × Int)), (match b with | none => o = none | some (n, v) => d = (n : Int) ∧ ∃ i, o = some i ∧ (ndAt tr i).val = v) →
      (cond (Option.isNone o) (((0, 0, ()), 0, false, ()) : PrefixT × Int × Bool × Unit) ((g_addr_Network a d), (List.getD tr (Option.getD o 0) Nd.z).val, true, ())) = resL a b := fun o d b hb => by
    cases b with
    | none => simp only at hb; subst hb; rfl
    | some x =>
      obtain ⟨n, v⟩ := x
      obtain ⟨rfl, i, rfl, hv⟩ := hb
      simp only [Option.isNone_some, cond_false, Option.getD_some, resL]
      rw [← hv]
  cases hn : n with
  | none =>
    left
    refine ⟨_, ?_, fun next => by simp only [Option.isSome_none, cond_false]; rfl⟩
    rw [fin o d _ h4]
    have hnone : ∀ k, c ≤ k → m (kp a k) = none := fun k hk => by
      rw [← R.eq]; unfold tm
      have := look_up (f := ab a) (n := c) (by rw [← h3, hn]) (k - c)
      rw [show c + (k - c) = k by omega] at this
      rw [this]; rfl
    have := best_up hnone (33 - c)
    rw [show c + (33 - c) = 33 by omega] at this
    rw [this]
  | some j =>
    rw [hn] at h3
    have hmc : m (kp a c) = bif (ndAt tr j).has then some (ndAt tr j).val else none := by rw [← R.eq]; unfold tm; rw [← h3]; rfl
    have hb1 : ∀ (o' : Option Nat) (d' : Int), (o', d') = (bif (ndAt tr j).has then (some j, (c : Int)) else (o, d)) → (match best m a (c + 1) with | none => o' = none | some (n, v) => d' = (n : Int) ∧ ∃ i, o' = some i ∧ (ndAt tr i).val = v) := fun o' d' e => by
      simp only [best, hmc]
      cases hh : (ndAt tr j).has with
      | false => rw [hh] at e; cases e; exact h4
      | true => rw [hh] at e; cases e; exact ⟨rfl, j, rfl, rfl⟩
    have hnx : c < 32 → Nd.ch (List.getD tr j Nd.z) (g_trie_bit a (c : Int)) = lok tr (kp a (c + 1)) := fun hc => by
      have h7 : lok tr (gp a c) = some j := by rw [gp_kp hu (by omega)]; exact h3.symm
      rw [look_next h7, gp_kp hu (by omega)]
    cases h32 : ((c : Int) == 32) with
    | true =>
      have hc32 : c = 32 := by have : (c : Int) = 32 := by simpa using h32
                               omega
      left
      subst hc32
      cases hh : (ndAt tr j).has with
      | true =>
        have hh' : (List.getD tr j Nd.z).has = true := hh
        refine ⟨_, ?_, fun next => by simp only [Option.isSome_some, cond_true, Option.getD_some, hh', h32]; rfl⟩
        have := fin (some j) ((32 : Nat) : Int) _ (hb1 _ _ (by rw [hh]; rfl))
        simpa using this
      | false =>
        have hh' : (List.getD tr j Nd.z).has = false := hh
        refine ⟨_, ?_, fun next => by simp only [Option.isSome_some, cond_true, Option.getD_some, hh', cond_false, h32]; rfl⟩
        exact fin o d _ (hb1 _ _ (by rw [hh]; rfl))
    | false =>
      have hc32 : c < 32 := by have : ¬ (c : Int) = 32 := by simpa using h32
                               omega
      right
      cases hh : (ndAt tr j).has with
      | true =>
        have hh' : (List.getD tr j Nd.z).has = true := hh
        refine ⟨(some j, lok tr (kp a (c + 1)), ((c + 1 : Nat) : Int), (c : Int)), ⟨rfl, by omega, rfl, hb1 _ _ (by rw [hh]; rfl)⟩, fun next => ?_⟩
        simp only [Option.isSome_some, cond_true, Option.getD_some, hh', h32, cond_false, hnx hc32, wc1 (show c ≤ 32 by omega)]
      | false =>
        have hh' : (List.getD tr j Nd.z).has = false := hh
        refine ⟨(o, lok tr (kp a (c + 1)), ((c + 1 : Nat) : Int), d), ⟨rfl, by omega, rfl, hb1 _ _ (by rw [hh]; rfl)⟩, fun next => ?_⟩
        simp only [Option.isSome_some, cond_true, Option.getD_some, hh', h32, cond_false, hnx hc32, wc1 (show c ≤ 32 by omega)]
/-- The prefixes of the table among the first c that contain an address. -/
def cov (m : Mp) (a : Int) : Nat → List PrefixT
  | 0 => []
  | c + 1 => cov m a c ++ (match m (kp a c) with
    | some _ => [g_addr_Network a (c : Int)]
    | none => [])
theorem cov_up {m : Mp} {a : Int} {c : Nat} (h : ∀ n, c ≤ n → m (kp a n) = none) : ∀ k, cov m a (c + k) = cov m a c
  | 0 => rfl
  | k + 1 => by show cov m a (c + k + 1) = _; simp only [cov, h (c + k) (by omega), List.append_nil]; exact cov_up h k
theorem cover_eq {tr : List Nd} {sz : Int} {m : Mp} (R : Rep tr sz m) {p : PrefixT} (hu : u32 p.1) (hv : g_addr_Valid p = true) : g_fn_14 tr sz p = cov m p.1 (p.2.1.toNat + 1) := by
  have hl := vlen hv
  unfold g_fn_14
  simp only [hv, Bool.not_true, cond_false]
  unfold S_fn_14_0
  refine upS_fin (S := (Option Nat) × Int × (List PrefixT)) (R := List PrefixT) (N := 33) (P := fun r => r = cov m p.1 (p.2.1.toNat + 1))
    (I := fun c s => s.2.1 = (c : Int) ∧ c ≤ p.2.1.toNat ∧ s.1 = lok tr (kp p.1 c) ∧ s.2.2 = cov m p.1 c)
    (fun c s hc hI => ?_) (fun s hI => ?_) 33 0 (by omega) _ ⟨rfl, by omega, rfl, rfl⟩
  rotate_left
  · have := hI.2.1; omega
  obtain ⟨n, i, l⟩ := s
  obtain ⟨h1, h2, h3, h4⟩ := hI
  simp only at h1 h3 h4
  subst h1 h4
  cases hn : n with
  | none =>
    left
    refine ⟨_, ?_, fun next => by simp only [Option.isSome_none, cond_false]; rfl⟩
    rw [List.take_of_length_le (Nat.le_refl _)]
    have hnone : ∀ k, c ≤ k → m (kp p.1 k) = none := fun k hk => by
      rw [← R.eq]; unfold tm
      have := look_up (f := ab p.1) (n := c) (by rw [← h3, hn]) (k - c)
      rw [show c + (k - c) = k by omega] at this
      rw [this]; rfl
    have := cov_up hnone (p.2.1.toNat + 1 - c)
    rw [show c + (p.2.1.toNat + 1 - c) = p.2.1.toNat + 1 by omega] at this
    exact this.symm
  | some j =>
    rw [hn] at h3
    have hmc : m (kp p.1 c) = bif (ndAt tr j).has then some (ndAt tr j).val else none := by rw [← R.eq]; unfold tm; rw [← h3]; rfl
    have hnx : c < 32 → Nd.ch (List.getD tr j Nd.z) (g_trie_bit p.1 (c : Int)) = lok tr (kp p.1 (c + 1)) := fun hc => by
      have h7 : lok tr (gp p.1 c) = some j := by rw [gp_kp hu (by omega)]; exact h3.symm
      rw [look_next h7, gp_kp hu (by omega)]
    cases hh : (ndAt tr j).has with
    | true =>
      have hh' : (List.getD tr j Nd.z).has = true := hh
      have hcv : cov m p.1 c ++ [g_addr_Network p.1 (c : Int)] = cov m p.1 (c + 1) := by simp only [cov, hmc, hh, cond_true]
      cases h32 : ((c : Int) == p.2.1) with
      | true =>
        have hc32 : c = p.2.1.toNat := by have : (c : Int) = p.2.1 := by simpa using h32
                                          omega
        refine .inl ⟨cov m p.1 (c + 1), by rw [hc32], fun next => ?_⟩
        simp only [Option.isSome_some, cond_true, Option.getD_some, hh', h32]
        rw [hcv, List.take_of_length_le (by rw [← hcv]; simp)]
      | false =>
        have hc32 : c < p.2.1.toNat := by have : ¬ (c : Int) = p.2.1 := by simpa using h32
                                          omega
        refine .inr ⟨(lok tr (kp p.1 (c + 1)), ((c + 1 : Nat) : Int), cov m p.1 (c + 1)), ⟨rfl, by omega, rfl, rfl⟩, fun next => ?_⟩
        simp only [Option.isSome_some, cond_true, Option.getD_some, hh', h32, cond_false, hnx (by omega), wc1 (show c ≤ 32 by omega), hcv]
    | false =>
      have hh' : (List.getD tr j Nd.z).has = false := hh
      have hcv : cov m p.1 c = cov m p.1 (c + 1) := by simp only [cov, hmc, hh, cond_false, List.append_nil]
      cases h32 : ((c : Int) == p.2.1) with
      | true =>
        have hc32 : c = p.2.1.toNat := by have : (c : Int) = p.2.1 := by simpa using h32
                                          omega
        refine .inl ⟨cov m p.1 (c + 1), by rw [hc32], fun next => ?_⟩
        simp only [Option.isSome_some, cond_true, Option.getD_some, hh', h32, cond_false]
        rw [List.take_of_length_le (Nat.le_refl _), hcv]
      | false =>
        have hc32 : c < p.2.1.toNat := by have : ¬ (c : Int) = p.2.1 := by simpa using h32
                                          omega
        refine .inr ⟨(lok tr (kp p.1 (c + 1)), ((c + 1 : Nat) : Int), cov m p.1 (c + 1)), ⟨rfl, by omega, rfl, rfl⟩, fun next => ?_⟩
        simp only [Option.isSome_some, cond_true, Option.getD_some, hh', h32, cond_false, hnx (by omega), wc1 (show c ≤ 32 by omega), ← hcv]
theorem cov_len (m : Mp) (a : Int) : ∀ c, (cov m a c).length ≤ c
  | 0 => Nat.le_refl _
  | c + 1 => by
    have := cov_len m a c
    simp only [cov, List.length_append]
    cases m (kp a c) <;> simp <;> omega

/-! ### Masks -/
theorem mask_eq_nat : ∀ n, n < 33 → g_r4_Mask ((n : Nat) : Int) = g_addr_Mask ((n : Nat) : Int) := by decide +kernel
theorem mask_eq {n : Int} (h0 : 0 ≤ n) (h1 : n ≤ 32) : g_r4_Mask n = g_addr_Mask n := by
  have := mask_eq_nat n.toNat (by omega)
  rwa [show (n.toNat : Int) = n by omega] at this
theorem clamp_id {n : Int} (h0 : 0 ≤ n) (h1 : n ≤ 32) : g_addr_clamp n = n := by
  unfold g_addr_clamp
  rw [decide_eq_false (show ¬ 32 < n by omega)]
  simp only [cond_false]
  cases h : decide (n > 0) with
  | true => rfl
  | false => have := of_decide_eq_false h; simp only [cond_false]; omega
theorem bt_mask {n : Nat} (hn : n ≤ 32) (i : Nat) : bt (g_addr_Mask (n : Int)) i = (decide (i < 32) && decide (32 - n ≤ i)) := by
  unfold g_addr_Mask
  rw [clamp_id (by omega) (by omega), w64 (by omega) (by omega), show (32 : Int) - (n : Int) = ((32 - n : Nat) : Int) by omega]
  unfold bt
  rw [B_ishl _ (by omega), BitVec.getLsbD_shiftLeft]
  have h1 : B 4294967295 = BitVec.allOnes 32 := by decide
  rw [h1, BitVec.getLsbD_allOnes]
  by_cases h : i < 32
  · by_cases h2 : i < 32 - n
    · simp [h, h2]; omega
    · have : 32 - n ≤ i := by omega
      simp [h, h2, this]; omega
  · simp [h]
theorem ab_mask {n : Nat} (hn : n ≤ 32) {i : Nat} (hi : i < 32) : ab (g_addr_Mask (n : Int)) i = decide (i < n) := by
  unfold ab
  rw [bt_mask hn]
  by_cases h : i < n
  · have h1 : 31 - i < 32 := by omega
    have h2 : 32 - n ≤ 31 - i := by omega
    simp [h, h1, h2]
  · have h2 : ¬ 32 - n ≤ 31 - i := by omega
    simp [h]; omega
theorem ab_ext {x y : Int} (hx : u32 x) (hy : u32 y) (h : ∀ i, i < 32 → ab x i = ab y i) : x = y := bt_ext hx hy fun i hi => by
  have := h (31 - i) (by omega)
  unfold ab at this
  rwa [show 31 - (31 - i) = i by omega] at this
/-- A prefix of the address a, n bits long. -/
def cut32 (a : Int) (n : Nat) : Int := iand .u32 a (g_addr_Mask (n : Int))
theorem ab_cut {a : Int} {n : Nat} (hn : n ≤ 32) {i : Nat} (hi : i < 32) : ab (cut32 a n) i = (ab a i && decide (i < n)) := by
  have h1 := ab_mask hn hi
  unfold ab cut32 at *
  rw [bt_iand, h1]
theorem vp_cut (a : Int) {n : Nat} (hn : n ≤ 32) : Vp (cut32 a n) n := ⟨u32_iand _ _, hn, fun i h1 h2 => by rw [ab_cut hn h2, decide_eq_false (by omega), Bool.and_false]⟩
theorem kp_cut (a : Int) {n : Nat} (hn : n ≤ 32) : kp (cut32 a n) n = kp a n := pth_congr fun i hi => by rw [ab_cut hn (by omega), decide_eq_true hi, Bool.and_true]
theorem net_eq (a : Int) {n : Nat} (hn : n ≤ 32) : g_addr_Network a (n : Int) = (cut32 a n, (n : Int), ()) := by
  unfold g_addr_Network cut32; rw [clamp_id (by omega) (by omega)]
theorem valid_iff {p : PrefixT} (hu : u32 p.1) : g_addr_Valid p = true ↔ (0 ≤ p.2.1 ∧ Vp p.1 p.2.1.toNat) := by
  have key : ∀ {n : Nat}, n ≤ 32 → ((iandnot .u32 p.1 (g_addr_Mask (n : Int)) == 0) = true ↔ ∀ i, n ≤ i → i < 32 → ab p.1 i = false) := fun {n} hn => by
    rw [beq_iff_eq, bt_none (u32_iandnot _ _)]
    constructor
    · intro h i h1 h2
      have := h (31 - i)
      rw [bt_iandnot] at this
      have h3 := ab_mask hn h2
      unfold ab at h3
      rw [h3, decide_eq_false (by omega), Bool.not_false, Bool.and_true] at this
      exact this
    · intro h i
      rw [bt_iandnot]
      by_cases hi : i < 32
      · by_cases h2 : n ≤ 31 - i
        · have := h (31 - i) h2 (by omega)
          unfold ab at this
          rw [show 31 - (31 - i) = i by omega] at this
          rw [this]; rfl
        · have h3 := ab_mask hn (i := 31 - i) (by omega)
          unfold ab at h3
          rw [show 31 - (31 - i) = i by omega] at h3
          rw [h3, decide_eq_true (by omega), Bool.not_true, Bool.and_false]
      · rw [bt_big (by omega)]; rfl
  constructor
  · intro h
    have hl := vlen h
    refine ⟨hl.1, hu, by omega, ?_⟩
    unfold g_addr_Valid at h
    simp only [Bool.and_eq_true] at h
    have h2 := h.2
    have e : p.2.1 = ((p.2.1.toNat : Nat) : Int) := by omega
    rw [e] at h2
    exact (key (by omega)).1 h2
  · rintro ⟨h0, hv⟩
    have hle := hv.le
    have e : p.2.1 = ((p.2.1.toNat : Nat) : Int) := by omega
    unfold g_addr_Valid
    simp only [Bool.and_eq_true, decide_eq_true_eq]
    refine ⟨by omega, ?_⟩
    rw [e]
    exact (key hle).2 hv.z
theorem rvalid_eq (p : PrefixT) : g_r4_Valid p = g_addr_Valid p := by
  unfold g_r4_Valid g_addr_Valid
  by_cases h : 0 ≤ p.2.1 ∧ p.2.1 ≤ 32
  · rw [mask_eq h.1 h.2]
  · have : ((decide (p.2.1 ≥ 0)) && (decide (p.2.1 ≤ 32))) = false := by
      simp only [Bool.and_eq_false_iff, decide_eq_false_iff_not]
      by_cases h2 : 0 ≤ p.2.1
      · right; intro h3; exact h ⟨h2, h3⟩
      · left; exact h2
    rw [this]; rfl
/-- A valid prefix contains an address: their first bits are the same. -/
theorem contains_iff {p : PrefixT} {a : Int} (h0 : 0 ≤ p.2.1) (hv : Vp p.1 p.2.1.toNat) : g_r4_Contains p a = true ↔ key p = kp a p.2.1.toNat := by
  unfold g_r4_Contains
  have hle := hv.le
  rw [mask_eq h0 (by omega), show g_addr_Mask p.2.1 = g_addr_Mask ((p.2.1.toNat : Nat) : Int) by rw [show ((p.2.1.toNat : Nat) : Int) = p.2.1 by omega], beq_iff_eq]
  show cut32 a p.2.1.toNat = p.1 ↔ _
  constructor
  · intro h
    show kp p.1 p.2.1.toNat = _
    rw [← h, kp_cut _ hle]
  · intro h
    exact ((vp_cut a hle).inj hv (by rw [kp_cut _ hle]; exact h.symm)).1
theorem key_vp {p : PrefixT} (hu : u32 p.1) (h : g_addr_Valid p = true) : 0 ≤ p.2.1 ∧ Vp p.1 p.2.1.toNat := (valid_iff hu).1 h

/-! ### What the laws' premises need -/
theorem u32_ents {l : List TableEntryT} (h : Cell.wf (.sl TableEntryS) l) : ∀ e ∈ l, u32 e.1 := fun e he => by
  obtain ⟨i, hi⟩ := List.getElem?_of_mem he
  exact u32_of (h.2 i e hi).1
theorem u32_pfxs {l : List PrefixT} (h : Cell.wf (.sl PrefixS) l) {c : Nat} (hc : c < l.length) : u32 (l.getD c PrefixD).1 := by
  have : l[c]? = some (l.getD c PrefixD) := by simp [List.getD, hc]
  exact u32_of (h.2 c _ this).1
/-- What a law's table holds. -/
def bM (l : List TableEntryT) (back : Bool) : Mp := (ordL l back).foldl insM fun _ => none
theorem bR {l : List TableEntryT} (back : Bool) (h : Cell.wf (.sl TableEntryS) l) (hl : l.length ≤ 40) : Rep (g_law4_built l back).1 (g_law4_built l back).2 (bM l back) := (built_rep (by omega) (u32_ents h)).1
theorem bS {l : List TableEntryT} (back : Bool) (h : Cell.wf (.sl TableEntryS) l) (hl : l.length ≤ 40) : (g_law4_built l back).2 ≤ 40 := by have := (built_rep (back := back) (by omega) (u32_ents h)).2; omega
theorem cov14_len {tr : List Nd} {sz : Int} {m : Mp} (R : Rep tr sz m) {p : PrefixT} (hu : u32 p.1) : (g_fn_14 tr sz p).length ≤ 33 := by
  cases hv : g_addr_Valid p with
  | false => unfold g_fn_14; rw [hv]; exact Nat.zero_le _
  | true =>
    rw [cover_eq R hu hv]
    have := cov_len m p.1 (p.2.1.toNat + 1)
    have := vlen hv
    omega
theorem tc_0 {l : List TableEntryT} {v : Bool} (h : ((decide ((l.length : Int) > 40)) || (!v)) = false) : l.length ≤ 40 ∧ v = true := by
  simp only [Bool.or_eq_false_iff, decide_eq_false_iff_not] at h
  exact ⟨by omega, by simpa using h.2⟩
theorem tc_v1 {c n : Nat} (hc : c < n) : ((okIx (c : Int) (n : Int)) && true) = true := by rw [okIx_nat hc]; rfl
theorem tc_v2 {c n : Nat} (hc : c < n) (hn : n ≤ maxLen) {x y z : Bool} : (((((okIx (c : Int) (n : Int)) || x) && true) && ((okIx (c : Int) (n : Int)) || y)) && ((okIx (IntKind.wrap .i64 ((c : Int) - 1)) (n : Int)) || (!(((decide ((c : Int) > 0)) == true) && z)))) = true := by
  rw [okIx_nat hc]
  by_cases h0 : c = 0
  · subst h0; simp
  · unfold maxLen at hn
    rw [w64 (by omega) (by omega), okIx_of (by omega) (by omega)]; rfl
theorem tc_v5 {n : Nat} (hn : n ≤ maxLen) {ok x : Bool} : (((okIx (IntKind.wrap .i64 ((n : Int) - 1)) (n : Int)) || (!(((!ok) == false) && (((x && (ok == (decide ((n : Int) > 0)))) == true) && true)))) && true) = true := by
  by_cases h0 : n = 0
  · subst h0; cases ok <;> cases x <;> rfl
  · unfold maxLen at hn
    rw [w64 (by omega) (by omega), okIx_of (by omega) (by omega)]; rfl
theorem cov_b {l : List TableEntryT} {p : PrefixT} (hw : Cell.wf (.sl TableEntryS) l) (hp : Sch.wf PrefixS p) {v : Bool} (g : ((decide ((l.length : Int) > 40)) || (!v)) = false) {n : Int} : (g_fn_14 (g_law4_built l false).1 (g_law4_built l false).2 (p.1, n, ())).length ≤ maxLen := by
  have := cov14_len (bR false hw (tc_0 g).1) (p := (p.1, n, ())) (u32_of hp.1)
  unfold maxLen; omega
theorem ent_b {l : List TableEntryT} (back : Bool) (hw : Cell.wf (.sl TableEntryS) l) (hl : l.length ≤ 40) : (g_fn_16 (g_law4_built l back).1 (g_law4_built l back).2).length ≤ maxLen := by
  have h1 := ent_len (bR back hw hl)
  have h2 := bS back hw hl
  unfold maxLen; omega
theorem ent_p {l : List TableEntryT} (back : Bool) (hw : Cell.wf (.sl TableEntryS) l) (hl : l.length ≤ 40) : p_fn_16 (g_law4_built l back).1 (g_law4_built l back).2 = true := ent_pre (bR back hw hl) (by have := bS back hw hl; omega)
/-- A round with another prefix leaves the table as it was. -/
theorem upd_back {m : Mp} {q : List Bool} {v : Option Int} (h : m q = none) : upd (upd m q v) q none = m := by
  funext r
  unfold upd
  by_cases hr : r = q
  · subst hr; rw [if_pos rfl, h]
  · rw [if_neg hr, if_neg hr]
theorem ord_step {tr : List Nd} {sz : Int} {m : Mp} (R : Rep tr sz m) (hs : sz ≤ 1000) {e : PrefixT} (hu : u32 e.1) :
    (!(g_fn_10 tr sz e).2.1 && (g_fn_17 tr sz e 7).1 && !(g_fn_18 (cond (((!(g_fn_10 tr sz e).2.1) == true) && true) (g_fn_17 tr sz e 7).2.1 tr) (cond (((!(g_fn_10 tr sz e).2.1) == true) && true) (g_fn_17 tr sz e 7).2.2 sz) e).1) = false ∧
    Rep (cond ((((!(g_fn_10 tr sz e).2.1) && (g_fn_17 tr sz e 7).1) == true) && true) (g_fn_18 (cond (((!(g_fn_10 tr sz e).2.1) == true) && true) (g_fn_17 tr sz e 7).2.1 tr) (cond (((!(g_fn_10 tr sz e).2.1) == true) && true) (g_fn_17 tr sz e 7).2.2 sz) e).2.1 (cond (((!(g_fn_10 tr sz e).2.1) == true) && true) (g_fn_17 tr sz e 7).2.1 tr))
      (cond ((((!(g_fn_10 tr sz e).2.1) && (g_fn_17 tr sz e 7).1) == true) && true) (g_fn_18 (cond (((!(g_fn_10 tr sz e).2.1) == true) && true) (g_fn_17 tr sz e 7).2.1 tr) (cond (((!(g_fn_10 tr sz e).2.1) == true) && true) (g_fn_17 tr sz e 7).2.2 sz) e).2.2 (cond (((!(g_fn_10 tr sz e).2.1) == true) && true) (g_fn_17 tr sz e 7).2.2 sz)) m := by
  cases hv : g_addr_Valid e with
  | false =>
    have h1 := get_no R hu (p := e) (fun h => by rw [hv] at h; cases h)
    rw [h1, ins_no hv]
    exact ⟨rfl, R⟩
  | true =>
    cases hm : m (key e) with
    | some v =>
      rw [get_yes R hu hv hm]
      exact ⟨rfl, R⟩
    | none =>
      rw [get_no R hu (p := e) fun _ => hm]
      obtain ⟨i1, i2⟩ := ins_yes R (v := 7) hu (by omega) hv
      have hk : (upd m (key e) (some 7)) (key e) = some 7 := by simp [upd]
      have hcu := cnt_upd (m := m) (q0 := key e) (v := some 7) 32 [] (key e) (by simp) (by rw [pth_len]; have := vlen hv; omega)
      have h3 := i2.sz
      have h4 := R.sz
      simp only at hcu
      obtain ⟨d1, d2⟩ := del_yes i2 hu (by omega) hv hk
      rw [upd_back hm] at d2
      simp only [Bool.not_false, i1, Bool.true_and, Bool.and_true, beq_self_eq_true, cond_true, d1, Bool.not_true]
      exact ⟨trivial, d2⟩
def OrdI (l : List TableEntryT) (_ : Nat) (s : (List Nd) × Int) : Prop := Rep s.1 s.2 (bM l true) ∧ s.2 ≤ 1000
theorem rep_sz {tr tr' : List Nd} {sz sz' : Int} {m : Mp} (R : Rep tr sz m) (R' : Rep tr' sz' m) : sz = sz' := by rw [R.sz, R'.sz]
theorem ord_e {l : List TableEntryT} (hw : Cell.wf (.sl TableEntryS) l) (hl : l.length ≤ 40) : OrdI l 0 ((g_law4_built l true).1, (g_law4_built l true).2) := ⟨bR true hw hl, by have := bS true hw hl; omega⟩
theorem ord_0 {l : List TableEntryT} {n : Nat} (h : ((decide ((l.length : Int) > 30)) || (decide ((n : Int) > 20))) = false) : l.length ≤ 40 := by
  simp only [Bool.or_eq_false_iff, decide_eq_false_iff_not] at h; omega
theorem ord_v2 {c n : Nat} (hc : c < n) {x y : Bool} : (((((okIx (c : Int) (n : Int)) || x) && true) && ((okIx (c : Int) (n : Int)) || y)) && true) = true := by rw [okIx_nat hc]; rfl
theorem ord_v3 {l : List TableEntryT} (hw : Cell.wf (.sl TableEntryS) l) (hl : l.length ≤ 40) {c : Nat} {s : (List Nd) × Int} (hI : OrdI l c s) : ((((((p_fn_16 (g_law4_built l false).1 (g_law4_built l false).2) && (p_fn_16 s.1 s.2)) && true) && true) && true) && true) = true := by
  rw [ent_p false hw hl, ent_pre hI.1 (by have := hI.2; omega)]; rfl

/-! ### A table with one prefix deleted and inserted again -/
theorem insM_keep {m : Mp} {e : TableEntryT} {q : List Bool} (h : m q ≠ none) : insM m e q ≠ none := by
  unfold insM
  cases g_addr_Valid (e.1, e.2.1, ()) with
  | false => exact h
  | true =>
    simp only [cond_true, upd]
    by_cases hq : q = key (e.1, e.2.1, ())
    · rw [if_pos hq]; exact fun h => by cases h
    · rw [if_neg hq]; exact h
theorem fold_keep {q : List Bool} : ∀ (l : List TableEntryT) {m : Mp}, m q ≠ none → l.foldl insM m q ≠ none
  | [], _, h => h
  | e :: l, _, h => fold_keep l (insM_keep h)
theorem fold_mem {e : TableEntryT} (hv : g_addr_Valid (e.1, e.2.1, ()) = true) : ∀ (l : List TableEntryT) {m : Mp}, e ∈ l → l.foldl insM m (key (e.1, e.2.1, ())) ≠ none
  | [], _, h => by cases h
  | d :: l, m, h => by
    rcases List.mem_cons.1 h with rfl | h
    · refine fold_keep l ?_
      unfold insM
      rw [hv]
      simp [upd]
    · exact fold_mem hv l h
theorem bM_mem {l : List TableEntryT} {back : Bool} {e : TableEntryT} (he : e ∈ l) (hv : g_addr_Valid (e.1, e.2.1, ()) = true) : ∃ v, bM l back (key (e.1, e.2.1, ())) = some v := by
  have h := fold_mem hv (ordL l back) (m := fun _ => none) (by cases back with | false => exact he | true => exact List.mem_reverse.2 he)
  unfold bM
  cases hb : (ordL l back).foldl insM (fun _ => none) (key (e.1, e.2.1, ())) with
  | none => exact absurd hb h
  | some v => exact ⟨v, rfl⟩
abbrev tdA (tr : List Nd) (sz : Int) (K : PrefixT) : List Nd := cond (((!(g_fn_10 tr sz K).2.1) == false) && true) (g_fn_18 tr sz K).2.1 tr
abbrev tdB (tr : List Nd) (sz : Int) (K : PrefixT) : Int := cond (((!(g_fn_10 tr sz K).2.1) == false) && true) (g_fn_18 tr sz K).2.2 sz
abbrev td2 (tr : List Nd) (sz : Int) (K : PrefixT) : List Nd := cond ((((!(g_fn_10 tr sz K).2.1) || (!(g_fn_18 tr sz K).1)) == false) && true) (g_fn_18 (tdA tr sz K) (tdB tr sz K) K).2.1 (tdA tr sz K)
abbrev td1 (tr : List Nd) (sz : Int) (K : PrefixT) : Int := cond ((((!(g_fn_10 tr sz K).2.1) || (!(g_fn_18 tr sz K).1)) == false) && true) (g_fn_18 (tdA tr sz K) (tdB tr sz K) K).2.2 (tdB tr sz K)
structure TdR (tr : List Nd) (sz : Int) (m : Mp) (K : PrefixT) (v : Int) : Prop where
  get : g_fn_10 tr sz K = (v, true, ())
  del : (g_fn_18 tr sz K).1 = true
  del2 : (g_fn_18 (tdA tr sz K) (tdB tr sz K) K).1 = false
  rep : Rep (td2 tr sz K) (td1 tr sz K) (upd m (key K) none)
  szd : td1 tr sz K = sz - 1
  ins : (g_fn_17 (td2 tr sz K) (td1 tr sz K) K (g_fn_10 tr sz K).1).1 = true
  back : Rep (g_fn_17 (td2 tr sz K) (td1 tr sz K) K (g_fn_10 tr sz K).1).2.1 (g_fn_17 (td2 tr sz K) (td1 tr sz K) K (g_fn_10 tr sz K).1).2.2 m
theorem td_rep {tr : List Nd} {sz : Int} {m : Mp} (R : Rep tr sz m) (hs : sz ≤ 1000) {K : PrefixT} (hu : u32 K.1) (hv : g_addr_Valid K = true) {v : Int} (hm : m (key K) = some v) : TdR tr sz m K v := by
  have h1 := get_yes R hu hv hm
  obtain ⟨d1, d2⟩ := del_yes R hu (by omega) hv hm
  have hk : (upd m (key K) none) (key K) = none := by simp [upd]
  have hcu := cnt_upd (m := m) (q0 := key K) (v := none) 32 [] (key K) (by simp) (by rw [pth_len]; have := vlen hv; omega)
  rw [hc_some hm] at hcu
  simp only at hcu
  have h3 := d2.sz
  have h4 := R.sz
  have eA : tdA tr sz K = (g_fn_18 tr sz K).2.1 := by unfold tdA; rw [h1]; rfl
  have eB : tdB tr sz K = (g_fn_18 tr sz K).2.2 := by unfold tdB; rw [h1]; rfl
  have hd := del_no d2 hu fun _ => hk
  have e2 : td2 tr sz K = (g_fn_18 tr sz K).2.1 := by
    unfold td2; rw [h1, d1, eA, eB, hd]; rfl
  have e1 : td1 tr sz K = (g_fn_18 tr sz K).2.2 := by
    unfold td1; rw [h1, d1, eA, eB, hd]; rfl
  have hi := ins_yes d2 (v := v) hu (by omega) hv
  have hback : upd (upd m (key K) none) (key K) (some v) = m := by
    funext r
    unfold upd
    by_cases hr : r = key K
    · subst hr; rw [if_pos rfl, hm]
    · rw [if_neg hr, if_neg hr]
  rw [hback] at hi
  refine ⟨h1, d1, by rw [eA, eB, hd], by rw [e2, e1]; exact d2, by rw [e1]; omega, ?_, ?_⟩
  · rw [e2, e1, h1]; exact hi.1
  · rw [e2, e1, h1]; exact hi.2
theorem td_0 {l : List TableEntryT} {k : Int} {v : Bool} (h : ((((decide ((l.length : Int) > 30)) || (decide (k < 0))) || (decide (k ≥ (l.length : Int)))) || (!v)) = false) : l.length ≤ 30 ∧ 0 ≤ k ∧ k < (l.length : Int) ∧ v = true := by
  simp only [Bool.or_eq_false_iff, decide_eq_false_iff_not] at h
  obtain ⟨⟨⟨h1, h2⟩, h3⟩, h4⟩ := h
  exact ⟨by omega, by omega, by omega, by simpa using h4⟩
theorem td_len {l : List TableEntryT} {k : Int} {v : Bool} (h : ((((decide ((l.length : Int) > 30)) || (decide (k < 0))) || (decide (k ≥ (l.length : Int)))) || (!v)) = false) : l.length ≤ 40 := by have := (td_0 h).1; omega
theorem td_ok {l : List TableEntryT} {k : Int} {v : Bool} (h : ((((decide ((l.length : Int) > 30)) || (decide (k < 0))) || (decide (k ≥ (l.length : Int)))) || (!v)) = false) : okIx k (l.length : Int) = true := okIx_of (td_0 h).2.1 (td_0 h).2.2.1
/-- The prefix of the k-th entry. -/
abbrev tdK (l : List TableEntryT) (k : Int) : PrefixT := ((List.getD l (Int.toNat k) TableEntryD).1, (List.getD l (Int.toNat k) TableEntryD).2.1, ())
theorem td_all {l : List TableEntryT} (hw : Cell.wf (.sl TableEntryS) l) {k : Int} (h : ((((decide ((l.length : Int) > 30)) || (decide (k < 0))) || (decide (k ≥ (l.length : Int)))) || (!(g_r4_Valid (tdK l k)))) = false) : ∃ v, bM l false (key (tdK l k)) = some v ∧ TdR (g_law4_built l false).1 (g_law4_built l false).2 (bM l false) (tdK l k) v := by
  obtain ⟨h1, h2, h3, h4⟩ := td_0 h
  rw [rvalid_eq] at h4
  have hmem : List.getD l (Int.toNat k) TableEntryD ∈ l := getD_mem (by omega) _
  obtain ⟨v, hv⟩ := bM_mem (back := false) hmem h4
  exact ⟨v, hv, td_rep (bR false hw (by omega)) (by have := bS false hw (by omega); omega) (u32_ents hw _ hmem) h4 hv⟩
theorem td_p16 {l : List TableEntryT} (hw : Cell.wf (.sl TableEntryS) l) {k : Int} (h : ((((decide ((l.length : Int) > 30)) || (decide (k < 0))) || (decide (k ≥ (l.length : Int)))) || (!(g_r4_Valid (tdK l k)))) = false) :
    p_fn_16 (g_fn_17 (td2 (g_law4_built l false).1 (g_law4_built l false).2 (tdK l k)) (td1 (g_law4_built l false).1 (g_law4_built l false).2 (tdK l k)) (tdK l k) (g_fn_10 (g_law4_built l false).1 (g_law4_built l false).2 (tdK l k)).1).2.1 (g_fn_17 (td2 (g_law4_built l false).1 (g_law4_built l false).2 (tdK l k)) (td1 (g_law4_built l false).1 (g_law4_built l false).2 (tdK l k)) (tdK l k) (g_fn_10 (g_law4_built l false).1 (g_law4_built l false).2 (tdK l k)).1).2.2 = true := by
  obtain ⟨v, _, t⟩ := td_all hw h
  refine ent_pre t.back ?_
  rw [rep_sz t.back (bR false hw (td_len h))]
  have := bS false hw (td_len h); omega
theorem td_v2 {c n : Nat} (hc : c < n) {b x : Bool} (hb : b = true) : ((okIx (c : Int) (n : Int) && b) && (okIx (c : Int) (n : Int) || x)) = true := by rw [okIx_nat hc, hb]; rfl
theorem td_v3 {b P Z : Bool} (hb : b = true) (hP : P = true) : ((((b && true) && (P || Z)) && true) && true) = true := by rw [hb, hP]; rfl
theorem td_v4 {n : Nat} {k : Int} {x : Bool} : (((okIx k (n : Int)) || (!(((((x) || (decide (k < 0))) || (decide (k ≥ (n : Int)))) == false) && true))) && true) = true := by
  by_cases h1 : k < 0
  · simp [h1]
  · by_cases h2 : k ≥ (n : Int)
    · simp [h2]
    · rw [okIx_of (by omega) (by omega)]; rfl
theorem td_v7 {b x y : Bool} (hb : b = true) : (((((b) || x) && true) && ((b) || y)) && true) = true := by rw [hb]; rfl
theorem td_v8 {b : Bool} (hb : b = true) : (b && true) = true := by rw [hb]; rfl
end Go.Proofs.Ythjhlpbiljpccaa
