/-
  A region in any order; the region's law.
-/
import Derived.Test.YthjhlpbiljpccaaAmRegP
namespace Go.AM
open Go.RowKit

def Lof (listed : Array Bool) (j : Nat) : Prop := listed[j]? = some true

section
variable {P : Program} {ms : List Nat} {Γ : Env} {ops : Array Oper} {as : List AOper} {r0 rn : RS} {n : Nat}

theorem ready_mem {listed : Array Bool} (hsz : listed.size = ops.size) {i : Nat} (h : i ∈ Region.ready .any ops listed) : listed[i]? = some false ∧ ∃ o, ops[i]? = some o ∧ ∀ e ∈ o.after.toList, Region.binds .any e = true → Lof listed e.on := by
  unfold Region.ready at h
  rw [List.mem_filter] at h
  obtain ⟨h1, h2⟩ := h
  have hlt : i < ops.size := by simpa using h1
  have ho : ops[i]? = some ops[i] := Array.getElem?_eq_getElem hlt
  rw [ho] at h2
  simp only [Option.map_some, Option.getD_some, Bool.and_eq_true, Bool.not_eq_true'] at h2
  have hl : listed[i]? = some listed[i] := Array.getElem?_eq_getElem (by omega)
  refine ⟨?_, _, ho, fun e he hb => ?_⟩
  · have := h2.1
    rw [Array.getD_eq_getD_getElem?, hl] at this
    rw [hl]
    simpa using this
  · have := h2.2
    rw [Array.all_eq_true'] at this
    have := this e (by simpa using he)
    rw [hb] at this
    simp only [Bool.not_true, Bool.false_or, Array.getD_eq_getD_getElem?] at this
    unfold Lof
    cases hq : listed[e.on]? with
    | none => rw [hq] at this; simp at this
    | some b => rw [hq] at this; simp at this; rw [this]
theorem ready_of {listed : Array Bool} {i : Nat} {o : Oper} (ho : ops[i]? = some o) (hf : listed[i]? = some false) (h : ∀ e ∈ o.after.toList, Region.binds .any e = true → Lof listed e.on) : i ∈ Region.ready .any ops listed := by
  unfold Region.ready
  rw [List.mem_filter]
  have hlt := (Array.getElem?_eq_some_iff.1 ho).1
  refine ⟨by simpa using hlt, ?_⟩
  rw [ho]
  simp only [Option.map_some, Option.getD_some, Bool.and_eq_true, Bool.not_eq_true', Array.getD_eq_getD_getElem?, hf, true_and]
  rw [Array.all_eq_true']
  intro e he
  cases hb : Region.binds .any e with
  | false => rfl
  | true =>
    have := h e (by simpa using he) hb
    unfold Lof at this
    rw [this]
    rfl

theorem least {p : Nat → Prop} [DecidablePred p] : ∀ (n : Nat), (∃ i, i < n ∧ p i) → ∃ i, i < n ∧ p i ∧ ∀ j, j < i → ¬ p j
  | 0, ⟨_, h, _⟩ => absurd h (Nat.not_lt_zero _)
  | n + 1, ⟨i, hi, hp⟩ => by
    by_cases h : ∃ i, i < n ∧ p i
    · obtain ⟨j, hj, h1, h2⟩ := least n h
      exact ⟨j, by omega, h1, h2⟩
    · have : i = n := by
        rcases Nat.lt_or_ge i n with h1 | h1
        · exact absurd ⟨i, h1, hp⟩ h
        · omega
      subst this
      exact ⟨i, hi, hp, fun j hj hp' => h ⟨j, hj, hp'⟩⟩

/-- What the listing keeps. -/
structure Listed (ops : Array Oper) (listed : Array Bool) : Prop where
  size : listed.size = ops.size
  closed : ∀ j o, Lof listed j → ops.toList[j]? = some o → ∀ e ∈ o.after.toList, Region.binds .any e = true → Lof listed e.on

theorem lof_set {listed : Array Bool} {i : Nat} (hf : listed[i]? = some false) (j : Nat) : Lof (listed.setIfInBounds i true) j ↔ (Lof listed j ∨ j = i) := by
  have hlt := (Array.getElem?_eq_some_iff.1 hf).1
  unfold Lof
  by_cases h : j = i
  · subst h; simp [hlt]
  · rw [Array.getElem?_setIfInBounds_ne (by omega)]
    exact ⟨.inl, fun h' => h'.resolve_right h⟩

theorem elemP_of {p : Nat × Nat} : ∀ {l : List (Nat × Nat)}, p ∈ l → loose.elemP p l = true
  | [], h => by cases h
  | q :: r, h => by
    simp only [loose.elemP, Bool.or_eq_true, Bool.and_eq_true, beq_iff_eq]
    rcases List.mem_cons.1 h with rfl | h
    · exact .inl ⟨rfl, rfl⟩
    · exact .inr (elemP_of h)
theorem isAlloc_of {x : AOper} (h : isAlloc x = true) : ∃ z, x.op = .alloc z ∧ x.guard = none := by
  unfold isAlloc at h
  split at h
  · rename_i z hz
    exact ⟨z, hz, by simpa using h⟩
  · cases h
theorem isAlloc_reads {x : AOper} (h : readsM x.op = true) : isAlloc x = false := by
  cases hx : isAlloc x with
  | false => rfl
  | true =>
    obtain ⟨z, hz, _⟩ := isAlloc_of hx
    rw [hz] at h; cases h
/-- What the pair of new variables keeps. -/
theorem pairOk_at {ps : List (Nat × Nat)} (h : pairOk as ps = true) {i j : Nat} {x y : AOper} (hm : (i, j) ∈ ps) (hx : as[i]? = some x) (hy : as[j]? = some y) (ax : isAlloc x = true) (ay : isAlloc y = true) :
    i < j ∧ (∀ q z, i < q → q < j → as[q]? = some z → writesM z.op = false) ∧ (∀ r, r < i → (r, j) ∈ ps → (r, i) ∈ ps) ∧
      ∀ i' j' x' y', (i', j') ∈ ps → as[i']? = some x' → as[j']? = some y' → isAlloc x' = true → isAlloc y' = true → i' = i ∧ j' = j := by
  unfold pairOk at h
  have mem : ∀ i' j' x' y', (i', j') ∈ ps → as[i']? = some x' → as[j']? = some y' → isAlloc x' = true → isAlloc y' = true → (i', j') ∈ ps.filter fun p => allocAt as p.1 && allocAt as p.2 := fun i' j' x' y' h1 h2 h3 h4 h5 => by
    refine List.mem_filter.2 ⟨h1, ?_⟩
    simp [allocAt, h2, h3, h4, h5]
  have h0 := mem i j x y hm hx hy ax ay
  split at h
  · rename_i he
    rw [he] at h0; cases h0
  · rename_i i0 j0 he
    rw [he] at h0 mem
    have e := List.mem_singleton.1 h0
    cases e
    simp only [Bool.and_eq_true, Nat.blt_eq, List.all_eq_true, Bool.or_eq_true, Bool.not_eq_true', Bool.and_eq_false_iff] at h
    obtain ⟨⟨h1, h2⟩, h3⟩ := h
    refine ⟨h1, fun q z hq1 hq2 hz => ?_, fun r hr hm => ?_, fun i' j' x' y' a1 a2 a3 a4 a5 => ?_⟩
    · have hmem : (z, q) ∈ as.zipIdx := by
        rw [List.mem_iff_getElem?]
        exact ⟨q, by simp [List.getElem?_zipIdx, hz]⟩
      rcases h2 _ hmem with h | h | h
      · exact h
      · have : Nat.blt i q = true := by simpa using hq1
        simp only at h
        rw [this] at h; cases h
      · have : Nat.blt q j = true := by simpa using hq2
        simp only at h
        rw [this] at h; cases h
    · rcases h3 r (List.mem_range.2 hr) with h | h
      · rw [elemP_of hm] at h; cases h
      · exact elemP_mem h
    · have := List.mem_singleton.1 (mem i' j' x' y' a1 a2 a3 a4 a5)
      cases this; exact ⟨rfl, rfl⟩
  · cases h
theorem ww_touch {ps : List (Nat × Nat)} {x y : AOper} {i j : Nat} (hx : writesM x.op = true) (hy : writesM y.op = true) : touchX ps x i y j = true ∨ (isAlloc x = true ∧ isAlloc y = true ∧ (i, j) ∈ ps) := by
  cases h : touchX ps x i y j with
  | true => exact .inl rfl
  | false =>
    simp only [touchX, touchM, loose, hx, hy, Bool.or_true, Bool.true_and, Bool.true_or, Bool.not_true, Bool.and_false, Bool.false_and, Bool.false_or, Bool.or_eq_false_iff, Bool.not_eq_false', Bool.and_eq_true] at h
    exact .inr ⟨h.2.1.1, h.2.1.2, elemP_mem h.2.2⟩
theorem wr_touch {ps : List (Nat × Nat)} {x y : AOper} {i j : Nat} (hx : writesM x.op = true) (hr : readsM y.op = true) (hy : writesM y.op = false) : touchX ps x i y j = true ∨ (j, i) ∈ ps := by
  cases h : touchX ps x i y j with
  | true => exact .inl rfl
  | false =>
    simp only [touchX, touchM, loose, hx, hy, hr, isAlloc_reads hr, Bool.or_true, Bool.or_false, Bool.true_and, Bool.true_or, Bool.not_true, Bool.not_false, Bool.and_false, Bool.false_and, Bool.false_or, Bool.or_eq_false_iff, Bool.not_eq_false', Bool.and_eq_true] at h
    exact .inr (elemP_mem h.2)
theorem rw_touch {ps : List (Nat × Nat)} {x y : AOper} {i j : Nat} (hr : readsM x.op = true) (hx : writesM x.op = false) (hy : writesM y.op = true) : touchX ps x i y j = true ∨ (i, j) ∈ ps := by
  cases h : touchX ps x i y j with
  | true => exact .inl rfl
  | false =>
    simp only [touchX, touchM, loose, hx, hy, hr, isAlloc_reads hr, Bool.or_true, Bool.or_false, Bool.true_and, Bool.and_true, Bool.true_or, Bool.not_true, Bool.not_false, Bool.and_false, Bool.false_and, Bool.false_or, Bool.or_eq_false_iff, Bool.not_eq_false', Bool.and_eq_true] at h
    exact .inr (elemP_mem h.2)
/-- Which of the two new variables memory has already. -/
def PendOk (as : List AOper) (ps : List (Nat × Nat)) (L : Nat → Prop) (p : Option Nat) : Prop :=
  (p = none ∧ ∀ i j x y, (i, j) ∈ ps → as[i]? = some x → as[j]? = some y → isAlloc x = true → isAlloc y = true → L j → L i) ∨
  ∃ i j x y, p = some i ∧ (i, j) ∈ ps ∧ as[i]? = some x ∧ as[j]? = some y ∧ isAlloc x = true ∧ isAlloc y = true ∧ L j ∧ ¬ L i

theorem reg_any (c : RegC P ms Γ ops as r0 rn n) {ps : List (Nat × Nat)} (hany : anyOk ops.toList as ps = true) (hps : pairsOk Γ rn.st.s as ps = true) {N : Nat → Prop} {wb : Base} (hN : ∀ b, ¬ wb.B b → N b) {Q : Exit → Act → World → Prop} (hQ : ∀ a w φ, RegEnd P n N wb rn a w φ → Q .normal a w) :
    ∀ fuel listed, Listed ops listed → listed.toList.count false ≤ fuel → ∀ {p a w φ k}, PendOk as ps (Lof listed) p → Inv P Γ as r0 n N wb (Lof listed) p a w φ k → wpAny P .any ops Q fuel listed a w := by
  have hlen : as.length = ops.size := by have := (cOpers_at c.comp).1; simpa using this
  simp only [anyOk, Bool.and_eq_true] at hany
  have fin : ∀ {listed : Array Bool}, Listed ops listed → Region.ready .any ops listed = [] → ∀ j, j < as.length → Lof listed j := fun {listed} hl hr j hj => by
    have hdec : DecidablePred fun i => ¬ Lof listed i := fun i => by unfold Lof; infer_instance
    rcases Classical.em (Lof listed j) with h | h
    · exact h
    · obtain ⟨i, h1, h2, h3⟩ := least (p := fun i => ¬ Lof listed i) as.length ⟨j, hj, h⟩
      have hlt : i < ops.size := by omega
      have hil : i < listed.size := by have := hl.size; omega
      have hl' : listed[i]? = some listed[i] := Array.getElem?_eq_getElem hil
      have hf : listed[i]? = some false := by
        rw [hl']
        unfold Lof at h2
        rw [hl'] at h2
        simpa using h2
      have ho : ops[i]? = some ops[i] := Array.getElem?_eq_getElem hlt
      have : i ∈ Region.ready .any ops listed := ready_of ho hf fun e he hb => by
        have := onBack_at ops.toList 0 hany.1.1.1 i ops[i] (by simp) e he hb
        have := h3 e.on (by omega)
        exact Classical.not_not.1 this
      rw [hr] at this; cases this
  intro fuel
  induction fuel with
  | zero =>
    intro listed hl hc p a w φ k hp hI
    have hr : Region.ready .any ops listed = [] := by
      cases hr : Region.ready .any ops listed with
      | nil => rfl
      | cons i r =>
        have := (ready_mem hl.size (i := i) (by rw [hr]; exact List.mem_cons_self ..)).1
        have : false ∈ listed.toList := by
          rw [List.mem_iff_getElem?]
          exact ⟨i, by simpa using this⟩
        have := List.count_pos_iff.2 this
        omega
    exact ⟨hr, hQ a w φ (inv_end c (fin hl hr) hI)⟩
  | succ fuel ih =>
    intro listed hl hc p a w φ k hp hI
    refine ⟨fun hr => hQ a w φ (inv_end c (fin hl hr) hI), fun i hi => ?_⟩
    obtain ⟨hf, co, hco, haft⟩ := ready_mem hl.size hi
    have hlt := (Array.getElem?_eq_some_iff.1 hco).1
    have ho : as[i]? = some as[i] := List.getElem?_eq_getElem (by omega)
    generalize as[i] = o at ho
    have hnL : ¬ Lof listed i := by unfold Lof; rw [hf]; simp
    -- what it waits for is listed
    have fwd : ∀ j y, j < i → as[j]? = some y → touchX ps y j o i = true → Lof listed j := fun j y hj hy ht => by
      have := allWait_at as 0 hany.1.1.2 j i y o hj hy ho (by simpa using ht)
      simp only [Nat.zero_add] at this
      exact ahead_in (os := ops.toList) hl.closed (i + 1) i co (Nat.lt_succ_self i) (by simpa using hco) haft this
    -- what waits for it is not
    have bwd : ∀ j y, i < j → as[j]? = some y → touchX ps o i y j = true → ¬ Lof listed j := fun j y hj hy ht hL => by
      have := allWait_at as 0 hany.1.1.2 i j o y hj ho hy (by simpa using ht)
      simp only [Nat.zero_add] at this
      have hjl := (List.getElem?_eq_some_iff.1 hy).1
      have hoj : ops.toList[j]? = some (ops.toList[j]'(by simp; omega)) := List.getElem?_eq_getElem _
      exact hnL (ahead_in (os := ops.toList) hl.closed (j + 1) j _ (Nat.lt_succ_self j) hoj (hl.closed j _ hL hoj) this)
    have hb : ∀ t ∈ looks o, AEnt Γ as r0 (Lof listed) t (get (sAt Γ as r0 i) t) := fun t ht => by
      rcases aent_lex c t i (by omega) with ⟨j, y, h1, h2, h3, h4⟩ | ⟨h1, h2⟩
      · refine .inl ⟨j, y, fwd j y h1 h2 ?_, h2, h3, h4⟩
        simp [touchX, touchS, h3, elemN_mem.2 ht]
      · refine .inr ⟨fun j y hL hy hd => ?_, h2⟩
        rcases Nat.lt_trichotomy j i with hj | rfl | hj
        · exact h1 j y hj hy hd
        · exact hnL hL
        · refine bwd j y hj hy ?_ hL
          simp [touchX, touchS, hd, elemN_mem.2 ht]
    have own_entry : ∀ {j y}, j < i → as[j]? = some y → ∀ {d}, y.dst = some d → get (sAt Γ as r0 i) d = get (sAt Γ as r0 (j + 1)) d := fun {j y} hj hy {d} hd => by
      rcases aent_lex c d i (by omega) with ⟨j', y', h1, h2, h3, h4⟩ | ⟨h1, _⟩
      · have := distinct_at c.distinct h2 hy h3 hd
        subst this; exact h4
      · exact absurd hd (h1 j y hj hy)
    have hch : ∀ p ∈ guardsOf (sAt Γ as r0 i) o.guard, AEnt Γ as r0 (Lof listed) p.1 (get (sAt Γ as r0 i) p.1) ∧ ∃ j y, Lof listed j ∧ as[j]? = some y ∧ y.dst = some p.1 := fun p hp => by
      obtain ⟨j, y, hj, hy, hd⟩ := (c.guards ho).1 p hp
      have key : Lof listed j := by
        cases hg : o.guard with
        | none => rw [hg] at hp; cases hp
        | some tb =>
          obtain ⟨t, b⟩ := tb
          rw [hg] at hp
          have htl : t ∈ looks o := by unfold looks; rw [hg]; simp
          obtain ⟨j0, y0, h1, h2, h3⟩ := c.gb ho hg
          have hL0 : Lof listed j0 := fwd j0 y0 h1 h2 (by simp [touchX, touchS, h3, elemN_mem.2 htl])
          rcases List.mem_cons.1 hp with rfl | hp
          · have := distinct_at c.distinct h2 hy h3 hd
            subst this; exact hL0
          · rw [own_entry h1 h2 h3] at hp
            obtain ⟨x', m'', b', _, h6, _⟩ := c.at_ h2
            rw [h6, h3, get_put_eq] at hp
            obtain ⟨q, z, g1, g2, g3⟩ := hI.chain j0 y0 hL0 h2 p hp
            have := distinct_at c.distinct g2 hy g3 hd
            subst this; exact g1
      exact ⟨.inl ⟨j, y, key, hy, hd, own_entry hj hy hd⟩, j, y, key, hy, hd⟩
    have hpair := fun {i j : Nat} {x y : AOper} => pairOk_at (i := i) (j := j) (x := x) (y := y) hany.2
    have wrt : ∀ {x : AOper}, isAlloc x = true → writesM x.op = true := fun {x} h => by
      obtain ⟨z, hz, _⟩ := isAlloc_of h
      rw [hz]; rfl
    -- who waits for one that has come up has waited
    have cl : ∀ {j q : Nat} {x y : AOper}, j < q → as[j]? = some x → as[q]? = some y → touchX ps x j y q = true → Lof listed q → Lof listed j := fun {j q x y} hjq hx hy ht hL => by
      have := allWait_at as 0 hany.1.1.2 j q x y hjq hx hy (by simpa using ht)
      simp only [Nat.zero_add] at this
      have hjl := (List.getElem?_eq_some_iff.1 hy).1
      have hoj : ops.toList[q]? = some (ops.toList[q]'(by simp; omega)) := List.getElem?_eq_getElem _
      exact ahead_in (os := ops.toList) hl.closed (q + 1) q _ (Nat.lt_succ_self q) hoj (hl.closed q _ hL hoj) this
    have hrr : readsM o.op = true → writesM o.op = false → ∀ x b, exOp Γ (sAt Γ as r0 i) (guardsOf (sAt Γ as r0 i) o.guard) (mAt Γ as r0 i) o.op = some (x, mAt Γ as r0 i, b) → exOp Γ (sAt Γ as r0 i) (guardsOf (sAt Γ as r0 i) o.guard) (mAt Γ as r0 k) o.op = some (x, mAt Γ as r0 k, b) := fun hro hwo x b hex => by
      have hilt : i < as.length := (List.getElem?_eq_some_iff.1 ho).1
      have hpi : p ≠ some i := fun e => by
        rcases hp with ⟨h, _⟩ | ⟨i0, j, x0, y0, h, _, h2, _, h4, _⟩
        · rw [h] at e; cases e
        · rw [h] at e; cases e
          rw [ho] at h2; cases h2
          rw [wrt h4] at hwo; cases hwo
      -- a writer that stands elsewhere is loose
      have lse : ∀ q y, as[q]? = some y → writesM y.op = true → (¬ ((Lof listed q ∨ p = some q) ↔ q < i)) → (i, q) ∈ ps := fun q y hq hwy hne => by
        rcases Nat.lt_trichotomy q i with h | h | h
        · have hnl : ¬ Lof listed q := fun hl => hne ⟨fun _ => h, fun _ => .inl hl⟩
          exact (wr_touch hwy hro hwo).resolve_left fun ht => hnl (fwd q y h hq ht)
        · subst h
          rw [ho] at hq; cases hq
          rw [hwo] at hwy; cases hwy
        · have hv : Lof listed q ∨ p = some q := Classical.byContradiction fun hnl => hne ⟨fun hl => absurd hl hnl, fun hlt => by omega⟩
          rcases hv with hv | hv
          · exact (rw_touch hro hwo hwy).resolve_left fun ht => bwd q y h hq ht hv
          · rcases hp with ⟨h1, _⟩ | ⟨i0, j, x0, y0, h1, h2, h3, h4, h5, h6, h7, h8⟩
            · rw [h1] at hv; cases hv
            · rw [h1] at hv; cases hv
              obtain ⟨g1, g2, g3, g4⟩ := hpair h2 h3 h4 h5 h6
              exact g3 i h ((rw_touch hro hwo (wrt h6)).resolve_left fun ht => bwd j y0 (by omega) h4 ht h7)
      by_cases hall : ∀ q y, as[q]? = some y → writesM y.op = true → q ≠ i → ((Lof listed q ∨ p = some q) ↔ q < i)
      · rw [mem_same c hI hilt (fun h => h.elim hnL hpi) hall]; exact hex
      · obtain ⟨q0, y0, hq0, hw0, _, hne0⟩ : ∃ q y, as[q]? = some y ∧ writesM y.op = true ∧ q ≠ i ∧ ¬ ((Lof listed q ∨ p = some q) ↔ q < i) := by
          apply Classical.byContradiction
          intro hh
          exact hall fun q y h1 h2 h3 => Classical.byContradiction fun h4 => hh ⟨q, y, h1, h2, h3, h4⟩
        have hst : stays as = true := by
          rcases Bool.or_eq_true _ _ ▸ hany.1.2 with h | h
          · have := lse q0 y0 hq0 hw0 hne0
            cases ps with
            | nil => cases this
            | cons p r => cases h
          · exact h
        obtain ⟨l, _, hl0, _, _⟩ := pairsOk_at hps (lse q0 y0 hq0 hw0 hne0) ho hq0
        have hlR : objsR (sAt Γ as r0 i) o.op = some l := by
          rw [← hl0]
          have key : ∀ t ∈ tmpsOf (match o.op with | .load _ _ a => [a] | .store _ a _ => [a] | .call _ l => l | .callv x l => x :: l | .app _ _ x _ => [x] | .ixn _ x _ => [x] | .callm _ l => l | _ => []), get rn.st.s t = get (sAt Γ as r0 i) t := fun t ht => adr_stay c hst ho ht
          revert key hro
          cases o.op <;> intro hro key <;> first | (simp [readsM] at hro; done) | skip
          · exact (objO_stay key).symm
          · exact (objA_stay key).symm
          · rfl
          · exact (objA_stay key).symm
          · exact (objO_stay key).symm
        refine read_same hex hlR fun kk hkk => ?_
        -- who stands elsewhere changes other objects
        have oth : ∀ q y, as[q]? = some y → (writesM y.op = true → ¬ ((Lof listed q ∨ p = some q) ↔ q < i)) → (mAt Γ as r0 (q + 1))[kk]? = (mAt Γ as r0 q)[kk]? := fun q y hq hh => by
          cases hwy : writesM y.op with
          | false => rw [quiet_at c hq hwy]
          | true =>
            obtain ⟨a', b', ha', hb', hap⟩ := pairsOk_at hps (lse q y hq hwy (hh hwy)) ho hq
            rw [hl0] at ha'; cases ha'
            exact write_other c hst hq hb' (apartL_at hap hkk)
        rcases Nat.le_total k i with h1 | h1
        · obtain ⟨d, rfl⟩ : ∃ d, i = k + d := ⟨i - k, by omega⟩
          refine (obj_stay c d (by omega) fun q y h2 h3 hq => oth q y hq fun hwy => ?_).symm
          have := hI.wr q y hq hwy
          exact fun hiff => by
            have := this.1 (hiff.2 h3)
            omega
        · have hkle := hI.kle
          obtain ⟨d, rfl⟩ : ∃ d, k = i + d := ⟨k - i, by omega⟩
          refine obj_stay c d hkle fun q y h2 h3 hq => oth q y hq fun hwy => ?_
          have := hI.wr q y hq hwy
          exact fun hiff => by
            have := hiff.1 (this.2 h3)
            omega
    have go : ∀ {p' a' w' φ' k'}, PendOk as ps (fun j => Lof listed j ∨ j = i) p' → Inv P Γ as r0 n N wb (fun j => Lof listed j ∨ j = i) p' a' w' φ' k' → wpAny P .any ops Q fuel (listed.setIfInBounds i true) a' w' := fun {p' a' w' φ' k'} hp' h => by
      have hLL : (fun j => Lof listed j ∨ j = i) = Lof (listed.setIfInBounds i true) := by
        funext j; exact propext (lof_set hf j).symm
      rw [hLL] at h hp'
      refine ih _ ⟨by simp [hl.size], fun j y hj hy e he hbe => ?_⟩ ?_ hp' h
      · rw [lof_set hf] at hj ⊢
        rcases hj with hj | rfl
        · exact .inl (hl.closed j y hj hy e he hbe)
        · have : y = co := by
            have : ops.toList[j]? = some co := by simpa using hco
            rw [this] at hy; exact (Option.some.inj hy).symm
          subst this
          exact .inl (haft e he hbe)
      · have hil : i < listed.toList.length := by have := hl.size; simp; omega
        have hget : listed.toList[i] = false := by
          have : listed.toList[i]? = some false := by simpa using hf
          exact (List.getElem?_eq_some_iff.1 this).2
        rw [Array.toList_setIfInBounds, List.count_set hil]
        have : false ∈ listed.toList := List.mem_iff_getElem.2 ⟨i, hil, hget⟩
        have := List.count_pos_iff.2 this
        rw [hget]
        simp only [beq_self_eq_true, if_true, Bool.true_eq_false, if_false, beq_iff_eq, Nat.add_zero]
        have e2 : (true == false) = false := rfl
        try simp only [e2, Bool.false_eq_true, if_false, Nat.add_zero]
        omega
    by_cases hpi : p = some i
    · -- it comes up, and memory has it already
      rcases hp with ⟨h, _⟩ | ⟨i0, j, x0, y0, h1, h2, h3, h4, h5, h6, h7, h8⟩
      · rw [h] at hpi; cases hpi
      · rw [h1] at hpi; cases hpi
        subst h1
        obtain ⟨g1, g2, g3, g4⟩ := hpair h2 h3 h4 h5 h6
        rw [ho] at h3; cases h3
        obtain ⟨z, hz, hgd⟩ := isAlloc_of h5
        obtain ⟨zj, hzj, _⟩ := isAlloc_of h6
        have hjlt := (List.getElem?_eq_some_iff.1 h4).1
        have hkj : j < k := (hI.wr j y0 h4 (wrt h6)).1 (.inl h7)
        have e1 : mAt Γ as r0 k = mAt Γ as r0 (j + 1) := mAt_stay c (by omega) hI.kle fun q y hq1 hq2 hq => by
          cases hwq : writesM y.op with
          | false => rfl
          | true =>
            have hv := (hI.wr q y hq hwq).2 hq2
            rcases hv with hv | hv
            · rcases ww_touch (ps := ps) (i := i) (j := q) (wrt h5) hwq with ht | ⟨t1, t2, t3⟩
              · exact absurd (cl (by omega) ho hq ht hv) hnL
              · have := (g4 i q _ _ t3 ho hq t1 t2).2; omega
            · cases hv; omega
        have e2 : mAt Γ as r0 j = mAt Γ as r0 (i + 1) := mAt_stay c (by omega) (by omega) fun q y hq1 hq2 hq => g2 q y (by omega) hq2 hq
        have mk : ∀ {q : Nat} {y : AOper} {zz : List AV}, as[q]? = some y → y.op = .alloc zz → mAt Γ as r0 (q + 1) = mAt Γ as r0 q ++ [.box none zz] := fun {q y zz} hq hz => by
          obtain ⟨x, m', b, hex, _, hm1, _⟩ := c.at_ hq
          rw [hz] at hex
          simp only [exOp] at hex
          obtain ⟨_, rfl, _⟩ := ok1_spec hex
          exact hm1
        have hmz : (mAt Γ as r0 k)[(mAt Γ as r0 i).length]? = some (.box none z) := by
          rw [e1, mk h4 hzj, e2, mk ho hz, List.append_assoc, List.getElem?_append_right (Nat.le_refl _)]
          simp
        refine reg_fill c hI ho hz hgd hnL hmz fun a' w' φ' k' h => go (.inl ⟨rfl, fun i1 j1 x1 y1 a1 a2 a3 a4 a5 _ => ?_⟩) h
        exact .inr (g4 i1 j1 x1 y1 a1 a2 a3 a4 a5).1
    · by_cases hpart : p = none ∧ ∃ i0 x0, (i0, i) ∈ ps ∧ as[i0]? = some x0 ∧ isAlloc x0 = true ∧ isAlloc o = true ∧ ¬ Lof listed i0
      · -- the second of the two comes up first
        obtain ⟨rfl, i0, x0, h2, h3, h5, h6, h8⟩ := hpart
        obtain ⟨g1, g2, g3, g4⟩ := hpair h2 h3 ho h5 h6
        obtain ⟨z, hz, hgd⟩ := isAlloc_of h5
        obtain ⟨zo, hzo, _⟩ := isAlloc_of h6
        have hI2 := inv_phantom c hI h3 hz h8 fun q y hq hwq hne => by
          constructor
          · intro hL
            rcases Nat.lt_or_ge q i0 with h | h
            · exact h
            · rcases ww_touch (ps := ps) (i := i0) (j := q) (wrt h5) hwq with ht | ⟨t1, t2, t3⟩
              · exact absurd (cl (by omega) h3 hq ht hL) h8
              · have := (g4 i0 q _ _ t3 h3 hq t1 t2).2
                subst this; exact absurd hL hnL
          · intro hlt
            rcases ww_touch (ps := ps) (i := q) (j := i) hwq (wrt h6) with ht | ⟨t1, t2, t3⟩
            · exact fwd q y (by omega) hq ht
            · have := (g4 q i _ _ t3 hq ho t1 t2).1
              exact absurd this hne
        refine reg_step c hN hI2 ho hnL (fun e => by cases e; omega) hb hch (fun _ q y hq hwq hne => ?_) (fun hro => by rw [hzo] at hro; cases hro) fun a' w' φ' k' h => go (.inr ⟨i0, i, x0, o, rfl, h2, h3, ho, h5, h6, .inr rfl, fun h => h.elim h8 (fun e => by omega)⟩) h
        constructor
        · rintro (hL | e)
          · rcases Nat.lt_or_ge q i with h | h
            · exact h
            · rcases ww_touch (ps := ps) (i := i) (j := q) (wrt h6) hwq with ht | ⟨t1, t2, t3⟩
              · exact absurd hL (bwd q y (by omega) hq ht)
              · have := (g4 i q _ _ t3 ho hq t1 t2).1; omega
          · cases e; exact g1
        · intro hlt
          rcases ww_touch (ps := ps) (i := q) (j := i) hwq (wrt h6) with ht | ⟨t1, t2, t3⟩
          · exact .inl (fwd q y hlt hq ht)
          · rw [(g4 q i _ _ t3 hq ho t1 t2).1]; exact .inr rfl
      · -- as ever
        refine reg_step c hN hI ho hnL hpi hb hch (fun hwo => ?_) hrr fun a' w' φ' k' h => go ?_ h
        · rcases hp with ⟨rfl, hp⟩ | ⟨i0, j, x0, y0, rfl, h2, h3, h4, h5, h6, h7, h8⟩
          · intro q y hq hwq hne
            constructor
            · rintro (hL | e)
              · rcases Nat.lt_or_ge q i with h | h
                · exact h
                · rcases ww_touch (ps := ps) (i := i) (j := q) hwo hwq with ht | ⟨t1, t2, t3⟩
                  · exact absurd hL (bwd q y (by omega) hq ht)
                  · exact absurd (hp i q _ _ t3 ho hq t1 t2 hL) hnL
              · cases e
            · intro hlt
              rcases ww_touch (ps := ps) (i := q) (j := i) hwq hwo with ht | ⟨t1, t2, t3⟩
              · exact .inl (fwd q y hlt hq ht)
              · exact .inl (Classical.byContradiction fun hn => hpart ⟨rfl, q, y, t3, hq, t1, t2, hn⟩)
          · obtain ⟨g1, g2, g3, g4⟩ := hpair h2 h3 h4 h5 h6
            exfalso
            rcases Nat.lt_trichotomy i i0 with h | h | h
            · rcases ww_touch (ps := ps) (i := i) (j := j) hwo (wrt h6) with ht | ⟨t1, t2, t3⟩
              · exact bwd j y0 (by omega) h4 ht h7
              · have := (g4 i j _ _ t3 ho h4 t1 t2).1; omega
            · exact hpi (by rw [h])
            · rcases ww_touch (ps := ps) (i := i0) (j := i) (wrt h5) hwo with ht | ⟨t1, t2, t3⟩
              · exact h8 (fwd i0 x0 h h3 ht)
              · have := (g4 i0 i _ _ t3 h3 ho t1 t2).2
                subst this; exact hnL h7
        · rcases hp with ⟨h1, hp⟩ | ⟨i0, j, x0, y0, h1, h2, h3, h4, h5, h6, h7, h8⟩
          · refine .inl ⟨h1, fun i1 j1 x1 y1 a1 a2 a3 a4 a5 hL => ?_⟩
            rcases hL with hL | rfl
            · exact .inl (hp i1 j1 x1 y1 a1 a2 a3 a4 a5 hL)
            · rw [ho] at a3; cases a3
              exact .inl (Classical.byContradiction fun hn => hpart ⟨h1, i1, x1, a1, a2, a4, a5, hn⟩)
          · exact .inr ⟨i0, j, x0, y0, h1, h2, h3, h4, h5, h6, .inl h7, fun h => h.elim h8 fun e => hpi (by rw [h1, e])⟩
end
end Go.AM
