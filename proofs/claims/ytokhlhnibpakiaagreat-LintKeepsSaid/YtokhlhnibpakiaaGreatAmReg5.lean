/-
  A region in any order; the region's law.
-/
import Derived.Test.YtokhlhnibpakiaaGreatAmRegP
namespace Go.AM
open Go.RowKit

def Lof (listed : Array Bool) (j : Nat) : Prop := listed[j]? = some true

section
variable {P : Program} {ms : List Nat} {Γ : Env} {ops : Array Oper} {as : List AOper} {r0 rn : RS} {n : Nat}

theorem ready_mem {listed : Array Bool} (hsz : listed.size = ops.size) {i : Nat} (h : i ∈ Region.ready .any ops listed) : listed[i]? = some false ∧ ∃ o, ops[i]? = some o ∧ ∀ e ∈ o.after.toList, Region.binds .any e = true → Lof listed e.on := by
  unfold Region.ready at h
  rw [List.mem_filter] at h
  obtain ⟨h1, h2⟩ := h
  have hlt : i < ops.size := by simpa using h1
  have ho : ops[i]? = some ops[i] := Array.getElem?_eq_getElem hlt
  rw [ho] at h2
  simp only [Option.map_some, Option.getD_some, Bool.and_eq_true, Bool.not_eq_true'] at h2
  have hl : listed[i]? = some listed[i] := Array.getElem?_eq_getElem (by omega)
  refine ⟨?_, _, ho, fun e he hb => ?_⟩
  · have := h2.1
    rw [Array.getD_eq_getD_getElem?, hl] at this
    rw [hl]
    simpa using this
  · have := h2.2
    rw [Array.all_eq_true'] at this
    have := this e (by simpa using he)
    rw [hb] at this
    simp only [Bool.not_true, Bool.false_or, Array.getD_eq_getD_getElem?] at this
    unfold Lof
    cases hq : listed[e.on]? with
    | none => rw [hq] at this; simp at this
    | some b => rw [hq] at this; simp at this; rw [this]
theorem ready_of {listed : Array Bool} {i : Nat} {o : Oper} (ho : ops[i]? = some o) (hf : listed[i]? = some false) (h : ∀ e ∈ o.after.toList, Region.binds .any e = true → Lof listed e.on) : i ∈ Region.ready .any ops listed := by
  unfold Region.ready
  rw [List.mem_filter]
  have hlt := (Array.getElem?_eq_some_iff.1 ho).1
  refine ⟨by simpa using hlt, ?_⟩
  rw [ho]
  simp only [Option.map_some, Option.getD_some, Bool.and_eq_true, Bool.not_eq_true', Array.getD_eq_getD_getElem?, hf, true_and]
  rw [Array.all_eq_true']
  intro e he
  cases hb : Region.binds .any e with
  | false => rfl
  | true =>
    have := h e (by simpa using he) hb
    unfold Lof at this
    rw [this]
    rfl

theorem least {p : Nat → Prop} [DecidablePred p] : ∀ (n : Nat), (∃ i, i < n ∧ p i) → ∃ i, i < n ∧ p i ∧ ∀ j, j < i → ¬ p j
  | 0, ⟨_, h, _⟩ => absurd h (Nat.not_lt_zero _)
  | n + 1, ⟨i, hi, hp⟩ => by
    by_cases h : ∃ i, i < n ∧ p i
    · obtain ⟨j, hj, h1, h2⟩ := least n h
      exact ⟨j, by omega, h1, h2⟩
    · have : i = n := by
        rcases Nat.lt_or_ge i n with h1 | h1
        · exact absurd ⟨i, h1, hp⟩ h
        · omega
      subst this
      exact ⟨i, hi, hp, fun j hj hp' => h ⟨j, hj, hp'⟩⟩

/-- What the listing keeps. -/
structure Listed (ops : Array Oper) (listed : Array Bool) : Prop where
  size : listed.size = ops.size
  closed : ∀ j o, Lof listed j → ops.toList[j]? = some o → ∀ e ∈ o.after.toList, Region.binds .any e = true → Lof listed e.on

theorem lof_set {listed : Array Bool} {i : Nat} (hf : listed[i]? = some false) (j : Nat) : Lof (listed.setIfInBounds i true) j ↔ (Lof listed j ∨ j = i) := by
  have hlt := (Array.getElem?_eq_some_iff.1 hf).1
  unfold Lof
  by_cases h : j = i
  · subst h; simp [hlt]
  · rw [Array.getElem?_setIfInBounds_ne (by omega)]
    exact ⟨.inl, fun h' => h'.resolve_right h⟩

theorem reg_any (c : RegC P ms Γ ops as r0 rn n) {ps : List (Nat × Nat)} (hany : anyOk ops.toList as ps = true) (hps : pairsOk rn.st.s as ps = true) {N : Nat → Prop} {wb : Base} (hN : ∀ b, ¬ wb.B b → N b) {Q : Exit → Act → World → Prop} (hQ : ∀ a w φ, RegEnd P n N wb rn a w φ → Q .normal a w) :
    ∀ fuel listed, Listed ops listed → listed.toList.count false ≤ fuel → ∀ {a w φ k}, Inv P Γ as r0 n N wb (Lof listed) a w φ k → wpAny P .any ops Q fuel listed a w := by
  have hlen : as.length = ops.size := by have := (cOpers_at c.comp).1; simpa using this
  simp only [anyOk, Bool.and_eq_true] at hany
  have fin : ∀ {listed : Array Bool}, Listed ops listed → Region.ready .any ops listed = [] → ∀ j, j < as.length → Lof listed j := fun {listed} hl hr j hj => by
    have hdec : DecidablePred fun i => ¬ Lof listed i := fun i => by unfold Lof; infer_instance
    rcases Classical.em (Lof listed j) with h | h
    · exact h
    · obtain ⟨i, h1, h2, h3⟩ := least (p := fun i => ¬ Lof listed i) as.length ⟨j, hj, h⟩
      have hlt : i < ops.size := by omega
      have hil : i < listed.size := by have := hl.size; omega
      have hl' : listed[i]? = some listed[i] := Array.getElem?_eq_getElem hil
      have hf : listed[i]? = some false := by
        rw [hl']
        unfold Lof at h2
        rw [hl'] at h2
        simpa using h2
      have ho : ops[i]? = some ops[i] := Array.getElem?_eq_getElem hlt
      have : i ∈ Region.ready .any ops listed := ready_of ho hf fun e he hb => by
        have := onBack_at ops.toList 0 hany.1.1 i ops[i] (by simp) e he hb
        have := h3 e.on (by omega)
        exact Classical.not_not.1 this
      rw [hr] at this; cases this
  intro fuel
  induction fuel with
  | zero =>
    intro listed hl hc a w φ k hI
    have hr : Region.ready .any ops listed = [] := by
      cases hr : Region.ready .any ops listed with
      | nil => rfl
      | cons i r =>
        have := (ready_mem hl.size (i := i) (by rw [hr]; exact List.mem_cons_self ..)).1
        have : false ∈ listed.toList := by
          rw [List.mem_iff_getElem?]
          exact ⟨i, by simpa using this⟩
        have := List.count_pos_iff.2 this
        omega
    exact ⟨hr, hQ a w φ (inv_end c (fin hl hr) hI)⟩
  | succ fuel ih =>
    intro listed hl hc a w φ k hI
    refine ⟨fun hr => hQ a w φ (inv_end c (fin hl hr) hI), fun i hi => ?_⟩
    obtain ⟨hf, co, hco, haft⟩ := ready_mem hl.size hi
    have hlt := (Array.getElem?_eq_some_iff.1 hco).1
    have ho : as[i]? = some as[i] := List.getElem?_eq_getElem (by omega)
    generalize as[i] = o at ho
    have hnL : ¬ Lof listed i := by unfold Lof; rw [hf]; simp
    -- what it waits for is listed
    have fwd : ∀ j y, j < i → as[j]? = some y → touchX ps y j o i = true → Lof listed j := fun j y hj hy ht => by
      have := allWait_at as 0 hany.1.2 j i y o hj hy ho (by simpa using ht)
      simp only [Nat.zero_add] at this
      exact ahead_in (os := ops.toList) hl.closed (i + 1) i co (Nat.lt_succ_self i) (by simpa using hco) haft this
    -- what waits for it is not
    have bwd : ∀ j y, i < j → as[j]? = some y → touchX ps o i y j = true → ¬ Lof listed j := fun j y hj hy ht hL => by
      have := allWait_at as 0 hany.1.2 i j o y hj ho hy (by simpa using ht)
      simp only [Nat.zero_add] at this
      have hjl := (List.getElem?_eq_some_iff.1 hy).1
      have hoj : ops.toList[j]? = some (ops.toList[j]'(by simp; omega)) := List.getElem?_eq_getElem _
      exact hnL (ahead_in (os := ops.toList) hl.closed (j + 1) j _ (Nat.lt_succ_self j) hoj (hl.closed j _ hL hoj) this)
    have hb : ∀ t ∈ looks o, AEnt Γ as r0 (Lof listed) t (get (sAt Γ as r0 i) t) := fun t ht => by
      rcases aent_lex c t i (by omega) with ⟨j, y, h1, h2, h3, h4⟩ | ⟨h1, h2⟩
      · refine .inl ⟨j, y, fwd j y h1 h2 ?_, h2, h3, h4⟩
        simp [touchX, touchS, h3, elemN_mem.2 ht]
      · refine .inr ⟨fun j y hL hy hd => ?_, h2⟩
        rcases Nat.lt_trichotomy j i with hj | rfl | hj
        · exact h1 j y hj hy hd
        · exact hnL hL
        · refine bwd j y hj hy ?_ hL
          simp [touchX, touchS, hd, elemN_mem.2 ht]
    have own_entry : ∀ {j y}, j < i → as[j]? = some y → ∀ {d}, y.dst = some d → get (sAt Γ as r0 i) d = get (sAt Γ as r0 (j + 1)) d := fun {j y} hj hy {d} hd => by
      rcases aent_lex c d i (by omega) with ⟨j', y', h1, h2, h3, h4⟩ | ⟨h1, _⟩
      · have := distinct_at c.distinct h2 hy h3 hd
        subst this; exact h4
      · exact absurd hd (h1 j y hj hy)
    have hch : ∀ p ∈ guardsOf (sAt Γ as r0 i) o.guard, AEnt Γ as r0 (Lof listed) p.1 (get (sAt Γ as r0 i) p.1) ∧ ∃ j y, Lof listed j ∧ as[j]? = some y ∧ y.dst = some p.1 := fun p hp => by
      obtain ⟨j, y, hj, hy, hd⟩ := (c.guards ho).1 p hp
      have key : Lof listed j := by
        cases hg : o.guard with
        | none => rw [hg] at hp; cases hp
        | some tb =>
          obtain ⟨t, b⟩ := tb
          rw [hg] at hp
          have htl : t ∈ looks o := by unfold looks; rw [hg]; simp
          obtain ⟨j0, y0, h1, h2, h3⟩ := c.gb ho hg
          have hL0 : Lof listed j0 := fwd j0 y0 h1 h2 (by simp [touchX, touchS, h3, elemN_mem.2 htl])
          rcases List.mem_cons.1 hp with rfl | hp
          · have := distinct_at c.distinct h2 hy h3 hd
            subst this; exact hL0
          · rw [own_entry h1 h2 h3] at hp
            obtain ⟨x', m'', b', _, h6, _⟩ := c.at_ h2
            rw [h6, h3, get_put_eq] at hp
            obtain ⟨q, z, g1, g2, g3⟩ := hI.chain j0 y0 hL0 h2 p hp
            have := distinct_at c.distinct g2 hy g3 hd
            subst this; exact g1
      exact ⟨.inl ⟨j, y, key, hy, hd, own_entry hj hy hd⟩, j, y, key, hy, hd⟩
    have hw : writesM o.op = true → ∀ j y, as[j]? = some y → writesM y.op = true → j ≠ i → (Lof listed j ↔ j < i) := fun hwo j y hj0 hwy hne => by
      constructor
      · intro hL
        rcases Nat.lt_or_ge j i with hj | hj
        · exact hj
        · refine absurd hL (bwd j y (by omega) hj0 ?_)
          simp [touchX, touchM, loose, hwo, hwy]
      · intro hj
        refine fwd j y hj hj0 ?_
        simp [touchX, touchM, loose, hwo, hwy]
    have hrr : readsM o.op = true → writesM o.op = false → ∀ x b, exOp Γ (sAt Γ as r0 i) (guardsOf (sAt Γ as r0 i) o.guard) (mAt Γ as r0 i) o.op = some (x, mAt Γ as r0 i, b) → exOp Γ (sAt Γ as r0 i) (guardsOf (sAt Γ as r0 i) o.guard) (mAt Γ as r0 k) o.op = some (x, mAt Γ as r0 k, b) := fun hro hwo x b hex => by
      have hilt : i < as.length := (List.getElem?_eq_some_iff.1 ho).1
      -- a writer that stands elsewhere is loose
      have lse : ∀ q y, as[q]? = some y → writesM y.op = true → (¬ (Lof listed q ↔ q < i)) → (i, q) ∈ ps := fun q y hq hwy hne => by
        rcases Nat.lt_trichotomy q i with h | h | h
        · have hnl : ¬ Lof listed q := fun hl => hne ⟨fun _ => h, fun _ => hl⟩
          have hx : ¬ touchX ps y q o i = true := fun ht => hnl (fwd q y h hq ht)
          simp only [touchX, touchM, loose, hro, hwo, hwy, Bool.or_eq_true, Bool.not_eq_true', Bool.true_and, Bool.or_false, Bool.not_false, Bool.not_true, Bool.and_false, Bool.false_and, Bool.false_or, not_or, Bool.not_eq_false] at hx
          exact elemP_mem (by simpa using hx.2)
        · subst h
          rw [ho] at hq; cases hq
          rw [hwo] at hwy; cases hwy
        · have hl : Lof listed q := Classical.byContradiction fun hnl => hne ⟨fun hl => absurd hl hnl, fun hlt => by omega⟩
          have hx : ¬ touchX ps o i y q = true := fun ht => bwd q y h hq ht hl
          simp only [touchX, touchM, loose, hro, hwo, hwy, Bool.or_eq_true, Bool.not_eq_true', Bool.true_and, Bool.or_false, Bool.not_false, Bool.not_true, Bool.and_false, Bool.false_and, Bool.false_or, not_or, Bool.not_eq_false] at hx
          exact elemP_mem (by simpa using hx.2)
      by_cases hall : ∀ q y, as[q]? = some y → writesM y.op = true → q ≠ i → (Lof listed q ↔ q < i)
      · rw [mem_same c hI hilt hnL hall]; exact hex
      · obtain ⟨q0, y0, hq0, hw0, _, hne0⟩ : ∃ q y, as[q]? = some y ∧ writesM y.op = true ∧ q ≠ i ∧ ¬ (Lof listed q ↔ q < i) := by
          apply Classical.byContradiction
          intro hh
          exact hall fun q y h1 h2 h3 => Classical.byContradiction fun h4 => hh ⟨q, y, h1, h2, h3, h4⟩
        have hst : stays as = true := by
          rcases Bool.or_eq_true _ _ ▸ hany.2 with h | h
          · have := lse q0 y0 hq0 hw0 hne0
            cases ps with
            | nil => cases this
            | cons p r => cases h
          · exact h
        obtain ⟨l, _, hl0, _, _⟩ := pairsOk_at hps (lse q0 y0 hq0 hw0 hne0) ho hq0
        have hlR : objsR (sAt Γ as r0 i) o.op = some l := by
          rw [← hl0]
          have key : ∀ t ∈ tmpsOf (match o.op with | .load _ _ a => [a] | .store _ a _ => [a] | .call _ l => l | .callv x l => x :: l | .app _ _ x _ => [x] | _ => []), get rn.st.s t = get (sAt Γ as r0 i) t := fun t ht => adr_stay c hst ho ht
          revert key hro
          cases o.op <;> intro hro key <;> first | (simp [readsM] at hro; done) | skip
          · exact (objO_stay key).symm
          · exact (objA_stay key).symm
          · rfl
          · exact (objA_stay key).symm
        refine read_same hex hlR fun kk hkk => ?_
        -- who stands elsewhere changes other objects
        have oth : ∀ q y, as[q]? = some y → (writesM y.op = true → ¬ (Lof listed q ↔ q < i)) → (mAt Γ as r0 (q + 1))[kk]? = (mAt Γ as r0 q)[kk]? := fun q y hq hh => by
          cases hwy : writesM y.op with
          | false => rw [quiet_at c hq hwy]
          | true =>
            obtain ⟨a', b', ha', hb', hap⟩ := pairsOk_at hps (lse q y hq hwy (hh hwy)) ho hq
            rw [hl0] at ha'; cases ha'
            exact write_other c hst hq hb' (apartL_at hap hkk)
        rcases Nat.le_total k i with h1 | h1
        · obtain ⟨d, rfl⟩ : ∃ d, i = k + d := ⟨i - k, by omega⟩
          refine (obj_stay c d (by omega) fun q y h2 h3 hq => oth q y hq fun hwy => ?_).symm
          have := hI.wr q y hq hwy
          exact fun hiff => by
            have := this.1 (hiff.2 h3)
            omega
        · have hkle := hI.kle
          obtain ⟨d, rfl⟩ : ∃ d, k = i + d := ⟨k - i, by omega⟩
          refine obj_stay c d hkle fun q y h2 h3 hq => oth q y hq fun hwy => ?_
          have := hI.wr q y hq hwy
          exact fun hiff => by
            have := hiff.1 (this.2 h3)
            omega
    refine reg_step c hN hI ho hnL hb hch hw hrr fun a' w' φ' k' h => ?_
    have hLL : (fun j => Lof listed j ∨ j = i) = Lof (listed.setIfInBounds i true) := by
      funext j; exact propext (lof_set hf j).symm
    rw [hLL] at h
    refine ih _ ⟨by simp [hl.size], fun j y hj hy e he hbe => ?_⟩ ?_ h
    · rw [lof_set hf] at hj ⊢
      rcases hj with hj | rfl
      · exact .inl (hl.closed j y hj hy e he hbe)
      · have : y = co := by
          have : ops.toList[j]? = some co := by simpa using hco
          rw [this] at hy; exact (Option.some.inj hy).symm
        subst this
        exact .inl (haft e he hbe)
    · have hil : i < listed.toList.length := by have := hl.size; simp; omega
      have hget : listed.toList[i] = false := by
        have : listed.toList[i]? = some false := by simpa using hf
        exact (List.getElem?_eq_some_iff.1 this).2
      rw [Array.toList_setIfInBounds, List.count_set hil]
      have : false ∈ listed.toList := List.mem_iff_getElem.2 ⟨i, hil, hget⟩
      have := List.count_pos_iff.2 this
      rw [hget]
      simp only [beq_self_eq_true, if_true, Bool.true_eq_false, if_false, beq_iff_eq, Nat.add_zero]
      have e2 : (true == false) = false := rfl
      try simp only [e2, Bool.false_eq_true, if_false, Nat.add_zero]
      omega
end
end Go.AM
