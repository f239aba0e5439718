/-
  A region, in its own order and in any other.
-/
import Derived.Test.YthjhlpbiljpccaaAmReg3
import Derived.Orders
namespace Go.AM
open Go.RowKit

section
variable {P : Program} {ms : List Nat} {Γ : Env} {ops : Array Oper} {as : List AOper} {r0 rn : RS} {n : Nat}

theorem aent_lex (c : RegC P ms Γ ops as r0 rn n) (t : Nat) : ∀ i, i ≤ as.length → AEnt Γ as r0 (fun j => j < i) t (get (sAt Γ as r0 i) t)
  | 0, _ => .inr ⟨fun i o h => absurd h (Nat.not_lt_zero i), rfl⟩
  | i + 1, hi => by
    have ho : as[i]? = some as[i] := List.getElem?_eq_getElem (by omega)
    by_cases hd : as[i].dst = some t
    · exact .inl ⟨i, _, Nat.lt_succ_self i, ho, hd, rfl⟩
    · rw [c.keep ho hd]
      rcases aent_lex c t i (by omega) with ⟨j, o, h1, h2, h3, h4⟩ | ⟨h1, h2⟩
      · exact .inl ⟨j, o, Nat.lt_succ_of_lt h1, h2, h3, h4⟩
      · refine .inr ⟨fun j o h h' => ?_, h2⟩
        rcases Nat.lt_or_ge j i with hj | hj
        · exact h1 j o hj h'
        · have : j = i := by omega
          subst this
          rw [ho] at h'; cases h'
          exact hd

/-- What stands behind a region. -/
structure RegEnd (P : Program) (n : Nat) (N : Nat → Prop) (wb : Base) (r : RS) (a : Act) (w : World) (φ : Phi) : Prop where
  slots : ∀ t, EntOk N a w φ (get r.st.s t) t
  mem : MRel N wb.B w φ r.st.m
  below : Bel wb.B wb.w w
  size : a.tmps.size = n
  defers : a.defers = []

theorem inv_end (c : RegC P ms Γ ops as r0 rn n) {N : Nat → Prop} {wb : Base} {L : Nat → Prop} {p : Option Nat} {a : Act} {w : World} {φ : Phi} {k : Nat} (hL : ∀ j, j < as.length → L j) (hI : Inv P Γ as r0 n N wb L p a w φ k) : RegEnd P n N wb rn a w φ := by
  have hlast : stepAt Γ as r0 as.length = rn := stepAt_last c.run
  refine ⟨fun t => ?_, ?_, hI.below, hI.size, hI.defers⟩
  · refine hI.slots t _ ?_
    have := aent_lex c t as.length (Nat.le_refl _)
    rw [sAt, hlast] at this
    rcases this with ⟨j, o, h1, h2, h3, h4⟩ | ⟨h1, h2⟩
    · exact .inl ⟨j, o, hL j h1, h2, h3, h4⟩
    · exact .inr ⟨fun j o _ h' => h1 j o (List.getElem?_eq_some_iff.1 h').1 h', h2⟩
  · have := mAt_stay c hI.kle (Nat.le_refl _) fun q o h1 h2 h3 => by
      cases hw : writesM o.op with
      | false => rfl
      | true => have := (hI.wr q o h3 hw).1 (.inl (hL q h2)); omega
    rw [mAt, hlast] at this
    rw [this]
    exact hI.mem

theorem inv_start {N : Nat → Prop} {wb : Base} {L : Nat → Prop} {a : Act} {w : World} {φ : Phi} (hL : ∀ j, ¬ L j) (hs : ∀ t, EntOk N a w φ (get r0.st.s t) t) (hm : MRel N wb.B w φ r0.st.m) (hb : Bel wb.B wb.w w) (hn : a.tmps.size = n) (hd : a.defers = []) : Inv P Γ as r0 n N wb L none a w φ 0 := by
  refine ⟨fun t e he => ?_, hm, Nat.zero_le _, fun j o _ _ => ⟨fun h => h.elim (fun h => absurd h (hL j)) (fun h => by cases h), fun h => absurd h (Nat.not_lt_zero j)⟩, fun j h => (by cases h), fun j o h => absurd h (hL j), hb, hn, hd⟩
  rcases he with ⟨j, o, h, _⟩ | ⟨_, rfl⟩
  · exact absurd h (hL j)
  · exact hs t

/-- IN ITS OWN ORDER. -/
theorem reg_lex (c : RegC P ms Γ ops as r0 rn n) {N : Nat → Prop} {wb : Base} (hN : ∀ b, ¬ wb.B b → N b) {Q : Exit → Act → World → Prop} (hQ : ∀ a w φ, RegEnd P n N wb rn a w φ → Q .normal a w) :
    ∀ d i, i + d = as.length → ∀ {a w φ k}, Inv P Γ as r0 n N wb (fun j => j < i) none a w φ k → wpOps P ops Q (List.range' i d) a w
  | 0, i, hi, a, w, φ, k, hI => hQ a w φ (inv_end c (fun j hj => by show j < i; omega) hI)
  | d + 1, i, hi, a, w, φ, k, hI => by
    rw [List.range'_succ, wpOps_cons]
    have ho : as[i]? = some as[i] := List.getElem?_eq_getElem (by omega)
    have hV : ∀ j, ((j < i) ∨ (none : Option Nat) = some j) ↔ j < i := fun j => ⟨fun h => h.elim id (fun h => by cases h), .inl⟩
    refine reg_step c hN hI ho (Nat.lt_irrefl i) (fun h => by cases h) (fun t _ => aent_lex c t i (by omega)) (fun p hp => ⟨aent_lex c p.1 i (by omega), (c.guards ho).1 p hp⟩) (fun _ j _ _ _ _ => hV j) (fun _ _ x b h => by rw [mem_same c hI (by omega) (fun h => Nat.lt_irrefl i ((hV i).1 h)) (fun j _ _ _ _ => hV j)]; exact h) fun a' w' φ' k' h => ?_
    have : (fun j => j < i ∨ j = i) = fun j => j < i + 1 := by
      funext j; exact propext (by omega)
    rw [this] at h
    exact reg_lex c hN hQ d (i + 1) (by omega) h

/-! ### Any order -/
theorem mem_unionN {x : Nat} : ∀ {a l : List Nat}, x ∈ unionN a l → x ∈ a ∨ x ∈ l
  | [], l, h => .inr h
  | y :: r, l, h => by
    simp only [unionN] at h
    cases hb : elemN y (unionN r l) with
    | true =>
      rw [hb] at h
      exact (mem_unionN (a := r) h).imp (List.mem_cons_of_mem _) id
    | false =>
      rw [hb] at h
      rcases List.mem_cons.1 h with rfl | h
      · exact .inl (List.mem_cons_self ..)
      · exact (mem_unionN (a := r) h).imp (List.mem_cons_of_mem _) id
theorem mem_aheadOf {acc : List (List Nat)} {x : Nat} : ∀ {es : List Edge}, x ∈ aheadOf acc es → ∃ e ∈ es, Region.binds .any e = true ∧ (x = e.on ∨ x ∈ (acc[e.on]?).getD [])
  | [], h => by simp [aheadOf] at h
  | e :: r, h => by
    simp only [aheadOf] at h
    cases hb : Region.binds .any e with
    | false =>
      rw [hb] at h
      obtain ⟨e', h1, h2⟩ := mem_aheadOf (es := r) h
      exact ⟨e', List.mem_cons_of_mem _ h1, h2⟩
    | true =>
      rw [hb] at h
      simp only [cond_true] at h
      rcases mem_unionN h with h | h
      · rcases List.mem_cons.1 h with h | h
        · exact ⟨e, List.mem_cons_self .., hb, .inl h⟩
        · exact ⟨e, List.mem_cons_self .., hb, .inr h⟩
      · obtain ⟨e', h1, h2⟩ := mem_aheadOf (es := r) h
        exact ⟨e', List.mem_cons_of_mem _ h1, h2⟩

theorem aheads_at : ∀ (os : List Oper) (acc : List (List Nat)) (j : Nat), j < acc.length → (aheads os acc)[j]? = acc[j]?
  | [], acc, j, _ => rfl
  | o :: r, acc, j, h => by
    rw [aheads, aheads_at r _ j (by simp; omega), List.getElem?_append_left h]
theorem aheads_len : ∀ (os : List Oper) (acc : List (List Nat)), (aheads os acc).length = acc.length + os.length
  | [], acc => rfl
  | o :: r, acc => by rw [aheads, aheads_len r]; simp; omega
theorem aheads_mem {x : Nat} : ∀ (os : List Oper) (acc : List (List Nat)) (j : Nat) (o : Oper), os[j]? = some o → x ∈ ((aheads os acc)[acc.length + j]?).getD [] →
    ∃ e ∈ o.after.toList, Region.binds .any e = true ∧ (x = e.on ∨ (e.on < acc.length + j ∧ x ∈ ((aheads os acc)[e.on]?).getD []))
  | [], acc, j, o, h, _ => by simp at h
  | o' :: r, acc, 0, o, h, hx => by
    simp at h; subst h
    rw [aheads, Nat.add_zero, aheads_at r _ _ (by simp), List.getElem?_append_right (Nat.le_refl _)] at hx
    simp only [Nat.sub_self, List.getElem?_cons_zero, Option.getD_some] at hx
    obtain ⟨e, h1, h2, h3⟩ := mem_aheadOf hx
    refine ⟨e, h1, h2, h3.imp id fun h => ?_⟩
    cases he : acc[e.on]? with
    | none => rw [he] at h; simp at h
    | some l =>
      have hlt := (List.getElem?_eq_some_iff.1 he).1
      refine ⟨by omega, ?_⟩
      rw [aheads, aheads_at r _ _ (by simp; omega), List.getElem?_append_left hlt]
      exact h
  | o' :: r, acc, j + 1, o, h, hx => by
    rw [aheads] at hx ⊢
    have := aheads_mem r (acc ++ [aheadOf acc o'.after.toList]) j o (by simpa using h) (by
      rw [show (acc ++ [aheadOf acc o'.after.toList]).length + j = acc.length + (j + 1) by simp; omega]; exact hx)
    rw [show (acc ++ [aheadOf acc o'.after.toList]).length + j = acc.length + (j + 1) by simp; omega] at this
    exact this

/-- What is listed with all that it waits for. -/
theorem ahead_in {os : List Oper} {L : Nat → Prop} (hcl : ∀ j o, L j → os[j]? = some o → ∀ e ∈ o.after.toList, Region.binds .any e = true → L e.on) {x : Nat} :
    ∀ (s j : Nat) (o : Oper), j < s → os[j]? = some o → (∀ e ∈ o.after.toList, Region.binds .any e = true → L e.on) → x ∈ ((aheads os [])[j]?).getD [] → L x
  | 0, _, _, h, _, _, _ => absurd h (Nat.not_lt_zero _)
  | s + 1, j, o, hj, ho, hL, hx => by
    obtain ⟨e, h1, h2, h3⟩ := aheads_mem os [] j o ho (by simpa using hx)
    have hLe := hL e h1 h2
    rcases h3 with rfl | ⟨h3, h4⟩
    · exact hLe
    · simp only [List.length_nil, Nat.zero_add] at h3
      have hlt : j < os.length := (List.getElem?_eq_some_iff.1 ho).1
      have ho' : os[e.on]? = some (os[e.on]'(by omega)) := List.getElem?_eq_getElem (by omega)
      exact ahead_in hcl s e.on _ (by omega) ho' (hcl e.on _ hLe ho') h4

theorem waits_at {ps : List (Nat × Nat)} {ahs : List (List Nat)} {x : AOper} {i : Nat} : ∀ (l : List AOper) (k : Nat), waits ps ahs x i (l.zipIdx k) = true → ∀ (j : Nat) y, l[j]? = some y → touchX ps x i y (k + j) = true → i ∈ (ahs[k + j]?).getD []
  | [], _, _, _, _, h, _ => by simp at h
  | z :: r, k, h, 0, y, hy, ht => by
    simp at hy; subst hy
    simp only [List.zipIdx_cons, waits, Bool.and_eq_true, Bool.or_eq_true, Bool.not_eq_true'] at h
    rcases h.1 with h | h
    · rw [Nat.add_zero] at ht; rw [ht] at h; cases h
    · exact elemN_mem.1 h
  | z :: r, k, h, j + 1, y, hy, ht => by
    simp only [List.zipIdx_cons, waits, Bool.and_eq_true] at h
    have := waits_at r (k + 1) h.2 j y (by simpa using hy) (by rwa [show k + 1 + j = k + (j + 1) by omega])
    rwa [show k + 1 + j = k + (j + 1) by omega] at this
theorem allWait_at {ps : List (Nat × Nat)} {ahs : List (List Nat)} : ∀ (l : List AOper) (k : Nat), allWait ps ahs (l.zipIdx k) = true → ∀ (i j : Nat) x y, i < j → l[i]? = some x → l[j]? = some y → touchX ps x (k + i) y (k + j) = true → k + i ∈ (ahs[k + j]?).getD []
  | [], _, _, _, _, _, _, _, h, _, _ => by simp at h
  | z :: r, k, h, 0, 0, _, _, hij, _, _, _ => absurd hij (Nat.lt_irrefl 0)
  | z :: r, k, h, i + 1, 0, _, _, hij, _, _, _ => absurd hij (by omega)
  | z :: r, k, h, 0, j + 1, x, y, _, hx, hy, ht => by
    simp at hx; subst hx
    simp only [List.zipIdx_cons, allWait, Bool.and_eq_true] at h
    have := waits_at r (k + 1) h.1 j y (by simpa using hy) (by rw [show k + 1 + j = k + (j + 1) by omega]; exact ht)
    rwa [show k + 1 + j = k + (j + 1) by omega] at this
  | z :: r, k, h, i + 1, j + 1, x, y, hij, hx, hy, ht => by
    simp only [List.zipIdx_cons, allWait, Bool.and_eq_true] at h
    have := allWait_at r (k + 1) h.2 i j x y (by omega) (by simpa using hx) (by simpa using hy) (by rw [show k + 1 + j = k + (j + 1) by omega, show k + 1 + i = k + (i + 1) by omega]; exact ht)
    rwa [show k + 1 + j = k + (j + 1) by omega, show k + 1 + i = k + (i + 1) by omega] at this
theorem onBack_at : ∀ (l : List Oper) (k : Nat), onBack k l = true → ∀ (i : Nat) o, l[i]? = some o → ∀ e ∈ o.after.toList, Region.binds .any e = true → e.on < k + i
  | [], _, _, _, _, h, _, _, _ => by simp at h
  | z :: r, k, h, 0, o, ho, e, he, hb => by
    simp at ho; subst ho
    simp only [onBack, Bool.and_eq_true, List.all_eq_true, Bool.or_eq_true, Bool.not_eq_true'] at h
    rcases h.1 e he with h | h
    · rw [hb] at h; cases h
    · simpa using h
  | z :: r, k, h, i + 1, o, ho, e, he, hb => by
    simp only [onBack, Bool.and_eq_true] at h
    have := onBack_at r (k + 1) h.2 i o (by simpa using ho) e he hb
    omega
end
end Go.AM
