/-
  A region, whole.
-/
import Derived.Test.YthjhlpbiljpccaaAmReg2
namespace Go.AM
open Go.RowKit

/-- What is known of a region: the compact operations, the lexical run, the checks. -/
structure RegC (P : Program) (ms : List Nat) (Γ : Env) (ops : Array Oper) (as : List AOper) (r0 rn : RS) (n : Nat) : Prop where
  comp : cOpers P ms ops ops.toList = some as
  ok : regOk n as = true
  run : evOps Γ as r0 = some rn
  vc : rn.vc = true
  start : ∀ t, (get r0.st.s t).1 = []
  sound : Sound P Γ

section
variable {P : Program} {ms : List Nat} {Γ : Env} {ops : Array Oper} {as : List AOper} {r0 rn : RS} {n : Nat}

abbrev sAt (Γ : Env) (as : List AOper) (r0 : RS) (i : Nat) : Slots := (stepAt Γ as r0 i).st.s
abbrev mAt (Γ : Env) (as : List AOper) (r0 : RS) (i : Nat) : Mem := (stepAt Γ as r0 i).st.m

theorem RegC.distinct (c : RegC P ms Γ ops as r0 rn n) : distinctN (dstsOf as) = true := by
  have := c.ok; simp only [regOk, Bool.and_eq_true] at this; exact this.1.1.1
theorem RegC.gb (c : RegC P ms Γ ops as r0 rn n) {i : Nat} {x : AOper} {t : Nat} {b : Bool} (h : as[i]? = some x) (hx : x.guard = some (t, b)) : ∃ j y, j < i ∧ as[j]? = some y ∧ y.dst = some t := by
  have := c.ok; simp only [regOk, Bool.and_eq_true] at this
  rcases guardBack_at this.1.1.2 h hx with h | h
  · cases h
  · exact h
theorem RegC.dlt (c : RegC P ms Γ ops as r0 rn n) {i : Nat} {x : AOper} {d : Nat} (h : as[i]? = some x) (hx : x.dst = some d) : d < n := by
  have := c.ok; simp only [regOk, Bool.and_eq_true] at this
  exact dstOk_at this.1.2 h hx
theorem RegC.st (c : RegC P ms Γ ops as r0 rn n) {i : Nat} {x : AOper} (h : as[i]? = some x) : ((∃ sz a v, x.op = .store sz a v) ∨ (∃ T y, x.op = .clr T y) ∨ ∃ a b, x.op = .mput a b) → x.guard = none := by
  have := c.ok; simp only [regOk, Bool.and_eq_true] at this
  exact storeOk_at this.2 h

/-- What an operation's slot holds behind it. -/
theorem RegC.at_ (c : RegC P ms Γ ops as r0 rn n) {i : Nat} {o : AOper} (h : as[i]? = some o) : ∃ x m' b, exOp Γ (sAt Γ as r0 i) (guardsOf (sAt Γ as r0 i) o.guard) (mAt Γ as r0 i) o.op = some (x, m', b) ∧
    sAt Γ as r0 (i + 1) = putS o.dst (guardsOf (sAt Γ as r0 i) o.guard) x (sAt Γ as r0 i) ∧ mAt Γ as r0 (i + 1) = m' ∧
    (hasVc o.op = true → ∃ q, holdB (sAt Γ as r0 i) (guardsOf (sAt Γ as r0 i) o.guard) = some q ∧ (q = true → b = true)) := by
  obtain ⟨x, m', b, h1, h2, h3⟩ := evOper_inv (stepAt_succ c.run h)
  have hlt := (List.getElem?_eq_some_iff.1 h).1
  exact ⟨x, m', b, h1, by rw [sAt, h2], by rw [mAt, h2], (h3 (vc_back c.run c.vc (i + 1) (by omega))).2⟩

theorem RegC.keep (c : RegC P ms Γ ops as r0 rn n) {i : Nat} {o : AOper} (h : as[i]? = some o) {t : Nat} (ht : o.dst ≠ some t) : get (sAt Γ as r0 (i + 1)) t = get (sAt Γ as r0 i) t := by
  obtain ⟨x, m', b, _, h2, _⟩ := c.at_ h
  rw [h2, get_put_ne ht]

/-- The guards' slots are earlier operations' own; the chains hold. -/
theorem RegC.chain (c : RegC P ms Γ ops as r0 rn n) : ∀ i, i ≤ as.length → ∀ t, (∀ p ∈ (get (sAt Γ as r0 i) t).1, ∃ j y, j < i ∧ as[j]? = some y ∧ y.dst = some p.1) ∧ Chain (sAt Γ as r0 i) (get (sAt Γ as r0 i) t).1
  | 0, _, t => by
    have : (get (sAt Γ as r0 0) t).1 = [] := c.start t
    rw [this]
    exact ⟨(fun p hp => by cases hp), trivial⟩
  | i + 1, hi, t => by
    have ih := RegC.chain c i (by omega)
    have ho : as[i]? = some as[i] := List.getElem?_eq_getElem (by omega)
    generalize as[i] = o at ho
    obtain ⟨x, m', b, _, h2, _⟩ := c.at_ ho
    have hG : (∀ p ∈ guardsOf (sAt Γ as r0 i) o.guard, ∃ j y, j < i ∧ as[j]? = some y ∧ y.dst = some p.1) ∧ Chain (sAt Γ as r0 i) (guardsOf (sAt Γ as r0 i) o.guard) := by
      cases hg : o.guard with
      | none => exact ⟨(fun p hp => by cases hp), trivial⟩
      | some tb =>
        obtain ⟨t', b'⟩ := tb
        refine ⟨fun p hp => ?_, rfl, (ih t').2⟩
        rcases List.mem_cons.1 hp with rfl | hp
        · exact c.gb ho hg
        · exact (ih t').1 p hp
    have hfresh : ∀ {X : List (Nat × Bool)}, (∀ p ∈ X, ∃ j y, j < i ∧ as[j]? = some y ∧ y.dst = some p.1) → ∀ p ∈ X, o.dst ≠ some p.1 := fun {X} hX p hp e => by
      obtain ⟨j, y, h3, h4, h5⟩ := hX p hp
      have := distinct_at c.distinct ho h4 e h5
      omega
    rw [h2]
    by_cases ht : o.dst = some t
    · rw [ht, get_put_eq, ← ht]
      exact ⟨fun p hp => let ⟨j, y, h3, h4, h5⟩ := hG.1 p hp; ⟨j, y, by omega, h4, h5⟩, hG.2.put (hfresh hG.1)⟩
    · rw [get_put_ne ht]
      exact ⟨fun p hp => let ⟨j, y, h3, h4, h5⟩ := (ih t).1 p hp; ⟨j, y, by omega, h4, h5⟩, (ih t).2.put (hfresh (ih t).1)⟩

theorem RegC.guards (c : RegC P ms Γ ops as r0 rn n) {i : Nat} {o : AOper} (ho : as[i]? = some o) : (∀ p ∈ guardsOf (sAt Γ as r0 i) o.guard, ∃ j y, j < i ∧ as[j]? = some y ∧ y.dst = some p.1) ∧ Chain (sAt Γ as r0 i) (guardsOf (sAt Γ as r0 i) o.guard) := by
  have hlt := (List.getElem?_eq_some_iff.1 ho).1
  have ih := c.chain i (by omega)
  cases hg : o.guard with
  | none => exact ⟨(fun p hp => by cases hp), trivial⟩
  | some tb =>
    obtain ⟨t', b'⟩ := tb
    refine ⟨fun p hp => ?_, rfl, (ih t').2⟩
    rcases List.mem_cons.1 hp with rfl | hp
    · exact c.gb ho hg
    · exact (ih t').1 p hp

/-- A slot's entry once the operations L have come up. -/
def AEnt (Γ : Env) (as : List AOper) (r0 : RS) (L : Nat → Prop) (t : Nat) (e : List (Nat × Bool) × AV) : Prop :=
  (∃ i o, L i ∧ as[i]? = some o ∧ o.dst = some t ∧ e = get (sAt Γ as r0 (i + 1)) t) ∨ ((∀ i o, L i → as[i]? = some o → o.dst ≠ some t) ∧ e = get r0.st.s t)

theorem aent_ex (Γ : Env) (as : List AOper) (r0 : RS) (L : Nat → Prop) (t : Nat) : ∃ e, AEnt Γ as r0 L t e := by
  by_cases h : ∃ i o, L i ∧ as[i]? = some o ∧ o.dst = some t
  · obtain ⟨i, o, h1, h2, h3⟩ := h
    exact ⟨_, .inl ⟨i, o, h1, h2, h3, rfl⟩⟩
  · exact ⟨_, .inr ⟨fun i o h1 h2 h3 => h ⟨i, o, h1, h2, h3⟩, rfl⟩⟩

/-- What stands so far: the operations L have come up; p: a new variable that memory has already, and that has not come up. -/
structure Inv (P : Program) (Γ : Env) (as : List AOper) (r0 : RS) (n : Nat) (N : Nat → Prop) (wb : Base) (L : Nat → Prop) (p : Option Nat) (a : Act) (w : World) (φ : Phi) (k : Nat) : Prop where
  slots : ∀ t e, AEnt Γ as r0 L t e → EntOk N a w φ e t
  mem : MRel N wb.B w φ (mAt Γ as r0 k)
  kle : k ≤ as.length
  wr : ∀ j o, as[j]? = some o → writesM o.op = true → ((L j ∨ p = some j) ↔ j < k)
  pend : ∀ j, p = some j → φ[(mAt Γ as r0 j).length]? = some none
  chain : ∀ j o, L j → as[j]? = some o → ∀ p ∈ guardsOf (sAt Γ as r0 j) o.guard, ∃ i y, L i ∧ as[i]? = some y ∧ y.dst = some p.1
  below : Bel wb.B wb.w w
  size : a.tmps.size = n
  defers : a.defers = []

theorem holds_put {a : Act} {d : Option Nat} {v : Value} {X : List (Nat × Bool)} (h : ∀ p ∈ X, d ≠ some p.1) : Holds (a.put d v) X ↔ Holds a X := by
  cases d with
  | none => exact Iff.rfl
  | some e =>
    have hne : ∀ p ∈ X, (a.put (some e) v).tmps.getD p.1 undef = a.tmps.getD p.1 undef := fun p hp => by
      have : e ≠ p.1 := fun h' => h p hp (by rw [h'])
      simp [Act.put, Array.getElem?_setIfInBounds_ne this]
    exact ⟨fun H p hp => by rw [← hne p hp]; exact H p hp, fun H p hp => by rw [hne p hp]; exact H p hp⟩
theorem put_getD_ne {a : Act} {d : Option Nat} {v : Value} {t : Nat} (h : d ≠ some t) : (a.put d v).tmps.getD t undef = a.tmps.getD t undef := by
  cases d with
  | none => rfl
  | some e =>
    have : e ≠ t := fun h' => h (by rw [h'])
    simp [Act.put, Array.getElem?_setIfInBounds_ne this]
theorem put_getD_eq {a : Act} {t : Nat} {v : Value} (h : t < a.tmps.size) : (a.put (some t) v).tmps.getD t undef = v := by
  simp [Act.put, h]

theorem mAt_stay (c : RegC P ms Γ ops as r0 rn n) {i j : Nat} (hij : i ≤ j) (hj : j ≤ as.length) (h : ∀ q o, i ≤ q → q < j → as[q]? = some o → writesM o.op = false) : mAt Γ as r0 j = mAt Γ as r0 i := by
  induction j with
  | zero => rw [show i = 0 by omega]
  | succ j ih =>
    rcases Nat.lt_or_ge j i with h1 | h1
    · rw [show i = j + 1 by omega]
    · have ho : as[j]? = some as[j] := List.getElem?_eq_getElem (by omega)
      obtain ⟨x, m', b, h2, _, h3, _⟩ := c.at_ ho
      have := exOp_same h2 (h j _ h1 (by omega) ho)
      rw [h3, this]
      exact ih h1 (by omega) fun q o h4 h5 => h q o h4 (by omega)

/-- The memory that an operation meets, where all writers keep their places about it. -/
theorem mem_same (c : RegC P ms Γ ops as r0 rn n) {N : Nat → Prop} {wb : Base} {L : Nat → Prop} {p : Option Nat} {a : Act} {w : World} {φ : Phi} {k : Nat} (hI : Inv P Γ as r0 n N wb L p a w φ k) {i : Nat} (hilt : i < as.length) (hL : ¬ (L i ∨ p = some i))
    (hw : ∀ j y, as[j]? = some y → writesM y.op = true → j ≠ i → ((L j ∨ p = some j) ↔ j < i)) : mAt Γ as r0 k = mAt Γ as r0 i := by
  rcases Nat.le_total k i with h1 | h1
  · refine (mAt_stay c h1 (by omega) fun q y h2 h3 h4 => ?_).symm
    cases hwr : writesM y.op with
    | false => rfl
    | true =>
      have h5 := (hw q y h4 hwr (by omega)).2 h3
      have := (hI.wr q y h4 hwr).1 h5
      omega
  · refine mAt_stay c h1 hI.kle fun q y h2 h3 h4 => ?_
    cases hwr : writesM y.op with
    | false => rfl
    | true =>
      have h5 := (hI.wr q y h4 hwr).2 h3
      by_cases hqi : q = i
      · subst hqi; exact absurd h5 hL
      · have := (hw q y h4 hwr hqi).1 h5
        omega

/-- ONE OPERATION MORE. -/
theorem reg_step (c : RegC P ms Γ ops as r0 rn n) {N : Nat → Prop} {wb : Base} (hN : ∀ b, ¬ wb.B b → N b) {L : Nat → Prop} {p : Option Nat} {a : Act} {w : World} {φ : Phi} {k : Nat} (hI : Inv P Γ as r0 n N wb L p a w φ k) {i : Nat} {o : AOper}
    (ho : as[i]? = some o) (hL : ¬ L i) (hpi : p ≠ some i) (hb : ∀ t ∈ looks o, AEnt Γ as r0 L t (get (sAt Γ as r0 i) t)) (hch : ∀ p ∈ guardsOf (sAt Γ as r0 i) o.guard, AEnt Γ as r0 L p.1 (get (sAt Γ as r0 i) p.1) ∧ ∃ j y, L j ∧ as[j]? = some y ∧ y.dst = some p.1)
    (hw : writesM o.op = true → ∀ j y, as[j]? = some y → writesM y.op = true → j ≠ i → ((L j ∨ p = some j) ↔ j < i))
    (hrr : readsM o.op = true → writesM o.op = false → ∀ x b, exOp Γ (sAt Γ as r0 i) (guardsOf (sAt Γ as r0 i) o.guard) (mAt Γ as r0 i) o.op = some (x, mAt Γ as r0 i, b) → exOp Γ (sAt Γ as r0 i) (guardsOf (sAt Γ as r0 i) o.guard) (mAt Γ as r0 k) o.op = some (x, mAt Γ as r0 k, b))
    {Q : Exit → Act → World → Prop} {K : Act → World → Prop} (hK : ∀ a' w' φ' k', Inv P Γ as r0 n N wb (fun j => L j ∨ j = i) p a' w' φ' k' → K a' w') : wpOp P ops Q i K a w := by
  have hilt := (List.getElem?_eq_some_iff.1 ho).1
  obtain ⟨hlen, hco⟩ := cOpers_at c.comp
  have hops : ops.toList[i]? = some (ops.toList[i]'(by omega)) := List.getElem?_eq_getElem (by omega)
  obtain ⟨ao, hao, hd, hg, hop⟩ := hco i _ hops
  rw [ho] at hao; cases hao
  generalize ops.toList[i]'(by omega) = co at hops hd hg hop
  have hops' : ops[i]? = some co := by simpa using hops
  obtain ⟨x, m', b, hex, hs1, hm1, hvc⟩ := c.at_ ho
  have hG := c.guards ho
  generalize hGd : guardsOf (sAt Γ as r0 i) o.guard = G at *
  have hB : ∀ b, wb.B b → b < w.heap.size := fun b h => Nat.lt_of_lt_of_le (wb.lt b h) hI.below.size
  -- the memory that it meets
  have hV : ¬ (L i ∨ p = some i) := fun h => h.elim hL hpi
  have hmem : writesM o.op = true → mAt Γ as r0 k = mAt Γ as r0 i := fun h => mem_same c hI hilt hV (hw h)
  -- what it yields there, and the memory behind it
  obtain ⟨mc, k', hexc, hkle, hmk, hwr'⟩ : ∃ (mc : Mem) (k' : Nat), exOp Γ (sAt Γ as r0 i) G (mAt Γ as r0 k) o.op = some (x, mc, b) ∧ k' ≤ as.length ∧ mc = mAt Γ as r0 k' ∧ ∀ j y, as[j]? = some y → writesM y.op = true → (((L j ∨ j = i) ∨ p = some j) ↔ j < k') := by
    cases hwr : writesM o.op with
    | true =>
      refine ⟨m', i + 1, by rw [hmem hwr]; exact hex, by omega, hm1.symm, fun j y hj hy => ?_⟩
      by_cases hji : j = i
      · subst hji; exact ⟨fun _ => by omega, fun _ => .inl (.inr rfl)⟩
      · have := hw hwr j y hj hy hji
        constructor
        · rintro ((h | h) | h)
          · have := this.1 (.inl h); omega
          · exact absurd h hji
          · have := this.1 (.inr h); omega
        · intro h
          exact (this.2 (by omega)).elim (fun h => .inl (.inl h)) .inr
    | false =>
      have hsame := exOp_same hex hwr
      have hiff : ∀ j y, as[j]? = some y → writesM y.op = true → (((L j ∨ j = i) ∨ p = some j) ↔ j < k) := fun j y hj hy => by
        rw [← hI.wr j y hj hy]
        constructor
        · rintro ((h | rfl) | h)
          · exact .inl h
          · rw [ho] at hj; cases hj; rw [hwr] at hy; cases hy
          · exact .inr h
        · exact fun h => h.elim (fun h => .inl (.inl h)) .inr
      cases hrd : readsM o.op with
      | true =>
        exact ⟨mAt Γ as r0 k, k, hrr hrd hwr x b (by rw [hsame] at hex; exact hex), hI.kle, rfl, hiff⟩
      | false =>
        exact ⟨mAt Γ as r0 k, k, (exOp_mem (m2 := mAt Γ as r0 k) hex hrd hwr).2, hI.kle, rfl, hiff⟩
  -- the slots that it looks at
  have hent : ∀ t ∈ looks o, EntOk N a w φ (get (sAt Γ as r0 i) t) t := fun t ht => hI.slots t _ (hb t ht)
  have hentG : ∀ p ∈ G, EntOk N a w φ (get (sAt Γ as r0 i) p.1) p.1 := fun p hp => hI.slots p.1 _ (hch p hp).1
  -- the entries of the others stay
  have hdG : ∀ p ∈ G, co.dst ≠ some p.1 := fun p hp e => by
    obtain ⟨j, y, h3, h4, h5⟩ := hG.1 p hp
    have := distinct_at c.distinct ho h4 (by rw [hd]; exact e) h5
    omega
  have hdL : ∀ j y, L j → as[j]? = some y → ∀ p ∈ guardsOf (sAt Γ as r0 j) y.guard, co.dst ≠ some p.1 := fun j y hj hy p hp e => by
    obtain ⟨q, z, h3, h4, h5⟩ := hI.chain j y hj hy p hp
    have := distinct_at c.distinct ho h4 (by rw [hd]; exact e) h5
    subst this
    exact hL h3
  have after : ∀ (v : Value) (w' : World) (φ' : Phi), Tr N wb.B φ w φ' w' → MRel N wb.B w' φ' mc → (Holds a G → VRel (Nof N φ') w' φ' x v) → (G ≠ [] → ¬ Holds a G → v = undef) → K (a.put co.dst v) w' := fun v w' φ' htr hmr hv hu => by
    refine hK _ w' φ' k' ⟨fun t e he => ?_, by rw [← hmk]; exact hmr, hkle, hwr', fun j hj => htr.ext.2 _ (hI.pend j hj), fun j y hj hy p hp => ?_, hI.below.trans htr.below, ?_, ?_⟩
    · by_cases hdt : co.dst = some t
      · have hee : e = (G, x) := by
          rcases he with ⟨j, y, _, hy, hyd, rfl⟩ | ⟨hno, _⟩
          · have := distinct_at c.distinct ho hy (by rw [hd]; exact hdt) hyd
            subst this
            rw [hs1, hd, hdt, get_put_eq]
          · exact absurd (by rw [hd]; exact hdt) (hno i o (.inr rfl) ho)
        subst hee
        have hlt : t < a.tmps.size := by rw [hI.size]; exact c.dlt ho (by rw [hd]; exact hdt)
        have hHG : Holds (a.put co.dst v) G ↔ Holds a G := holds_put hdG
        rw [hdt] at hHG ⊢
        exact ⟨fun h => by rw [put_getD_eq hlt]; exact hv (hHG.1 h), fun h1 h2 => by rw [put_getD_eq hlt]; exact hu h1 fun h => h2 (hHG.2 h)⟩
      · have he' : AEnt Γ as r0 L t e := by
          rcases he with ⟨j, y, hj, hy, hyd, rfl⟩ | ⟨hno, rfl⟩
          · rcases hj with hj | rfl
            · exact .inl ⟨j, y, hj, hy, hyd, rfl⟩
            · rw [ho] at hy; cases hy
              exact absurd (by rw [← hd]; exact hyd) hdt
          · exact .inr ⟨fun j y hj hy => hno j y (.inl hj) hy, rfl⟩
        have h0 := hI.slots t e he'
        have hch' : ∀ p ∈ e.1, co.dst ≠ some p.1 := fun p hp => by
          rcases he' with ⟨j, y, hj, hy, hyd, rfl⟩ | ⟨_, rfl⟩
          · obtain ⟨x', m'', b', _, h6, _⟩ := c.at_ hy
            rw [h6, hyd, get_put_eq] at hp
            exact hdL j y hj hy p hp
          · rw [c.start t] at hp; cases hp
        have hH : Holds (a.put co.dst v) e.1 ↔ Holds a e.1 := holds_put hch'
        exact ⟨fun h => by rw [put_getD_ne hdt]; exact (h0.1 (hH.1 h)).mono htr.keeps htr.ext, fun h1 h2 => by rw [put_getD_ne hdt]; exact h0.2 h1 fun h => h2 (hH.2 h)⟩
    · rcases hj with hj | rfl
      · obtain ⟨q, z, h3, h4, h5⟩ := hI.chain j y hj hy p hp
        exact ⟨q, z, .inl h3, h4, h5⟩
      · rw [ho] at hy; cases hy
        rw [hGd] at hp
        obtain ⟨q, z, h3, h4, h5⟩ := (hch p hp).2
        exact ⟨q, z, .inl h3, h4, h5⟩
    · have := hI.size
      cases hcd : co.dst <;> simp [Act.put, this]
    · have := hI.defers
      cases hcd : co.dst <;> simp [Act.put, this]
  -- the operation itself
  have exec : Holds a G → co.wp P a w K Q := fun hHG => by
    have hmr := hI.mem
    let s2 : Slots := (looks o ++ G.map fun p => p.1).map fun t => (t, get (sAt Γ as r0 i) t)
    have hs2 : ∀ t, get s2 t = if t ∈ looks o ++ G.map (fun p => p.1) then get (sAt Γ as r0 i) t else ([], .junk) := fun t => by
      show get ((looks o ++ G.map fun p => p.1).map fun t => (t, get (sAt Γ as r0 i) t)) t = _
      induction looks o ++ G.map fun p => p.1 with
      | nil => rfl
      | cons u r ih =>
        simp only [List.map_cons, get]
        cases hu : u == t with
        | true =>
          have : u = t := by simpa using hu
          subst this
          simp
        | false =>
          have : ¬ t = u := fun e => by subst e; simp at hu
          simp only [cond_false, ih, List.mem_cons, this, false_or]
    have hex2 : exOp Γ s2 G (mAt Γ as r0 k) o.op = some (x, mc, b) := by
      rw [← hexc]
      refine exOp_congr (fun t ht => ?_) fun p hp => ?_
      · have hin : t ∈ looks o ++ G.map (fun p => p.1) := List.mem_append_left _ (by unfold looks; exact List.mem_append_right _ ht)
        rw [hs2, if_pos hin]
      · rw [hs2, if_pos (List.mem_append_right _ (List.mem_map.2 ⟨p, hp, rfl⟩))]
    have hso : SlotsOk (Nof N φ) w φ s2 a := fun t ht => by
      rw [hs2] at ht ⊢
      split
      · rename_i hin
        rw [if_pos hin] at ht
        rcases List.mem_append.1 hin with hin | hin
        · exact (hent t hin).1 ht
        · obtain ⟨p, hp, rfl⟩ := List.mem_map.1 hin
          exact (hentG p hp).1 ht
      · exact .junk
    have hvcb : hasVc o.op = true → b = true := fun h => by
      obtain ⟨q, hq, hqb⟩ := hvc h
      exact hqb (hold_true hG.2 hHG hentG hq)
    have := exOp_ok (P := P) (o := co) (B := wb.B) hop hex2 hvcb c.sound hN hso hHG hmr hB
    refine wp_of_opok this fun v w' ⟨φ', h1, h2, h3⟩ => after v w' φ' h1 h2 (fun _ => h3) fun _ h => absurd hHG h
  unfold wpOp
  rw [hops']
  simp only
  cases hgd : o.guard with
  | none =>
    have hG0 : G = [] := by rw [← hGd, hgd]; rfl
    have hcg : co.guard = none := by
      rw [hgd] at hg
      cases hcg : co.guard with
      | none => rfl
      | some jb =>
        obtain ⟨j, bb⟩ := jb
        rw [hcg] at hg
        simp only [cGuard] at hg
        split at hg
        · obtain ⟨d, _, h2⟩ := omap hg; cases h2
        · cases hg
    rw [if_pos (by simp [Region.wanted, hcg])]
    exact .inl (exec (by rw [hG0]; exact Holds.nil a))
  | some tb =>
    obtain ⟨t, bb⟩ := tb
    have hG0 : G = (t, bb) :: (get (sAt Γ as r0 i) t).1 := by rw [← hGd, hgd]; rfl
    obtain ⟨j, hcg, hjd⟩ : ∃ j, co.guard = some (j, bb) ∧ (ops[j]?).bind (·.dst) = some t := by
      rw [hgd] at hg
      cases hcg : co.guard with
      | none => rw [hcg] at hg; cases hg
      | some jb =>
        obtain ⟨j, b2⟩ := jb
        rw [hcg] at hg
        simp only [cGuard] at hg
        split at hg
        · rename_i y hy
          obtain ⟨d, hd', h2⟩ := omap hg
          cases h2
          exact ⟨j, rfl, by rw [hy]; exact hd'⟩
        · cases hg
    have htl : t ∈ looks o := by
      unfold looks; rw [hgd]; simp
    by_cases hwt : a.tmps[t]? = some (.bool bb)
    · rw [if_pos (by simp [Region.wanted, hcg, yielded, hjd, hwt])]
      have hgt : a.tmps.getD t undef = .bool bb := by simp [hwt]
      refine .inl (exec ?_)
      rw [hG0]
      refine Holds.cons hgt ?_
      by_cases he : (get (sAt Γ as r0 i) t).1 = []
      · rw [he]; exact Holds.nil a
      · by_cases hh : Holds a (get (sAt Γ as r0 i) t).1
        · exact hh
        · have := (hent t htl).2 he hh
          rw [this] at hgt
          cases hgt
    · have hnw : ¬ Region.wanted co (yielded ops a.tmps) = true := by
        simp only [Region.wanted, hcg, beq_iff_eq]
        intro h
        apply hwt
        unfold yielded at h
        rw [hjd] at h
        simp only [Option.bind_some] at h
        split at h
        · rename_i b2 hb2; cases h; exact hb2
        · cases h
      rw [if_neg hnw]
      have hnh : ¬ Holds a G := fun h => by
        have := h (t, bb) (by rw [hG0]; exact List.mem_cons_self ..)
        apply hwt
        simp only at this
        cases hq : a.tmps[t]? with
        | none => simp [hq] at this; cases this
        | some v => simp [hq] at this; rw [this]
      have hskip : ∃ φ', Tr N wb.B φ w φ' w ∧ MRel N wb.B w φ' mc := by
        by_cases hcm : ∃ f l, o.op = .callm f l
        · obtain ⟨f, l, hcm⟩ := hcm
          rw [hcm] at hexc
          simp only [exOp] at hexc
          split at hexc
          · rename_i hGn; exact absurd (Holds.nil a) hnh
          · obtain ⟨q, hq, h1⟩ := obind hexc
            obtain ⟨vs, hv, h2⟩ := obind h1
            have hqf : q = false := by
              cases q with
              | false => rfl
              | true => exact absurd (hold_all hG.2 hentG hq) hnh
            subst hqf
            unfold callMG at h2
            cases he : entMOf Γ.m f with
            | none => rw [he] at h2; cases h2
            | some e =>
              rw [he] at h2
              exact ((entMOf_sound c.sound.2 he).1.2.2.1 false vs _ x mc b h2).2 rfl N wb.B w φ hI.mem
        · exact skipM_ok hI.mem (skip_of hexc (fun sz p v e => by
            have := c.st ho (.inl ⟨sz, p, v, e⟩)
            rw [hgd] at this; cases this) (fun f l e => hcm ⟨f, l, e⟩) (fun T y e => by
            have := c.st ho (.inr (.inl ⟨T, y, e⟩))
            rw [hgd] at this; cases this) fun p q e => by
            have := c.st ho (.inr (.inr ⟨p, q, e⟩))
            rw [hgd] at this; cases this)
      obtain ⟨φ', h1, h2⟩ := hskip
      exact after undef w φ' h1 h2 (fun h => absurd h hnh) fun _ _ => rfl

/-- A new variable that memory has already, and that has not come up. -/
theorem inv_phantom (c : RegC P ms Γ ops as r0 rn n) {N : Nat → Prop} {wb : Base} {L : Nat → Prop} {a : Act} {w : World} {φ : Phi} {k : Nat} (hI : Inv P Γ as r0 n N wb L none a w φ k) {i : Nat} {o : AOper} {z : List AV}
    (ho : as[i]? = some o) (hop : o.op = .alloc z) (hL : ¬ L i) (hw : ∀ j y, as[j]? = some y → writesM y.op = true → j ≠ i → (L j ↔ j < i)) : Inv P Γ as r0 n N wb L (some i) a w (φ ++ [none]) (i + 1) := by
  have hilt := (List.getElem?_eq_some_iff.1 ho).1
  obtain ⟨x, m', b, hex, _, hm1, _⟩ := c.at_ ho
  rw [hop] at hex
  simp only [exOp] at hex
  obtain ⟨_, rfl, _⟩ := ok1_spec hex
  have hmk : mAt Γ as r0 k = mAt Γ as r0 i := mem_same c hI hilt (fun h => h.elim hL (fun h => by cases h)) fun j y hj hy hji => by
    rw [← hw j y hj hy hji]
    exact ⟨fun h => h.elim id (fun h => by cases h), .inl⟩
  have hp := mrel_phantom hI.mem (.box none z)
  refine ⟨fun t e he => ?_, ?_, by omega, fun j y hj hy => ?_, fun j hj => ?_, hI.chain, hI.below, hI.size, hI.defers⟩
  · have := hI.slots t e he
    exact ⟨fun h => (this.1 h).mono hp.1.keeps hp.1.ext, this.2⟩
  · rw [hm1, ← hmk]; exact hp.2
  · by_cases hji : j = i
    · subst hji; exact ⟨fun _ => by omega, fun _ => .inr rfl⟩
    · have := hw j y hj hy hji
      constructor
      · rintro (h | h)
        · have := this.1 h; omega
        · cases h; exact absurd rfl hji
      · exact fun h => .inl (this.2 (by omega))
  · cases hj
    rw [← hmk, ← hI.mem.len, List.getElem?_append_right (Nat.le_refl _)]
    simp

theorem cOp_alloc {op : Op} {z : List AV} (h : cOp P ms op = some (.alloc z)) : ∃ t, op = .alloc t ∧ zeroA P t = some z := by
  unfold cOp at h
  split at h
  all_goals first
    | (obtain ⟨z', hz, e⟩ := omap h; cases e; exact ⟨_, rfl, hz⟩)
    | skip
  all_goals exfalso
  all_goals (repeat' split at h)
  all_goals first
    | (revert h; simp [Option.bind_eq_some_iff, Option.map_eq_some_iff, Bool.cond_eq_ite]; done)
    | (simp only [Bool.cond_eq_ite] at h; (repeat' split at h) <;> (revert h; simp [Option.bind_eq_some_iff, Option.map_eq_some_iff]))

/-- It comes up. -/
theorem reg_fill (c : RegC P ms Γ ops as r0 rn n) {N : Nat → Prop} {wb : Base} {L : Nat → Prop} {a : Act} {w : World} {φ : Phi} {k : Nat} {i : Nat} (hI : Inv P Γ as r0 n N wb L (some i) a w φ k) {o : AOper} {z : List AV}
    (ho : as[i]? = some o) (hop : o.op = .alloc z) (hgd : o.guard = none) (hL : ¬ L i) (hmz : (mAt Γ as r0 k)[(mAt Γ as r0 i).length]? = some (.box none z))
    {Q : Exit → Act → World → Prop} {K : Act → World → Prop} (hK : ∀ a' w' φ' k', Inv P Γ as r0 n N wb (fun j => L j ∨ j = i) none a' w' φ' k' → K a' w') : wpOp P ops Q i K a w := by
  have hilt := (List.getElem?_eq_some_iff.1 ho).1
  obtain ⟨hlen, hco⟩ := cOpers_at c.comp
  have hops : ops.toList[i]? = some (ops.toList[i]'(by omega)) := List.getElem?_eq_getElem (by omega)
  obtain ⟨ao, hao, hd, hg, hcop⟩ := hco i _ hops
  rw [ho] at hao; cases hao
  generalize ops.toList[i]'(by omega) = co at hops hd hg hcop
  have hops' : ops[i]? = some co := by simpa using hops
  obtain ⟨x, m', b, hex, hs1, hm1, _⟩ := c.at_ ho
  rw [hop] at hex hcop
  simp only [exOp] at hex
  obtain ⟨rfl, rfl, _⟩ := ok1_spec hex
  rw [hgd] at hs1
  obtain ⟨t, hot, hz⟩ := cOp_alloc hcop
  obtain ⟨v, hr, hv⟩ := zeroA_run hz
  have hB : ∀ b, wb.B b → b < w.heap.size := fun b h => Nat.lt_of_lt_of_le (wb.lt b h) hI.below.size
  have hvz := hv (Nof N φ) w φ
  obtain ⟨hbel, hext, hkeep, hmr⟩ := mrel_fill (e := t) (cells := v.cells.toList.toArray) hI.mem hB (hI.pend i rfl) hmz (cells_cont hvz.1 hvz.2)
  have hphi : (φ.set (mAt Γ as r0 i).length (some (w.heap.size, v.cells.toList.toArray.size, cN (cntO (.box none z)))))[(mAt Γ as r0 i).length]? = some (some (w.heap.size, v.cells.toList.toArray.size, cN (cntO (.box none z)))) := by
    have := (List.getElem?_eq_some_iff.1 (hI.pend i rfl)).1
    rw [List.getElem?_set_self this]
  have hcg : co.guard = none := by
    rw [hgd] at hg
    cases hcg : co.guard with
    | none => rfl
    | some jb =>
      obtain ⟨j, bb⟩ := jb
      rw [hcg] at hg
      simp only [cGuard] at hg
      split at hg
      · obtain ⟨d, _, h2⟩ := omap hg; cases h2
      · cases hg
  have hdL : ∀ j y, L j → as[j]? = some y → ∀ p ∈ guardsOf (sAt Γ as r0 j) y.guard, co.dst ≠ some p.1 := fun j y hj hy p hp e => by
    obtain ⟨q, z, h3, h4, h5⟩ := hI.chain j y hj hy p hp
    have := distinct_at c.distinct ho h4 (by rw [hd]; exact e) h5
    subst this
    exact hL h3
  unfold wpOp
  rw [hops']
  simp only
  rw [if_pos (by simp [Region.wanted, hcg])]
  refine .inl (wp_of_opok (R := fun v' w' => v' = .pointer (some ⟨w.heap.size, 0, none⟩) ∧ w' = w.alloc (.cells v.cells.toList.toArray t)) ?_ ?_)
  · unfold OpOk
    have : (execOp a.eval co).run P w = .ok (.value (.pointer (some ⟨w.heap.size, 0, none⟩))) (w.alloc (.cells v.cells.toList.toArray t)) := by
      simp [execOp, hot, Instr.alloc, hr, newVar, newRow]
    rw [this]
    exact ⟨rfl, rfl⟩
  rintro v' w' ⟨rfl, rfl⟩
  refine hK _ _ _ k ⟨fun u e he => ?_, hmr, hI.kle, fun j y hj hy => ?_, fun j hj => (by cases hj), fun j y hj hy p hp => ?_, hI.below.trans hbel, ?_, ?_⟩
  · by_cases hdt : co.dst = some u
    · have hee : e = ([], .ptr (mAt Γ as r0 i).length 0) := by
        rcases he with ⟨j, y, _, hy, hyd, rfl⟩ | ⟨hno, _⟩
        · have := distinct_at c.distinct ho hy (by rw [hd]; exact hdt) hyd
          subst this
          rw [hs1, hd, hdt, get_put_eq]
          rfl
        · exact absurd (by rw [hd]; exact hdt) (hno i o (.inr rfl) ho)
      subst hee
      have hlt : u < a.tmps.size := by rw [hI.size]; exact c.dlt ho (by rw [hd]; exact hdt)
      rw [hdt]
      exact ⟨fun _ => by rw [put_getD_eq hlt]; exact .ptr hphi, fun h => absurd rfl h⟩
    · have he' : AEnt Γ as r0 L u e := by
        rcases he with ⟨j, y, hj, hy, hyd, rfl⟩ | ⟨hno, rfl⟩
        · rcases hj with hj | rfl
          · exact .inl ⟨j, y, hj, hy, hyd, rfl⟩
          · rw [ho] at hy; cases hy
            exact absurd (by rw [← hd]; exact hyd) hdt
        · exact .inr ⟨fun j y hj hy => hno j y (.inl hj) hy, rfl⟩
      have h0 := hI.slots u e he'
      have hch' : ∀ p ∈ e.1, co.dst ≠ some p.1 := fun p hp => by
        rcases he' with ⟨j, y, hj, hy, hyd, rfl⟩ | ⟨_, rfl⟩
        · obtain ⟨x', m'', b', _, h6, _⟩ := c.at_ hy
          rw [h6, hyd, get_put_eq] at hp
          exact hdL j y hj hy p hp
        · rw [c.start u] at hp; cases hp
      have hH : Holds (a.put co.dst (.pointer (some ⟨w.heap.size, 0, none⟩))) e.1 ↔ Holds a e.1 := holds_put hch'
      exact ⟨fun h => by rw [put_getD_ne hdt]; exact (h0.1 (hH.1 h)).monoR hkeep hext, fun h1 h2 => by rw [put_getD_ne hdt]; exact h0.2 h1 fun h => h2 (hH.2 h)⟩
  · rw [← hI.wr j y hj hy]
    constructor
    · rintro ((h | rfl) | h)
      · exact .inl h
      · exact .inr rfl
      · cases h
    · rintro (h | h)
      · exact .inl (.inl h)
      · cases h; exact .inl (.inr rfl)
  · rcases hj with hj | rfl
    · obtain ⟨q, z, h3, h4, h5⟩ := hI.chain j y hj hy p hp
      exact ⟨q, z, .inl h3, h4, h5⟩
    · rw [ho] at hy; cases hy
      rw [hgd] at hp; cases hp
  · have := hI.size
    cases hcd : co.dst <;> simp [Act.put, this]
  · have := hI.defers
    cases hcd : co.dst <;> simp [Act.put, this]
end
end Go.AM
