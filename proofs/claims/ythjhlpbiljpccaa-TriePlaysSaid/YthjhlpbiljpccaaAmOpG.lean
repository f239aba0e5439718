/-
  Equality of structs, cell by cell.
-/
import Derived.Test.YthjhlpbiljpccaaAmOpF
namespace Go.AM
open Go.RowKit

section
variable {P : Program} {N : Nat → Prop} {B : Nat → Prop} {w : World} {φ : Phi} {m : Mem} {o : Oper} {a : Act} {Γ : Env} {s : Slots} {G : List (Nat × Bool)} {x : AV} {m' : Mem} {vc : Bool}

def ceq : Nat → Value → Value → Option Bool
  | 1, .int k a, .int j b => bif decide (k = j) then some (a == b) else none
  | 0, .bool a, .bool b => some (a == b)
  | 2, .string a, .string b => some (a.toList == b.toList)
  | _, _, _ => none
/-- Cells at these places, compared in order. -/
def ceqs (us vs : Array Value) : List (Nat × Nat) → Option Bool
  | [] => some true
  | o :: r => (us[o.1]?).bind fun u => (vs[o.1]?).bind fun v => (ceq o.2 u v).bind fun b => (ceqs us vs r).map fun c => b && c

theorem ceqs_app (us vs : Array Value) : ∀ (l k : List (Nat × Nat)) {r : Bool}, ceqs us vs (l ++ k) = some r → ∃ b c, ceqs us vs l = some b ∧ ceqs us vs k = some c ∧ r = (b && c)
  | [], k, r, h => ⟨true, r, rfl, h, by simp⟩
  | o :: l, k, r, h => by
    obtain ⟨u, hu, h1⟩ := obind h
    obtain ⟨v, hv, h2⟩ := obind h1
    obtain ⟨b, hb, h3⟩ := obind h2
    obtain ⟨c, hc, rfl⟩ := omap h3
    obtain ⟨d, e, h4, h5, rfl⟩ := ceqs_app us vs l k hc
    exact ⟨b && d, e, by simp [ceqs, hu, hv, hb, h4], h5, by simp [Bool.and_assoc]⟩
def shiftL (off : Nat) (l : List (Nat × Nat)) : List (Nat × Nat) := l.map fun p => (off + p.1, p.2)
theorem ceqs_ext (us vs : Array Value) (off n : Nat) : ∀ (l : List (Nat × Nat)) {r : Bool}, (∀ o ∈ l, o.1 < n) → ceqs us vs (shiftL off l) = some r → ceqs (us.extract off (off + n)) (vs.extract off (off + n)) l = some r
  | [], r, _, h => h
  | o :: l, r, hl, h => by
    obtain ⟨u, hu, h1⟩ := obind h
    obtain ⟨v, hv, h2⟩ := obind h1
    obtain ⟨b, hb, h3⟩ := obind h2
    obtain ⟨c, hc, rfl⟩ := omap h3
    have ih := ceqs_ext us vs off n l (fun o ho => hl o (List.mem_cons_of_mem _ ho)) hc
    have hon := hl o (List.mem_cons_self ..)
    have hu' : (us.extract off (off + n))[o.1]? = some u := by rw [Array.getElem?_extract, if_pos (by have := (Array.getElem?_eq_some_iff.1 (show us[off + o.1]? = some u from hu)).1; omega)]; exact hu
    have hv' : (vs.extract off (off + n))[o.1]? = some v := by rw [Array.getElem?_extract, if_pos (by have := (Array.getElem?_eq_some_iff.1 (show vs[off + o.1]? = some v from hv)).1; omega)]; exact hv
    have hb' : ceq o.2 u v = some b := hb
    simp [ceqs, hu', hv', hb', ih]

theorem isAgg_struct {t : TypeId} {fs : Array Field} (h : P.underlying t = some (.struct fs)) : isAggT P t = true := by
  simp [isAggT, h]
theorem ceq0 {u v : Value} {b : Bool} (h : ceq 0 u v = some b) : ∃ p q, u = .bool p ∧ v = .bool q ∧ b = (p == q) := by
  cases u <;> cases v <;> simp [ceq] at h
  exact ⟨_, _, rfl, rfl, h.symm⟩
theorem ceq1 {u v : Value} {b : Bool} (h : ceq 1 u v = some b) : ∃ k p q, u = .int k p ∧ v = .int k q ∧ b = (p == q) := by
  cases u <;> cases v <;> simp only [ceq, reduceCtorEq] at h
  rename_i k p j q
  cases hkj : decide (k = j) with
  | false => rw [hkj] at h; cases h
  | true =>
    rw [hkj] at h; cases h
    have hkj' : k = j := by simpa using hkj
    subst hkj'
    exact ⟨_, _, _, rfl, rfl, rfl⟩
theorem ceq2 {u v : Value} {b : Bool} (h : ceq 2 u v = some b) : ∃ p q, u = .string p ∧ v = .string q ∧ b = (p.toList == q.toList) := by
  cases u <;> cases v <;> simp [ceq] at h
  exact ⟨_, _, rfl, rfl, h.symm⟩

theorem equal_leaf {D : Nat} {t : TypeId} (hk : tyOk P t = true) {us vs : Array Value} {off q : Nat} {r : Bool} (h : ceqs us vs [(off, q)] = some r)
    (ht : (q = 0 ∧ P.underlying t = some .bool) ∨ (q = 1 ∧ ∃ k, P.underlying t = some (.int k)) ∨ (q = 2 ∧ P.underlying t = some .string)) :
    (do let a ← part t us off; let b ← part t vs off; Op.equalIn (D + 1) t a b : Sem Bool).run P w = .ok r w := by
  obtain ⟨u, hu, h1⟩ := obind h
  obtain ⟨v, hv, h2⟩ := obind h1
  obtain ⟨b, hb, h3⟩ := obind h2
  obtain ⟨c, hc, rfl⟩ := omap h3
  cases hc
  have hu' : us[off]? = some u := hu
  have hv' : vs[off]? = some v := hv
  have hag : isAggT P t = false := by rcases ht with ⟨_, ht⟩ | ⟨_, k, ht⟩ | ⟨_, ht⟩ <;> simp [isAggT, ht]
  simp only [part, Sem.run_bind, run_isAgg hk, hag, Result.andThen_ok, Bool.false_eq_true, if_false, hu', hv', Sem.run_pure]
  have hb' : ceq q u v = some b := hb
  rw [Bool.and_true]
  rcases ht with ⟨rfl, ht⟩ | ⟨rfl, k, ht⟩ | ⟨rfl, ht⟩
  · obtain ⟨p, q, rfl, rfl, rfl⟩ := ceq0 hb'
    exact run_equalIn_bool' _ _ _ _ _ ht
  · obtain ⟨_, p, q, rfl, rfl, rfl⟩ := ceq1 hb'
    exact run_equalIn_int _ _ _ _ _ _ _ ht
  · obtain ⟨p, q, rfl, rfl, rfl⟩ := ceq2 hb'
    exact run_equalIn_string _ _ _ _ _ ht

theorem eqFields_of {d D : Nat} (heq : ∀ (t : TypeId) (offs : List (Nat × Nat)) (us vs : Array Value) (off : Nat) (r : Bool), leaves P d t = some offs → ceqs us vs (shiftL off offs) = some r →
    (do let a ← part t us off; let b ← part t vs off; Op.equalIn D t a b : Sem Bool).run P w = .ok r w) : ∀ (fl : List Field) (offs : List (Nat × Nat)) (us vs : Array Value) (r : Bool),
    leavesF (leaves P d) fl = some offs → ceqs us vs offs = some r → (Op.eqFields D us vs fl).run P w = .ok r w
  | [], offs, us, vs, r, hl, hx => by cases hl; cases hx; rfl
  | f :: fl, offs, us, vs, r, hl, hx => by
    unfold leavesF at hl
    cases hn : f.name == "_" with
    | true => rw [hn] at hl; cases hl
    | false =>
      rw [hn] at hl
      simp only [cond_false] at hl
      obtain ⟨x, hx1, h3⟩ := obind hl
      obtain ⟨y, hy1, rfl⟩ := omap h3
      obtain ⟨b, c, hb, hc, rfl⟩ := ceqs_app us vs _ _ hx
      have hne : f.name ≠ "_" := by simpa using hn
      have e1 := heq f.type x us vs f.offset b hx1 hb
      have e2 := eqFields_of heq fl y us vs c hy1 hc
      have hrun : (Op.eqFields D us vs (f :: fl)).run P w = ((do let a ← part f.type us f.offset; let b ← part f.type vs f.offset; Op.equalIn D f.type a b : Sem Bool).run P w).andThen fun r w' => (if (!r) = true then (pure false : Sem Bool) else Op.eqFields D us vs fl).run P w' := by
        simp only [Op.eqFields, if_pos hne, Sem.run_bind]
        cases (part f.type us f.offset).run P w with
        | ok p w1 =>
          simp only [Result.andThen_ok]
          cases (part f.type vs f.offset).run P w1 with
          | ok p w1 => simp only [Result.andThen_ok]
          | halt p w1 => rfl
        | halt p w1 => rfl
      rw [hrun, e1, Result.andThen_ok]
      cases b with
      | true => simpa using e2
      | false => rfl

theorem equal_ok : ∀ (d D : Nat) (t : TypeId) (offs : List (Nat × Nat)) (us vs : Array Value) (off : Nat) (r : Bool), d ≤ D → leaves P d t = some offs → ceqs us vs (shiftL off offs) = some r →
    (do let a ← part t us off; let b ← part t vs off; Op.equalIn D t a b : Sem Bool).run P w = .ok r w
  | 0, _, _, _, _, _, _, _, _, h, _ => by simp [leaves] at h
  | d + 1, 0, _, _, _, _, _, _, h, _, _ => by omega
  | d + 1, D + 1, t, offs, us, vs, off, r, hD, h, hr => by
    unfold leaves at h
    cases hk : tyOk P t with
    | false => rw [hk] at h; cases h
    | true =>
      rw [hk] at h
      simp only [cond_true] at h
      split at h
      · rename_i ht; cases h; exact equal_leaf hk hr (.inl ⟨rfl, ht⟩)
      · rename_i k ht; cases h; exact equal_leaf hk hr (.inr (.inl ⟨rfl, k, ht⟩))
      · rename_i ht; cases h; exact equal_leaf hk hr (.inr (.inr ⟨rfl, ht⟩))
      · rename_i fs ht
        cases hst : P.stoodInHeld t with
        | true => rw [hst] at h; cases h
        | false =>
          rw [hst] at h
          simp only [cond_false] at h
          obtain ⟨l, hl, h2⟩ := obind h
          clear h
          cases hall : l.all fun o => Nat.blt o.1 (P.cellsOf t) with
          | false => rw [hall] at h2; cases h2
          | true =>
            rw [hall] at h2; cases h2
            have hag : isAggT P t = true := isAgg_struct ht
            have hlt : ∀ o ∈ offs, o.1 < P.cellsOf t := fun o ho => by
              have := List.all_eq_true.1 hall o ho
              simpa [Nat.blt_eq] using this
            have hx := ceqs_ext us vs off (P.cellsOf t) offs hlt hr
            have hfo : P.fieldsOf t = fs := by simp [Program.fieldsOf, ht]
            simp only [part, Sem.run_bind, run_isAgg hk, hag, Result.andThen_ok, if_true, run_sizeOf hk, Sem.run_pure]
            rw [run_equalIn_agg w D t _ _ (by rw [hfo]; exact ht) hst, hfo]
            exact eqFields_of (fun t offs us vs off r h1 h2 => equal_ok d D t offs us vs off r (by omega) h1 h2) fs.toList offs _ _ r hl hx
      · cases h

theorem eqCell_inv {q : Nat} {x y : FV} {b : Bool} (h : eqCell q x y = some b) : (q = 1 ∧ ∃ k p r, x = .int k p ∧ y = .int k r ∧ b = (p == r)) ∨ (q = 0 ∧ ∃ p r, x = .bool p ∧ y = .bool r ∧ b = (p == r)) ∨
    (q = 2 ∧ ∃ p r, x = .str p ∧ y = .str r ∧ b = (p == r)) := by
  unfold eqCell at h
  split at h
  · rename_i k p j r
    cases hkj : decide (k = j) with
    | false => rw [hkj] at h; cases h
    | true =>
      rw [hkj] at h; cases h
      have hkj' : k = j := by simpa using hkj
      subst hkj'
      exact .inl ⟨rfl, _, _, _, rfl, rfl, rfl⟩
  · cases h; exact .inr (.inl ⟨rfl, _, _, rfl, rfl, rfl⟩)
  · cases h; exact .inr (.inr ⟨rfl, _, _, rfl, rfl, rfl⟩)
  · cases h

/-- The cells as data, and as values. -/
theorem eqCells_ceqs {N : Nat → Prop} {xs ys : List FV} {us vs : Array Value} (hx : us.size = xs.length) (hy : vs.size = ys.length)
    (h : ∀ (j : Nat) c v, xs[j]? = some c → us[j]? = some v → FRel N w c v) (g : ∀ (j : Nat) c v, ys[j]? = some c → vs[j]? = some v → FRel N w c v) :
    ∀ (l : List (Nat × Nat)) {r : Bool}, eqCells xs ys l = some r → ceqs us vs l = some r
  | [], r, e => e
  | o :: l, r, e => by
    obtain ⟨x, hx1, e1⟩ := obind e
    obtain ⟨y, hy1, e2⟩ := obind e1
    obtain ⟨b, hb, e3⟩ := obind e2
    have hxl := (List.getElem?_eq_some_iff.1 hx1).1
    have hyl := (List.getElem?_eq_some_iff.1 hy1).1
    have hu : us[o.1]? = some (us[o.1]'(by omega)) := Array.getElem?_eq_getElem (by omega)
    have hv : vs[o.1]? = some (vs[o.1]'(by omega)) := Array.getElem?_eq_getElem (by omega)
    have r1 := h _ _ _ hx1 hu
    have r2 := g _ _ _ hy1 hv
    generalize us[o.1]'(by omega) = u at hu r1
    generalize vs[o.1]'(by omega) = v at hv r2
    have hc : ceq o.2 u v = some b := by
      rcases eqCell_inv hb with ⟨e, k, p, q, rfl, rfl, rfl⟩ | ⟨e, p, q, rfl, rfl, rfl⟩ | ⟨e, p, q, rfl, rfl, rfl⟩
      · cases r1 with
        | int _ => cases r2 with
          | int _ => rw [e]; simp [ceq]
      · cases r1 with
        | bool => cases r2 with
          | bool => rw [e]; rfl
      · cases r1 with
        | str _ => cases r2 with
          | str _ => rw [e]; simp only [ceq, str_eq]
    cases l with
    | nil =>
      cases e3
      simp [ceqs, hu, hv, hc]
    | cons p l =>
      obtain ⟨c, hc', rfl⟩ := omap e3
      have := eqCells_ceqs hx hy h g (p :: l) hc'
      simp only [ceqs] at this ⊢
      simp [hu, hv, hc, this]

theorem op_eqa {op : BinOp} {neg : Bool} {t u : TypeId} {fs : Array Field} {offs : List (Nat × Nat)} {y z : Operand} (ho : o.op = .binOp op t y z u) (hgd : P.eqGuardType P.depth t = false) (ht : P.underlying t = some (.struct fs))
    (hof : leaves P 20 t = some offs) (hop : (neg = false ∧ op = .eql) ∨ (neg = true ∧ op = .neq))
    {ay az : AOpd} (hy : cOpd y = some ay) (hz : cOpd z = some az) (hx : exOp Γ s G m (.eqa neg offs ay az) = some (x, m', vc))
    (hs : SlotsOk (Nof N φ) w φ s a) (hG : Holds a G) (hm : MRel N B w φ m) : OpOk P o a w (Post N B φ w m' x) := by
  obtain ⟨p, hp, h1⟩ := obind hx
  obtain ⟨q, hq, h2⟩ := obind h1
  clear hx h1
  have hpr := opd_ok hs hG hy hp
  have hqr := opd_ok hs hG hz hq
  generalize he : a.eval y = ey at hpr
  generalize hf : a.eval z = ez at hqr
  split at h2
  · rename_i xs ys
    obtain ⟨r, hr, h3⟩ := omap h2
    simp only [Prod.mk.injEq] at h3
    obtain ⟨rfl, rfl, _⟩ := h3
    cases hpr with
    | f hpr =>
    cases hqr with
    | f hqr =>
    cases hpr with
    | @agg _ us hn ho1 hr1 =>
    cases hqr with
    | @agg _ vs hn' ho2 hr2 =>
    have hc := eqCells_ceqs hn hn' hr1 hr2 offs hr
    have heq : (Op.equalIn 10000 t (.agg us) (.agg vs)).run P w = .ok r w := by
      have hk : tyOk P t = true := by
        unfold leaves at hof
        cases hk : tyOk P t with
        | true => rfl
        | false => rw [hk] at hof; cases hof
      have hst : P.stoodInHeld t = false := by
        unfold leaves at hof
        rw [hk] at hof
        simp only [cond_true, ht] at hof
        cases hst : P.stoodInHeld t with
        | false => rfl
        | true => rw [hst] at hof; cases hof
      have hlf : leavesF (leaves P 19) fs.toList = some offs := by
        unfold leaves at hof
        rw [hk] at hof
        simp only [cond_true, ht, hst, cond_false] at hof
        obtain ⟨l, hl, h2⟩ := obind hof
        cases hall : l.all fun o => Nat.blt o.1 (P.cellsOf t) with
        | false => rw [hall] at h2; cases h2
        | true => rw [hall] at h2; cases h2; exact hl
      have hfo : P.fieldsOf t = fs := by simp [Program.fieldsOf, ht]
      rw [run_equalIn_agg w 9999 t _ _ (by rw [hfo]; exact ht) hst, hfo]
      exact eqFields_of (fun t offs us vs off r h1 h2 => equal_ok 19 9999 t offs us vs off r (by omega) h1 h2) fs.toList offs us vs r hlf hc
    rcases hop with ⟨rfl, rfl⟩ | ⟨rfl, rfl⟩
    · exact quiet_ok hm (by simp [execOp, ho, he, hf, run_eqGuard_agg _ _ _ _ _ _ _ hgd, run_eql_struct, heq]) (.f .bool)
    · exact quiet_ok hm (by simp [execOp, ho, he, hf, run_eqGuard_agg _ _ _ _ _ _ _ hgd, run_neq_struct, heq]) (.f .bool)
  · cases h2
end
end Go.AM
