/-
  A region: one operation more.
-/
import Derived.Test.YthjhlpbiljpccaaAmReg
namespace Go.AM
open Go.RowKit

theorem wp_of_opok {P : Program} {o : Oper} {a : Act} {w : World} {R : Value → World → Prop} {K : Act → World → Prop} {Q : Exit → Act → World → Prop} (h : OpOk P o a w R) (hK : ∀ v w', R v w' → K (a.put o.dst v) w') : o.wp P a w K Q := by
  unfold OpOk at h
  unfold Oper.wp
  generalize (execOp a.eval o).run P w = r at *
  cases r with
  | ok n w' =>
    cases n <;> simp only [Oper.upon] <;> first | exact hK _ _ h | exact h.mono (fun e w'' ⟨v, he, hr⟩ => by subst he; exact hK _ _ hr) | exact h.elim
  | halt x w' => exact h.elim

def EntOk (N : Nat → Prop) (a : Act) (w : World) (φ : Phi) (e : List (Nat × Bool) × AV) (t : Nat) : Prop :=
  (Holds a e.1 → VRel (Nof N φ) w φ e.2 (a.tmps.getD t undef)) ∧ (e.1 ≠ [] → ¬ Holds a e.1 → a.tmps.getD t undef = undef)

theorem evOps_app {Γ : Env} : ∀ (xs ys : List AOper) (r : RS), evOps Γ (xs ++ ys) r = (evOps Γ xs r).bind (evOps Γ ys)
  | [], ys, r => rfl
  | o :: xs, ys, r => by
    simp only [List.cons_append, evOps]
    cases evOper Γ o r with
    | none => rfl
    | some r' => exact evOps_app xs ys r'

def stepAt (Γ : Env) (as : List AOper) (r0 : RS) (i : Nat) : RS := (evOps Γ (as.take i) r0).getD r0

section
variable {Γ : Env} {as : List AOper} {r0 rn : RS}
theorem stepAt_some (h : evOps Γ as r0 = some rn) (i : Nat) : evOps Γ (as.take i) r0 = some (stepAt Γ as r0 i) := by
  have : evOps Γ (as.take i ++ as.drop i) r0 = some rn := by rw [List.take_append_drop]; exact h
  rw [evOps_app] at this
  obtain ⟨r, hr, _⟩ := obind this
  simp [stepAt, hr]
theorem stepAt_zero : stepAt Γ as r0 0 = r0 := rfl
theorem stepAt_last (h : evOps Γ as r0 = some rn) : stepAt Γ as r0 as.length = rn := by
  simp [stepAt, h]
theorem stepAt_succ (h : evOps Γ as r0 = some rn) {i : Nat} {o : AOper} (ho : as[i]? = some o) : evOper Γ o (stepAt Γ as r0 i) = some (stepAt Γ as r0 (i + 1)) := by
  have h1 := stepAt_some h i
  have h2 := stepAt_some h (i + 1)
  have hlt := (List.getElem?_eq_some_iff.1 ho).1
  have h3 : as.take (i + 1) = as.take i ++ [o] := by
    rw [List.take_add_one, ho]; rfl
  rw [h3, evOps_app, h1] at h2
  simp only [Option.bind_some, evOps] at h2
  cases he : evOper Γ o (stepAt Γ as r0 i) with
  | none => rw [he] at h2; cases h2
  | some r' => rw [he] at h2; simpa using h2

theorem evOper_inv {o : AOper} {r r' : RS} (h : evOper Γ o r = some r') : ∃ x m' b, exOp Γ r.st.s (guardsOf r.st.s o.guard) r.st.m o.op = some (x, m', b) ∧ r'.st = ⟨putS o.dst (guardsOf r.st.s o.guard) x r.st.s, m'⟩ ∧
    (r'.vc = true → r.vc = true ∧ (hasVc o.op = true → ∃ q, holdB r.st.s (guardsOf r.st.s o.guard) = some q ∧ (q = true → b = true))) := by
  obtain ⟨⟨x, m', b⟩, hx, h1⟩ := obind h
  refine ⟨x, m', b, hx, ?_⟩
  cases hv : hasVc o.op with
  | false =>
    rw [hv] at h1; cases h1
    exact ⟨rfl, fun h => ⟨h, fun h => by cases h⟩⟩
  | true =>
    rw [hv] at h1
    obtain ⟨vc, hvc, rfl⟩ := omap h1
    refine ⟨rfl, fun h => ?_⟩
    simp only at h
    subst h
    unfold addVc at hvc
    split at hvc
    · rename_i hG
      rw [hG]
      simp only [Option.some.injEq, Bool.and_eq_true] at hvc
      exact ⟨hvc.1, fun _ => ⟨true, rfl, fun _ => hvc.2⟩⟩
    · obtain ⟨q, hq, hh⟩ := omap hvc
      simp only [Bool.and_eq_true, Bool.or_eq_true, Bool.not_eq_true'] at hh
      exact ⟨hh.1, fun _ => ⟨q, hq, fun e => by
        subst e
        rcases hh.2 with h | h
        · exact h
        · cases h⟩⟩

theorem vc_back (h : evOps Γ as r0 = some rn) (hv : rn.vc = true) : ∀ i, i ≤ as.length → (stepAt Γ as r0 i).vc = true := by
  intro i hi
  have : ∀ k, k ≤ as.length → (stepAt Γ as r0 (as.length - k)).vc = true := fun k => by
    induction k with
    | zero => intro _; rw [Nat.sub_zero, stepAt_last h]; exact hv
    | succ k ih =>
      intro hk
      have h1 := ih (by omega)
      have hlt : as.length - (k + 1) < as.length := by omega
      obtain ⟨x, m', b, _, _, h3⟩ := evOper_inv (stepAt_succ h (List.getElem?_eq_getElem hlt))
      rw [show as.length - k = as.length - (k + 1) + 1 by omega] at h1
      exact (h3 h1).1
  have := this (as.length - i) (by omega)
  rwa [show as.length - (as.length - i) = i by omega] at this

/-! ### The checks, place by place -/
theorem elemN_mem {n : Nat} : ∀ {l : List Nat}, elemN n l = true ↔ n ∈ l
  | [] => by simp [elemN]
  | m :: r => by simp [elemN, elemN_mem (l := r)]
theorem dsts_mem {d : Nat} : ∀ {as : List AOper} {i : Nat} {o : AOper}, as[i]? = some o → o.dst = some d → d ∈ dstsOf as
  | [], _, _, h, _ => by simp at h
  | ⟨some e, _, _⟩ :: r, 0, o, h, hd => by simp at h; subst h; simp at hd; subst hd; simp [dstsOf]
  | ⟨none, _, _⟩ :: r, 0, o, h, hd => by simp at h; subst h; simp at hd
  | ⟨some e, _, _⟩ :: r, i + 1, o, h, hd => List.mem_cons_of_mem _ (dsts_mem (as := r) (by simpa using h) hd)
  | ⟨none, _, _⟩ :: r, i + 1, o, h, hd => dsts_mem (as := r) (i := i) (by simpa using h) hd
theorem distinct_at : ∀ {as : List AOper}, distinctN (dstsOf as) = true → ∀ {i j : Nat} {x y : AOper} {d : Nat}, as[i]? = some x → as[j]? = some y → x.dst = some d → y.dst = some d → i = j
  | [], _, i, _, _, _, _, h, _, _, _ => by simp at h
  | ⟨none, g, p⟩ :: r, hD, 0, _, x, y, d, h, _, hx, _ => by simp at h; subst h; simp at hx
  | ⟨none, g, p⟩ :: r, hD, i + 1, 0, x, y, d, _, h, _, hy => by simp at h; subst h; simp at hy
  | ⟨none, g, p⟩ :: r, hD, i + 1, j + 1, x, y, d, h, h', hx, hy => by
    exact congrArg (· + 1) (distinct_at (as := r) hD (i := i) (j := j) (by simpa using h) (by simpa using h') hx hy)
  | ⟨some e, g, p⟩ :: r, hD, 0, 0, x, y, d, _, _, _, _ => rfl
  | ⟨some e, g, p⟩ :: r, hD, 0, j + 1, x, y, d, h, h', hx, hy => by
    simp only [dstsOf, distinctN, Bool.and_eq_true, Bool.not_eq_true'] at hD
    simp at h; subst h; simp at hx; subst hx
    have := elemN_mem.2 (dsts_mem (as := r) (i := j) (by simpa using h') hy)
    rw [hD.1] at this; cases this
  | ⟨some e, g, p⟩ :: r, hD, i + 1, 0, x, y, d, h, h', hx, hy => by
    simp only [dstsOf, distinctN, Bool.and_eq_true, Bool.not_eq_true'] at hD
    simp at h'; subst h'; simp at hy; subst hy
    have := elemN_mem.2 (dsts_mem (as := r) (i := i) (by simpa using h) hx)
    rw [hD.1] at this; cases this
  | ⟨some e, g, p⟩ :: r, hD, i + 1, j + 1, x, y, d, h, h', hx, hy => by
    simp only [dstsOf, distinctN, Bool.and_eq_true, Bool.not_eq_true'] at hD
    exact congrArg (· + 1) (distinct_at (as := r) hD.2 (i := i) (j := j) (by simpa using h) (by simpa using h') hx hy)
theorem guardBack_at : ∀ {as : List AOper} {ds : List Nat}, guardBack ds as = true → ∀ {i : Nat} {x : AOper} {t : Nat} {b : Bool}, as[i]? = some x → x.guard = some (t, b) → t ∈ ds ∨ ∃ j y, j < i ∧ as[j]? = some y ∧ y.dst = some t
  | [], _, _, i, _, _, _, h, _ => by simp at h
  | o :: r, ds, hg, 0, x, t, b, h, hx => by
    simp at h; subst h
    simp only [guardBack, Bool.and_eq_true, hx] at hg
    exact .inl (elemN_mem.1 hg.1)
  | o :: r, ds, hg, i + 1, x, t, b, h, hx => by
    simp only [guardBack, Bool.and_eq_true] at hg
    rcases guardBack_at (as := r) hg.2 (i := i) (by simpa using h) hx with h1 | ⟨j, y, h1, h2, h3⟩
    · rcases List.mem_append.1 h1 with h1 | h1
      · exact .inl h1
      · exact .inr ⟨0, o, by omega, rfl, by simpa using h1⟩
    · exact .inr ⟨j + 1, y, by omega, by simpa using h2, h3⟩
theorem dstOk_at {n : Nat} : ∀ {as : List AOper}, dstOk n as = true → ∀ {i : Nat} {x : AOper} {d : Nat}, as[i]? = some x → x.dst = some d → d < n
  | [], _, i, _, _, h, _ => by simp at h
  | o :: r, hg, 0, x, d, h, hx => by
    simp at h; subst h
    simp only [dstOk, Bool.and_eq_true, hx, Nat.blt_eq] at hg
    exact hg.1
  | o :: r, hg, i + 1, x, d, h, hx => by
    simp only [dstOk, Bool.and_eq_true] at hg
    exact dstOk_at hg.2 (i := i) (by simpa using h) hx
theorem storeOk_at : ∀ {as : List AOper}, storeOk as = true → ∀ {i : Nat} {x : AOper}, as[i]? = some x → ((∃ sz a v, x.op = .store sz a v) ∨ (∃ T y, x.op = .clr T y) ∨ ∃ a b, x.op = .mput a b) → x.guard = none
  | [], _, i, _, h, _ => by simp at h
  | o :: r, hg, 0, x, h, hx => by
    simp at h; subst h
    rcases hx with ⟨sz, a, v, hx⟩ | ⟨T, y, hx⟩ | ⟨p, q, hx⟩
    · simp only [storeOk, Bool.and_eq_true, hx] at hg
      simpa using hg.1.1
    · simp only [storeOk, Bool.and_eq_true, hx] at hg
      simpa using hg.1
    · simp only [storeOk, Bool.and_eq_true, hx] at hg
      simpa using hg.1.1
  | o :: r, hg, i + 1, x, h, hx => by
    simp only [storeOk, Bool.and_eq_true] at hg
    exact storeOk_at hg.2 (i := i) (by simpa using h) hx

theorem cOpers_at {P : Program} {ms : List Nat} {ops : Array Oper} : ∀ {l : List Oper} {as : List AOper}, cOpers P ms ops l = some as → as.length = l.length ∧ ∀ (i : Nat) (o : Oper), l[i]? = some o → ∃ ao, as[i]? = some ao ∧ ao.dst = o.dst ∧ cGuard ops o.guard = some ao.guard ∧ cOp P ms o.op = some ao.op
  | [], as, h => by cases h; exact ⟨rfl, fun i o h => by simp at h⟩
  | o :: l, as, h => by
    obtain ⟨ao, hao, h1⟩ := obind h
    obtain ⟨bs, hbs, rfl⟩ := omap h1
    obtain ⟨g, hg, h2⟩ := obind hao
    obtain ⟨op, hop, rfl⟩ := omap h2
    obtain ⟨h3, h4⟩ := cOpers_at hbs
    refine ⟨by simp [h3], fun i p hp => ?_⟩
    cases i with
    | zero => simp at hp; subst hp; exact ⟨_, rfl, rfl, hg, hop⟩
    | succ i => exact h4 i p (by simpa using hp)

/-! ### Guards of guards -/
def Chain (s : Slots) : List (Nat × Bool) → Prop
  | [] => True
  | (t, _) :: r => r = (get s t).1 ∧ Chain s r
theorem get_put_ne {s : Slots} {d : Option Nat} {G : List (Nat × Bool)} {v : AV} {t : Nat} (h : d ≠ some t) : get (putS d G v s) t = get s t := by
  cases d with
  | none => rfl
  | some e =>
    have : (e == t) = false := by
      cases he : e == t with
      | false => rfl
      | true => exact absurd (by rw [beq_iff_eq.1 he]) h
    simp [putS, get, this]
theorem get_put_eq {s : Slots} {t : Nat} {G : List (Nat × Bool)} {v : AV} : get (putS (some t) G v s) t = (G, v) := by
  simp [putS, get]
theorem Chain.put {s : Slots} {d : Option Nat} {G : List (Nat × Bool)} {v : AV} : ∀ {X : List (Nat × Bool)}, Chain s X → (∀ p ∈ X, d ≠ some p.1) → Chain (putS d G v s) X
  | [], _, _ => trivial
  | (t, b) :: r, h, hd => ⟨by rw [get_put_ne (hd (t, b) (List.mem_cons_self ..))]; exact h.1, h.2.put fun p hp => hd p (List.mem_cons_of_mem _ hp)⟩

/-- All guards are said to hold: they hold. -/
theorem hold_all {N : Nat → Prop} {a : Act} {w : World} {φ : Phi} {s : Slots} {G0 : List (Nat × Bool)} : ∀ {G : List (Nat × Bool)}, Chain s G → (∀ p ∈ G, EntOk N a w φ (get s p.1) p.1) → holdG s G0 G = some true → Holds a G
  | [], _, _, _ => Holds.nil a
  | (t, want) :: r, hc, he, h => by
    simp only [holdG] at h
    obtain ⟨_, h2⟩ := bif_some h
    split at h2
    · rename_i b hb
      obtain ⟨q', hq, hbq⟩ := omap h2
      simp only [Bool.and_eq_true, beq_iff_eq] at hbq
      obtain ⟨hbw, rfl⟩ := hbq
      have ih := hold_all hc.2 (fun p hp => he p (List.mem_cons_of_mem _ hp)) hq
      have h1 := (he (t, want) (List.mem_cons_self ..)).1 (by rw [← hc.1]; exact ih)
      simp only at h1
      rw [hb] at h1
      refine Holds.cons ?_ ih
      generalize a.tmps.getD t undef = u at h1
      cases h1 with
      | f h1 => cases h1; rw [hbw]
    · cases h2

theorem hold_true {N : Nat → Prop} {a : Act} {w : World} {φ : Phi} {s : Slots} : ∀ {G : List (Nat × Bool)} {q : Bool}, Chain s G → Holds a G → (∀ p ∈ G, EntOk N a w φ (get s p.1) p.1) → holdB s G = some q → q = true
  | [], q, _, _, _, h => by cases h; rfl
  | (t, b) :: r, q, hc, hG, he, h => by
    have h1 := (he (t, b) (List.mem_cons_self ..)).1 (by rw [← hc.1]; exact fun p hp => hG p (List.mem_cons_of_mem _ hp))
    have h2 := hG (t, b) (List.mem_cons_self ..)
    simp only [holdB] at h
    split at h
    · rename_i c hv
      obtain ⟨q', hq, rfl⟩ := omap h
      have ih := hold_true hc.2 (fun p hp => hG p (List.mem_cons_of_mem _ hp)) (fun p hp => he p (List.mem_cons_of_mem _ hp)) hq
      subst ih
      simp only at h1 h2
      rw [hv, h2] at h1
      cases h1 with
      | f h1 => cases h1; simp
    · cases h
end
end Go.AM
