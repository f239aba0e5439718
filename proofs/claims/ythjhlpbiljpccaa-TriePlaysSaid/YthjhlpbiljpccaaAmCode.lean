/-
  A region's law; what stands at a loop's head.
-/
import Derived.Test.YthjhlpbiljpccaaAmReg5
namespace Go.AM
open Go.RowKit

/-- A frame and a world as the abstract state says. -/
structure RelC (N : Nat → Prop) (wb : Base) (n : Nat) (a : Act) (w : World) (φ : Phi) (st : St) : Prop where
  free : ∀ t, (get st.s t).1 = []
  slots : ∀ t, VRel (Nof N φ) w φ (get st.s t).2 (a.tmps.getD t undef)
  mem : MRel N wb.B w φ st.m
  below : Bel wb.B wb.w w
  size : a.tmps.size = n
  defers : a.defers = []

theorem below_drew (B : Nat) (w : World) : Below B w { w with drawn := w.drawn + 1 } := ⟨rfl, rfl, rfl, Nat.le_refl _, fun _ _ => rfl⟩

theorem get_endR (s : Slots) (t : Nat) : get (endR s) t = if (get s t).1 = [] then get s t else ([], .junk) := by
  induction s with
  | nil => simp [endR, get]
  | cons e r ih =>
    obtain ⟨u, G, v⟩ := e
    simp only [endR, List.map_cons] at ih ⊢
    cases G with
    | nil =>
      simp only [endE, List.isEmpty_nil, cond_true, get]
      rcases Bool.eq_false_or_eq_true (u == t) with hu | hu
      · simp [hu]
      · simp only [hu, cond_false]; exact ih
    | cons g G =>
      simp only [endE, List.isEmpty_cons, cond_false, get]
      rcases Bool.eq_false_or_eq_true (u == t) with hu | hu
      · simp [hu]
      · simp only [hu, cond_false]; exact ih

section
variable {P : Program} {ms : List Nat} {Γ : Env} {N : Nat → Prop} {wb : Base} {n : Nat}

theorem RelC.ent {a : Act} {w : World} {φ : Phi} {st : St} (h : RelC N wb n a w φ st) (t : Nat) : EntOk N a w φ (get st.s t) t :=
  ⟨fun _ => h.slots t, fun h1 => absurd (h.free t) h1⟩

theorem RegEnd.rel {a : Act} {w : World} {φ : Phi} {r : RS} (h : RegEnd P n N wb r a w φ) : RelC N wb n a w φ ⟨endR r.st.s, r.st.m⟩ := by
  refine ⟨fun t => ?_, fun t => ?_, h.mem, h.below, h.size, h.defers⟩
  · show (get (endR r.st.s) t).1 = []
    rw [get_endR]
    split
    · assumption
    · rfl
  · show VRel _ _ _ (get (endR r.st.s) t).2 _
    rw [get_endR]
    split
    · rename_i h0
      exact (h.slots t).1 (by rw [h0]; exact Holds.nil a)
    · exact .junk

/-- THE LAW OF A REGION. -/
theorem region_ok (hm : P.follows .mixedOrders = true) (hΓ : Sound P Γ) (hN : ∀ b, ¬ wb.B b → N b) {id : Nat} {ops : Array Oper} {draw : Bool} {as : List AOper} {ps : List (Nat × Nat)} (hc : cC P ms n (.region id ops draw) = some (.region as ps))
    {a : Act} {w : World} {φ : Phi} {st : St} (h : RelC N wb n a w φ st) {rn : RS} (hr : evOps Γ as ⟨st, true⟩ = some rn) (hps : pairsOk Γ rn.st.s as ps = true) (hvc : rn.vc = true) {Q : Exit → Act → World → Prop}
    (hQ : ∀ a' w' φ', RelC N wb n a' w' φ' ⟨endR rn.st.s, rn.st.m⟩ → Q .normal a' w') : (Code.region id ops draw).wp P Q a w := by
  simp only [cC] at hc
  split at hc
  · rename_i as' has
    cases hok : regOk n as' with
    | false => rw [hok] at hc; simp at hc
    | true =>
      rw [hok] at hc
      simp only [cond_true] at hc
      have hQ' : ∀ a w φ, RegEnd P n N wb rn a w φ → Q .normal a w := fun a w φ h => hQ a w φ h.rel
      cases draw with
      | false =>
        simp only [cond_false, Option.some.injEq, ACode.region.injEq] at hc
        obtain ⟨rfl, _⟩ := hc
        have c : RegC P ms Γ ops as' ⟨st, true⟩ rn n := ⟨has, hok, hr, hvc, h.free, hΓ⟩
        have hlen : as'.length = ops.size := by have := (cOpers_at has).1; simpa using this
        refine wp_region ?_
        rw [List.range_eq_range']
        exact reg_lex c hN hQ' ops.size 0 (by omega) (inv_start (fun j => Nat.not_lt_zero j) h.ent h.mem h.below h.size h.defers)
      | true =>
        simp only [cond_true] at hc
        cases hany : anyOk ops.toList as' (openP (aheads ops.toList []) as'.zipIdx) with
        | false => rw [hany] at hc; simp at hc
        | true =>
          rw [hany] at hc
          simp only [cond_true, Option.some.injEq, ACode.region.injEq] at hc
          obtain ⟨rfl, rfl⟩ := hc
          have c : RegC P ms Γ ops as' ⟨st, true⟩ rn n := ⟨has, hok, hr, hvc, h.free, hΓ⟩
          have hlen : as'.length = ops.size := by have := (cOpers_at has).1; simpa using this
          refine wp_region_any hm ?_
          have hk := mrel_keep h.mem (below_drew w.heap.size w)
          have hnL : ∀ j, ¬ Lof (Array.replicate ops.size false) j := fun j => by
            unfold Lof; simp [Array.getElem?_replicate]
          refine reg_any c hany hps hN hQ' ops.size _ ⟨by simp, fun j o hj => absurd hj (hnL j)⟩ ?_ (.inl ⟨rfl, fun i j x y _ _ _ _ _ h => absurd h (hnL j)⟩) (inv_start (φ := φ) hnL (fun t => ?_) hk.2 (h.below.trans (Bel.of (below_drew _ w))) h.size h.defers)
          · simp
          · exact ⟨fun _ => (h.slots t).mono hk.1.keeps hk.1.ext, fun h1 => absurd (h.free t) h1⟩
  · simp at hc
end
end Go.AM
