/-
  Back from a call that was handed own slices.
-/
import Derived.Test.YthjhlpbiljpccaaAmOwn
namespace Go.AM
open Go.RowKit

section
variable {N B : Nat → Prop} {w : World} {φ : Phi} {m m1 mm : Mem} {ψ : Phi}

def Nc (N : Nat → Prop) (w : World) (φ : Phi) (m1 : Mem) (ψ : Phi) : Nat → Prop := fun b => M0 N φ m1 b ∨ own ψ b ∨ w.heap.size ≤ b
/-- Where the callee begins. -/
def baseC (w : World) (ψ : Phi) : Base := ⟨w, fun b => b < w.heap.size ∧ ¬ own ψ b, fun _ h => h.1⟩

theorem Took.own (h : Took N w φ m m1 mm ψ) {b : Nat} (ho : own ψ b) : own φ b := by
  obtain ⟨j, x, hj, hf⟩ := ho
  obtain ⟨k, o, h1, _⟩ := h.orig j x hj
  exact ⟨k, x, h1, hf⟩
/-- What lives on in the caller shares no block with what was given up. -/
theorem Took.other (hm : MRel N B w φ m) (h : Took N w φ m m1 mm ψ) {k : Nat} {o : MObj} {x : Nat × Nat × Cnt} {b : Nat} (hk : m1[k]? = some o) (hl : live o = true) (hx : φ[k]? = some (some x)) (hf : foot x b) : ¬ Go.AM.own ψ b := by
  rintro ⟨j, y, hj, hg⟩
  obtain ⟨k', o', h1, h2, h3, h4⟩ := h.orig j y hj
  have := hm.apart k k' o o' x y b (h.sub k o hk hl) h2 hl h3 hx h1 hf hg
  subst this
  have := h4 o hk
  rw [hl] at this; cases this

theorem took_mrel (hm : MRel N B w φ m) (h : Took N w φ m m1 mm ψ) : MRel (Nc N w φ m1 ψ) (baseC w ψ).B w ψ mm ∧ Keeps (M0 N φ m1) w (Nof (Nc N w φ m1 ψ) ψ) w := by
  have hK : Keeps (M0 N φ m1) w (Nof (Nc N w φ m1 ψ) ψ) w := fun p v hp hv => by
    refine ⟨⟨.inl hp, fun ho => ?_⟩, hv⟩
    rcases hp with hp | ⟨k, o, x, h1, h2, h3, h4⟩
    · exact hp.2 (h.own ho)
    · exact h.other hm h1 h2 h3 h4 ho
  have hK2 : Keeps (Nof N φ) w (Nof (Nc N w φ m1 ψ) ψ) w := fun p v hp hv => hK p v (.inl hp) hv
  refine ⟨⟨h.len, fun j b tot cnt o hj ho lo => ?_, fun j x b hj hf => ?_, fun i j o p x y b hi hj lo lp hx hy hf hg => h.inj i j x y b hx hy hf hg, hm.gl.mono hK2⟩, hK⟩
  · obtain ⟨cs, e, h1, h2, h3, h4⟩ := h.cont j b tot cnt o hj ho lo
    exact ⟨cs, e, h1, h2, h4 _ ψ hK2 (Ext.refl _), h3⟩
  · obtain ⟨k, o, h1, h2, h3, _⟩ := h.orig j x hj
    exact ⟨fun hb => hb.2 ⟨j, x, hj, hf⟩, (hm.bd k x b h1 hf).2⟩

/-- The caller's memory behind the call, one object more. -/
theorem took_give (hm : MRel N B w φ m) (hB' : ∀ b, B b → b < w.heap.size) (h : Took N w φ m m1 mm ψ) {w' : World} (hb : Bel (baseC w ψ).B w w') {z : Option (Nat × Nat × Cnt)} {o : MObj}
    (hz : ∀ b tot cnt, z = some (b, tot, cnt) → ¬ (baseC w ψ).B b ∧ b < w'.heap.size ∧ cnt.ex = [] ∧ ∃ cs e, w'.heap[b]? = some (.cells cs e (0, 0)) ∧ cs.size = tot ∧ cnt.n ≤ cntO o ∧ ∀ (M : Nat → Prop) (ψ' : Phi), OCont M w' ψ' b [] o cs) (hnm : isMap o = false := by rfl) :
    Tr N B φ w (φ ++ [z]) w' ∧ MRel N B w' (φ ++ [z]) (m1 ++ [o]) := by
  -- the new block is none of the old ones
  have hnew : ∀ x b, z = some x → foot x b → b = x.1 ∧ ¬ (baseC w ψ).B b ∧ b < w'.heap.size := fun x b hx hf => by
    obtain ⟨b0, tot, cnt⟩ := x
    obtain ⟨h1, h2, h3, _⟩ := hz b0 tot cnt hx
    rcases hf with rfl | hf
    · exact ⟨rfl, h1, h2⟩
    · simp only at hf; rw [h3] at hf; simp at hf
  have hBc : ∀ b, B b → (baseC w ψ).B b ∨ w.heap.size ≤ b := fun b hB => by
    by_cases hlt : b < w.heap.size
    · exact .inl ⟨hlt, fun ho => by obtain ⟨k, x, h1, h2⟩ := h.own ho; exact (hm.bd k x b h1 h2).1 hB⟩
    · exact .inr (by omega)
  have hlive : ∀ {k : Nat} {o' x b}, m1[k]? = some o' → live o' = true → φ[k]? = some (some x) → foot x b → (baseC w ψ).B b := fun {k o' x b} h1 h2 h3 h4 => ⟨(hm.bd k x b h3 h4).2, h.other hm h1 h2 h3 h4⟩
  have hkeep : Keeps (Nof N φ) w (Nof N (φ ++ [z])) w' := fun p v hp hv => by
    have hB : (baseC w ψ).B p.block := ⟨peek_heap hv, fun ho => hp.2 (h.own ho)⟩
    refine ⟨⟨hp.1, fun ho => ?_⟩, by rw [peek_same (hb.block _ hB (peek_heap hv))]; exact hv⟩
    rcases own_snoc ho with ho | ⟨x, hx, hf⟩
    · exact hp.2 ho
    · exact (hnew x _ hx hf).2.1 hB
  have hlen : (m1).length = φ.length := by rw [h.mlen, hm.len]
  refine ⟨⟨⟨hb.os, hb.tape, hb.output, hb.size, fun k hk hlt => ?_⟩, Ext.snoc _ _, hkeep⟩, ⟨by simp [hlen], fun k b tot cnt o' hk ho' lo => ?_, fun k x b hk hf => ?_, fun i j o' p x y b hi hj lo lp hx hy hf hg => ?_, hm.gl.mono hkeep⟩⟩
  · rcases hBc k hk with h1 | h1
    · exact hb.block k h1 hlt
    · omega
  · rcases snoc_split hk with ⟨hkl, hk'⟩ | ⟨rfl, hk'⟩
    · rw [List.getElem?_append_left (by omega)] at ho'
      obtain ⟨cs, e, h1, h2, h3, h4⟩ := hm.objs k b tot cnt o' hk' (h.sub k o' ho' lo) lo
      have hB := fun {c} hc => hlive ho' lo hk' (b := c) hc
      refine ⟨cs, e, h1.mono (hb.block b (hB (foot_self ..)) (hB (foot_self ..)).1), h2, h3.mono hkeep (Ext.snoc _ _) fun _ c hc => hb.block c (hB (.inr hc)) (hB (.inr hc)).1, h4⟩
    · rw [List.getElem?_append_right (by omega)] at ho'
      simp [hlen] at ho'
      subst ho'
      obtain ⟨_, _, h3, cs, e, h4, h5, h6, h7⟩ := hz b tot cnt hk'
      exact ⟨cs, e, HB.of hnm h4, h5, by rw [h3]; exact h7 _ _, h6⟩
  · rcases snoc_split hk with ⟨hkl, hk'⟩ | ⟨rfl, hk'⟩
    · have := hm.bd k x b hk' hf
      exact ⟨this.1, Nat.lt_of_lt_of_le this.2 hb.size⟩
    · obtain ⟨_, h1, h2⟩ := hnew x b hk' hf
      refine ⟨fun hB => ?_, h2⟩
      rcases hBc b hB with h3 | h3
      · exact h1 h3
      · exact absurd (hB' b hB) (by omega)
  · rcases snoc_split hx with ⟨hil, hx'⟩ | ⟨rfl, hx'⟩ <;> rcases snoc_split hy with ⟨hjl, hy'⟩ | ⟨rfl, hy'⟩
    · rw [List.getElem?_append_left (by omega)] at hi hj
      exact hm.apart i j o' p x y b (h.sub i o' hi lo) (h.sub j p hj lp) lo lp hx' hy' hf hg
    · rw [List.getElem?_append_left (by omega)] at hi
      exact ((hnew y b hy' hg).2.1 (hlive hi lo hx' hf)).elim
    · rw [List.getElem?_append_left (by omega)] at hj
      exact ((hnew x b hx' hf).2.1 (hlive hj lp hy' hg)).elim
    · rfl
end
end Go.AM
