/-
  Calls that are handed a pointer to an own tree: the laws.
-/
import Derived.Test.YthjhlpbiljpccaaAmOwnX
namespace Go.AM
open Go.RowKit

section
variable {N B : Nat → Prop} {w : World} {φ : Phi} {m m1 mm : Mem} {ψ : Phi}

/-- A place without memory, and its object, may be left out. -/
theorem mrel_drop {w' : World} {φ' : Phi} {o : MObj} (ht : Tr N B φ w (φ' ++ [none]) w') (hm : MRel N B w' (φ' ++ [none]) (m ++ [o])) (hlen : φ'.length = m.length) : (φ.length ≤ φ'.length) → Tr N B φ w φ' w' ∧ MRel N B w' φ' m := fun hle => by
  have hown : ∀ b, own φ' b → own (φ' ++ [none]) b := fun b ⟨k, x, h, hf⟩ => ⟨k, x, by rw [List.getElem?_append_left (List.getElem?_eq_some_iff.1 h).1]; exact h, hf⟩
  have hown2 : ∀ b, own (φ' ++ [none]) b → own φ' b := fun b h => by
    rcases own_snoc h with h | ⟨t, ht, _⟩
    · exact h
    · cases ht
  have hK : Keeps (Nof N (φ' ++ [none])) w' (Nof N φ') w' := fun p v hp hv => ⟨⟨hp.1, fun h => hp.2 (hown _ h)⟩, hv⟩
  have up : ∀ {k : Nat} {x}, φ'[k]? = some x → (φ' ++ [none])[k]? = some x := fun {k x} h => by rw [List.getElem?_append_left (List.getElem?_eq_some_iff.1 h).1]; exact h
  have upm : ∀ {k : Nat} {x}, m[k]? = some x → (m ++ [o])[k]? = some x := fun {k x} h => by rw [List.getElem?_append_left (List.getElem?_eq_some_iff.1 h).1]; exact h
  have dn : ∀ {k : Nat} {x}, (φ' ++ [none])[k]? = some (some x) → φ'[k]? = some (some x) := fun {k x} h => by
    rcases snoc_split h with ⟨_, h⟩ | ⟨_, h⟩
    · exact h
    · cases h
  have hE : ExtR (φ' ++ [none]) φ' := ExtR.of fun k x h => dn h
  refine ⟨⟨ht.below, ⟨fun k b tot cnt h => ?_, fun k h => ?_⟩, ht.keeps.trans hK⟩, ⟨hlen, fun k b tot cnt o' h ho lo => ?_, fun k x b h hf => hm.bd k x b (up h) hf, fun i j p q x y b hi hj lp lq h g hf hg => hm.apart i j p q x y b (upm hi) (upm hj) lp lq (up h) (up g) hf hg, hm.gl.mono hK⟩⟩
  · obtain ⟨ex, h1⟩ := ht.ext.1 k b tot cnt h
    exact ⟨ex, dn h1⟩
  · have h1 := ht.ext.2 k h
    have hk : k < φ'.length := Nat.lt_of_lt_of_le (List.getElem?_eq_some_iff.1 h).1 hle
    rwa [List.getElem?_append_left hk] at h1
  · obtain ⟨cs, e, h1, h2, h3, h4⟩ := hm.objs k b tot cnt o' (up h) (upm ho) lo
    exact ⟨cs, e, h1, h2, h3.monoR hK hE (fun _ _ _ => rfl), h4⟩

/-- The tree put back behind the call, one object more. -/
theorem took_put (hm : MRel N B w φ m) (hB' : ∀ b, B b → b < w.heap.size) (h : Took N w φ m m1 mm ψ) {w' : World} (hb : Bel (baseC w ψ).B w w')
    {k b tot : Nat} {cnt : Cnt} {more : List Nat} {oA : MObj} {z : Option (Nat × Nat × Cnt)} (hφ : φ[k]? = some (some (b, tot, cnt)))
    (hyB : ∀ c, foot (b, tot, (⟨cnt.n, cnt.ex ++ more⟩ : Cnt)) c → ¬ (baseC w ψ).B c ∧ c < w'.heap.size)
    (hyC : ∃ cs e, w'.heap[b]? = some (.cells cs e (0, 0)) ∧ cs.size = tot ∧ cnt.n ≤ cntO oA ∧ ∀ M : Nat → Prop, OCont M w' (φ.set k (some (b, tot, ⟨cnt.n, cnt.ex ++ more⟩)) ++ [z]) b (cnt.ex ++ more) oA cs)
    {o : MObj}
    (hz : ∀ b2 tot2 cnt2, z = some (b2, tot2, cnt2) → ¬ (baseC w ψ).B b2 ∧ b2 < w'.heap.size ∧ cnt2.ex = [] ∧ ¬ foot (b, tot, (⟨cnt.n, cnt.ex ++ more⟩ : Cnt)) b2 ∧ ∃ cs e, w'.heap[b2]? = some (.cells cs e (0, 0)) ∧ cs.size = tot2 ∧ cnt2.n ≤ cntO o ∧ ∀ (M : Nat → Prop) (ψ' : Phi), OCont M w' ψ' b2 [] o cs) (hnmA : isMap oA = false := by rfl) (hnm : isMap o = false := by rfl) :
    Tr N B φ w (φ.set k (some (b, tot, ⟨cnt.n, cnt.ex ++ more⟩)) ++ [z]) w' ∧ MRel N B w' (φ.set k (some (b, tot, ⟨cnt.n, cnt.ex ++ more⟩)) ++ [z]) (m1.set k oA ++ [o]) := by
  have hkφ : k < φ.length := (List.getElem?_eq_some_iff.1 hφ).1
  have hnew : ∀ x c, z = some x → foot x c → c = x.1 ∧ ¬ (baseC w ψ).B c ∧ c < w'.heap.size ∧ ¬ foot (b, tot, (⟨cnt.n, cnt.ex ++ more⟩ : Cnt)) c := fun x c hx hf => by
    obtain ⟨b0, tot0, cnt0⟩ := x
    obtain ⟨h1, h2, h3, h4, _⟩ := hz b0 tot0 cnt0 hx
    rcases hf with rfl | hf
    · exact ⟨rfl, h1, h2, h4⟩
    · simp only at hf; rw [h3] at hf; simp at hf
  have hBc : ∀ c, B c → (baseC w ψ).B c ∨ w.heap.size ≤ c := fun c hB => by
    by_cases hlt : c < w.heap.size
    · exact .inl ⟨hlt, fun ho => by obtain ⟨k, x, h1, h2⟩ := h.own ho; exact (hm.bd k x c h1 h2).1 hB⟩
    · exact .inr (by omega)
  have hlive : ∀ {i : Nat} {o' x c}, m1[i]? = some o' → live o' = true → φ[i]? = some (some x) → foot x c → (baseC w ψ).B c := fun {i o' x c} h1 h2 h3 h4 => ⟨(hm.bd i x c h3 h4).2, h.other hm h1 h2 h3 h4⟩
  have hlen : m1.length = φ.length := by rw [h.mlen, hm.len]
  -- the places
  have sp : ∀ {i : Nat} {x}, (φ.set k (some (b, tot, (⟨cnt.n, cnt.ex ++ more⟩ : Cnt))) ++ [z])[i]? = some (some x) → (i ≠ k ∧ i < φ.length ∧ φ[i]? = some (some x)) ∨ (i = k ∧ x = (b, tot, (⟨cnt.n, cnt.ex ++ more⟩ : Cnt))) ∨ (i = φ.length ∧ z = some x) := fun {i x} hx => by
    rcases snoc_split hx with ⟨h1, h2⟩ | ⟨h1, h2⟩
    · rcases set_split h2 with ⟨h3, h4⟩ | ⟨h3, h4⟩
      · exact .inl ⟨h3, by simpa using h1, h4⟩
      · exact .inr (.inl ⟨h3, h4.symm⟩)
    · exact .inr (.inr ⟨by simpa using h1, h2⟩)
  have spm : ∀ {i : Nat} {p}, (m1.set k oA ++ [o])[i]? = some p → i < φ.length → i ≠ k → m1[i]? = some p := fun {i p} hx hi hne => by
    rw [List.getElem?_append_left (by simp; omega), List.getElem?_set_ne (Ne.symm hne)] at hx
    exact hx
  have spk : ∀ {p}, (m1.set k oA ++ [o])[k]? = some p → p = oA := fun {p} hx => by
    rw [List.getElem?_append_left (by simp; omega), List.getElem?_set_self (by omega)] at hx
    exact (Option.some.inj hx).symm
  have spl : ∀ {p}, (m1.set k oA ++ [o])[φ.length]? = some p → p = o := fun {p} hx => by
    rw [List.getElem?_append_right (by simp; omega)] at hx
    simp [hlen] at hx
    exact hx.symm
  have hext : Ext φ (φ.set k (some (b, tot, ⟨cnt.n, cnt.ex ++ more⟩)) ++ [z]) := by
    refine ⟨fun i b' tot' cnt' hi => ?_, fun i hi => ?_⟩
    · have hil := (List.getElem?_eq_some_iff.1 hi).1
      by_cases hik : i = k
      · subst hik
        rw [hφ] at hi; cases hi
        exact ⟨more, by rw [List.getElem?_append_left (by simpa using hil), List.getElem?_set_self hil]⟩
      · exact ⟨[], by rw [List.getElem?_append_left (by simpa using hil), List.getElem?_set_ne (Ne.symm hik), List.append_nil]; exact hi⟩
    · have hil := (List.getElem?_eq_some_iff.1 hi).1
      have hik : i ≠ k := fun e => by subst e; rw [hφ] at hi; cases hi
      rw [List.getElem?_append_left (by simpa using hil), List.getElem?_set_ne (Ne.symm hik)]; exact hi
  have hkeep : Keeps (Nof N φ) w (Nof N (φ.set k (some (b, tot, ⟨cnt.n, cnt.ex ++ more⟩)) ++ [z])) w' := fun p v hp hv => by
    have hB : (baseC w ψ).B p.block := ⟨peek_heap hv, fun ho => hp.2 (h.own ho)⟩
    refine ⟨⟨hp.1, fun ⟨i, x, hi, hf⟩ => ?_⟩, by rw [peek_same (hb.block _ hB (peek_heap hv))]; exact hv⟩
    rcases sp hi with ⟨_, _, h1⟩ | ⟨_, rfl⟩ | ⟨_, h1⟩
    · exact hp.2 ⟨i, x, h1, hf⟩
    · exact (hyB _ hf).1 hB
    · exact (hnew x _ h1 hf).2.1 hB
  refine ⟨⟨⟨hb.os, hb.tape, hb.output, hb.size, fun c hc hlt => ?_⟩, hext, hkeep⟩, ⟨by simp [hlen], fun i b' tot' cnt' o' hi ho' lo => ?_, fun i x c hi hf => ?_, fun i j o' p x y c hi hj lo lp hx hy hf hg => ?_, hm.gl.mono hkeep⟩⟩
  · rcases hBc c hc with h1 | h1
    · exact hb.block c h1 hlt
    · omega
  · rcases sp hi with ⟨h1, h2, h3⟩ | ⟨rfl, h1⟩ | ⟨rfl, h1⟩
    · have ho2 := spm ho' h2 h1
      obtain ⟨cs, e, e1, e2, e3, e4⟩ := hm.objs i b' tot' cnt' o' h3 (h.sub i o' ho2 lo) lo
      have hB := fun {c} hc => hlive ho2 lo h3 (c := c) hc
      refine ⟨cs, e, e1.mono (hb.block b' (hB (foot_self ..)) (hB (foot_self ..)).1), e2, e3.mono hkeep hext fun _ c hc => hb.block c (hB (.inr hc)) (hB (.inr hc)).1, e4⟩
    · cases h1
      obtain rfl := spk ho'
      obtain ⟨cs, e, e1, e2, e3, e4⟩ := hyC
      exact ⟨cs, e, HB.of hnmA e1, e2, e4 _, e3⟩
    · obtain rfl := spl ho'
      obtain ⟨_, _, h3, _, cs, e, h4, h5, h6, h7⟩ := hz b' tot' cnt' h1
      exact ⟨cs, e, HB.of hnm h4, h5, by rw [h3]; exact h7 _ _, h6⟩
  · rcases sp hi with ⟨h1, h2, h3⟩ | ⟨rfl, rfl⟩ | ⟨rfl, h1⟩
    · have := hm.bd i x c h3 hf
      exact ⟨this.1, Nat.lt_of_lt_of_le this.2 hb.size⟩
    · obtain ⟨h1, h2⟩ := hyB c hf
      refine ⟨fun hB => ?_, h2⟩
      rcases hBc c hB with h3 | h3
      · exact h1 h3
      · exact absurd (hB' c hB) (by omega)
    · obtain ⟨_, h2, h3, _⟩ := hnew x c h1 hf
      refine ⟨fun hB => ?_, h3⟩
      rcases hBc c hB with h3 | h3
      · exact h2 h3
      · exact absurd (hB' c hB) (by omega)
  · rcases sp hx with ⟨i1, i2, i3⟩ | ⟨rfl, rfl⟩ | ⟨rfl, i1⟩ <;> rcases sp hy with ⟨j1, j2, j3⟩ | ⟨rfl, rfl⟩ | ⟨rfl, j1⟩
    · have g1 := spm hi i2 i1
      have g2 := spm hj j2 j1
      exact hm.apart i j o' p x y c (h.sub i o' g1 lo) (h.sub j p g2 lp) lo lp i3 j3 hf hg
    · exact ((hyB c hg).1 (hlive (spm hi i2 i1) lo i3 hf)).elim
    · exact ((hnew y c j1 hg).2.1 (hlive (spm hi i2 i1) lo i3 hf)).elim
    · exact ((hyB c hf).1 (hlive (spm hj j2 j1) lp j3 hg)).elim
    · rfl
    · exact ((hnew y c j1 hg).2.2.2 hf).elim
    · exact ((hnew x c i1 hf).2.1 (hlive (spm hj j2 j1) lp j3 hg)).elim
    · exact ((hnew x c i1 hf).2.2.2 hg).elim
    · rfl

/-- A new object behind the call, of several blocks. -/
theorem took_new (hm : MRel N B w φ m) (hB' : ∀ b, B b → b < w.heap.size) (h : Took N w φ m m1 mm ψ) {w' : World} (hb : Bel (baseC w ψ).B w w') {b tot : Nat} {cnt : Cnt} {o : MObj}
    (hzB : ∀ c, foot (b, tot, cnt) c → ¬ (baseC w ψ).B c ∧ c < w'.heap.size)
    (hzC : ∃ cs e, w'.heap[b]? = some (.cells cs e (0, 0)) ∧ cs.size = tot ∧ cnt.n ≤ cntO o ∧ ∀ (M : Nat → Prop) (ψ' : Phi), OCont M w' ψ' b cnt.ex o cs) (hnm : isMap o = false := by rfl) :
    Tr N B φ w (φ ++ [some (b, tot, cnt)]) w' ∧ MRel N B w' (φ ++ [some (b, tot, cnt)]) (m1 ++ [o]) := by
  have hBc : ∀ b, B b → (baseC w ψ).B b ∨ w.heap.size ≤ b := fun b hB => by
    by_cases hlt : b < w.heap.size
    · exact .inl ⟨hlt, fun ho => by obtain ⟨k, x, h1, h2⟩ := h.own ho; exact (hm.bd k x b h1 h2).1 hB⟩
    · exact .inr (by omega)
  have hlive : ∀ {k : Nat} {o' x b}, m1[k]? = some o' → live o' = true → φ[k]? = some (some x) → foot x b → (baseC w ψ).B b := fun {k o' x b} h1 h2 h3 h4 => ⟨(hm.bd k x b h3 h4).2, h.other hm h1 h2 h3 h4⟩
  have hkeep : Keeps (Nof N φ) w (Nof N (φ ++ [some (b, tot, cnt)])) w' := fun p v hp hv => by
    have hB : (baseC w ψ).B p.block := ⟨peek_heap hv, fun ho => hp.2 (h.own ho)⟩
    refine ⟨⟨hp.1, fun ho => ?_⟩, by rw [peek_same (hb.block _ hB (peek_heap hv))]; exact hv⟩
    rcases own_snoc ho with ho | ⟨x, hx, hf⟩
    · exact hp.2 ho
    · cases hx; exact (hzB _ hf).1 hB
  have hlen : (m1).length = φ.length := by rw [h.mlen, hm.len]
  refine ⟨⟨⟨hb.os, hb.tape, hb.output, hb.size, fun k hk hlt => ?_⟩, Ext.snoc _ _, hkeep⟩, ⟨by simp [hlen], fun k b' tot' cnt' o' hk ho' lo => ?_, fun k x c hk hf => ?_, fun i j o' p x y c hi hj lo lp hx hy hf hg => ?_, hm.gl.mono hkeep⟩⟩
  · rcases hBc k hk with h1 | h1
    · exact hb.block k h1 hlt
    · omega
  · rcases snoc_split hk with ⟨hkl, hk'⟩ | ⟨rfl, hk'⟩
    · rw [List.getElem?_append_left (by omega)] at ho'
      obtain ⟨cs, e, h1, h2, h3, h4⟩ := hm.objs k b' tot' cnt' o' hk' (h.sub k o' ho' lo) lo
      have hB := fun {c} hc => hlive ho' lo hk' (b := c) hc
      refine ⟨cs, e, h1.mono (hb.block b' (hB (foot_self ..)) (hB (foot_self ..)).1), h2, h3.mono hkeep (Ext.snoc _ _) fun _ c hc => hb.block c (hB (.inr hc)) (hB (.inr hc)).1, h4⟩
    · rw [List.getElem?_append_right (by omega)] at ho'
      simp [hlen] at ho'
      subst ho'
      cases hk'
      obtain ⟨cs, e, h4, h5, h6, h7⟩ := hzC
      exact ⟨cs, e, HB.of hnm h4, h5, h7 _ _, h6⟩
  · rcases snoc_split hk with ⟨hkl, hk'⟩ | ⟨rfl, hk'⟩
    · have := hm.bd k x c hk' hf
      exact ⟨this.1, Nat.lt_of_lt_of_le this.2 hb.size⟩
    · cases hk'
      obtain ⟨h1, h2⟩ := hzB c hf
      refine ⟨fun hB => ?_, h2⟩
      rcases hBc c hB with h3 | h3
      · exact h1 h3
      · exact absurd (hB' c hB) (by omega)
  · rcases snoc_split hx with ⟨hil, hx'⟩ | ⟨rfl, hx'⟩ <;> rcases snoc_split hy with ⟨hjl, hy'⟩ | ⟨rfl, hy'⟩
    · rw [List.getElem?_append_left (by omega)] at hi hj
      exact hm.apart i j o' p x y c (h.sub i o' hi lo) (h.sub j p hj lp) lo lp hx' hy' hf hg
    · rw [List.getElem?_append_left (by omega)] at hi
      cases hy'
      exact ((hzB c hg).1 (hlive hi lo hx' hf)).elim
    · rw [List.getElem?_append_left (by omega)] at hj
      cases hx'
      exact ((hzB c hf).1 (hlive hj lp hy' hg)).elim
    · rfl
end
end Go.AM
