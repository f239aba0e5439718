/-
  At a loop's head: only what lives is kept.
-/
import Derived.Test.YthjhlpbiljpccaaAmCode
namespace Go.AM
open Go.RowKit

/-! ### Renaming -/
section
variable {ks : List Nat}
theorem posOf_at : ∀ {l : List Nat} {k i j : Nat}, posOf l k i = some j → ∃ d, j = i + d ∧ l[d]? = some k
  | [], _, _, _, h => by simp [posOf] at h
  | x :: r, k, i, j, h => by
    simp only [posOf] at h
    rcases Bool.eq_false_or_eq_true (x == k) with hx | hx
    · rw [hx] at h
      simp only [cond_true, Option.some.injEq] at h
      exact ⟨0, by omega, by simpa using hx⟩
    · rw [hx] at h
      obtain ⟨d, h1, h2⟩ := posOf_at (l := r) h
      exact ⟨d + 1, by omega, by simpa using h2⟩

theorem renVs_get : ∀ {cs ds : List AV}, renVs ks cs = some ds → ds.length = cs.length ∧ ∀ (j : Nat) d, ds[j]? = some d → ∃ c, cs[j]? = some c ∧ renV ks c = some d
  | [], ds, h => by
    simp only [renVs, Option.some.injEq] at h
    subst h
    exact ⟨rfl, fun j d hj => by simp at hj⟩
  | c :: r, ds, h => by
    simp only [renVs] at h
    obtain ⟨x, hx, h1⟩ := obind h
    obtain ⟨xs, hxs, rfl⟩ := omap h1
    obtain ⟨h2, h3⟩ := renVs_get hxs
    refine ⟨by simp [h2], fun j d hj => ?_⟩
    cases j with
    | zero => simp at hj; subst hj; exact ⟨c, rfl, hx⟩
    | succ j => exact h3 j d (by simpa using hj)
theorem renE_get : ∀ {cs ds : List (List AV)}, renE ks cs = some ds → ds.length = cs.length ∧ ∀ (j : Nat) d, ds[j]? = some d → ∃ c, cs[j]? = some c ∧ renVs ks c = some d
  | [], ds, h => by
    simp only [renE, Option.some.injEq] at h
    subst h
    exact ⟨rfl, fun j d hj => by simp at hj⟩
  | c :: r, ds, h => by
    simp only [renE] at h
    obtain ⟨x, hx, h1⟩ := obind h
    obtain ⟨xs, hxs, rfl⟩ := omap h1
    obtain ⟨h2, h3⟩ := renE_get hxs
    refine ⟨by simp [h2], fun j d hj => ?_⟩
    cases j with
    | zero => simp at hj; subst hj; exact ⟨c, rfl, hx⟩
    | succ j => exact h3 j d (by simpa using hj)
theorem renM_get {m : Mem} : ∀ {l : List Nat} {m' : Mem}, renM ks m l = some m' → m'.length = l.length ∧ ∀ (j : Nat) o', m'[j]? = some o' → ∃ k o, l[j]? = some k ∧ m[k]? = some o ∧ renO ks o = some o'
  | [], m', h => by
    simp only [renM, Option.some.injEq] at h
    subst h
    exact ⟨rfl, fun j d hj => by simp at hj⟩
  | k :: r, m', h => by
    simp only [renM] at h
    obtain ⟨o', ho, h1⟩ := obind h
    obtain ⟨o, hk, ho⟩ := obind ho
    obtain ⟨xs, hxs, rfl⟩ := omap h1
    obtain ⟨h2, h3⟩ := renM_get hxs
    refine ⟨by simp [h2], fun j d hj => ?_⟩
    cases j with
    | zero => simp at hj; subst hj; exact ⟨k, o, rfl, hk, ho⟩
    | succ j => exact h3 j d (by simpa using hj)
theorem renS_get : ∀ {s s' : Slots}, renS ks s = some s' → ∀ t, (get s' t).1 = (get s t).1 ∧ renV ks (get s t).2 = some (get s' t).2
  | [], s', h, t => by
    simp only [renS, Option.some.injEq] at h
    subst h
    exact ⟨rfl, by simp [get, renV]⟩
  | (u, G, v) :: r, s', h, t => by
    simp only [renS] at h
    obtain ⟨x, hx, h1⟩ := obind h
    obtain ⟨xs, hxs, rfl⟩ := omap h1
    have ih := renS_get hxs t
    simp only [get]
    rcases Bool.eq_false_or_eq_true (u == t) with hu | hu
    · simp only [hu, cond_true]; exact ⟨trivial, hx⟩
    · simp only [hu, cond_false]; exact ih

theorem isIn_mem {k : Nat} : ∀ {l : List Nat}, isIn k l = true ↔ k ∈ l
  | [] => by simp [isIn]
  | j :: r => by simp [isIn, isIn_mem (l := r)]
theorem reach_nodup {m : Mem} : ∀ (n : Nat) (l acc : List Nat), acc.Nodup → (reach m n l acc).Nodup
  | 0, _, acc, h => by simpa [reach] using h
  | n + 1, [], acc, h => by simpa [reach] using h
  | n + 1, k :: r, acc, h => by
    simp only [reach]
    rcases Bool.eq_false_or_eq_true (isIn k acc) with hk | hk
    · rw [hk]; exact reach_nodup n r acc h
    · rw [hk]
      refine reach_nodup n _ _ ?_
      have : k ∉ acc := fun hm => by rw [isIn_mem.2 hm] at hk; cases hk
      rw [List.nodup_append]
      refine ⟨h, by simp, fun a ha b hb => ?_⟩
      simp at hb
      rintro rfl
      exact this (hb ▸ ha)

/-- The places behind the renaming. -/
def renPhi (ks : List Nat) (φ : Phi) : Phi := ks.map fun k => (φ[k]?).bind id
theorem renPhi_at {φ : Phi} {j : Nat} {y : Nat × Nat × Cnt} : (renPhi ks φ)[j]? = some (some y) ↔ ∃ k, ks[j]? = some k ∧ φ[k]? = some (some y) := by
  unfold renPhi
  rw [List.getElem?_map]
  cases hk : ks[j]? with
  | none => simp
  | some k =>
    simp only [Option.map_some, Option.some.injEq]
    cases hφ : φ[k]? with
    | none => simp [hφ]
    | some x => simp [hφ]
theorem renPhi_own {φ : Phi} {b : Nat} (h : own (renPhi ks φ) b) : own φ b := by
  obtain ⟨j, x, h, hf⟩ := h
  obtain ⟨k, _, h2⟩ := renPhi_at.1 h
  exact ⟨k, x, h2, hf⟩
theorem renPhi_keeps {N : Nat → Prop} {w : World} {φ : Phi} : Keeps (Nof N φ) w (Nof N (renPhi ks φ)) w :=
  fun _ _ h g => ⟨⟨h.1, fun ho => h.2 (renPhi_own ho)⟩, g⟩

theorem renV_ok {N : Nat → Prop} {w : World} {φ : Phi} {x : AV} {v : Value} (h : VRel (Nof N φ) w φ x v) : ∀ {x' : AV}, renV ks x = some x' → VRel (Nof N (renPhi ks φ)) w (renPhi ks φ) x' v := by
  have pos : ∀ {k j : Nat} {y}, posOf ks k 0 = some j → φ[k]? = some (some y) → (renPhi ks φ)[j]? = some (some y) := fun {k j y} h1 h2 => by
    obtain ⟨d, h3, h4⟩ := posOf_at h1
    rw [Nat.zero_add] at h3
    subst h3
    exact renPhi_at.2 ⟨k, h4, h2⟩
  induction h with
  | junk => intro x' h; simp only [renV, Option.some.injEq] at h; subst h; exact .junk
  | f h => intro x' h'; simp only [renV, Option.some.injEq] at h'; subst h'; exact .f (h.mono renPhi_keeps)
  | agg hn ho _ ih =>
    intro x' h'
    simp only [renV] at h'
    obtain ⟨ds, hds, rfl⟩ := omap h'
    obtain ⟨h1, h2⟩ := renVs_get hds
    exact .agg (by rw [hn, h1]) (fun j d v hj hv => let ⟨c, hc, _⟩ := h2 j d hj; ho j c v hc hv) fun j d v hj hv => let ⟨c, hc, hr⟩ := h2 j d hj; ih j c v hc hv hr
  | ptr h =>
    intro x' h'
    simp only [renV] at h'
    obtain ⟨j, hj, rfl⟩ := omap h'
    exact .ptr (pos hj h)
  | eptr h hi =>
    intro x' h'
    simp only [renV] at h'
    obtain ⟨j, hj, rfl⟩ := omap h'
    exact .eptr (pos hj h) hi
  | sl hlen hm h =>
    intro x' h'
    simp only [renV] at h'
    obtain ⟨j, hj, rfl⟩ := omap h'
    exact .sl hlen hm fun h0 => let ⟨b, tot, cnt, hb, hr⟩ := h h0; ⟨b, tot, cnt, pos hj hb, hr⟩
  | fn hn _ ih =>
    intro x' h'
    simp only [renV] at h'
    obtain ⟨ds, hds, rfl⟩ := omap h'
    obtain ⟨h1, h2⟩ := renVs_get hds
    exact .fn (by rw [hn, h1]) fun j d v hj hv => let ⟨c, hc, hr⟩ := h2 j d hj; ih j c v hc hv hr
  | tup hn _ ih => intro x' h'; simp [renV] at h'
  | nd h hi =>
    intro x' h'
    simp only [renV] at h'
    obtain ⟨j, hj, rfl⟩ := omap h'
    exact .nd (pos hj h) hi
  | ndo h h0 =>
    intro x' h'
    simp only [renV] at h'
    obtain ⟨j, hj, rfl⟩ := omap h'
    exact .ndo (fun hs => let ⟨b, tot, cnt, hb, hp⟩ := h hs; ⟨b, tot, cnt, pos hj hb, hp⟩) h0
  | ndx h hi h0 h1 =>
    intro x' h'
    simp only [renV] at h'
    obtain ⟨j, hj, rfl⟩ := omap h'
    exact .ndx (pos hj h) hi h0 h1
  | bx h h0 h1 =>
    intro x' h'
    simp only [renV] at h'
    obtain ⟨j, hj, rfl⟩ := omap h'
    exact .bx (pos hj h) h0 h1
  | slx _ hx ih =>
    intro x' h'
    simp only [renV] at h'
    obtain ⟨j, hj, rfl⟩ := omap h'
    exact .slx (ih (by simp [renV, hj])) fun h0 => let ⟨b, cnt, hb⟩ := hx h0; ⟨b, cnt, pos hj hb⟩
  | mp h =>
    intro x' h'
    simp only [renV] at h'
    obtain ⟨j, hj, rfl⟩ := omap h'
    exact .mp (pos hj h)
  | unkB h1 h2 => intro x' h'; simp only [renV, Option.some.injEq] at h'; subst h'; exact .unkB h1 h2

theorem renO_ok {N : Nat → Prop} {w : World} {φ : Phi} {b : Nat} {ex : List Nat} {o o' : MObj} {cells : Array Value} (h : OCont (Nof N φ) w φ b ex o cells) (hr : renO ks o = some o') : OCont (Nof N (renPhi ks φ)) w (renPhi ks φ) b ex o' cells := by
  cases o with
  | arena p l n => simp only [renO, Option.some.injEq] at hr; subst hr; exact h
  | nrow k l =>
    simp only [renO] at hr
    obtain ⟨j, hj, rfl⟩ := omap hr
    refine ⟨h.1, fun i o hi => ?_⟩
    obtain ⟨v, h1, h2, h3⟩ := h.2 i o hi
    exact ⟨v, h1, h2, renV_ok h3 (by simp [renV, hj])⟩
  | dead => simp only [renO, Option.some.injEq] at hr; subst hr; trivial
  | mset l => simp only [renO, Option.some.injEq] at hr; subst hr; trivial
  | row T l =>
    simp only [renO, Option.some.injEq] at hr; subst hr
    exact ⟨h.1, h.2.1, fun i x hi => SRel.mono renPhi_keeps T x _ _ (fun _ _ _ h => h) (h.2.2 i x hi)⟩
  | box pn cs =>
    simp only [renO] at hr
    obtain ⟨ds, hds, rfl⟩ := omap hr
    obtain ⟨h1, h2⟩ := renVs_get hds
    refine ⟨h.1, by rw [h1]; exact h.2.1, fun j d hj => ?_⟩
    obtain ⟨c, hc, hcr⟩ := h2 j d hj
    obtain ⟨v, a, b, hv⟩ := h.2.2 j c hc
    exact ⟨v, a, b, renV_ok hv hcr⟩
  | arow T es =>
    simp only [renO] at hr
    obtain ⟨ds, hds, rfl⟩ := omap hr
    obtain ⟨h1, h2⟩ := renE_get hds
    refine ⟨by rw [h1]; exact h.1, by rw [h1]; exact h.2.1, fun i d hi => ?_⟩
    obtain ⟨c, hc, hcr⟩ := h2 i d hi
    obtain ⟨hl, hx⟩ := h.2.2 i c hc
    obtain ⟨h3, h4⟩ := renVs_get hcr
    refine ⟨by rw [h3]; exact hl, fun j x hj => ?_⟩
    obtain ⟨y, hy, hyr⟩ := h4 j x hj
    obtain ⟨v, a, b, hv⟩ := hx j y hy
    exact ⟨v, a, b, renV_ok hv hyr⟩
theorem renO_live {o o' : MObj} (hr : renO ks o = some o') : live o = live o' ∧ cntO o = cntO o' := by
  cases o with
  | dead => simp only [renO, Option.some.injEq] at hr; subst hr; exact ⟨rfl, rfl⟩
  | mset l => simp only [renO, Option.some.injEq] at hr; subst hr; exact ⟨rfl, rfl⟩
  | arena p l n => simp only [renO, Option.some.injEq] at hr; subst hr; exact ⟨rfl, rfl⟩
  | nrow k l =>
    simp only [renO] at hr
    obtain ⟨j, hj, rfl⟩ := omap hr
    exact ⟨rfl, rfl⟩
  | row T l => simp only [renO, Option.some.injEq] at hr; subst hr; exact ⟨rfl, rfl⟩
  | box pn cs =>
    simp only [renO] at hr
    obtain ⟨ds, hds, rfl⟩ := omap hr
    exact ⟨rfl, rfl⟩
  | arow T es =>
    simp only [renO] at hr
    obtain ⟨ds, hds, rfl⟩ := omap hr
    exact ⟨rfl, (renE_get hds).1.symm⟩

theorem renO_HB {w : World} {b : Nat} {cs : Array Value} {e : TypeId} {o o' : MObj} (hr : renO ks o = some o') (h : HB w b cs e o) : HB w b cs e o' := by
  cases o with
  | mset l => simp only [renO] at hr; cases hr; exact h
  | dead => simp only [renO] at hr; cases hr; exact h
  | arena p l n => simp only [renO] at hr; cases hr; exact h
  | row T l => simp only [renO] at hr; cases hr; exact h
  | nrow k l => simp only [renO] at hr; obtain ⟨ds, _, rfl⟩ := omap hr; exact h
  | box p l => simp only [renO] at hr; obtain ⟨ds, _, rfl⟩ := omap hr; exact h
  | arow T l => simp only [renO] at hr; obtain ⟨ds, _, rfl⟩ := omap hr; exact h
theorem renM_ok {N : Nat → Prop} {B : Nat → Prop} {w : World} {φ : Phi} {m m' : Mem} (hm : MRel N B w φ m) (hk : ks.Nodup) (hr : renM ks m ks = some m') : MRel N B w (renPhi ks φ) m' := by
  obtain ⟨h1, h2⟩ := renM_get hr
  refine ⟨by simp [renPhi, h1], fun j b tot cnt o' h ho' lo => ?_, fun j x b h hf => ?_, fun i j o p x y b hi hj lo lp ht hu hf hg => ?_, hm.gl.mono renPhi_keeps⟩
  · obtain ⟨k, hk1, hk2⟩ := renPhi_at.1 h
    obtain ⟨k', o, g1, g2, g3⟩ := h2 j o' ho'
    rw [hk1] at g1; cases g1
    have hl := renO_live g3
    obtain ⟨cs, e, hw, hs, c1, c2⟩ := hm.objs k b tot cnt o hk2 g2 (by rw [hl.1]; exact lo)
    exact ⟨cs, e, renO_HB g3 hw, hs, renO_ok c1 g3, by rw [← hl.2]; exact c2⟩
  · obtain ⟨k, _, hk2⟩ := renPhi_at.1 h
    exact hm.bd k x b hk2 hf
  · obtain ⟨k, hk1, hk2⟩ := renPhi_at.1 ht
    obtain ⟨q, hq1, hq2⟩ := renPhi_at.1 hu
    obtain ⟨k', o1, g1, g2, g3⟩ := h2 i o hi
    obtain ⟨q', o2, f1, f2, f3⟩ := h2 j p hj
    rw [hk1] at g1; cases g1
    rw [hq1] at f1; cases f1
    have := hm.apart k q o1 o2 x y b g2 f2 (by rw [(renO_live g3).1]; exact lo) (by rw [(renO_live f3).1]; exact lp) hk2 hq2 hf hg
    subst this
    exact (List.getElem?_inj (List.getElem?_eq_some_iff.1 hk1).1 hk).1 (by rw [hk1, hq1])
end

/-- An object told anew. -/
theorem mrel_retellH {N : Nat → Prop} {B : Nat → Prop} {w : World} {φ : Phi} {m : Mem} (hm : MRel N B w φ m) {k : Nat} {o o' : MObj} (hk : m[k]? = some o) (hl : live o = true) (_hl' : live o' = true) (hn : cntO o = cntO o')
    (hc : ∀ b tot cnt cs e, φ[k]? = some (some (b, tot, cnt)) → HB w b cs e o → OCont (Nof N φ) w φ b cnt.ex o cs → OCont (Nof N φ) w φ b cnt.ex o' cs) (hnm : isMap o = false := by rfl) (hnm' : isMap o' = false := by rfl) : MRel N B w φ (m.set k o') := by
  have hklt := (List.getElem?_eq_some_iff.1 hk).1
  have back : ∀ {i : Nat} {p}, (m.set k o')[i]? = some p → live p = true → ∃ q, m[i]? = some q ∧ live q = true ∧ (i = k ∧ p = o' ∧ q = o ∨ i ≠ k ∧ p = q) := fun {i p} h l => by
    rw [List.getElem?_set] at h
    by_cases hki : k = i
    · subst hki
      rw [if_pos rfl, if_pos hklt] at h
      exact ⟨o, hk, hl, .inl ⟨rfl, (Option.some.inj h).symm, rfl⟩⟩
    · rw [if_neg hki] at h
      exact ⟨p, h, l, .inr ⟨fun e => hki e.symm, rfl⟩⟩
  refine ⟨by simp [hm.len], fun i b tot cnt p h hp lp => ?_, hm.bd, fun i j p q x y b hi hj lp lq h g hf hg => ?_, hm.gl⟩
  · obtain ⟨q, hq, lq, hpq⟩ := back hp lp
    obtain ⟨cs, e, h1, h2, h3, h4⟩ := hm.objs i b tot cnt q h hq lq
    rcases hpq with ⟨rfl, rfl, rfl⟩ | ⟨_, rfl⟩
    · exact ⟨cs, e, HB.of hnm' (h1.at_ hnm), h2, hc _ _ _ _ _ h h1 h3, by rw [← hn]; exact h4⟩
    · exact ⟨cs, e, h1, h2, h3, h4⟩
  · obtain ⟨p', hp', lp', _⟩ := back hi lp
    obtain ⟨q', hq', lq', _⟩ := back hj lq
    exact hm.apart i j p' q' x y b hp' hq' lp' lq' h g hf hg
theorem mrel_retell {N : Nat → Prop} {B : Nat → Prop} {w : World} {φ : Phi} {m : Mem} (hm : MRel N B w φ m) {k : Nat} {o o' : MObj} (hk : m[k]? = some o) (hl : live o = true) (_hl' : live o' = true) (hn : cntO o = cntO o')
    (hc : ∀ b ex cs, OCont (Nof N φ) w φ b ex o cs → OCont (Nof N φ) w φ b ex o' cs) (hnm : isMap o = false := by rfl) (hnm' : isMap o' = false := by rfl) : MRel N B w φ (m.set k o') :=
  mrel_retellH hm hk hl _hl' hn (fun b _ cnt cs _ _ _ h => hc b cnt.ex cs h) hnm hnm'

theorem asNds_get {k : Nat} : ∀ {cs : List AV} {l : List (Option Nat)}, asNds k cs = some l → l.length = cs.length ∧ ∀ (j : Nat) o, l[j]? = some o → ∃ c, cs[j]? = some c ∧ asNd k c = some o
  | [], l, h => by
    simp only [asNds, Option.some.injEq] at h
    subst h
    exact ⟨rfl, fun j o hj => by simp at hj⟩
  | c :: r, l, h => by
    simp only [asNds] at h
    obtain ⟨x, hx, h1⟩ := obind h
    obtain ⟨xs, hxs, rfl⟩ := omap h1
    obtain ⟨h2, h3⟩ := asNds_get hxs
    refine ⟨by simp [h2], fun j o hj => ?_⟩
    cases j with
    | zero => simp at hj; subst hj; exact ⟨c, rfl, hx⟩
    | succ j => exact h3 j o (by simpa using hj)

/-! ### Nil slices of the call's own -/
theorem ownN_ok {N : Nat → Prop} {B : Nat → Prop} {w : World} {tmps : Nat → Value} {s : Slots} : ∀ (keep : List (Nat × KP)) (m : Mem) (φ : Phi), MRel N B w φ m → (∀ t, (get s t).1 = [] ∧ VRel (Nof N φ) w φ (get s t).2 (tmps t)) →
    ∃ φ', MRel N B w φ' (ownN s keep m).2 ∧ Ext φ φ' ∧ Keeps (Nof N φ) w (Nof N φ') w ∧ ∀ t, (get (ownN s keep m).1 t).1 = [] ∧ VRel (Nof N φ') w φ' (get (ownN s keep m).1 t).2 (tmps t)
  | [], m, φ, hm, hs => ⟨φ, hm, Ext.refl _, Keeps.refl _ _, fun t => ⟨rfl, .junk⟩⟩
  | (u, .no) :: r, m, φ, hm, hs => by
    obtain ⟨φ', h1, h2, h3, h4⟩ := ownN_ok r m φ hm hs
    refine ⟨φ', by simpa only [ownN] using h1, h2, h3, fun t => ?_⟩
    simp only [ownN, get]
    rcases Bool.eq_false_or_eq_true (u == t) with hu | hu
    · simp only [hu, cond_true]
      have : u = t := by simpa using hu
      subst this
      exact ⟨(hs u).1, (hs u).2.mono h3 h2⟩
    · simp only [hu, cond_false]; exact h4 t
  | (u, .dat T) :: r, m, φ, hm, hs => by
    obtain ⟨φ', h1, h2, h3, h4⟩ := ownN_ok r m φ hm hs
    simp only [ownN]
    split
    · rename_i hg
      refine ⟨φ', h1, h2, h3, fun t => ?_⟩
      simp only [get]
      rcases Bool.eq_false_or_eq_true (u == t) with hu | hu
      · simp only [hu, cond_true]
        have : u = t := by simpa using hu
        subst this
        refine ⟨trivial, ?_⟩
        have := (hs u).2
        rw [hg] at this
        generalize tmps u = v at this
        cases this with
        | f h => cases h with
          | nils => exact .f (.fs ⟨_, 0, rfl, Nat.zero_le _, Nat.le_refl _, fun h => absurd h (Nat.lt_irrefl 0)⟩)
      · simp only [hu, cond_false]; exact h4 t
    · refine ⟨φ', h1, h2, h3, fun t => ?_⟩
      simp only [get]
      rcases Bool.eq_false_or_eq_true (u == t) with hu | hu
      · simp only [hu, cond_true]
        have : u = t := by simpa using hu
        subst this
        exact ⟨(hs u).1, (hs u).2.mono h3 h2⟩
      · simp only [hu, cond_false]; exact h4 t
  | (u, .nod j) :: r, m, φ, hm, hs => by
    have stay : ∀ {m0 : Mem}, MRel N B w φ m0 → ∃ φ', MRel N B w φ' (ownN s r m0).2 ∧ Ext φ φ' ∧ Keeps (Nof N φ) w (Nof N φ') w ∧ ∀ t, (get ((u, get s u) :: (ownN s r m0).1) t).1 = [] ∧ VRel (Nof N φ') w φ' (get ((u, get s u) :: (ownN s r m0).1) t).2 (tmps t) := fun {m0} hm0 => by
      obtain ⟨φ', h1, h2, h3, h4⟩ := ownN_ok r m0 φ hm0 hs
      refine ⟨φ', h1, h2, h3, fun t => ?_⟩
      simp only [get]
      rcases Bool.eq_false_or_eq_true (u == t) with hu | hu
      · simp only [hu, cond_true]
        have : u = t := by simpa using hu
        subst this
        exact ⟨(hs u).1, (hs u).2.mono h3 h2⟩
      · simp only [hu, cond_false]; exact h4 t
    simp only [ownN]
    split
    · rename_i k hg
      split
      · rename_i oo hoo
        obtain ⟨φ', h1, h2, h3, h4⟩ := ownN_ok r m φ hm hs
        refine ⟨φ', h1, h2, h3, fun t => ?_⟩
        simp only [get]
        rcases Bool.eq_false_or_eq_true (u == t) with hu | hu
        · simp only [hu, cond_true]
          have : u = t := by simpa using hu
          subst this
          exact ⟨(hs u).1, (asNd_ndo (hs u).2 hoo).mono h3 h2⟩
        · simp only [hu, cond_false]; exact h4 t
      · exact stay hm
    · exact stay hm
  | (u, .nods j) :: r, m, φ, hm, hs => by
    have stay : ∀ {m0 : Mem}, MRel N B w φ m0 → ∃ φ', MRel N B w φ' (ownN s r m0).2 ∧ Ext φ φ' ∧ Keeps (Nof N φ) w (Nof N φ') w ∧ ∀ t, (get ((u, get s u) :: (ownN s r m0).1) t).1 = [] ∧ VRel (Nof N φ') w φ' (get ((u, get s u) :: (ownN s r m0).1) t).2 (tmps t) := fun {m0} hm0 => by
      obtain ⟨φ', h1, h2, h3, h4⟩ := ownN_ok r m0 φ hm0 hs
      refine ⟨φ', h1, h2, h3, fun t => ?_⟩
      simp only [get]
      rcases Bool.eq_false_or_eq_true (u == t) with hu | hu
      · simp only [hu, cond_true]
        have : u = t := by simpa using hu
        subst this
        exact ⟨(hs u).1, (hs u).2.mono h3 h2⟩
      · simp only [hu, cond_false]; exact h4 t
    simp only [ownN]
    split
    · rename_i k hg
      split
      · rename_i q hq
        split
        · rename_i cs hk
          split
          · rename_i l hl
            obtain ⟨g1, g2⟩ := asNds_get hl
            refine stay (mrel_retell hm (k := q) (o' := .nrow k l) hk rfl rfl rfl fun b ex cells hc => ⟨by rw [g1]; exact hc.2.1, fun i o hi => ?_⟩)
            obtain ⟨c, hc1, hc2⟩ := g2 i o hi
            obtain ⟨v, h1, h2, h3⟩ := hc.2.2 i c hc1
            exact ⟨v, h1, h2, asNd_ndo h3 hc2⟩
          · exact stay hm
        · exact stay hm
      · exact stay hm
    · exact stay hm
  | (u, .cell j T) :: r, m, φ, hm, hs => by
    simp only [ownN]
    split
    · rename_i k hg
      split
      · rename_i p cs hk
        split
        · rename_i hj
          obtain ⟨p1, p2⟩ := mrel_phantom hm (.row T [])
          have hklt := (List.getElem?_eq_some_iff.1 hk).1
          have hk' : (m ++ [MObj.row T []])[k]? = some (.box p cs) := by rw [List.getElem?_append_left hklt]; exact hk
          have p3 := mrel_retell p2 (k := k) (o' := .box p (cs.set j (.sl m.length T.size 0 0))) hk' rfl rfl rfl fun b ex cells hc => by
            refine ⟨hc.1, by simpa using hc.2.1, fun i c hi => ?_⟩
            rw [List.getElem?_set] at hi
            by_cases hji : j = i
            · subst hji
              have hjl := (List.getElem?_eq_some_iff.1 hj).1
              rw [if_pos rfl, if_pos hjl] at hi
              cases hi
              obtain ⟨v, h1, h2, h3⟩ := hc.2.2 j _ hj
              refine ⟨v, h1, h2, ?_⟩
              cases h3 with
              | f h => cases h with
                | nils => exact .sl (Nat.le_refl 0) (Nat.zero_le _) fun h => absurd h (Nat.lt_irrefl 0)
            · rw [if_neg hji] at hi
              exact hc.2.2 i c hi
          rw [List.set_append_left _ _ hklt] at p3
          obtain ⟨φ', h1, h2, h3, h4⟩ := ownN_ok r _ (φ ++ [none]) p3 fun t => ⟨(hs t).1, (hs t).2.mono p1.keeps p1.ext⟩
          exact ⟨φ', h1, p1.ext.trans h2, p1.keeps.trans h3, h4⟩
        · exact ownN_ok r m φ hm hs
      · exact ownN_ok r m φ hm hs
    · exact ownN_ok r m φ hm hs
  | (u, .own T) :: r, m, φ, hm, hs => by
    simp only [ownN]
    split
    · rename_i hg
      obtain ⟨p1, p2⟩ := mrel_phantom hm (.row T [])
      obtain ⟨φ', h1, h2, h3, h4⟩ := ownN_ok r (m ++ [.row T []]) (φ ++ [none]) p2 fun t => ⟨(hs t).1, (hs t).2.mono p1.keeps p1.ext⟩
      refine ⟨φ', h1, p1.ext.trans h2, p1.keeps.trans h3, fun t => ?_⟩
      simp only [get]
      rcases Bool.eq_false_or_eq_true (u == t) with hu | hu
      · simp only [hu, cond_true]
        have : u = t := by simpa using hu
        subst this
        refine ⟨trivial, ?_⟩
        have := (hs u).2
        rw [hg] at this
        generalize tmps u = v at this
        cases this with
        | f h => cases h with
          | nils => exact .sl (Nat.le_refl 0) (Nat.zero_le _) fun h => absurd h (Nat.lt_irrefl 0)
      · simp only [hu, cond_false]; exact h4 t
    · obtain ⟨φ', h1, h2, h3, h4⟩ := ownN_ok r m φ hm hs
      refine ⟨φ', h1, h2, h3, fun t => ?_⟩
      simp only [get]
      rcases Bool.eq_false_or_eq_true (u == t) with hu | hu
      · simp only [hu, cond_true]
        have : u = t := by simpa using hu
        subst this
        exact ⟨(hs u).1, (hs u).2.mono h3 h2⟩
      · simp only [hu, cond_false]; exact h4 t

theorem keepS_ok {N : Nat → Prop} {wb : Base} {n : Nat} {a : Act} {w : World} {φ : Phi} {st st' : St} {keep : List (Nat × KP)} (h : RelC N wb n a w φ st) (hk : keepS keep st = some st') : ∃ φ', RelC N wb n a w φ' st' := by
  unfold keepS at hk
  simp only at hk
  obtain ⟨s, hs, h1⟩ := obind hk
  obtain ⟨m, hmm, rfl⟩ := omap h1
  obtain ⟨φ', g1, g2, g3, g4⟩ := ownN_ok (tmps := fun t => a.tmps.getD t undef) keep st.m φ h.mem fun t => ⟨h.free t, h.slots t⟩
  have hnd := reach_nodup (m := (ownN st.s keep st.m).2) 200 (refsS (ownN st.s keep st.m).1) [] List.nodup_nil
  generalize reach (ownN st.s keep st.m).2 200 (refsS (ownN st.s keep st.m).1) [] = ks at *
  refine ⟨renPhi ks φ', fun t => ?_, fun t => ?_, renM_ok g1 hnd hmm, h.below, h.size, h.defers⟩
  · rw [(renS_get hs t).1]; exact (g4 t).1
  · exact renV_ok (g4 t).2 (renS_get hs t).2

/-! ### Some slots frozen, some kept -/
theorem keepL_get (s : Slots) : ∀ (l : List Nat) (t : Nat), get (keepL s l) t = get s t ∨ get (keepL s l) t = ([], .junk)
  | [], t => .inr rfl
  | u :: r, t => by
    simp only [keepL, get]
    rcases Bool.eq_false_or_eq_true (u == t) with hu | hu
    · have : u = t := by simpa using hu
      subst this
      simp
    · simp only [hu, cond_false]; exact keepL_get s r t
theorem frzL2_get (s : Slots) (mf : Mem) (x : Slots) : ∀ (l : List Nat) (t : Nat), get (frzL2 s mf l x) t = ((get s t).1, frzV mf (get s t).2) ∨ get (frzL2 s mf l x) t = get x t
  | [], t => .inr rfl
  | u :: r, t => by
    simp only [frzL2, get]
    rcases Bool.eq_false_or_eq_true (u == t) with hu | hu
    · have : u = t := by simpa using hu
      subst this
      simp
    · simp only [hu, cond_false]; exact frzL2_get s mf x r t
theorem killL_get : ∀ (l : List Nat) (m : Mem) (k : Nat) (o : MObj), (killL l m)[k]? = some o → live o = true → m[k]? = some o ∧ k ∉ l
  | [], m, k, o, h, _ => ⟨h, by simp⟩
  | j :: r, m, k, o, h, lo => by
    obtain ⟨h1, h2⟩ := killL_get r _ k o h lo
    obtain ⟨h3, h4⟩ := dead_back h1 lo
    exact ⟨h3, by simp only [List.mem_cons, not_or]; exact ⟨fun e => h4 e.symm, h2⟩⟩
theorem mrel_killL {N : Nat → Prop} {B : Nat → Prop} {w : World} {φ : Phi} : ∀ (l : List Nat) {m : Mem}, MRel N B w φ m → MRel N B w φ (killL l m)
  | [], _, h => h
  | k :: r, _, h => mrel_killL r (mrel_dead h k)
end Go.AM
