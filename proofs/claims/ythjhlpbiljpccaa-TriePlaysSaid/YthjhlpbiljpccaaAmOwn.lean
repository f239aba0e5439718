/-
  A call that is handed own slices: its law, from its compact code.
-/
import Derived.Test.YthjhlpbiljpccaaAmFun
import Derived.Test.YthjhlpbiljpccaaAmOwnD
namespace Go.AM
open Go.RowKit

section
variable {N B : Nat → Prop} {w : World} {φ : Phi} {m : Mem}

/-- What has been given up so far: 'mc' is the caller's memory without it, 'mm' the callee's, 'ψ' its places. -/
structure Took (N : Nat → Prop) (w : World) (φ : Phi) (m mc mm : Mem) (ψ : Phi) : Prop where
  len : ψ.length = mm.length
  mlen : mc.length = m.length
  sub : ∀ (k : Nat) o, mc[k]? = some o → live o = true → m[k]? = some o
  orig : ∀ (j : Nat) x, ψ[j]? = some (some x) → ∃ (k : Nat) (o : MObj), φ[k]? = some (some x) ∧ m[k]? = some o ∧ live o = true ∧ ∀ o', mc[k]? = some o' → live o' = false
  inj : ∀ (i j : Nat) x y b, ψ[i]? = some (some x) → ψ[j]? = some (some y) → foot x b → foot y b → i = j
  cont : ∀ (j : Nat) b tot cnt o, ψ[j]? = some (some (b, tot, cnt)) → mm[j]? = some o → live o = true → ∃ cs e, HB w b cs e o ∧ cs.size = tot ∧ cnt.n ≤ cntO o ∧
    ∀ (M : Nat → Prop) (ψ' : Phi), Keeps (Nof N φ) w M w → Ext ψ ψ' → OCont M w ψ' b cnt.ex o cs

theorem Took.start (N : Nat → Prop) (w : World) (φ : Phi) (m : Mem) : Took N w φ m m [] [] :=
  ⟨rfl, rfl, fun _ _ h _ => h, fun j x h => by simp at h, fun i j x y b h => by simp at h, fun j b tot cnt o h => by simp at h⟩

/-- One object given up, one more for the callee. -/
theorem Took.push {mc mm : Mem} {ψ : Phi} (hm : MRel N B w φ m) (h : Took N w φ m mc mm ψ) {k : Nat} {o o2 : MObj} (hk : mc[k]? = some o) (hl : live o = true) (hl2 : cntO o = cntO o2)
    (hc : ∀ b tot cnt cs, φ[k]? = some (some (b, tot, cnt)) → OCont (Nof N φ) w φ b cnt.ex o cs → ∀ (M : Nat → Prop) (ψ' : Phi), Keeps (Nof N φ) w M w → Ext (ψ ++ [(φ[k]?).bind id]) ψ' → OCont M w ψ' b cnt.ex o2 cs) (hnm : isMap o = false := by rfl) (hnm2 : isMap o2 = false := by rfl) :
    Took N w φ m (mc.set k .dead) (mm ++ [o2]) (ψ ++ [(φ[k]?).bind id]) := by
  have hm' := h.sub k o hk hl
  have hklt : k < mc.length := (List.getElem?_eq_some_iff.1 hk).1
  have old : ∀ {x}, (φ[k]?).bind id = some x → φ[k]? = some (some x) := fun {x} h => by
    cases hφ : φ[k]? with
    | none => rw [hφ] at h; cases h
    | some y => rw [hφ] at h; simp at h; rw [h]
  have deadk : ∀ {q : Nat} {o'}, (mc.set k .dead)[q]? = some o' → (q = k ∧ o' = .dead) ∨ (q ≠ k ∧ mc[q]? = some o') := fun {q o'} h => by
    rw [List.getElem?_set] at h
    by_cases hq : k = q
    · subst hq; rw [if_pos rfl, if_pos hklt] at h; exact .inl ⟨rfl, (Option.some.inj h).symm⟩
    · rw [if_neg hq] at h; exact .inr ⟨fun e => hq e.symm, h⟩
  -- the new one shares no block with an older one
  have cross : ∀ (i : Nat) x y b, ψ[i]? = some (some x) → φ[k]? = some (some y) → foot x b → foot y b → False := fun i x y b hi hy hf hg => by
    obtain ⟨k', o', h1, h2, h3, h4⟩ := h.orig i x hi
    have := hm.apart k' k o' o x y b h2 hm' h3 hl h1 hy hf hg
    subst this
    have := h4 o hk
    rw [hl] at this; cases this
  refine ⟨by simp [h.len], by simp [h.mlen], fun q o' hq lo => ?_, fun j x hj => ?_, fun i j x y b hi hj hf hg => ?_, fun j b tot cnt o' hj ho' lo => ?_⟩
  · rcases deadk hq with ⟨_, rfl⟩ | ⟨_, hq⟩
    · cases lo
    · exact h.sub q o' hq lo
  · rcases snoc_split hj with ⟨hjl, hj'⟩ | ⟨rfl, hj'⟩
    · obtain ⟨k', o', h1, h2, h3, h4⟩ := h.orig j x hj'
      refine ⟨k', o', h1, h2, h3, fun o2 ho2 => ?_⟩
      rcases deadk ho2 with ⟨_, rfl⟩ | ⟨_, hq⟩
      · rfl
      · exact h4 o2 hq
    · refine ⟨k, o, old hj', hm', hl, fun o2 ho2 => ?_⟩
      rcases deadk ho2 with ⟨_, rfl⟩ | ⟨hq, _⟩
      · rfl
      · exact absurd rfl hq
  · rcases snoc_split hi with ⟨hil, hi'⟩ | ⟨rfl, hi'⟩ <;> rcases snoc_split hj with ⟨hjl, hj'⟩ | ⟨rfl, hj'⟩
    · exact h.inj i j x y b hi' hj' hf hg
    · exact (cross i x y b hi' (old hj') hf hg).elim
    · exact (cross j y x b hj' (old hi') hg hf).elim
    · rfl
  · rcases snoc_split hj with ⟨hjl, hj'⟩ | ⟨rfl, hj'⟩
    · rw [List.getElem?_append_left (by rw [← h.len]; exact hjl)] at ho'
      obtain ⟨cs, e, h1, h2, h3, h4⟩ := h.cont j b tot cnt o' hj' ho' lo
      exact ⟨cs, e, h1, h2, h3, fun M ψ' hM hE => h4 M ψ' hM ((Ext.snoc ψ _).trans hE)⟩
    · rw [h.len, List.getElem?_append_right (Nat.le_refl _)] at ho'
      simp at ho'
      subst ho'
      obtain ⟨cs, e, h1, h2, h3, h4⟩ := hm.objs k b tot cnt o (old hj') hm' hl
      exact ⟨cs, e, HB.of hnm2 (h1.at_ hnm), h2, by rw [← hl2]; exact h4, hc b tot cnt cs (old hj') h3⟩

/-- A nil slice: an empty row more. -/
theorem Took.phantom {mc mm : Mem} {ψ : Phi} (h : Took N w φ m mc mm ψ) (o2 : MObj) : Took N w φ m mc (mm ++ [o2]) (ψ ++ [none]) := by
  have split : ∀ {j : Nat} {x}, (ψ ++ [none])[j]? = some (some x) → j < ψ.length ∧ ψ[j]? = some (some x) := fun {j x} h => by
    rcases snoc_split h with h | ⟨_, h⟩
    · exact h
    · cases h
  refine ⟨by simp [h.len], h.mlen, h.sub, fun j x hj => h.orig j x (split hj).2, fun i j x y b hi hj => h.inj i j x y b (split hi).2 (split hj).2, fun j b tot cnt o' hj ho' lo => ?_⟩
  obtain ⟨hjl, hj'⟩ := split hj
  rw [List.getElem?_append_left (by rw [← h.len]; exact hjl)] at ho'
  obtain ⟨cs, e, h1, h2, h3, h4⟩ := h.cont j b tot cnt o' hj' ho' lo
  exact ⟨cs, e, h1, h2, h3, fun M ψ' hM hE => h4 M ψ' hM ((Ext.snoc ψ _).trans hE)⟩

theorem castL_self {T : Sch} (h : PLift (T = T)) (l : List T.den) : castL h l = l := by obtain ⟨h⟩ := h; rfl

/-- An own slice given up. -/
theorem took_own (hm : MRel N B w φ m) {mc mm : Mem} {ψ : Phi} (h : Took N w φ m mc mm ψ) {T : Sch} {v : AV} {u : Value} {l : List T.den} {mc' : Mem} (ho : ownA T mc v = some (l, mc', true)) (hv : VRel (Nof N φ) w φ v u) :
    ∃ z, Took N w φ m mc' (mm ++ [.row T l]) (ψ ++ [z]) ∧ ∀ (M : Nat → Prop) (ψ' : Phi), ψ'[ψ.length]? = some z → VRel M w ψ' (.sl mm.length T.size 0 l.length) u := by
  have hφat : ∀ {k : Nat} {x}, φ[k]? = some (some x) → (φ[k]?).bind id = some x := fun {k x} h => by rw [h]; rfl
  unfold ownA at ho
  split at ho
  · simp only [Option.some.injEq, Prod.mk.injEq] at ho
    obtain ⟨rfl, rfl, _⟩ := ho
    cases hv with
    | f hv => cases hv with
      | nils => exact ⟨none, h.phantom _, fun M ψ' _ => .sl (Nat.le_refl 0) (Nat.zero_le _) fun h => absurd h (Nat.lt_irrefl 0)⟩
  · rename_i k sz len
    cases hz : T.size == sz with
    | false => rw [hz] at ho; cases ho
    | true =>
    rw [hz] at ho
    have hz' : T.size = sz := by simpa using hz
    subst hz'
    simp only [cond_true] at ho
    -- the slice's value, read with the new place
    have val : ∀ {n : Nat}, n = len → ∀ (M : Nat → Prop) (ψ' : Phi), ψ'[ψ.length]? = some ((φ[k]?).bind id) → VRel M w ψ' (.sl mm.length T.size 0 n) u := fun {n} hn M ψ' hp => by
      subst hn
      cases hv with
      | sl h1 h2 h3 =>
        refine .sl h1 h2 fun hc => ?_
        obtain ⟨b, tot, cnt, g1, g2, g3⟩ := h3 hc
        exact ⟨b, tot, cnt, by rw [← h.len, hp, hφat g1], g2, g3⟩
    split at ho
    · rename_i U l0 hk
      obtain ⟨hh, _, h2⟩ := omap ho
      simp only [Prod.mk.injEq, decide_eq_true_eq] at h2
      obtain ⟨rfl, rfl, h2⟩ := h2
      obtain ⟨rfl⟩ := hh
      refine ⟨_, h.push hm hk rfl (o2 := .row U (castL ⟨rfl⟩ l0)) (by rw [castL_self]) (fun b tot cnt cs hφ hc M ψ' hM _ => ?_), val (by rw [castL_self]; exact h2.symm)⟩
      rw [castL_self]
      exact ⟨hc.1, hc.2.1, fun i x hi => SRel.mono hM U x _ _ (fun _ _ _ h => h) (hc.2.2 i x hi)⟩
    · rename_i U es hk
      cases hU : U.size == T.size with
      | false => rw [hU] at ho; cases ho
      | true =>
      rw [hU] at ho
      have hU' : U.size = T.size := by simpa using hU
      obtain ⟨l', hl', h2⟩ := omap (show (frzE asF T es).map _ = _ from ho)
      simp only [Prod.mk.injEq, decide_eq_true_eq] at h2
      obtain ⟨rfl, rfl, h2⟩ := h2
      have hll := (frzE_asF _ _ hl').1
      refine ⟨_, h.push hm hk rfl (o2 := .row T l') (by simp [cntO, hll]) (fun b tot cnt cs hφ hc M ψ' hM _ => ?_), val (by rw [hll]; exact h2.symm)⟩
      have hE : ERel (Nof N φ) w φ T.size es cs := by rw [← hU']; exact hc.2.2
      exact ⟨by rw [hll, ← hU']; exact hc.1, by rw [hll]; exact hc.2.1, fun i x hi => SRel.mono hM T x _ _ (fun _ _ _ h => h) (erel_typed hE hl' i x hi)⟩
    · cases ho
  · cases ho

def noIo : List VO → Bool
  | [] => true
  | .io _ :: _ => false
  | _ :: r => noIo r

theorem get_cons (i : Nat) (v : AV) (s : Slots) (t : Nat) : get ((i, [], v) :: s) t = if i = t then ([], v) else get s t := by
  simp only [get]
  by_cases h : i = t
  · subst h; simp
  · have : (i == t) = false := by simpa using h
    simp [this, h]

/-- What the frozen arguments may read. -/
def M0 (N : Nat → Prop) (φ : Phi) (m1 : Mem) : Nat → Prop := fun b => Nof N φ b ∨ ownL φ m1 b

/-- The slots hold what they say. -/
def SOk (M : Nat → Prop) (w : World) (ψ : Phi) (tm : Nat → Value) (s : Slots) : Prop := ∀ t, (get s t).1 = [] ∧ VRel M w ψ (get s t).2 (tm t)
theorem SOk.cons {M : Nat → Prop} {ψ : Phi} {tm : Nat → Value} {s : Slots} (h : SOk M w ψ tm s) {i : Nat} {v : AV} (hv : VRel M w ψ v (tm i)) : SOk M w ψ tm ((i, [], v) :: s) := fun t => by
  rw [get_cons]
  by_cases hi : i = t
  · subst hi; rw [if_pos rfl]; exact ⟨rfl, hv⟩
  · rw [if_neg hi]; exact h t

theorem took_all (hm : MRel N B w φ m) {b0 : Nat} {m1 : Mem} (hm1 : MRel N B w φ m1) {tm : Nat → Value} : ∀ (A : List VO), noIo A = true → ∀ {avs : List AV} {vs : List Value} {mc mm : Mem} {ψ : Phi} {i : Nat} {s : Slots} {x : VOs.den A},
    Took N w φ m mc mm ψ → takeO mc A avs = some m1 → readO m1 mc A avs = some (x, true) → LRel (Nof N φ) w φ avs vs → (∀ (j : Nat) v, vs[j]? = some v → tm (i + j) = v) →
    ∃ ψ1, ExtE ψ ψ1 ∧ Took N w φ m m1 (startO b0 i A x ⟨s, mm⟩).m ψ1 ∧ ∀ M : Nat → Prop, (∀ y v, FRel (M0 N φ m1) w y v → FRel M w y v) → SOk M w ψ1 tm s → SOk M w ψ1 tm (startO b0 i A x ⟨s, mm⟩).s
  | [], _, [], vs, mc, mm, ψ, i, s, x, ht, h1, h2, hl, hv => by
    simp only [takeO, Option.some.injEq] at h1
    subst h1
    exact ⟨ψ, ExtE.refl _, ht, fun M _ h => h⟩
  | [], _, _ :: _, vs, mc, mm, ψ, i, s, x, ht, h1, h2, hl, hv => by simp [takeO] at h1
  | .p t :: A, hA, [], vs, mc, mm, ψ, i, s, x, ht, h1, h2, hl, hv => by simp [takeO] at h1
  | .own T :: A, hA, [], vs, mc, mm, ψ, i, s, x, ht, h1, h2, hl, hv => by simp [takeO] at h1
  | .nil :: A, hA, [], vs, mc, mm, ψ, i, s, x, ht, h1, h2, hl, hv => by simp [takeO] at h1
  | .p t :: A, hA, v :: avs, [], mc, mm, ψ, i, s, x, ht, h1, h2, hl, hv => by have := hl.1; simp at this
  | .own T :: A, hA, v :: avs, [], mc, mm, ψ, i, s, x, ht, h1, h2, hl, hv => by have := hl.1; simp at this
  | .nil :: A, hA, v :: avs, [], mc, mm, ψ, i, s, x, ht, h1, h2, hl, hv => by have := hl.1; simp at this
  | .p t :: A, hA, v :: avs, u :: vs, mc, mm, ψ, i, s, x, ht, h1, h2, hl, hv => by
    simp only [takeO] at h1
    simp only [readO] at h2
    obtain ⟨y, hy, h3⟩ := obind h2
    obtain ⟨c, hc, hd⟩ := obind hy
    obtain ⟨r, hr, h4⟩ := omap h3
    have hx := (congrArg Prod.fst h4).symm
    have h4 := congrArg Prod.snd h4
    obtain ⟨r1, r2⟩ := r
    have h4 : r2 = true := h4
    subst h4
    subst hx
    have hl' : LRel (Nof N φ) w φ avs vs := ⟨by have := hl.1; simpa using this, fun j c v hj hv => hl.2 (j + 1) c v (by simpa using hj) (by simpa using hv)⟩
    obtain ⟨ψ1, g1, g2, g3⟩ := took_all hm hm1 A hA (b0 := b0) (i := i + 1) (s := (i, [], .f (t.enc y)) :: s) ht h1 hr hl' fun j v hj => by rw [← hv (j + 1) v (by simpa using hj)]; congr 1; omega
    refine ⟨ψ1, g1, g2, fun M hM hs => g3 M hM (hs.cons (.f (vs_dec t c y _ hd (hM _ _ ?_))))⟩
    have := frz_ok (M := M0 N φ m1) (fun _ h => h) hm1 8 v c u hc (hl.2 0 v u rfl rfl)
    rw [show tm i = u from hv 0 u rfl]
    exact this
  | .own T :: A, hA, v :: avs, u :: vs, mc, mm, ψ, i, s, x, ht, h1, h2, hl, hv => by
    simp only [takeO] at h1
    simp only [readO] at h2
    obtain ⟨y, hy, h3⟩ := obind h1
    rw [hy] at h2
    simp only [Option.bind_some] at h2
    obtain ⟨r, hr, h4⟩ := omap h2
    have hx := (congrArg Prod.fst h4).symm
    have h4 := congrArg Prod.snd h4
    obtain ⟨l, mc', bb⟩ := y
    obtain ⟨r1, r2⟩ := r
    have h4 : (bb && r2) = true := h4
    simp only [Bool.and_eq_true] at h4
    obtain ⟨h4, h5⟩ := h4
    subst h4; subst h5
    subst hx
    try simp only at h3 hr
    have hl' : LRel (Nof N φ) w φ avs vs := ⟨by have := hl.1; simpa using this, fun j c v hj hv => hl.2 (j + 1) c v (by simpa using hj) (by simpa using hv)⟩
    obtain ⟨z, hz, hval⟩ := took_own hm ht hy (hl.2 0 v u rfl rfl)
    obtain ⟨ψ1, g1, g2, g3⟩ := took_all hm hm1 A hA (b0 := b0) (i := i + 1) (s := (i, [], .sl mm.length T.size 0 (List.length l)) :: s) hz h3 hr hl' fun j v hj => by rw [← hv (j + 1) v (by simpa using hj)]; congr 1; omega
    refine ⟨ψ1, (ExtE.snoc ψ z).trans g1, g2, fun M hM hs => g3 M hM (hs.cons ?_)⟩
    rw [show tm i = u from hv 0 u rfl]
    exact hval M ψ1 (g1 _ _ (by simp))
  | .nil :: A, hA, v :: avs, u :: vs, mc, mm, ψ, i, s, x, ht, h1, h2, hl, hv => by
    have hvn : v = .f .nils := by
      unfold takeO at h1
      split at h1 <;> first | (injections; done) | skip
      all_goals first | (rename_i he1 he2; injection he1; done) | skip
      all_goals simp_all
    subst hvn
    simp only [takeO] at h1
    simp only [readO] at h2
    obtain ⟨r, hr, h4⟩ := omap h2
    have hx := (congrArg Prod.fst h4).symm
    have h4 := congrArg Prod.snd h4
    obtain ⟨r1, r2⟩ := r
    have h4 : r2 = true := h4
    subst h4
    subst hx
    have hl' : LRel (Nof N φ) w φ avs vs := ⟨by have := hl.1; simpa using this, fun j c v hj hv => hl.2 (j + 1) c v (by simpa using hj) (by simpa using hv)⟩
    obtain ⟨ψ1, g1, g2, g3⟩ := took_all hm hm1 A hA (b0 := b0) (i := i + 1) (s := (i, [], .f .nils) :: s) ht h1 hr hl' fun j v hj => by rw [← hv (j + 1) v (by simpa using hj)]; congr 1; omega
    refine ⟨ψ1, g1, g2, fun M hM hs => g3 M hM (hs.cons ?_)⟩
    rw [show tm i = u from hv 0 u rfl]
    have := hl.2 0 (.f .nils) u rfl rfl
    cases this with
    | f h => cases h with
      | nils => exact .f .nils
  | .io T :: A, hA, _, _, _, _, _, _, _, _, _, _, _, _, _ => by simp [noIo] at hA
end
end Go.AM
