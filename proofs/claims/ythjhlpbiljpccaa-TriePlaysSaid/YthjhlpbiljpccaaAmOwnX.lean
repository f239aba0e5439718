/-
  Calls that are handed a pointer to an own tree: into the callee, and back.
-/
import Derived.Test.YthjhlpbiljpccaaAmOwn3
import Derived.Test.YthjhlpbiljpccaaAmOwnXD
namespace Go.AM
open Go.RowKit

section
variable {N B : Nat → Prop} {w : World} {φ : Phi} {m : Mem}

theorem ndK_ok {v : AV} {u : Value} {k i : Nat} (h : ndK v = some (k, i, true)) (hr : VRel (Nof N φ) w φ v u) : ∃ b tot cnt c, φ[k]? = some (some (b, tot, cnt)) ∧ (b :: cnt.ex)[i]? = some c ∧ u = .pointer (some ⟨c, 0, none⟩) := by
  unfold ndK at h
  split at h
  · simp only [Option.some.injEq, Prod.mk.injEq] at h
    obtain ⟨rfl, rfl, _⟩ := h
    cases hr with
    | @ptr _ _ b tot cnt hφ => exact ⟨b, tot, cnt, b, hφ, rfl, rfl⟩
  · simp only [Option.some.injEq, Prod.mk.injEq] at h
    obtain ⟨rfl, rfl, _⟩ := h
    cases hr with
    | @nd _ _ _ b tot c cnt hφ hi => exact ⟨b, tot, cnt, c, hφ, hi, rfl⟩
  · rename_i j o
    simp only [Option.some.injEq, Prod.mk.injEq] at h
    obtain ⟨rfl, rfl, ho⟩ := h
    cases o with
    | none => cases ho
    | some i =>
      cases hr with
      | ndo h1 h0 =>
        obtain ⟨b, tot, cnt, hφ, c, hc, rfl⟩ := h1 rfl
        exact ⟨b, tot, cnt, c, hφ, hc, rfl⟩
  · cases h

theorem lrel_tail {N : Nat → Prop} {v : AV} {u : Value} {avs : List AV} {vs : List Value} (hl : LRel N w φ (v :: avs) (u :: vs)) : LRel N w φ avs vs := ⟨by have := hl.1; simpa using this, fun j c v hj hv => hl.2 (j + 1) c v (by simpa using hj) (by simpa using hv)⟩

theorem nilX {k : Nat} {m m1 : Mem} {A : List VX} {v : AV} {avs : List AV} (h : takeX k m (.nil :: A) (v :: avs) = some m1) : v = .f .nils := by
  cases v with
  | f y => cases y <;> first | rfl | (simp [takeX] at h; done)
  | _ => simp [takeX] at h
theorem arX {k : Nat} {m m1 : Mem} {A : List VX} {v : AV} {avs : List AV} (h : takeX k m (.ar :: A) (v :: avs) = some m1) : v = .ptr k 0 ∧ takeX k m A avs = some m1 := by
  cases v with
  | ptr j off =>
    cases off with
    | zero =>
      simp only [takeX] at h
      obtain ⟨h1, h2⟩ := bif_some h
      have : j = k := by simpa using h1
      subst this
      exact ⟨rfl, h2⟩
    | succ n => simp [takeX] at h
  | _ => simp [takeX] at h

/-- The tree that is spoken of is real. -/
theorem arX_real : ∀ (A : List VX) {m m1 m2 : Mem} {avs : List AV} {vs : List Value} {x : VXs.den A} {k : Nat}, arK A avs = some k → takeX k m A avs = some m1 → readX m2 m A avs = some (x, true) → LRel (Nof N φ) w φ avs vs → ∃ b tot cnt, φ[k]? = some (some (b, tot, cnt))
  | [], _, _, _, avs, vs, x, k, h, _, _, _ => by cases avs <;> simp [arK] at h
  | a :: A, _, _, _, [], vs, x, k, h, _, _, _ => by cases a <;> simp [arK] at h
  | a :: A, _, _, _, v :: avs, [], x, k, h, _, _, hl => by have := hl.1; simp at this
  | .p t :: A, m, m1, m2, v :: avs, u :: vs, x, k, h, ht, hr, hl => by
    simp only [readX] at hr
    obtain ⟨y, _, h3⟩ := obind hr
    obtain ⟨r, hr, h4⟩ := omap h3
    obtain ⟨r1, r2⟩ := r
    have h5 : r2 = true := congrArg Prod.snd h4
    subst h5
    exact arX_real A (by simpa [arK] using h) (by simpa only [takeX] using ht) hr (lrel_tail hl)
  | .own T :: A, m, m1, m2, v :: avs, u :: vs, x, k, h, ht, hr, hl => by
    simp only [readX] at hr
    simp only [takeX] at ht
    obtain ⟨y, hy, h3⟩ := obind hr
    rw [hy] at ht
    obtain ⟨r, hr, h4⟩ := omap h3
    obtain ⟨r1, r2⟩ := r
    have h5 : (y.2.2 && r2) = true := congrArg Prod.snd h4
    simp only [Bool.and_eq_true] at h5
    obtain ⟨_, rfl⟩ := h5
    exact arX_real A (by simpa [arK] using h) ht hr (lrel_tail hl)
  | .nil :: A, m, m1, m2, v :: avs, u :: vs, x, k, h, ht, hr, hl => by
    obtain rfl := nilX ht
    simp only [readX] at hr
    simp only [takeX] at ht
    obtain ⟨r, hr, h4⟩ := omap hr
    obtain ⟨r1, r2⟩ := r
    have h5 : r2 = true := congrArg Prod.snd h4
    subst h5
    exact arX_real A (by simpa [arK] using h) ht hr (lrel_tail hl)
  | .ar :: A, m, m1, m2, v :: avs, u :: vs, x, k, h, ht, hr, hl => by
    obtain ⟨rfl, _⟩ := arX ht
    have := hl.2 0 _ u rfl rfl
    cases this with
    | @ptr _ _ b tot cnt hφ => exact ⟨b, tot, cnt, hφ⟩
  | .nd :: A, m, m1, m2, v :: avs, u :: vs, x, k, h, ht, hr, hl => by
    simp only [readX] at hr
    simp only [arK] at h
    obtain ⟨q, hq, h1⟩ := obind hr
    obtain ⟨q', hq', hk⟩ := omap h
    rw [hq] at hq'; cases hq'
    obtain ⟨r, _, h4⟩ := omap h1
    have h5 : (q.2.2 && r.2) = true := congrArg Prod.snd h4
    simp only [Bool.and_eq_true] at h5
    obtain ⟨q1, q2, q3⟩ := q
    obtain ⟨h5, _⟩ := h5
    simp only at h5 hk
    subst h5; subst hk
    obtain ⟨b, tot, cnt, _, hφ, _⟩ := ndK_ok hq (hl.2 0 v u rfl rfl)
    exact ⟨b, tot, cnt, hφ⟩

theorem took_allX (hm : MRel N B w φ m) {m1 : Mem} (hm1 : MRel N B w φ m1) {tm : Nat → Value} {k0 b0 tot0 : Nat} {cnt0 : Cnt} (hk0 : φ[k0]? = some (some (b0, tot0, cnt0))) : ∀ (A : List VX) {avs : List AV} {vs : List Value} {mc mm : Mem} {ψ : Phi} {i : Nat} {s : Slots} {x : VXs.den A},
    Took N w φ m mc mm ψ → ψ[0]? = some (some (b0, tot0, cnt0)) → takeX k0 mc A avs = some m1 → readX m1 mc A avs = some (x, true) → LRel (Nof N φ) w φ avs vs → (∀ (j : Nat) v, vs[j]? = some v → tm (i + j) = v) →
    ∃ ψ1, ExtE ψ ψ1 ∧ Took N w φ m m1 (startX i A x ⟨s, mm⟩).m ψ1 ∧ ∀ M : Nat → Prop, (∀ y v, FRel (M0 N φ m1) w y v → FRel M w y v) → SOk M w ψ1 tm s → SOk M w ψ1 tm (startX i A x ⟨s, mm⟩).s
  | [], [], vs, mc, mm, ψ, i, s, x, ht, _, h1, h2, hl, hv => by
    simp only [takeX, Option.some.injEq] at h1
    subst h1
    exact ⟨ψ, ExtE.refl _, ht, fun M _ h => h⟩
  | [], _ :: _, vs, mc, mm, ψ, i, s, x, ht, _, h1, h2, hl, hv => by simp [takeX] at h1
  | a :: A, [], vs, mc, mm, ψ, i, s, x, ht, _, h1, h2, hl, hv => by cases a <;> simp [takeX] at h1
  | a :: A, v :: avs, [], mc, mm, ψ, i, s, x, ht, _, h1, h2, hl, hv => by have := hl.1; simp at this
  | .p t :: A, v :: avs, u :: vs, mc, mm, ψ, i, s, x, ht, h0, h1, h2, hl, hv => by
    simp only [takeX] at h1
    simp only [readX] at h2
    obtain ⟨y, hy, h3⟩ := obind h2
    obtain ⟨c, hc, hd⟩ := obind hy
    obtain ⟨r, hr, h4⟩ := omap h3
    have hx := (congrArg Prod.fst h4).symm
    have h4 := congrArg Prod.snd h4
    obtain ⟨r1, r2⟩ := r
    have h4 : r2 = true := h4
    subst h4
    subst hx
    obtain ⟨ψ1, g1, g2, g3⟩ := took_allX hm hm1 hk0 A (i := i + 1) (s := (i, [], .f (t.enc y)) :: s) ht h0 h1 hr (lrel_tail hl) fun j v hj => by rw [← hv (j + 1) v (by simpa using hj)]; congr 1; omega
    refine ⟨ψ1, g1, g2, fun M hM hs => g3 M hM (hs.cons (.f (vs_dec t c y _ hd (hM _ _ ?_))))⟩
    have := frz_ok (M := M0 N φ m1) (fun _ h => h) hm1 8 v c u hc (hl.2 0 v u rfl rfl)
    rw [show tm i = u from hv 0 u rfl]
    exact this
  | .own T :: A, v :: avs, u :: vs, mc, mm, ψ, i, s, x, ht, h0, h1, h2, hl, hv => by
    simp only [takeX] at h1
    simp only [readX] at h2
    obtain ⟨y, hy, h3⟩ := obind h1
    rw [hy] at h2
    simp only [Option.bind_some] at h2
    obtain ⟨r, hr, h4⟩ := omap h2
    have hx := (congrArg Prod.fst h4).symm
    have h4 := congrArg Prod.snd h4
    obtain ⟨l, mc', bb⟩ := y
    obtain ⟨r1, r2⟩ := r
    have h4 : (bb && r2) = true := h4
    simp only [Bool.and_eq_true] at h4
    obtain ⟨h4, h5⟩ := h4
    subst h4; subst h5
    subst hx
    try simp only at h3 hr
    obtain ⟨z, hz, hval⟩ := took_own hm ht hy (hl.2 0 v u rfl rfl)
    have h0' : (ψ ++ [z])[0]? = some (some (b0, tot0, cnt0)) := ExtE.snoc ψ z _ _ h0
    obtain ⟨ψ1, g1, g2, g3⟩ := took_allX hm hm1 hk0 A (i := i + 1) (s := (i, [], .sl mm.length T.size 0 (List.length l)) :: s) hz h0' h3 hr (lrel_tail hl) fun j v hj => by rw [← hv (j + 1) v (by simpa using hj)]; congr 1; omega
    refine ⟨ψ1, (ExtE.snoc ψ z).trans g1, g2, fun M hM hs => g3 M hM (hs.cons ?_)⟩
    rw [show tm i = u from hv 0 u rfl]
    exact hval M ψ1 (g1 _ _ (by simp))
  | .nil :: A, v :: avs, u :: vs, mc, mm, ψ, i, s, x, ht, h0, h1, h2, hl, hv => by
    obtain rfl := nilX h1
    simp only [takeX] at h1
    simp only [readX] at h2
    obtain ⟨r, hr, h4⟩ := omap h2
    have hx := (congrArg Prod.fst h4).symm
    have h4 := congrArg Prod.snd h4
    obtain ⟨r1, r2⟩ := r
    have h4 : r2 = true := h4
    subst h4
    subst hx
    obtain ⟨ψ1, g1, g2, g3⟩ := took_allX hm hm1 hk0 A (i := i + 1) (s := (i, [], .f .nils) :: s) ht h0 h1 hr (lrel_tail hl) fun j v hj => by rw [← hv (j + 1) v (by simpa using hj)]; congr 1; omega
    refine ⟨ψ1, g1, g2, fun M hM hs => g3 M hM (hs.cons ?_)⟩
    rw [show tm i = u from hv 0 u rfl]
    have := hl.2 0 (.f .nils) u rfl rfl
    cases this with
    | f h => cases h with
      | nils => exact .f .nils
  | .ar :: A, v :: avs, u :: vs, mc, mm, ψ, i, s, x, ht, h0, h1, h2, hl, hv => by
    obtain ⟨rfl, h6⟩ := arX h1
    simp only [readX] at h2
    obtain ⟨r, hr, h4⟩ := omap h2
    have hx := (congrArg Prod.fst h4).symm
    have h4 := congrArg Prod.snd h4
    obtain ⟨r1, r2⟩ := r
    have h4 : r2 = true := h4
    subst h4
    subst hx
    obtain ⟨ψ1, g1, g2, g3⟩ := took_allX hm hm1 hk0 A (i := i + 1) (s := (i, [], .ptr 0 0) :: s) ht h0 h6 hr (lrel_tail hl) fun j v hj => by rw [← hv (j + 1) v (by simpa using hj)]; congr 1; omega
    refine ⟨ψ1, g1, g2, fun M hM hs => g3 M hM (hs.cons ?_)⟩
    rw [show tm i = u from hv 0 u rfl]
    have := hl.2 0 _ u rfl rfl
    cases this with
    | ptr h => rw [hk0] at h; cases h; exact .ptr (g1 _ _ h0)
  | .nd :: A, v :: avs, u :: vs, mc, mm, ψ, i, s, x, ht, h0, h1, h2, hl, hv => by
    simp only [takeX] at h1
    simp only [readX] at h2
    obtain ⟨q, hq, h3⟩ := obind h1
    rw [hq] at h2
    simp only [Option.bind_some] at h2
    obtain ⟨hqk, h1⟩ := bif_some h3
    obtain ⟨r, hr, h4⟩ := omap h2
    have hx := (congrArg Prod.fst h4).symm
    have h4 := congrArg Prod.snd h4
    obtain ⟨r1, r2⟩ := r
    obtain ⟨q1, q2, q3⟩ := q
    have h4 : (q3 && r2) = true := h4
    simp only [Bool.and_eq_true] at h4
    obtain ⟨h4, h5⟩ := h4
    subst h4; subst h5
    subst hx
    have : q1 = k0 := by simpa using hqk
    subst this
    obtain ⟨ψ1, g1, g2, g3⟩ := took_allX hm hm1 hk0 A (i := i + 1) (s := (i, [], .nd 0 q2 0) :: s) ht h0 h1 hr (lrel_tail hl) fun j v hj => by rw [← hv (j + 1) v (by simpa using hj)]; congr 1; omega
    refine ⟨ψ1, g1, g2, fun M hM hs => g3 M hM (hs.cons ?_)⟩
    rw [show tm i = u from hv 0 u rfl]
    obtain ⟨b, tot, cnt, c, e1, e2, rfl⟩ := ndK_ok hq (hl.2 0 v u rfl rfl)
    rw [hk0] at e1; cases e1
    exact .nd (g1 _ _ h0) e2

def VXs.wf : (A : List VX) → VXs.den A → Prop
  | [], _ => True
  | .p t :: r, x => VS.wf t x.1 ∧ VXs.wf r x.2
  | .own _ :: r, x => VXs.wf r x.2
  | .nil :: r, x => VXs.wf r x.2
  | .ar :: r, x => VXs.wf r x.2
  | .nd :: r, x => VXs.wf r x.2
theorem readX_wf {k : Nat} {m1 m3 : Mem} (hm1 : MRel N B w φ m1) : ∀ (A : List VX) {m : Mem} {avs : List AV} {vs : List Value} {x : VXs.den A} {b : Bool}, takeX k m A avs = some m3 → readX m1 m A avs = some (x, b) → LRel (Nof N φ) w φ avs vs → VXs.wf A x
  | [], _, _, _, _, _, _, _, _ => trivial
  | a :: A, m, [], vs, x, b, h0, h, _ => by cases a <;> simp [takeX] at h0
  | a :: A, m, v :: avs, [], x, b, h0, h, hl => by have := hl.1; simp at this
  | .p t :: A, m, v :: avs, u :: vs, x, b, h0, h, hl => by
    simp only [readX] at h
    obtain ⟨y, hy, h3⟩ := obind h
    obtain ⟨c, hc, hd⟩ := obind hy
    obtain ⟨r, hr, h4⟩ := omap h3
    have hx := (congrArg Prod.fst h4).symm
    subst hx
    have := frz_ok (M := M0 N φ m1) (fun _ h => h) hm1 8 v c u hc (hl.2 0 v u rfl rfl)
    exact ⟨vs_wf t y u (vs_dec t c y u hd this), readX_wf hm1 A (b := r.2) (by simpa only [takeX] using h0) hr (lrel_tail hl)⟩
  | .own T :: A, m, v :: avs, u :: vs, x, b, h0, h, hl => by
    simp only [readX] at h
    simp only [takeX] at h0
    obtain ⟨y, hy, h3⟩ := obind h
    rw [hy] at h0
    obtain ⟨r, hr, h4⟩ := omap h3
    have hx := (congrArg Prod.fst h4).symm
    subst hx
    exact readX_wf hm1 A (b := r.2) h0 hr (lrel_tail hl)
  | .nil :: A, m, v :: avs, u :: vs, x, b, h0, h, hl => by
    obtain rfl := nilX h0
    simp only [readX] at h
    obtain ⟨r, hr, h4⟩ := omap h
    have hx := (congrArg Prod.fst h4).symm
    subst hx
    exact readX_wf hm1 A (b := r.2) (by simpa only [takeX] using h0) hr (lrel_tail hl)
  | .ar :: A, m, v :: avs, u :: vs, x, b, h0, h, hl => by
    obtain ⟨rfl, h1⟩ := arX h0
    simp only [readX] at h
    obtain ⟨r, hr, h4⟩ := omap h
    have hx := (congrArg Prod.fst h4).symm
    subst hx
    exact readX_wf hm1 A (b := r.2) h1 hr (lrel_tail hl)
  | .nd :: A, m, v :: avs, u :: vs, x, b, h0, h, hl => by
    simp only [readX] at h
    simp only [takeX] at h0
    obtain ⟨q, hq, h3⟩ := obind h
    rw [hq] at h0
    obtain ⟨r, hr, h4⟩ := omap h3
    have hx := (congrArg Prod.fst h4).symm
    subst hx
    exact readX_wf hm1 A (b := r.2) (bif_some h0).2 hr (lrel_tail hl)

theorem takeX_len {k : Nat} : ∀ {A : List VX} {m m1 : Mem} {avs : List AV}, takeX k m A avs = some m1 → avs.length = A.length
  | [], m, m1, [], _ => rfl
  | [], m, m1, _ :: _, h => by simp [takeX] at h
  | a :: r, m, m1, [], h => by cases a <;> simp [takeX] at h
  | .p _ :: r, m, m1, v :: vs, h => by simp only [takeX] at h; simp [takeX_len (A := r) h]
  | .own _ :: r, m, m1, v :: vs, h => by simp only [takeX] at h; obtain ⟨x, _, h1⟩ := obind h; simp [takeX_len (A := r) h1]
  | .nil :: r, m, m1, v :: vs, h => by
    obtain rfl := nilX h
    simp only [takeX] at h
    simp [takeX_len (A := r) h]
  | .ar :: r, m, m1, v :: vs, h => by
    obtain ⟨_, h1⟩ := arX h
    simp [takeX_len (A := r) h1]
  | .nd :: r, m, m1, v :: vs, h => by
    simp only [takeX] at h
    obtain ⟨q, _, h3⟩ := obind h
    simp [takeX_len (A := r) (bif_some h3).2]
theorem ownA_mrel {T : Sch} {v : AV} {m : Mem} {y : List T.den × Mem × Bool} (hm : MRel N B w φ m) (hy : ownA T m v = some y) : MRel N B w φ y.2.1 := by
  unfold ownA at hy
  split at hy
  · cases hy; exact hm
  · have := (bif_some hy).2
    split at this
    · obtain ⟨_, _, rfl⟩ := omap this; exact mrel_dead hm _
    · obtain ⟨_, _, rfl⟩ := omap (bif_some this).2; exact mrel_dead hm _
    · cases this
  · cases hy
theorem ownA_dead {T : Sch} {v : AV} {m : Mem} {y : List T.den × Mem × Bool} (hy : ownA T m v = some y) {k : Nat} (hd : ∀ o, m[k]? = some o → live o = false) : ∀ o, y.2.1[k]? = some o → live o = false := by
  have key : ∀ (j : Nat) (o : MObj), (m.set j .dead)[k]? = some o → live o = false := fun j o h => by
    rw [List.getElem?_set] at h
    split at h
    · split at h
      · cases h; rfl
      · cases h
    · exact hd o h
  unfold ownA at hy
  split at hy
  · cases hy; exact hd
  · have := (bif_some hy).2
    split at this
    · obtain ⟨_, _, rfl⟩ := omap this; exact key _
    · obtain ⟨_, _, rfl⟩ := omap (bif_some this).2; exact key _
    · cases this
  · cases hy
theorem takeX_mrel {k : Nat} : ∀ (A : List VX) (avs : List AV) (m : Mem), MRel N B w φ m → ∀ {m1}, takeX k m A avs = some m1 → MRel N B w φ m1
  | [], [], m, hm, m1, h => by simp only [takeX, Option.some.injEq] at h; subst h; exact hm
  | [], _ :: _, m, hm, m1, h => by simp [takeX] at h
  | a :: A, [], m, hm, m1, h => by cases a <;> simp [takeX] at h
  | .p t :: A, v :: avs, m, hm, m1, h => takeX_mrel A avs m hm (by simpa only [takeX] using h)
  | .own T :: A, v :: avs, m, hm, m1, h => by
    simp only [takeX] at h
    obtain ⟨y, hy, h1⟩ := obind h
    exact takeX_mrel A avs _ (ownA_mrel hm hy) h1
  | .nil :: A, v :: avs, m, hm, m1, h => by
    obtain rfl := nilX h
    exact takeX_mrel A avs m hm (by simpa only [takeX] using h)
  | .ar :: A, v :: avs, m, hm, m1, h => takeX_mrel A avs m hm (arX h).2
  | .nd :: A, v :: avs, m, hm, m1, h => by
    simp only [takeX] at h
    obtain ⟨q, _, h3⟩ := obind h
    exact takeX_mrel A avs m hm (bif_some h3).2
theorem takeX_dead {k q : Nat} : ∀ (A : List VX) (avs : List AV) (m : Mem), (∀ o, m[q]? = some o → live o = false) → ∀ {m1}, takeX k m A avs = some m1 → ∀ o, m1[q]? = some o → live o = false
  | [], [], m, hm, m1, h => by simp only [takeX, Option.some.injEq] at h; subst h; exact hm
  | [], _ :: _, m, hm, m1, h => by simp [takeX] at h
  | a :: A, [], m, hm, m1, h => by cases a <;> simp [takeX] at h
  | .p t :: A, v :: avs, m, hm, m1, h => takeX_dead A avs m hm (by simpa only [takeX] using h)
  | .own T :: A, v :: avs, m, hm, m1, h => by
    simp only [takeX] at h
    obtain ⟨y, hy, h1⟩ := obind h
    exact takeX_dead A avs _ (ownA_dead hy hm) h1
  | .nil :: A, v :: avs, m, hm, m1, h => by
    obtain rfl := nilX h
    exact takeX_dead A avs m hm (by simpa only [takeX] using h)
  | .ar :: A, v :: avs, m, hm, m1, h => takeX_dead A avs m hm (arX h).2
  | .nd :: A, v :: avs, m, hm, m1, h => by
    simp only [takeX] at h
    obtain ⟨q, _, h3⟩ := obind h
    exact takeX_dead A avs m hm (bif_some h3).2
end
end Go.AM
