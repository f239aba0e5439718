/-
  Functions on an own tree: the laws, from their compact code.
-/
import Derived.Test.YthjhlpbiljpccaaAmOwnX2
namespace Go.AM
open Go.RowKit

theorem flat_out : ∀ {vs : List FV}, flatFs vs = true → flatF (outOf vs) = true
  | [], h => h
  | [v], h => by simpa [flatFs, outOf] using h
  | _ :: _ :: _, h => h

theorem backO_row {T : Sch} {m : Mem} {k sz off len : Nat} {l : List T.den} (h : backO T m (.sl k sz off len) = some l) {p : Option (Nat × List Nat)} {ns : List Nd} {n : Int} : m[k]? ≠ some (.arena p ns n) := fun e => by
  unfold backO at h
  split at h
  · rename_i h1; cases h1
  · rename_i h1
    cases h1
    have h2 := (bif_some h).2
    split at h2
    · rename_i h3; rw [e] at h3; cases h3
    · rename_i h3; rw [e] at h3; cases h3
    · cases h2
  · cases h

theorem get_free {s : Slots} {n : Nat} {α : Type} {f : AV → Option α} {y : α} (h : (match get s n with | ([], v) => f v | _ => none) = some y) : ∃ v, get s n = ([], v) ∧ f v = some y := by
  split at h
  · rename_i v hv; exact ⟨v, hv, h⟩
  · cases h
theorem backX_nd {st : St} {k : Nat} {rs : List ARes} {y : Option Nat} (h : backX st k .nd rs = some y) : ∃ n v, rs = [.t n] ∧ get st.s n = ([], v) ∧ asNd k v = some y := by
  match rs, h with
  | [], h => simp [backX] at h
  | [.t n], h => obtain ⟨v, h1, h2⟩ := get_free (f := asNd k) h; exact ⟨n, v, rfl, h1, h2⟩
  | [.cell _ _ _], h => simp [backX] at h
  | _ :: _ :: _, h => simp [backX] at h
theorem backX_own {st : St} {k : Nat} {T : Sch} {rs : List ARes} {y : List T.den} (h : backX st k (.own T) rs = some y) : ∃ n v, rs = [.t n] ∧ get st.s n = ([], v) ∧ backO T st.m v = some y := by
  match rs, h with
  | [], h => simp [backX] at h
  | [.t n], h => obtain ⟨v, h1, h2⟩ := get_free (f := backO T st.m) h; exact ⟨n, v, rfl, h1, h2⟩
  | [.cell _ _ _], h => simp [backX] at h
  | _ :: _ :: _, h => simp [backX] at h

section
variable {P : Program} {ms : List Nat} {Γ : Env}

/-- Nothing of it comes to pass. -/
theorem takeX_sub {k : Nat} : ∀ (A : List VX) (avs : List AV) (m : Mem) {m1 : Mem}, takeX k m A avs = some m1 → m1.length = m.length ∧ ∀ (i : Nat) o, m1[i]? = some o → live o = true → m[i]? = some o
  | [], [], m, m1, h => by simp only [takeX, Option.some.injEq] at h; subst h; exact ⟨rfl, fun i o h _ => h⟩
  | [], _ :: _, m, m1, h => by simp [takeX] at h
  | a :: A, [], m, m1, h => by cases a <;> simp [takeX] at h
  | .p t :: A, v :: avs, m, m1, h => takeX_sub A avs m (by simpa only [takeX] using h)
  | .own T :: A, v :: avs, m, m1, h => by
    simp only [takeX] at h
    obtain ⟨y, hy, h1⟩ := obind h
    obtain ⟨g1, g2⟩ := takeX_sub A avs _ h1
    have key : y.2.1.length = m.length ∧ ∀ (i : Nat) o, y.2.1[i]? = some o → live o = true → m[i]? = some o := by
      have k2 : ∀ j : Nat, (m.set j .dead).length = m.length ∧ ∀ (i : Nat) o, (m.set j .dead)[i]? = some o → live o = true → m[i]? = some o := fun j => ⟨by simp, fun i o h l => (dead_back h l).1⟩
      unfold ownA at hy
      split at hy
      · cases hy; exact ⟨rfl, fun _ _ h _ => h⟩
      · have := (bif_some hy).2
        split at this
        · obtain ⟨_, _, rfl⟩ := omap this; exact k2 _
        · obtain ⟨_, _, rfl⟩ := omap (bif_some this).2; exact k2 _
        · cases this
      · cases hy
    exact ⟨g1.trans key.1, fun i o h l => key.2 i o (g2 i o h l) l⟩
  | .nil :: A, v :: avs, m, m1, h => by
    obtain rfl := nilX h
    exact takeX_sub A avs m (by simpa only [takeX] using h)
  | .ar :: A, v :: avs, m, m1, h => takeX_sub A avs m (arX h).2
  | .nd :: A, v :: avs, m, m1, h => by
    simp only [takeX] at h
    obtain ⟨q, _, h3⟩ := obind h
    exact takeX_sub A avs m (bif_some h3).2
theorem mrel_sub {N B : Nat → Prop} {w : World} {φ : Phi} {m m2 : Mem} (hm : MRel N B w φ m) (hl : m2.length = m.length) (hs : ∀ (i : Nat) o, m2[i]? = some o → live o = true → m[i]? = some o) : MRel N B w φ m2 :=
  ⟨by rw [hm.len, hl], fun k b tot cnt o h ho lo => hm.objs k b tot cnt o h (hs k o ho lo) lo, hm.bd, fun i j o p x y b hi hj lo lp => hm.apart i j o p x y b (hs i o hi lo) (hs j p hj lp) lo lp, hm.gl⟩
theorem skipX {e : EntX} {avs : List AV} {m : Mem} {x : AV} {m' : Mem} {b : Bool} {N B : Nat → Prop} {w : World} {φ : Phi} (hm : MRel N B w φ m) (h : e.ent.runG false avs m = some (x, m', b)) : ∃ φ', Tr N B φ w φ' w ∧ MRel N B w φ' m' := by
  obtain ⟨k, hk, h2⟩ := obind (show (arK e.A avs).bind _ = _ from h)
  split at h2
  rotate_left
  · cases h2
  rename_i pn0 l n hmk
  obtain ⟨m1, ht1, h3⟩ := obind h2
  obtain ⟨⟨y, bx⟩, hr1, h4⟩ := obind h3
  obtain ⟨⟨rv, rm⟩, hgv, h5⟩ := omap h4
  simp only [Prod.mk.injEq] at h5
  obtain ⟨rfl, rfl, rfl⟩ := h5
  simp only [cond_false] at hgv
  obtain ⟨g1, g2⟩ := takeX_sub e.A avs _ ht1
  have hkm : k < m.length := (List.getElem?_eq_some_iff.1 hmk).1
  have hm1 : MRel N B w φ (m1.set k (.arena pn0 l n)) := mrel_sub hm (by simp [g1]) fun i o hi lo => by
    rw [List.getElem?_set] at hi
    by_cases hki : k = i
    · subst hki
      rw [if_pos rfl, if_pos (by rw [g1]; simpa using hkm)] at hi
      cases hi; exact hmk
    · rw [if_neg hki] at hi
      have := g2 i o hi lo
      rwa [List.getElem?_set_ne hki] at this
  have resok : ∀ (R : RX) (y : R.den), giveX k (m1.set k (.arena pn0 l n)) R y = some (rv, rm) → ∃ φ', Tr N B φ w φ' w ∧ MRel N B w φ' rm := fun R y hgv => by
    cases R with
    | flat R =>
      simp only [giveX] at hgv
      obtain ⟨_, hgv⟩ := bif_some hgv
      simp only [Option.some.injEq, Prod.mk.injEq] at hgv
      obtain ⟨_, rfl⟩ := hgv
      exact ⟨φ, Tr.refl _ _ _ _, hm1⟩
    | nd =>
      simp only [giveX, Option.some.injEq, Prod.mk.injEq] at hgv
      obtain ⟨_, rfl⟩ := hgv
      exact ⟨φ, Tr.refl _ _ _ _, hm1⟩
    | own T =>
      simp only [giveX, Option.some.injEq, Prod.mk.injEq] at hgv
      obtain ⟨_, rfl⟩ := hgv
      exact ⟨_, (mrel_phantom hm1 (.row T y)).1, (mrel_phantom hm1 (.row T y)).2⟩
  exact resok e.R _ hgv

theorem arAt_wf {w : World} {b : Nat} {ex : List Nat} {l : List Nd} {n : Int} {cells : Array Value} (h : ArAt w b ex l n cells) : AWf (l, n) := by
  have nd : ∀ {f : Nat → Option Value} {x : Nd}, NdAt (b :: ex) f x → (∀ j, x.c0 = some j → j < l.length) ∧ (∀ j, x.c1 = some j → j < l.length) ∧ -9223372036854775808 ≤ x.val ∧ x.val ≤ 9223372036854775807 := fun {f x} hx => by
    have pt : ∀ {o : Option Nat} {v : Value}, NPtr (b :: ex) o v → ∀ j, o = some j → j < l.length := fun {o v} hp j hj => by
      subst hj
      obtain ⟨c, hc, _⟩ := hp
      have := (List.getElem?_eq_some_iff.1 hc).1
      rw [h.len]; simpa using this
    obtain ⟨v0, _, h0⟩ := hx.c0
    obtain ⟨v1, _, h1⟩ := hx.c1
    exact ⟨pt h0, pt h1, hx.inr.1, hx.inr.2⟩
  refine ⟨by show 0 < l.length; rw [h.len]; omega, fun x hx => ?_, h.inr.1, h.inr.2⟩
  obtain ⟨i, hi⟩ := List.getElem?_of_mem hx
  cases i with
  | zero => exact nd (h.root x hi)
  | succ i =>
    have hil := (List.getElem?_eq_some_iff.1 hi).1
    have hlt : i < ex.length := by rw [h.len] at hil; omega
    obtain ⟨cs, e, _, _, h2⟩ := h.at_ i x _ hi (List.getElem?_eq_getElem hlt)
    exact nd h2

/-! ### What such a call leaves alone -/
theorem ownA_other {T : Sch} {v : AV} {m : Mem} {y : List T.den × Mem × Bool} (hy : ownA T m v = some y) {q : Nat} (hq : q ∉ refsV v) : y.2.1[q]? = m[q]? := by
  unfold ownA at hy
  split at hy
  · cases hy; rfl
  · have h1 := (bif_some hy).2
    have hq' : q ≠ _ := fun e => hq (by simp only [refsV]; exact List.mem_singleton.2 e)
    split at h1
    · obtain ⟨_, _, rfl⟩ := omap h1; exact set_other hq'
    · obtain ⟨_, _, rfl⟩ := omap (bif_some h1).2; exact set_other hq'
    · cases h1
  · cases hy
theorem takeX_other {k : Nat} : ∀ (A : List VX) (avs : List AV) (m : Mem) {m1 : Mem}, takeX k m A avs = some m1 → ∀ {q : Nat}, q ∉ refsVs avs → m1[q]? = m[q]?
  | [], [], m, m1, h, q, _ => by simp only [takeX, Option.some.injEq] at h; subst h; rfl
  | [], _ :: _, m, m1, h, _, _ => by simp [takeX] at h
  | a :: A, [], m, m1, h, _, _ => by cases a <;> simp [takeX] at h
  | .p t :: A, v :: avs, m, m1, h, q, hq => takeX_other A avs m (by simpa only [takeX] using h) fun hc => hq (by simp only [refsVs]; exact List.mem_append_right _ hc)
  | .own T :: A, v :: avs, m, m1, h, q, hq => by
    simp only [takeX] at h
    obtain ⟨y, hy, h1⟩ := obind h
    rw [takeX_other A avs _ h1 fun hc => hq (by simp only [refsVs]; exact List.mem_append_right _ hc)]
    exact ownA_other hy fun hc => hq (by simp only [refsVs]; exact List.mem_append_left _ hc)
  | .nil :: A, v :: avs, m, m1, h, q, hq => by
    obtain rfl := nilX h
    exact takeX_other A avs m (by simpa only [takeX] using h) fun hc => hq (by simp only [refsVs]; exact List.mem_append_right _ hc)
  | .ar :: A, v :: avs, m, m1, h, q, hq => takeX_other A avs m (arX h).2 fun hc => hq (by simp only [refsVs]; exact List.mem_append_right _ hc)
  | .nd :: A, v :: avs, m, m1, h, q, hq => by
    simp only [takeX] at h
    obtain ⟨_, _, h3⟩ := obind h
    exact takeX_other A avs m (bif_some h3).2 fun hc => hq (by simp only [refsVs]; exact List.mem_append_right _ hc)
theorem arK_mem {k : Nat} : ∀ (A : List VX) (avs : List AV), arK A avs = some k → k ∈ refsVs avs
  | [], avs, h => by cases avs <;> simp [arK] at h
  | .ar :: A, avs, h => by
    unfold arK at h
    split at h <;> first | (rename_i e1 e2; cases e1; done) | skip
    all_goals first | (rename_i e1; cases e1; done) | (cases h; simp [refsVs, refsV]; done) | (cases h; done)
  | .nd :: A, [], h => by simp [arK] at h
  | .nd :: A, v :: avs, h => by
    simp only [arK] at h
    obtain ⟨q, hq, rfl⟩ := omap h
    simp only [refsVs]
    refine List.mem_append_left _ ?_
    unfold ndK at hq
    split at hq <;> first | (cases hq; simp [refsV]; done) | (cases hq; done)
  | .p t :: A, [], h => by simp [arK] at h
  | .own t :: A, [], h => by simp [arK] at h
  | .nil :: A, [], h => by simp [arK] at h
  | .p t :: A, v :: avs, h => by simp only [refsVs]; exact List.mem_append_right _ (arK_mem A avs (by simpa only [arK] using h))
  | .own t :: A, v :: avs, h => by simp only [refsVs]; exact List.mem_append_right _ (arK_mem A avs (by simpa only [arK] using h))
  | .nil :: A, v :: avs, h => by simp only [refsVs]; exact List.mem_append_right _ (arK_mem A avs (by simpa only [arK] using h))
theorem keepX (e : EntX) : KeepsM e.ent := fun g avs m x m' b hr l hl q hq hx => by
  have hl : some (refsVs avs) = some l := hl
  cases hl
  have main : ∀ {h : Arn → VXs.den e.A → Arn}, ((arK e.A avs).bind fun k => match m[k]? with
      | some (.arena pn l n) => (takeX k (m.set k .dead) e.A avs).bind fun m1 => (readX m1 (m.set k .dead) e.A avs).bind fun x =>
        (giveX k (m1.set k (.arena pn (h (l, n) x.1).1 (h (l, n) x.1).2)) e.R (e.g (l, n) x.1)).map fun r => (r.1, r.2, x.2 && e.pre (l, n) x.1)
      | _ => none) = some (x, m', b) → m'[q]? = m[q]? := fun {h} hr => by
    obtain ⟨k, hk, h2⟩ := obind hr
    split at h2
    rotate_left
    · cases h2
    rename_i pn0 ll n hmk
    obtain ⟨m1, ht1, h3⟩ := obind h2
    obtain ⟨y, hr1, h4⟩ := obind h3
    obtain ⟨⟨rv, rm⟩, hgv, h5⟩ := omap h4
    simp only [Prod.mk.injEq] at h5
    obtain ⟨rfl, rfl, rfl⟩ := h5
    have hqk : q ≠ k := fun e' => hq (by subst e'; exact arK_mem _ _ hk)
    have e1 : (m1.set k (.arena pn0 (h (ll, n) y.1).1 (h (ll, n) y.1).2))[q]? = m[q]? := by
      rw [set_other hqk, takeX_other _ _ _ ht1 hq, set_other hqk]
    have fin : ∀ (R : RX) (z : R.den) (mm : Mem), mm[q]? = m[q]? → giveX k mm R z = some (rv, rm) → rm[q]? = m[q]? := fun R z mm hmm hg => by
      cases R with
      | flat R =>
        simp only [giveX] at hg
        have := (bif_some hg).2
        cases this; exact hmm
      | nd => simp only [giveX] at hg; cases hg; exact hmm
      | own T =>
        simp only [giveX] at hg
        cases hg
        rw [snoc_other]
        · exact hmm
        · have := hx _ rfl
          simpa using this
    exact fin e.R _ _ e1 hgv
  cases g with
  | none => exact main (h := e.h) hr
  | some t => exact main (h := fun ln x => (cond t (e.h ln x).1 ln.1, cond t (e.h ln x).2 ln.2)) hr

/-- Fit to be handed back. -/
def okR : RX → Bool
  | .own T => flatS T
  | _ => true

set_option maxHeartbeats 1000000 in
theorem soundX (hmx : P.follows .mixedOrders = true) (hΓ : Sound P Γ) {tbl : Tbl} {e : EntX} {fn : Func} {c : AFunc} (hf : P.funcs[e.f]? = some fn) (hname : (fn.name == "runtime.NumGoroutine") = false) (hc : compF P ms fn = some c.strip) (hl : TblOk tbl c.body)
    (hn : e.A.length ≤ c.ntmps) (hR : okR e.R = true) (hev : ∀ pn ln x, AWf ln → VXs.wf e.A x → e.pre ln x = true → evX Γ (Lfp Γ tbl) c e.A pn ln x e.R fun y => y = (e.g ln x, e.h ln x, pn)) : SoundM P e.ent := by
  obtain ⟨code, hb, hcode, hres, hnt, _⟩ := compF_inv hc
  refine ⟨⟨fn, hf, hname, by rw [hb]; rfl⟩, fun avs m xv m' hrun N B w φ vs hN hm hB hl2 => ?_, fun t avs m xv m' b hr => ⟨fun ht => by subst ht; exact hr, fun ht N B w φ hm => by subst ht; exact skipX hm hr⟩, keepX e⟩
  have hnt' : c.ntmps = fn.ntmps := hnt
  have hres : cRes P fn.results.toList = some c.res := hres
  obtain ⟨k, hk, h2⟩ := obind (show (arK e.A avs).bind _ = _ from hrun)
  split at h2
  rotate_left
  · cases h2
  rename_i pn0 l n hmk
  obtain ⟨m1, ht1, h3⟩ := obind h2
  obtain ⟨⟨x, bx⟩, hr1, h4⟩ := obind h3
  obtain ⟨⟨rv, rm⟩, hgv, h5⟩ := omap h4
  simp only [Prod.mk.injEq, Bool.and_eq_true] at h5
  obtain ⟨rfl, rfl, rfl, hpre⟩ := h5
  simp only at hgv
  obtain ⟨b, tot, cnt, hφ⟩ := arX_real e.A hk ht1 hr1 hl2
  have hkm : k < m.length := (List.getElem?_eq_some_iff.1 hmk).1
  have hmd : MRel N B w φ (m.set k .dead) := mrel_dead hm k
  have hm1 : MRel N B w φ m1 := takeX_mrel e.A avs _ hmd ht1
  have hdead : ∀ o, m1[k]? = some o → live o = false := takeX_dead e.A avs _ (fun o h => by
    rw [List.getElem?_set_self hkm] at h; cases h; rfl) ht1
  have hawf : AWf (l, n) := by
    obtain ⟨cs, ee, _, _, hc3, _⟩ := hm.cells k b tot cnt _ hφ hmk rfl
    exact arAt_wf hc3.2
  -- the tree given up, its pin set
  have htk0 := (Took.start N w φ m).push hm hmk rfl (o2 := .arena (some (b, cnt.ex)) l n) rfl (fun b' tot' cnt' cs hφ' hcc M ψ' _ _ => by
    rw [hφ] at hφ'; cases hφ'
    exact ⟨fun b1 e1 h1 => by cases h1; exact ⟨rfl, [], by simp⟩, hcc.2⟩)
  have hpl : (φ[k]?).bind id = some (b, tot, cnt) := by rw [hφ]; rfl
  rw [hpl] at htk0
  simp only [List.nil_append] at htk0
  obtain ⟨ψ, hψE, htk, hslots⟩ := took_allX (tm := fun t => (frame0 fn.ntmps vs).tmps.getD t undef) (i := 0) (s := []) hm hm1 hφ e.A htk0 rfl ht1 hr1 hl2 fun j v hj => by
    rw [Nat.zero_add]; exact frame0_at hj
  have hψ0 : ψ[0]? = some (some (b, tot, cnt)) := hψE 0 _ rfl
  obtain ⟨hmc, hK⟩ := took_mrel hm htk
  have hS := hslots (Nof (Nc N w φ m1 ψ) ψ) (fun y v h => h.mono hK) fun t => ⟨rfl, .junk⟩
  have hlen : vs.length ≤ fn.ntmps := by rw [← lrel_len hl2, takeX_len ht1]; omega
  refine calls_of_wp hf hb ?_
  have hNc : ∀ b, ¬ (baseC w ψ).B b → Nc N w φ m1 ψ b := fun b hb => by
    by_cases hlt : b < w.heap.size
    · exact .inr (.inl (Classical.byContradiction fun hno => hb ⟨hlt, hno⟩))
    · exact .inr (.inr (by omega))
  refine evC_ok (N := Nc N w φ m1 ψ) (wb := baseC w ψ) (n := fn.ntmps) hmx hΓ hNc code c.body hcode hl (φ := ψ) (a := frame0 fn.ntmps vs) (st := startX 0 e.A x ⟨[], [.arena (some (b, cnt.ex)) l n]⟩) ⟨fun t => (hS t).1, fun t => (hS t).2, hmc, Bel.refl _ _, ?_, rfl⟩ (hev (b, cnt.ex) (l, n) x hawf (readX_wf hm1 e.A ht1 hr1 hl2) hpre) fun o a w' φ' st h hko => ?_
  · simp [frame0]; omega
  have fin : kDoneX c (posX 0 e.A) e.R (fun y => y = (e.g (l, n) x, e.h (l, n) x, (b, cnt.ex))) .norm st → a.defers = [] ∧ ∃ v, (results fn a.tmps).run P w' = .ok v w' ∧ ∃ v', Ending.returned v = .returned v' ∧ Post N B φ w rm rv v' w' := fun hr => by
    simp only [kDoneX] at hr
    split at hr
    rotate_left
    · exact hr.elim
    rename_i va hva
    split at hr
    rotate_left
    · exact hr.elim
    rename_i q hq
    split at hr
    rotate_left
    · exact hr.elim
    rename_i y hy
    obtain ⟨q, ⟨l', n'⟩, pn'⟩ := q
    simp only [Prod.mk.injEq] at hr
    obtain ⟨rfl, hh, rfl⟩ := hr
    -- where the tree lies at the end
    have hvr := h.slots (posX 0 e.A)
    rw [hva] at hvr
    simp only at hvr hy
    have hq2 : st.m[q]? = some (.arena (some (b, cnt.ex)) l' n') ∧ ∃ b1 tot1 cnt1, φ'[q]? = some (some (b1, tot1, cnt1)) := by
      unfold arOf at hq
      split at hq
      · split at hq
        · rename_i hmq
          simp only [Option.some.injEq, Prod.mk.injEq] at hq
          obtain ⟨rfl, ⟨rfl, rfl⟩, rfl⟩ := hq
          refine ⟨hmq, ?_⟩
          generalize a.tmps.getD (posX 0 e.A) undef = u at hvr
          cases hvr with
          | ptr hx => exact ⟨_, _, _, hx⟩
        · cases hq
      · split at hq
        · rename_i hmq
          simp only [Option.some.injEq, Prod.mk.injEq] at hq
          obtain ⟨rfl, ⟨rfl, rfl⟩, rfl⟩ := hq
          refine ⟨hmq, ?_⟩
          generalize a.tmps.getD (posX 0 e.A) undef = u at hvr
          cases hvr with
          | nd hx _ => exact ⟨_, _, _, hx⟩
        · cases hq
      · cases hq
    obtain ⟨hmq, b1, tot1, cnt1, hφq⟩ := hq2
    obtain ⟨cs, ee, hc1, hc2, hc3, hc4⟩ := h.mem.cells q b1 tot1 cnt1 _ hφq hmq rfl
    obtain ⟨rfl, more, hmore⟩ := hc3.1 b cnt.ex rfl
    obtain ⟨cs0, ee0, hd1, hd2, hd3, hd4⟩ := hm.cells k b1 tot cnt _ hφ hmk rfl
    have htot : tot1 = tot := by rw [← hc2, ← hd2, hc3.2.csz, hd3.2.csz]
    subst htot
    have hn0 : cnt.n = 0 := Nat.le_zero.1 hd4
    have hn1 : cnt1.n = 0 := Nat.le_zero.1 hc4
    have hcnt : cnt1 = ⟨cnt.n, cnt.ex ++ more⟩ := by
      obtain ⟨c1, c2⟩ := cnt1
      simp only at hmore hn1
      rw [hmore, hn1, hn0]
    subst hcnt
    have hyB : ∀ d, foot (b1, tot1, (⟨cnt.n, cnt.ex ++ more⟩ : Cnt)) d → ¬ (baseC w ψ).B d ∧ d < w'.heap.size := fun d hd => h.mem.bd q _ d hφq hd
    have hyC : ∀ ψ' : Phi, ∃ cs e, w'.heap[b1]? = some (.cells cs e (0, 0)) ∧ cs.size = tot1 ∧ cnt.n ≤ cntO (MObj.arena pn0 l' n') ∧ ∀ (M : Nat → Prop), OCont M w' ψ' b1 (cnt.ex ++ more) (.arena pn0 l' n') cs := fun ψ' =>
      ⟨cs, ee, hc1, hc2, by rw [hn0]; exact Nat.zero_le _, fun M => ⟨fun b2 e2 h2 => ⟨(hd3.1 b2 e2 h2).1, let ⟨r, hr⟩ := (hd3.1 b2 e2 h2).2; ⟨r ++ more, by rw [hr, List.append_assoc]⟩⟩, hc3.2⟩⟩
    have hh1 : (e.h (l, n) x).1 = l' := congrArg Prod.fst hh.symm
    have hh2 : (e.h (l, n) x).2 = n' := congrArg Prod.snd hh.symm
    rw [hh1, hh2] at hgv
    have hlm : m1.length = φ.length := by rw [htk.mlen, hm.len]
    have hkφ : k < φ.length := (List.getElem?_eq_some_iff.1 hφ).1
    have none_ : Tr N B φ w (φ.set k (some (b1, tot1, ⟨cnt.n, cnt.ex ++ more⟩))) w' ∧ MRel N B w' (φ.set k (some (b1, tot1, ⟨cnt.n, cnt.ex ++ more⟩))) (m1.set k (.arena pn0 l' n')) := by
      obtain ⟨g1, g2⟩ := took_put (z := none) hm hB htk h.below hφ hyB (hyC _) (o := .dead) (fun _ _ _ h => by cases h)
      exact mrel_drop g1 g2 (by simp [hlm]) (by simp)
    have hφk2 : (φ.set k (some (b1, tot1, (⟨cnt.n, cnt.ex ++ more⟩ : Cnt))))[k]? = some (some (b1, tot1, ⟨cnt.n, cnt.ex ++ more⟩)) := List.getElem?_set_self hkφ
    -- the result
    have resok : ∀ (R : RX) (y : R.den), okR R = true → backX st q R c.res = some y → giveX k (m1.set k (.arena pn0 l' n')) R y = some (rv, rm) →
        ∃ v, (results fn a.tmps).run P w' = .ok v w' ∧ ∃ v', Ending.returned v = .returned v' ∧ Post N B φ w rm rv v' w' := fun R y hRk hy hgv => by
      cases R with
      | flat R =>
        simp only [giveX] at hgv
        obtain ⟨hfl, hgv⟩ := bif_some hgv
        simp only [Option.some.injEq, Prod.mk.injEq] at hgv
        obtain ⟨rfl, rfl⟩ := hgv
        simp only [backX] at hy
        obtain ⟨xs, hxs, hd⟩ := obind hy
        obtain ⟨v, h1, h2⟩ := results_ok hNc h hres hxs
        exact ⟨v, h1, v, rfl, _, none_.1, none_.2, .f (flat_any _ _ (flat_out hfl) (out_dec hd h2))⟩
      | nd =>
        simp only [giveX, Option.some.injEq, Prod.mk.injEq] at hgv
        obtain ⟨rfl, rfl⟩ := hgv
        obtain ⟨n2, v, hrs, hv, hy⟩ := backX_nd hy
        rw [hrs] at hres
        have hvr2 := h.slots n2
        rw [hv] at hvr2
        refine ⟨_, res_one hres _ _, _, rfl, _, none_.1, none_.2, ?_⟩
        have hp := asNd_ok hφq hvr2 hy
        exact .ndo (fun _ => ⟨b1, tot1, _, hφk2, hp⟩) fun e0 => by
          have e1 : y = none := e0
          subst e1; exact hp
      | own T =>
        simp only [giveX, Option.some.injEq, Prod.mk.injEq] at hgv
        obtain ⟨rfl, rfl⟩ := hgv
        obtain ⟨n2, v, hrs, hv, hy⟩ := backX_own hy
        rw [hrs] at hres
        have hvr2 := h.slots n2
        rw [hv] at hvr2
        obtain ⟨A, cc, z, hbk1, hbk2⟩ := back_ok h.mem hRk hy hvr2
        have hput := took_put (z := z) hm hB htk h.below hφ hyB (hyC _) (o := .row T y) fun b2 tot2 cnt2 hz => by
          obtain ⟨k2, o2, y2, hvs, g1, g2, _, cnt', g3⟩ := hbk2 b2 tot2 cnt2 hz
          obtain ⟨_, _, e3, cs3, ee3, e4, e5, e6⟩ := hbk1.at_ b2 tot2 cnt2 hz
          have hbd := h.mem.bd k2 _ b2 g3 (foot_self ..)
          have hne : k2 ≠ q := fun e => by
            subst e; subst hvs
            exact backO_row hy hmq
          refine ⟨hbd.1, hbd.2, by rw [e3], fun hft => ?_, cs3, ee3, e4, e5, by rw [e3]; exact Nat.le_refl _, e6⟩
          exact hne (h.mem.apart k2 q o2 _ _ _ b2 g1 hmq g2 rfl g3 hφq (foot_self ..) hft)
        refine ⟨_, res_one hres _ _, _, rfl, _, hput.1, hput.2, hbk1.vrel ?_⟩
        rw [List.getElem?_append_right (by simp [hlm])]
        simp [hlm]
    exact ⟨h.defers, resok e.R _ hR hy hgv⟩
  cases o with
  | norm => exact fin hko
  | ret => exact fin (by simp only [kDoneX] at hko ⊢; exact hko)
  | exit i => exact hko.elim

/-- The evaluation of such a function, closed to the elaborator's eye. -/
structure EvX (Γ : Env) (tbl : Tbl) (c : AFunc) (A : List VX) (pn : Nat × List Nat) (ln : Arn) (x : VXs.den A) (R : RX) (Q : R.den × Arn × (Nat × List Nat) → Prop) : Prop where
  out : evX Γ (Lfp Γ tbl) c A pn ln x R Q
theorem EvX.of {Γ : Env} {tbl : Tbl} {c : AFunc} {A : List VX} {pn : Nat × List Nat} {ln : Arn} {x : VXs.den A} {R : RX} {Q : R.den × Arn × (Nat × List Nat) → Prop} {p : Prop} (h : evX Γ (Lfp Γ tbl) c A pn ln x R Q = p) (hp : p) : EvX Γ tbl c A pn ln x R Q := ⟨h.mpr hp⟩
theorem sound_evX (hmx : P.follows .mixedOrders = true) (hΓ : Sound P Γ) {tbl : Tbl} {e : EntX} {fn : Func} {c : AFunc} (hf : P.funcs[e.f]? = some fn) (hname : (fn.name == "runtime.NumGoroutine") = false) (hc : compF P ms fn = some c.strip) (hl : TblOk tbl c.body)
    (hn : e.A.length ≤ c.ntmps) (hR : okR e.R = true) (hev : ∀ pn ln x, AWf ln → VXs.wf e.A x → e.pre ln x = true → EvX Γ tbl c e.A pn ln x e.R fun y => y = (e.g ln x, e.h ln x, pn)) : SoundM P e.ent :=
  soundX hmx hΓ hf hname hc hl hn hR fun pn ln x z a b => (hev pn ln x z a b).out
/-- The tree is left as it is. -/
theorem soundR {e : EntX} (h : SoundM P e.ent) (hh : ∀ ln x, e.h ln x = ln) : SoundM P e.rent := by
  refine ⟨h.1, h.2.1, fun t avs m xv m' b hr => ⟨fun _ => hr, fun _ N B w φ hm => ?_⟩, fun g avs m x m' b hr => h.2.2.2 none avs m x m' b (by cases g <;> exact hr)⟩
  have : e.ent.runG false avs m = some (xv, m', b) := by
    rw [← show e.ent.run avs m = some (xv, m', b) from hr]
    show (arK e.A avs).bind _ = (arK e.A avs).bind _
    congr 1
    funext k
    cases m[k]? with
    | none => rfl
    | some o =>
      cases o with
      | arena pn l n => simp only [hh, cond_false]
      | _ => rfl
  exact skipX hm this

theorem gX_law {e : EntX} (t : Bool) (avs : List AV) (m : Mem) (xv : AV) (m' : Mem) (b : Bool) (hr : e.ent.runG t avs m = some (xv, m', b)) : (t = true → e.ent.run avs m = some (xv, m', b)) ∧
    (t = false → ∀ (N B : Nat → Prop) (w : World) (φ : Phi), MRel N B w φ m → ∃ φ', Tr N B φ w φ' w ∧ MRel N B w φ' m') :=
  ⟨fun ht => by subst ht; exact hr, fun ht N B w φ hm => by subst ht; exact skipX hm hr⟩
theorem runX_pre {e : EntX} {avs : List AV} {m : Mem} {xv : AV} {m' : Mem} (hr : e.ent.run avs m = some (xv, m', true)) : ∃ ln x, e.pre ln x = true := by
  obtain ⟨k, hk, h2⟩ := obind (show (arK e.A avs).bind _ = _ from hr)
  split at h2
  · obtain ⟨m1, ht1, h3⟩ := obind h2
    obtain ⟨x, hr1, h4⟩ := obind h3
    obtain ⟨r, _, h5⟩ := omap h4
    simp only [Prod.mk.injEq, Bool.and_eq_true] at h5
    exact ⟨_, _, h5.2.2.2⟩
  · cases h2
theorem soundR_of {e : EntX} (h : SoundM P e.rent) : SoundM P e.ent := ⟨h.1, h.2.1, gX_law, keepX e⟩
/-- A contract without a premise that can hold. -/
theorem soundX0 {e : EntX} (hb : HasBody P e.f) (hp : ∀ ln x, e.pre ln x = false) : SoundM P e.ent :=
  ⟨hb, fun avs m x m' hr => (by obtain ⟨ln, y, h⟩ := runX_pre hr; rw [hp] at h; cases h), gX_law, keepX e⟩
/-- A narrower premise. -/
theorem soundX_sub {e : EntX} {p' : Arn → VXs.den e.A → Bool} {g' : Arn → VXs.den e.A → e.R.den} (h : SoundM P (EntX.ent { e with pre := p', g := g' })) (hp : ∀ ln x, e.pre ln x = true → p' ln x = true) (hg : ∀ ln x, g' ln x = e.g ln x) : SoundM P e.ent := by
  have hg' : g' = e.g := by funext ln x; exact hg ln x
  subst hg'
  refine ⟨h.1, fun avs m xv m' hr => h.2.1 avs m xv m' ?_, gX_law, keepX e⟩
  obtain ⟨k, hk, h2⟩ := obind (show (arK e.A avs).bind _ = _ from hr)
  show (arK e.A avs).bind _ = _
  rw [hk]
  simp only [Option.bind_some]
  split at h2
  · rename_i pn l n hmk
    obtain ⟨m1, ht1, h3⟩ := obind h2
    obtain ⟨x, hr1, h4⟩ := obind h3
    obtain ⟨r, hr2, h5⟩ := omap h4
    simp only [Prod.mk.injEq, Bool.and_eq_true] at h5
    obtain ⟨h5, h6, h7, h8⟩ := h5
    simp only [ht1, hr1, Option.bind_some, hr2, Option.map_some, h5, h6, h7, hp _ _ h8, Bool.and_self]
  · cases h2

set_option maxHeartbeats 1000000 in
/-- The law of a function that hands back a new tree. -/
theorem soundN (hmx : P.follows .mixedOrders = true) (hΓ : Sound P Γ) {tbl : Tbl} {e : EntN} {fn : Func} {c : AFunc} (hf : P.funcs[e.f]? = some fn) (hname : (fn.name == "runtime.NumGoroutine") = false) (hc : compF P ms fn = some c.strip) (hl : TblOk tbl c.body)
    (hn : e.A.length ≤ c.ntmps) (hio : noIo e.A = true) (hev : ∀ x, VOs.wf e.A x → e.pre x = true → evN Γ (Lfp Γ tbl) c e.A x fun y => y = e.g x) : SoundM P e.ent := by
  obtain ⟨code, hb, hcode, hres, hnt, _⟩ := compF_inv hc
  refine ⟨⟨fn, hf, hname, by rw [hb]; rfl⟩, fun avs m xv m' hrun N B w φ vs hN hm hB hl2 => ?_, (fun _ _ _ _ _ _ h => by cases h), KeepsM.none fun _ => rfl⟩
  have hnt' : c.ntmps = fn.ntmps := hnt
  obtain ⟨m1, ht1, h2⟩ := obind (show (takeO m e.A avs).bind _ = _ from hrun)
  obtain ⟨x, hr1, h3⟩ := omap h2
  obtain ⟨x, b⟩ := x
  simp only [Prod.mk.injEq, Bool.and_eq_true] at h3
  obtain ⟨rfl, rfl, rfl, hpre⟩ := h3
  have hm1 : MRel N B w φ m1 := by
    have : ∀ (A : List VO) (avs : List AV) (m : Mem), noIo A = true → MRel N B w φ m → ∀ {m1}, takeO m A avs = some m1 → MRel N B w φ m1 := fun A => by
      induction A with
      | nil => intro avs m _ hm m1 h; cases avs <;> simp [takeO] at h; subst h; exact hm
      | cons a A ih =>
        intro avs m hio hm m1 h
        cases avs with
        | nil => cases a <;> simp [takeO] at h
        | cons v vs =>
          cases a with
          | p t => exact ih vs m (by simpa [noIo] using hio) hm (by simpa only [takeO] using h)
          | nil =>
            unfold takeO at h
            split at h
            all_goals first | (rename_i he1 he2; cases he1; done) | skip
            all_goals first | (rename_i h1 h2; cases h1; cases h2; exact ih _ m (by simpa [noIo] using hio) hm h) | simp_all
          | own T =>
            simp only [takeO] at h
            obtain ⟨y, hy, h1⟩ := obind h
            exact ih vs y.2.1 (by simpa [noIo] using hio) (ownA_mrel hm hy) h1
          | io T => simp [noIo] at hio
    exact this e.A avs m hio hm ht1
  obtain ⟨ψ, _, htk, hslots⟩ := took_all (tm := fun t => (frame0 fn.ntmps vs).tmps.getD t undef) (b0 := 0) (i := 0) (s := []) hm hm1 e.A hio (Took.start N w φ m) ht1 hr1 hl2 fun j v hj => by
    rw [Nat.zero_add]; exact frame0_at hj
  obtain ⟨hmc, hK⟩ := took_mrel hm htk
  have hS := hslots (Nof (Nc N w φ m1 ψ) ψ) (fun y v h => h.mono hK) fun t => ⟨rfl, .junk⟩
  have hlen : vs.length ≤ fn.ntmps := by rw [← lrel_len hl2, takeO_len ht1]; omega
  refine calls_of_wp hf hb ?_
  refine evC_ok (N := Nc N w φ m1 ψ) (wb := baseC w ψ) (n := fn.ntmps) hmx hΓ (fun b hb => ?_) code c.body hcode hl (φ := ψ) (a := frame0 fn.ntmps vs) (st := startO 0 0 e.A x ⟨[], []⟩) ⟨fun t => (hS t).1, fun t => (hS t).2, hmc, Bel.refl _ _, ?_, rfl⟩ (hev x (readO_wf hm1 e.A hr1 hl2) hpre) fun o a w' φ' st h hk => ?_
  · by_cases hlt : b < w.heap.size
    · exact .inr (.inl (Classical.byContradiction fun hno => hb ⟨hlt, hno⟩))
    · exact .inr (.inr (by omega))
  · simp [frame0]; omega
  have fin : kDoneN c (fun y => y = e.g x) .norm st → a.defers = [] ∧ ∃ v, (results fn a.tmps).run P w' = .ok v w' ∧ ∃ v', Ending.returned v = .returned v' ∧ Post N B φ w (m1 ++ [.arena none (e.g x).1 (e.g x).2]) (.ptr m1.length 0) v' w' := fun hr => by
    simp only [kDoneN] at hr
    split at hr
    · rename_i n hrn
      have hres' : cRes P fn.results.toList = some [.t n] := by rw [← hrn]; exact hres
      split at hr
      · rename_i v hv
        split at hr
        · rename_i ln hbk
          subst hr
          have hvr := h.slots n
          rw [hv] at hvr
          have key : ∃ q b1 tot1 cnt1 o, v = .ptr q 0 ∧ φ'[q]? = some (some (b1, tot1, cnt1)) ∧ st.m[q]? = some o ∧ live o = true ∧ ∃ ex, (∀ c, foot (b1, tot1, (⟨cnt1.n, ex⟩ : Cnt)) c → foot (b1, tot1, cnt1) c) ∧ cnt1.n = 0 ∧
              ∃ cs ee, w'.heap[b1]? = some (.cells cs ee (0, 0)) ∧ cs.size = tot1 ∧ ∀ (M : Nat → Prop) (ψ' : Phi), OCont M w' ψ' b1 ex (.arena none (e.g x).1 (e.g x).2) cs := by
            unfold backN at hbk
            split at hbk
            rotate_left
            · cases hbk
            rename_i q
            have hreal : ∃ b1 tot1 cnt1, φ'[q]? = some (some (b1, tot1, cnt1)) := by
              generalize a.tmps.getD n undef = u at hvr
              cases hvr with
              | ptr hx => exact ⟨_, _, _, hx⟩
            obtain ⟨b1, tot1, cnt1, hφq⟩ := hreal
            split at hbk
            · rename_i p l' n' hmq
              obtain ⟨cs, ee, hc1, hc2, hc3, hc4⟩ := h.mem.cells q b1 tot1 cnt1 _ hφq hmq rfl
              have h0 : cnt1.n = 0 := Nat.le_zero.1 hc4
              refine ⟨q, b1, tot1, cnt1, _, rfl, hφq, hmq, rfl, cnt1.ex, fun c hc => hc, h0, cs, ee, hc1, hc2, fun M ψ' => ?_⟩
              have e1 : (e.g x) = (l', n') := (Option.some.inj hbk).symm
              rw [e1]
              exact ⟨fun _ _ h => (by cases h), hc3.2⟩
            · rename_i p hh vv nn hmq
              obtain ⟨cs, ee, hc1, hc2, hc3, hc4⟩ := h.mem.cells q b1 tot1 cnt1 _ hφq hmq rfl
              have h0 : cnt1.n = 0 := Nat.le_zero.1 hc4
              refine ⟨q, b1, tot1, cnt1, _, rfl, hφq, hmq, rfl, [], fun c hc => ?_, h0, cs, ee, hc1, hc2, fun M ψ' => ?_⟩
              · rcases hc with hc | hc
                · exact .inl hc
                · simp at hc
              have e1 : (e.g x) = ([⟨none, none, hh, vv⟩], nn) := (Option.some.inj hbk).symm
              rw [e1]
              obtain ⟨_, hsz, hcell⟩ := hc3
              have g0 : cs[0]? = some (.pointer none) := by
                obtain ⟨u, hu, _, hr⟩ := hcell 0 _ rfl
                cases hr with | f hr => cases hr; exact hu
              have g1 : cs[1]? = some (.pointer none) := by
                obtain ⟨u, hu, _, hr⟩ := hcell 1 _ rfl
                cases hr with | f hr => cases hr; exact hu
              have g2 : cs[2]? = some (.bool hh) := by
                obtain ⟨u, hu, _, hr⟩ := hcell 2 _ rfl
                cases hr with | f hr => cases hr; exact hu
              have g3 : cs[3]? = some (.int .i64 vv) ∧ inR .i64 vv := by
                obtain ⟨u, hu, _, hr⟩ := hcell 3 _ rfl
                cases hr with | f hr => cases hr with | int hin => exact ⟨hu, hin⟩
              have g4 : cs[4]? = some (.int .i64 nn) ∧ inR .i64 nn := by
                obtain ⟨u, hu, _, hr⟩ := hcell 4 _ rfl
                cases hr with | f hr => cases hr with | int hin => exact ⟨hu, hin⟩
              refine ⟨fun _ _ h => (by cases h), hsz, g4.1, g4.2, rfl, by simp, fun d hd => ?_, fun i d cc hi hcc => by simp at hcc⟩
              simp only [List.getElem?_cons_zero, Option.some.injEq] at hd
              subst hd
              exact ⟨⟨_, g0, rfl⟩, ⟨_, g1, rfl⟩, g2, g3.1, g3.2⟩
            · cases hbk
          obtain ⟨q, b1, tot1, cnt1, o, rfl, hφq, hmq, hlo, ex, hft, h0, cs, ee, hc1, hc2, hc3⟩ := key
          have hput := took_new hm hB htk h.below (b := b1) (tot := tot1) (cnt := ⟨cnt1.n, ex⟩) (o := .arena none (e.g x).1 (e.g x).2) (fun c hc => h.mem.bd q _ c hφq (hft c hc)) ⟨cs, ee, hc1, hc2, by rw [h0]; exact Nat.zero_le _, hc3⟩
          refine ⟨h.defers, _, res_one hres' _ _, _, rfl, _, hput.1, hput.2, ?_⟩
          generalize a.tmps.getD n undef = u at hvr
          cases hvr with
          | @ptr _ _ b2 tot2 cnt2 hx =>
            rw [hφq] at hx; cases hx
            exact .ptr (tot := tot1) (cnt := ⟨cnt1.n, ex⟩) (by rw [htk.mlen, ← hm.len]; simp)
        · exact hr.elim
      · exact hr.elim
    · exact hr.elim
  cases o with
  | norm => exact fin hk
  | ret => exact fin (by simp only [kDoneN] at hk ⊢; exact hk)
  | exit i => exact hk.elim
structure EvN (Γ : Env) (tbl : Tbl) (c : AFunc) (A : List VO) (x : VOs.den A) (Q : Arn → Prop) : Prop where
  out : evN Γ (Lfp Γ tbl) c A x Q
theorem EvN.of {Γ : Env} {tbl : Tbl} {c : AFunc} {A : List VO} {x : VOs.den A} {Q : Arn → Prop} {p : Prop} (h : evN Γ (Lfp Γ tbl) c A x Q = p) (hp : p) : EvN Γ tbl c A x Q := ⟨h.mpr hp⟩
theorem sound_evN (hmx : P.follows .mixedOrders = true) (hΓ : Sound P Γ) {tbl : Tbl} {e : EntN} {fn : Func} {c : AFunc} (hf : P.funcs[e.f]? = some fn) (hname : (fn.name == "runtime.NumGoroutine") = false) (hc : compF P ms fn = some c.strip) (hl : TblOk tbl c.body)
    (hn : e.A.length ≤ c.ntmps) (hio : noIo e.A = true) (hev : ∀ x, VOs.wf e.A x → e.pre x = true → EvN Γ tbl c e.A x fun y => y = e.g x) : SoundM P e.ent :=
  soundN hmx hΓ hf hname hc hl hn hio fun x a b => (hev x a b).out
end
end Go.AM
