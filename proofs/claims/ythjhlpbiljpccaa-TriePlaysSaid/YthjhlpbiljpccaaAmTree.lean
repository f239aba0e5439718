/-
  Binary trees as lists of nodes: paths, what a table holds, the steps of the updates; the entries in order.
-/
import Derived.Test.YthjhlpbiljpccaaAmSet32
import Derived.Test.YthjhlpbiljpccaaAmOwnI
namespace Go.AM

def Nd.cb (x : Nd) (b : Bool) : Option Nat := bif b then x.c1 else x.c0
abbrev ndAt (l : List Nd) (i : Nat) : Nd := l.getD i Nd.z
def bz (n : Int) : Bool := !decide (n = 0)
theorem ch_cb (x : Nd) (n : Int) : x.ch n = x.cb (bz n) := by
  unfold Nd.ch Nd.cb bz; cases decide (n = 0) <;> rfl
theorem put_cb (x : Nd) (n : Int) (o : Option Nat) (b : Bool) : (x.put n o).cb b = if b = bz n then o else x.cb b := by
  unfold Nd.put Nd.cb bz; cases decide (n = 0) <;> cases b <;> simp
theorem put_has (x : Nd) (n : Int) (o : Option Nat) : (x.put n o).has = x.has := by unfold Nd.put; cases decide (n = 0) <;> rfl
theorem put_val (x : Nd) (n : Int) (o : Option Nat) : (x.put n o).val = x.val := by unfold Nd.put; cases decide (n = 0) <;> rfl

/-- The node at the end of a path, its last step first. -/
def lok (l : List Nd) : List Bool → Option Nat
  | [] => some 0
  | b :: r => (lok l r).bind fun i => (ndAt l i).cb b
/-- What the table holds. -/
def tm (l : List Nd) (q : List Bool) : Option Int := (lok l q).bind fun i => bif (ndAt l i).has then some (ndAt l i).val else none

structure Gd (l : List Nd) : Prop where
  pos : 0 < l.length
  rng : ∀ q i, lok l q = some i → i < l.length
  inj : ∀ p q i, lok l p = some i → lok l q = some i → p = q

theorem look_cons {l : List Nd} {b : Bool} {r : List Bool} {k : Nat} (h : lok l (b :: r) = some k) : ∃ i, lok l r = some i ∧ (ndAt l i).cb b = some k := by
  simp only [lok] at h
  cases hr : lok l r with
  | none => rw [hr] at h; cases h
  | some i => rw [hr] at h; exact ⟨i, rfl, h⟩
theorem look_snoc {l : List Nd} {b : Bool} {r : List Bool} {i : Nat} (h : lok l r = some i) : lok l (b :: r) = (ndAt l i).cb b := by simp only [lok, h, Option.bind_some]
theorem ndAt_set_self {l : List Nd} {i : Nat} {x : Nd} (h : i < l.length) : ndAt (l.set i x) i = x := by simp [ndAt, h]
theorem ndAt_set_ne {l : List Nd} {i j : Nat} {x : Nd} (h : i ≠ j) : ndAt (l.set i x) j = ndAt l j := by simp [ndAt, h]

theorem ndAt_app {l : List Nd} {y : Nd} {j : Nat} (h : j < l.length) : ndAt (l ++ [y]) j = ndAt l j := by
  simp only [ndAt, List.getD, List.getElem?_append_left h]
theorem ndAt_last {l : List Nd} {y : Nd} {j : Nat} (h : j = l.length) : ndAt (l ++ [y]) j = y := by
  subst h; simp only [ndAt, List.getD, List.getElem?_append_right (Nat.le_refl _), Nat.sub_self, List.getElem?_cons_zero, Option.getD_some]

/-- The mark and the value of a node changed. -/
theorem look_mark {l : List Nd} (g : Gd l) {p : List Bool} {i : Nat} (hp : lok l p = some i) {x : Nd} (h0 : x.c0 = (ndAt l i).c0) (h1 : x.c1 = (ndAt l i).c1) (q : List Bool) : lok (l.set i x) q = lok l q := by
  induction q with
  | nil => rfl
  | cons b r ih =>
    simp only [lok, ih]
    congr 1
    funext j
    by_cases hj : i = j
    · subst hj
      rw [ndAt_set_self (g.rng p i hp)]
      unfold Nd.cb; rw [h0, h1]
    · rw [ndAt_set_ne hj]
theorem good_mark {l : List Nd} (g : Gd l) {p : List Bool} {i : Nat} (hp : lok l p = some i) {x : Nd} (h0 : x.c0 = (ndAt l i).c0) (h1 : x.c1 = (ndAt l i).c1) : Gd (l.set i x) :=
  ⟨by simpa using g.pos, fun q k h => by rw [look_mark g hp h0 h1] at h; simpa using g.rng q k h, fun a b k h1' h2' => by rw [look_mark g hp h0 h1] at h1' h2'; exact g.inj a b k h1' h2'⟩
theorem tm_mark {l : List Nd} (g : Gd l) {p : List Bool} {i : Nat} (hp : lok l p = some i) {x : Nd} (h0 : x.c0 = (ndAt l i).c0) (h1 : x.c1 = (ndAt l i).c1) (q : List Bool) :
    tm (l.set i x) q = if q = p then (bif x.has then some x.val else none) else tm l q := by
  unfold tm
  rw [look_mark g hp h0 h1]
  by_cases hq : q = p
  · subst hq
    rw [if_pos rfl, hp]
    simp only [Option.bind_some, ndAt_set_self (g.rng q i hp)]
  · rw [if_neg hq]
    cases hl : lok l q with
    | none => rfl
    | some k =>
      have : i ≠ k := fun e => by subst e; exact hq (g.inj q p i hl hp)
      simp only [Option.bind_some, ndAt_set_ne this]

/-- A new leaf. -/
theorem add_old {l : List Nd} (g : Gd l) {p : List Bool} {i : Nat} (hp : lok l p = some i) {n : Int} (hc : (ndAt l i).cb (bz n) = none) {y : Nd} : ∀ (q : List Bool) (k : Nat), lok l q = some k → lok (l.set i ((ndAt l i).put n (some l.length)) ++ [y]) q = some k
  | [], k, h => h
  | b :: r, k, h => by
    obtain ⟨j, h1, h2⟩ := look_cons h
    rw [look_snoc (add_old g hp hc r j h1)]
    have hj := g.rng r j h1
    have e : ndAt (l.set i ((ndAt l i).put n (some l.length)) ++ [y]) j = ndAt (l.set i ((ndAt l i).put n (some l.length))) j := ndAt_app (by simpa using hj)
    rw [e]
    by_cases hij : i = j
    · subst hij
      rw [ndAt_set_self hj, put_cb]
      by_cases hb : b = bz n
      · subst hb; rw [hc] at h2; cases h2
      · rw [if_neg hb]; exact h2
    · rw [ndAt_set_ne hij]; exact h2
theorem add_new {l : List Nd} (g : Gd l) {p : List Bool} {i : Nat} (hp : lok l p = some i) {n : Int} {y : Nd} (hy0 : y.c0 = none) (hy1 : y.c1 = none) : ∀ (q : List Bool) (k : Nat), lok (l.set i ((ndAt l i).put n (some l.length)) ++ [y]) q = some k → lok l q = some k ∨ (q = bz n :: p ∧ k = l.length)
  | [], k, h => .inl h
  | b :: r, k, h => by
    obtain ⟨j, h1, h2⟩ := look_cons h
    rcases add_new g hp hy0 hy1 r j h1 with h3 | ⟨h3, rfl⟩
    · have hj := g.rng r j h3
      have e : ndAt (l.set i ((ndAt l i).put n (some l.length)) ++ [y]) j = ndAt (l.set i ((ndAt l i).put n (some l.length))) j := ndAt_app (by simpa using hj)
      rw [e] at h2
      by_cases hij : i = j
      · subst hij
        rw [ndAt_set_self hj, put_cb] at h2
        by_cases hb : b = bz n
        · rw [if_pos hb] at h2
          cases h2
          exact .inr ⟨by rw [hb, g.inj r p i h3 hp], rfl⟩
        · rw [if_neg hb] at h2
          exact .inl (by rw [look_snoc h3]; exact h2)
      · rw [ndAt_set_ne hij] at h2
        exact .inl (by rw [look_snoc h3]; exact h2)
    · have e : ndAt (l.set i ((ndAt l i).put n (some l.length)) ++ [y]) l.length = y := ndAt_last (by simp)
      rw [e] at h2
      unfold Nd.cb at h2
      rw [hy0, hy1] at h2
      cases b <;> cases h2
theorem add_at {l : List Nd} (g : Gd l) {p : List Bool} {i : Nat} (hp : lok l p = some i) {n : Int} (hc : (ndAt l i).cb (bz n) = none) {y : Nd} : lok (l.set i ((ndAt l i).put n (some l.length)) ++ [y]) (bz n :: p) = some l.length := by
  rw [look_snoc (add_old g hp hc p i hp)]
  have hj := g.rng p i hp
  have e : ndAt (l.set i ((ndAt l i).put n (some l.length)) ++ [y]) i = ndAt (l.set i ((ndAt l i).put n (some l.length))) i := ndAt_app (by simpa using hj)
  rw [e, ndAt_set_self hj, put_cb, if_pos rfl]
theorem good_add {l : List Nd} (g : Gd l) {p : List Bool} {i : Nat} (hp : lok l p = some i) {n : Int} {y : Nd} (hy0 : y.c0 = none) (hy1 : y.c1 = none) : Gd (l.set i ((ndAt l i).put n (some l.length)) ++ [y]) := by
  refine ⟨by simp, fun q k h => ?_, fun a b k ha hb => ?_⟩
  · rcases add_new g hp hy0 hy1 q k h with h | ⟨_, rfl⟩
    · have := g.rng q k h; simp; omega
    · simp
  · rcases add_new g hp hy0 hy1 a k ha with h | ⟨h, hk⟩ <;> rcases add_new g hp hy0 hy1 b k hb with h' | ⟨h', hk'⟩
    · exact g.inj a b k h h'
    · have := g.rng a k h; omega
    · have := g.rng b k h'; omega
    · rw [h, h']
theorem tm_add {l : List Nd} (g : Gd l) {p : List Bool} {i : Nat} (hp : lok l p = some i) {n : Int} (hc : (ndAt l i).cb (bz n) = none) {y : Nd} (hy0 : y.c0 = none) (hy1 : y.c1 = none) (hyh : y.has = false) (q : List Bool) :
    tm (l.set i ((ndAt l i).put n (some l.length)) ++ [y]) q = tm l q := by
  unfold tm
  have node : ∀ {k : Nat}, k < l.length → (ndAt (l.set i ((ndAt l i).put n (some l.length)) ++ [y]) k).has = (ndAt l k).has ∧ (ndAt (l.set i ((ndAt l i).put n (some l.length)) ++ [y]) k).val = (ndAt l k).val := fun {k} hk => by
    have e : ndAt (l.set i ((ndAt l i).put n (some l.length)) ++ [y]) k = ndAt (l.set i ((ndAt l i).put n (some l.length))) k := ndAt_app (by simpa using hk)
    rw [e]
    by_cases hik : i = k
    · subst hik; rw [ndAt_set_self hk, put_has, put_val]; exact ⟨rfl, rfl⟩
    · rw [ndAt_set_ne hik]; exact ⟨rfl, rfl⟩
  cases hl : lok l q with
  | some k =>
    rw [add_old g hp hc q k hl]
    obtain ⟨h1, h2⟩ := node (g.rng q k hl)
    simp only [Option.bind_some, h1, h2]
  | none =>
    cases hl' : lok (l.set i ((ndAt l i).put n (some l.length)) ++ [y]) q with
    | none => rfl
    | some k =>
      rcases add_new g hp hy0 hy1 q k hl' with h | ⟨_, rfl⟩
      · rw [hl] at h; cases h
      · have e : ndAt (l.set i ((ndAt l i).put n (some l.length)) ++ [y]) l.length = y := ndAt_last (by simp)
        simp only [Option.bind_some, Option.bind_none, e, hyh, cond_false]

/-- A leaf without a mark cut off. -/
theorem cut_back {l : List Nd} (g : Gd l) {p : List Bool} {i : Nat} (hp : lok l p = some i) {n : Int} : ∀ (q : List Bool) (k : Nat), lok (l.set i ((ndAt l i).put n none)) q = some k → lok l q = some k
  | [], k, h => h
  | b :: r, k, h => by
    obtain ⟨j, h1, h2⟩ := look_cons h
    have h3 := cut_back g hp r j h1
    rw [look_snoc h3]
    have hj := g.rng r j h3
    by_cases hij : i = j
    · subst hij
      rw [ndAt_set_self hj, put_cb] at h2
      by_cases hb : b = bz n
      · rw [if_pos hb] at h2; cases h2
      · rw [if_neg hb] at h2; exact h2
    · rw [ndAt_set_ne hij] at h2; exact h2
theorem cut_fwd {l : List Nd} (g : Gd l) {p : List Bool} {i : Nat} (hp : lok l p = some i) {n : Int} {j : Nat} (hc : (ndAt l i).cb (bz n) = some j) (h0 : (ndAt l j).c0 = none) (h1 : (ndAt l j).c1 = none) : ∀ (q : List Bool) (k : Nat), lok l q = some k → lok (l.set i ((ndAt l i).put n none)) q = some k ∨ (q = bz n :: p ∧ k = j)
  | [], k, h => .inl h
  | b :: r, k, h => by
    obtain ⟨m, g1, g2⟩ := look_cons h
    rcases cut_fwd g hp hc h0 h1 r m g1 with h3 | ⟨h3, rfl⟩
    · have hm := g.rng r m g1
      by_cases him : i = m
      · subst him
        by_cases hb : b = bz n
        · subst hb
          rw [hc] at g2; cases g2
          exact .inr ⟨by rw [g.inj r p i g1 hp], rfl⟩
        · exact .inl (by rw [look_snoc h3, ndAt_set_self hm, put_cb, if_neg hb]; exact g2)
      · exact .inl (by rw [look_snoc h3, ndAt_set_ne him]; exact g2)
    · unfold Nd.cb at g2
      rw [h0, h1] at g2
      cases b <;> cases g2
theorem good_cut {l : List Nd} (g : Gd l) {p : List Bool} {i : Nat} (hp : lok l p = some i) {n : Int} : Gd (l.set i ((ndAt l i).put n none)) :=
  ⟨by simpa using g.pos, fun q k h => by simpa using g.rng q k (cut_back g hp q k h), fun a b k ha hb => g.inj a b k (cut_back g hp a k ha) (cut_back g hp b k hb)⟩
theorem tm_cut {l : List Nd} (g : Gd l) {p : List Bool} {i : Nat} (hp : lok l p = some i) {n : Int} {j : Nat} (hc : (ndAt l i).cb (bz n) = some j) (h0 : (ndAt l j).c0 = none) (h1 : (ndAt l j).c1 = none) (hh : (ndAt l j).has = false) (q : List Bool) :
    tm (l.set i ((ndAt l i).put n none)) q = tm l q := by
  unfold tm
  have node : ∀ {k : Nat}, k < l.length → (ndAt (l.set i ((ndAt l i).put n none)) k).has = (ndAt l k).has ∧ (ndAt (l.set i ((ndAt l i).put n none)) k).val = (ndAt l k).val := fun {k} hk => by
    by_cases hik : i = k
    · subst hik; rw [ndAt_set_self hk, put_has, put_val]; exact ⟨rfl, rfl⟩
    · rw [ndAt_set_ne hik]; exact ⟨rfl, rfl⟩
  cases hl' : lok (l.set i ((ndAt l i).put n none)) q with
  | some k =>
    have hl := cut_back g hp q k hl'
    obtain ⟨e1, e2⟩ := node (g.rng q k hl)
    rw [hl]
    simp only [Option.bind_some, e1, e2]
  | none =>
    cases hl : lok l q with
    | none => rfl
    | some k =>
      rcases cut_fwd g hp hc h0 h1 q k hl with h | ⟨_, rfl⟩
      · rw [hl'] at h; cases h
      · simp only [Option.bind_some, Option.bind_none, hh, cond_false]

/-! ### Paths of addresses -/
def pth (f : Nat → Bool) : Nat → List Bool
  | 0 => []
  | n + 1 => f n :: pth f n
theorem pth_len (f : Nat → Bool) : ∀ n, (pth f n).length = n
  | 0 => rfl
  | n + 1 => by simp [pth, pth_len f n]
theorem pth_congr {f g : Nat → Bool} : ∀ {n : Nat}, (∀ i, i < n → f i = g i) → pth f n = pth g n
  | 0, _ => rfl
  | n + 1, h => by simp only [pth]; rw [h n (by omega), pth_congr fun i hi => h i (by omega)]
theorem pth_inj {f g : Nat → Bool} : ∀ {n : Nat}, pth f n = pth g n → ∀ i, i < n → f i = g i
  | 0, _, i, hi => absurd hi (Nat.not_lt_zero i)
  | n + 1, h, i, hi => by
    simp only [pth, List.cons.injEq] at h
    by_cases hin : i = n
    · subst hin; exact h.1
    · exact pth_inj h.2 i (by omega)
/-- The bits of an address, the first one on the left. -/
def ab (a : Int) (i : Nat) : Bool := bt a (31 - i)
abbrev kp (a : Int) (n : Nat) : List Bool := pth (ab a) n
/-- A valid prefix. -/
structure Vp (a : Int) (n : Nat) : Prop where
  u : u32 a
  le : n ≤ 32
  z : ∀ i, n ≤ i → i < 32 → ab a i = false
theorem Vp.inj {a b : Int} {n m : Nat} (h : Vp a n) (g : Vp b m) (e : kp a n = kp b m) : a = b ∧ n = m := by
  have hl : n = m := by have := congrArg List.length e; rwa [pth_len, pth_len] at this
  subst hl
  refine ⟨bt_ext h.u g.u fun i hi => ?_, rfl⟩
  have key : ∀ j, j < 32 → ab a j = ab b j := fun j hj => by
    by_cases hjn : j < n
    · exact pth_inj e j hjn
    · rw [h.z j (by omega) hj, g.z j (by omega) hj]
  have := key (31 - i) (by omega)
  unfold ab at this
  rwa [show 31 - (31 - i) = i by omega] at this

/-! ### The entries in order -/
abbrev Mp := List Bool → Option Int
abbrev Ent4 := Int × Int × Int × Unit
def hi32 (a : Int) (n : Nat) : Int := ior .u32 a (ishl .u32 1 ((31 - n : Nat) : Int))
def he (m : Mp) (q : List Bool) (a : Int) (n : Nat) : List Ent4 := match m q with
  | some v => [(a, (n : Int), v, ())]
  | none => []
def En (m : Mp) : Nat → List Bool → Int → Nat → List Ent4
  | 0, q, a, n => he m q a n
  | k + 1, q, a, n => he m q a n ++ En m k (false :: q) a (n + 1) ++ En m k (true :: q) (hi32 a n) (n + 1)
def hc (m : Mp) (q : List Bool) : Nat := match m q with
  | some _ => 1
  | none => 0
def cnt (m : Mp) : Nat → List Bool → Nat
  | 0, q => hc m q
  | k + 1, q => hc m q + cnt m k (false :: q) + cnt m k (true :: q)
theorem he_len (m : Mp) (q : List Bool) (a : Int) (n : Nat) : (he m q a n).length = hc m q := by
  unfold he hc; cases m q <;> rfl
theorem En_len (m : Mp) : ∀ (k : Nat) (q : List Bool) (a : Int) (n : Nat), (En m k q a n).length = cnt m k q
  | 0, q, a, n => he_len m q a n
  | k + 1, q, a, n => by simp only [En, cnt, List.length_append, he_len, En_len m k]
/-- Nothing lies below. -/
theorem En_none {m : Mp} : ∀ {k : Nat} {q : List Bool} {a : Int} {n : Nat}, (∀ r, r.length ≤ k → m (r ++ q) = none) → En m k q a n = []
  | 0, q, a, n, h => by simp [En, he, show m q = none from h [] (Nat.zero_le _)]
  | k + 1, q, a, n, h => by
    have h0 : m q = none := h [] (Nat.zero_le _)
    have hb : ∀ b r, r.length ≤ k → m (r ++ b :: q) = none := fun b r hr => by
      have := h (r ++ [b]) (by simp; omega)
      simpa using this
    simp [En, he, h0, En_none (hb false), En_none (hb true)]

def upd (m : Mp) (q : List Bool) (v : Option Int) : Mp := fun r => if r = q then v else m r
theorem app_ne {q r r' : List Bool} {b b' : Bool} (hb : b ≠ b') : r ++ b :: q ≠ r' ++ b' :: q := fun e => by
  have := List.append_inj_right' e (by simp)
  simp only [List.cons.injEq, and_true] at this
  exact hb this
theorem cnt_far {m : Mp} {q0 : List Bool} {v : Option Int} : ∀ (k : Nat) (q : List Bool), (∀ r, q0 ≠ r ++ q) → cnt (upd m q0 v) k q = cnt m k q
  | 0, q, h => by
    have : q ≠ q0 := fun e => h [] (by rw [e]; rfl)
    simp [cnt, hc, upd, this]
  | k + 1, q, h => by
    have h0 : q ≠ q0 := fun e => h [] (by rw [e]; rfl)
    have hb : ∀ b r, q0 ≠ r ++ b :: q := fun b r e => h (r ++ [b]) (by rw [e]; simp)
    simp only [cnt, cnt_far k _ (hb false), cnt_far k _ (hb true)]
    simp [hc, upd, h0]
theorem cnt_upd {m : Mp} {q0 : List Bool} {v : Option Int} : ∀ (k : Nat) (q r : List Bool), q0 = r ++ q → r.length ≤ k → cnt (upd m q0 v) k q + hc m q0 = cnt m k q + (match v with | some _ => 1 | none => 0)
  | 0, q, r, h, hr => by
    have : r = [] := List.eq_nil_of_length_eq_zero (Nat.le_zero.1 hr)
    subst this
    simp only [List.nil_append] at h
    subst h
    simp only [cnt, hc, upd, if_pos]
    cases v <;> simp <;> omega
  | k + 1, q, r, h, hr => by
    rcases List.eq_nil_or_concat r with rfl | ⟨r', b, rfl⟩
    · simp only [List.nil_append] at h
      subst h
      have far : ∀ b r, q0 ≠ r ++ b :: q0 := fun b r e => by have := congrArg List.length e; simp at this; omega
      simp only [cnt, cnt_far k _ (far false), cnt_far k _ (far true)]
      have : hc (upd m q0 v) q0 = (match v with | some _ => 1 | none => 0) := by simp only [hc, upd, if_pos]
      rw [this]; omega
    · have e : q0 = r' ++ b :: q := by rw [h]; simp
      have hl : r'.length ≤ k := by simp at hr; omega
      have ih := cnt_upd (m := m) (v := v) k (b :: q) r' e hl
      have hq : hc (upd m q0 v) q = hc m q := by
        have : q ≠ q0 := fun e2 => by have := congrArg List.length (e2.trans e); simp at this; omega
        simp [hc, upd, this]
      cases b with
      | false =>
        have far : ∀ r, q0 ≠ r ++ true :: q := fun r e2 => app_ne (by decide) (e.symm.trans e2)
        simp only [cnt, cnt_far k _ far, hq]; omega
      | true =>
        have far : ∀ r, q0 ≠ r ++ false :: q := fun r e2 => app_ne (by decide) (e.symm.trans e2)
        simp only [cnt, cnt_far k _ far, hq]; omega
theorem cnt_zero {m : Mp} : ∀ (k : Nat) (q : List Bool), (∀ r, m (r ++ q) = none) → cnt m k q = 0
  | 0, q, h => by simp [cnt, hc, show m q = none from h []]
  | k + 1, q, h => by
    have hb : ∀ b r, m (r ++ b :: q) = none := fun b r => by have := h (r ++ [b]); simpa using this
    simp [cnt, hc, show m q = none from h [], cnt_zero k _ (hb false), cnt_zero k _ (hb true)]

theorem ab_hi {a : Int} {n i : Nat} (hn : n < 32) (hi : i < 32) : ab (hi32 a n) i = (ab a i || decide (i = n)) := by
  unfold ab hi32
  rw [bt_ior, bt_shl (by omega)]
  congr 1
  by_cases h : i = n
  · subst h; simp
  · simp only [h, decide_false, decide_eq_false_iff_not]; omega
/-- Each entry is a valid prefix, and the table holds it. -/
theorem En_mem {m : Mp} : ∀ (k : Nat) (a : Int) (n : Nat), Vp a n → n + k ≤ 32 → ∀ e ∈ En m k (kp a n) a n, ∃ j : Nat, e.2.1 = (j : Int) ∧ Vp e.1 j ∧ m (kp e.1 j) = some e.2.2.1
  | k, a, n, h, hk, e, he0 => by
    have here : e ∈ he m (kp a n) a n → ∃ j : Nat, e.2.1 = (j : Int) ∧ Vp e.1 j ∧ m (kp e.1 j) = some e.2.2.1 := fun hm => by
      unfold he at hm
      cases hv : m (kp a n) with
      | none => rw [hv] at hm; cases hm
      | some v =>
        rw [hv] at hm
        simp only [List.mem_singleton] at hm
        subst hm
        exact ⟨n, rfl, h, hv⟩
    cases k with
    | zero => exact here he0
    | succ k =>
      simp only [En, List.mem_append] at he0
      have h32 : n < 32 := by omega
      have lo : false :: kp a n = kp a (n + 1) := by simp only [pth, h.z n (Nat.le_refl _) h32]
      have hi : true :: kp a n = kp (hi32 a n) (n + 1) := by
        simp only [pth, ab_hi h32 h32]
        simp only [decide_true, Bool.or_true, List.cons.injEq, true_and]
        exact pth_congr fun i hin => by rw [ab_hi h32 (by omega)]; simp [show ¬ i = n by omega]
      rcases he0 with (h1 | h1) | h1
      · exact here h1
      · rw [lo] at h1
        exact En_mem k a (n + 1) ⟨h.u, by omega, fun i h2 h3 => h.z i (by omega) h3⟩ (by omega) e h1
      · rw [hi] at h1
        exact En_mem k (hi32 a n) (n + 1) ⟨u32_ior _ _, by omega, fun i h2 h3 => by rw [ab_hi h32 h3, h.z i (by omega) h3]; simp; omega⟩ (by omega) e h1

theorem kp_lo {a : Int} {n : Nat} (h : Vp a n) (h32 : n < 32) : false :: kp a n = kp a (n + 1) := by simp only [pth, h.z n (Nat.le_refl _) h32]
theorem kp_hi {a : Int} {n : Nat} (h32 : n < 32) : true :: kp a n = kp (hi32 a n) (n + 1) := by
  simp only [pth, ab_hi h32 h32]
  simp only [decide_true, Bool.or_true, List.cons.injEq, true_and]
  exact pth_congr fun i hin => by rw [ab_hi h32 (by omega)]; simp [show ¬ i = n by omega]
theorem Vp.lo {a : Int} {n : Nat} (h : Vp a n) (h32 : n < 32) : Vp a (n + 1) := ⟨h.u, by omega, fun i h2 h3 => h.z i (by omega) h3⟩
theorem Vp.hi {a : Int} {n : Nat} (h : Vp a n) (h32 : n < 32) : Vp (hi32 a n) (n + 1) := ⟨u32_ior _ _, by omega, fun i h2 h3 => by rw [ab_hi h32 h3, h.z i (by omega) h3]; simp; omega⟩

/-! ### Loops that follow a path -/
theorem upS_run {S R : Type} {body : Nat → S → (S → R) → R} {rest : S → R} {s : Nat → S} {n N : Nat} {r : R} (hs : ∀ c, c < n → ∀ next, body c (s c) next = r ∨ body c (s c) next = next (s (c + 1)))
    (hr : ∀ next, body n (s n) next = r) (hN : n < N) : ∀ (m c : Nat), c + m = n → upS body rest (N - c) c (s c) = r
  | 0, c, h => by
    obtain rfl : c = n := by omega
    rw [show N - c = (N - c - 1) + 1 by omega]
    exact hr _
  | m + 1, c, h => by
    have ih := upS_run hs hr hN (rest := rest) m (c + 1) (by omega)
    rw [show N - c = (N - (c + 1)) + 1 by omega]
    show body c (s c) _ = r
    rcases hs c (by omega) (upS body rest (N - (c + 1)) (c + 1)) with h1 | h1
    · exact h1
    · rw [h1]; exact ih
theorem upS_to {S R : Type} {body : Nat → S → (S → R) → R} {rest : S → R} {s : Nat → S} {n : Nat} (hs : ∀ c, c < n → ∀ next, body c (s c) next = next (s (c + 1))) : ∀ (m c : Nat), c + m = n → upS body rest m c (s c) = rest (s n)
  | 0, c, h => by
    obtain rfl : c = n := by omega
    rfl
  | m + 1, c, h => by
    show body c (s c) _ = _
    rw [hs c (by omega)]
    exact upS_to hs m (c + 1) (by omega)
theorem look_up {l : List Nd} {f : Nat → Bool} {n : Nat} (h : lok l (pth f n) = none) : ∀ m, lok l (pth f (n + m)) = none
  | 0 => h
  | m + 1 => by show (lok l (pth f (n + m))).bind _ = none; rw [look_up h m]; rfl
theorem look_dn {l : List Nd} {f : Nat → Bool} {n : Nat} {i : Nat} (h : lok l (pth f n) = some i) {m : Nat} (hm : m ≤ n) : ∃ j, lok l (pth f m) = some j := by
  cases hj : lok l (pth f m) with
  | some j => exact ⟨j, rfl⟩
  | none =>
    have := look_up hj (n - m)
    rw [show m + (n - m) = n by omega, h] at this; cases this
end Go.AM
