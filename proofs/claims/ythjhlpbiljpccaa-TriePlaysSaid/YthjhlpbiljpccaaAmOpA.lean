/-
  Each operation of the compact code is the model's: operands, constants, what memory reads, what leaves the world alone.
-/
import Derived.Test.YthjhlpbiljpccaaAmRel
import Derived.Laws.Cells
import Derived.Laws.Bits
import Derived.Laws.StructEq
namespace Go.AM

def Holds (a : Act) (G : List (Nat × Bool)) : Prop := ∀ p ∈ G, a.tmps.getD p.1 undef = .bool p.2
theorem Holds.nil (a : Act) : Holds a [] := fun _ h => by cases h
theorem Holds.cons {a : Act} {t : Nat} {b : Bool} {G : List (Nat × Bool)} (h : a.tmps.getD t undef = .bool b) (hG : Holds a G) : Holds a ((t, b) :: G) := by
  intro p hp
  rcases List.mem_cons.1 hp with rfl | hp
  · exact h
  · exact hG p hp
theorem inB_mem {p : Nat × Bool} : {G : List (Nat × Bool)} → inB p G = true → p ∈ G
  | [], h => by simp [inB] at h
  | q :: r, h => by
    simp only [inB, Bool.or_eq_true, Bool.and_eq_true, beq_iff_eq] at h
    rcases h with ⟨h1, h2⟩ | h
    · exact List.mem_cons.2 (.inl (Prod.ext h1 h2))
    · exact List.mem_cons.2 (.inr (inB_mem h))
theorem subB_holds {a : Act} {G : List (Nat × Bool)} (hG : Holds a G) : {X : List (Nat × Bool)} → subB X G = true → Holds a X
  | [], _ => Holds.nil a
  | p :: r, h => by
    simp only [subB, Bool.and_eq_true] at h
    exact Holds.cons (hG p (inB_mem h.1)) (subB_holds hG h.2)

def SlotsOk (N : Nat → Prop) (w : World) (φ : Phi) (s : Slots) (a : Act) : Prop :=
  ∀ t, Holds a (get s t).1 → VRel N w φ (get s t).2 (a.tmps.getD t undef)

theorem SlotsOk.mono {N N' : Nat → Prop} {w w' : World} {φ φ' : Phi} {s : Slots} {a : Act} (h : SlotsOk N w φ s a) (hk : Keeps N w N' w') (he : Ext φ φ') : SlotsOk N' w' φ' s a :=
  fun t ht => (h t ht).mono hk he

section
variable {N : Nat → Prop} {w : World} {φ : Phi}

theorem constF_ok {v : Value} {x : FV} (h : constF v = some x) : FRel N w x v ∧ oneV v = true := by
  unfold constF at h
  split at h
  · cases h; exact ⟨.bool, rfl⟩
  · rename_i k n
    cases hb : (decide (k.min ≤ n) && decide (n ≤ k.max)) with
    | false => rw [hb] at h; cases h
    | true =>
      rw [hb] at h; cases h
      simp only [Bool.and_eq_true, decide_eq_true_eq] at hb
      exact ⟨.int hb, rfl⟩
  · rename_i s
    cases hb : Nat.ble s.data.toList.length 4294967296 with
    | false => rw [hb] at h; cases h
    | true =>
      rw [hb] at h; cases h
      have hl := Nat.le_of_ble_eq_true hb
      refine ⟨?_, rfl⟩
      have : (Value.string s) = .string ⟨s.data.toList.toArray⟩ := by cases s; simp
      rw [this]
      exact .str (by unfold maxLen; omega)
  · cases h; exact ⟨.nilp, rfl⟩
  · cases h; exact ⟨.nils, rfl⟩
  · cases h; exact ⟨.nilf, rfl⟩
  · cases h; exact ⟨.fmap (.inl ⟨rfl, rfl⟩), rfl⟩
  · cases h

theorem constFs_ok : {l : List Value} → {xs : List FV} → constFs l = some xs → xs.length = l.length ∧ ∀ (j : Nat) c v, xs[j]? = some c → l[j]? = some v → FRel N w c v ∧ oneV v = true
  | [], xs, h => by
    cases h
    exact ⟨rfl, fun j c v hj => by simp at hj⟩
  | v :: r, xs, h => by
    obtain ⟨x, hx, h⟩ := obind h
    obtain ⟨ys, hy, rfl⟩ := omap h
    have ih := constFs_ok hy
    refine ⟨by simp [ih.1], fun j c u hj hu => ?_⟩
    cases j with
    | zero => simp at hj hu; subst hj; subst hu; exact constF_ok hx
    | succ j => exact ih.2 j c u (by simpa using hj) (by simpa using hu)

theorem constA_ok {v : Value} {x : AV} (h : constA v = some x) : VRel N w φ x v := by
  unfold constA at h
  split at h
  · rename_i cs
    obtain ⟨xs, hx, rfl⟩ := omap h
    have := constFs_ok (N := N) (w := w) hx
    exact .f (.agg (by simpa using this.1.symm) (fun j c v hj hv => (this.2 j c v hj (by simpa using hv)).2) (fun j c v hj hv => (this.2 j c v hj (by simpa using hv)).1))
  · obtain ⟨xs, hx, rfl⟩ := omap h
    exact .f (constF_ok hx).1

theorem opd_ok {s : Slots} {a : Act} {G : List (Nat × Bool)} (hs : SlotsOk N w φ s a) (hG : Holds a G) {x : Operand} {ax : AOpd} {av : AV}
    (hc : cOpd x = some ax) (hv : opv s G ax = some av) : VRel N w φ av (a.eval x) := by
  unfold cOpd at hc
  split at hc
  · rename_i t
    cases hc
    simp only [opv] at hv
    cases hb : subB (get s t).1 G with
    | false => rw [hb] at hv; cases hv
    | true => rw [hb] at hv; cases hv; exact hs t (subB_holds hG hb)
  · obtain ⟨y, hy, rfl⟩ := omap hc
    cases hv
    exact constA_ok hy
  · cases hc; cases hv
    exact .f (.fn rfl (fun j c v hj => by simp at hj))
  · cases hc

/-- Lists of values, one by one. -/
def LRel (N : Nat → Prop) (w : World) (φ : Phi) (xs : List AV) (vs : List Value) : Prop :=
  xs.length = vs.length ∧ ∀ (j : Nat) c v, xs[j]? = some c → vs[j]? = some v → VRel N w φ c v
theorem LRel.nil : LRel N w φ [] [] := ⟨rfl, fun j c v hj => by simp at hj⟩
theorem LRel.cons {x : AV} {v : Value} {xs : List AV} {vs : List Value} (h : VRel N w φ x v) (hr : LRel N w φ xs vs) : LRel N w φ (x :: xs) (v :: vs) := by
  refine ⟨by simp [hr.1], fun j c u hj hu => ?_⟩
  cases j with
  | zero => simp at hj hu; subst hj; subst hu; exact h
  | succ j => exact hr.2 j c u (by simpa using hj) (by simpa using hu)
theorem LRel.app {xs ys : List AV} {vs us : List Value} (h : LRel N w φ xs vs) (hr : LRel N w φ ys us) : LRel N w φ (xs ++ ys) (vs ++ us) := by
  induction xs generalizing vs with
  | nil =>
    have := h.1
    cases vs with
    | nil => exact hr
    | cons v r => simp at this
  | cons x xs ih =>
    cases vs with
    | nil => have := h.1; simp at this
    | cons v r =>
      refine .cons (h.2 0 x v rfl rfl) (ih ⟨by have := h.1; simpa using this, fun j c u hj hu => h.2 (j + 1) c u (by simpa using hj) (by simpa using hu)⟩)
theorem LRel.f {xs : List FV} {vs : List Value} (hn : vs.length = xs.length) (h : ∀ (j : Nat) c v, xs[j]? = some c → vs[j]? = some v → FRel N w c v) : LRel N w φ (xs.map .f) vs :=
  ⟨by simp [hn], fun j c v hj hv => by
    simp only [List.getElem?_map, Option.map_eq_some_iff] at hj
    obtain ⟨x, hx, rfl⟩ := hj
    exact .f (h j x v hx hv)⟩
theorem LRel.of_agg {cs : List AV} {vs : Array Value} (h : VRel N w φ (.agg cs) (.agg vs)) : LRel N w φ cs vs.toList := by
  cases h with
  | agg hn _ h => exact ⟨by simpa using hn.symm, fun j c v hj hv => h j c v hj (by simpa using hv)⟩

theorem opds_ok {s : Slots} {a : Act} {G : List (Nat × Bool)} (hs : SlotsOk N w φ s a) (hG : Holds a G) : {xs : List Operand} → {as : List AOpd} → {avs : List AV} →
    cOpds xs = some as → opvs s G as = some avs → LRel N w φ avs (xs.map a.eval)
  | [], as, avs, hc, hv => by
    cases hc; cases hv; exact .nil
  | x :: r, as, avs, hc, hv => by
    obtain ⟨y, hy, hc⟩ := obind hc
    obtain ⟨ys, hys, rfl⟩ := omap hc
    obtain ⟨v, hv1, hv⟩ := obind hv
    obtain ⟨vs, hvs, rfl⟩ := omap hv
    exact .cons (opd_ok hs hG hy hv1) (opds_ok hs hG hys hvs)

theorem allF_ok : {xs : List AV} → {fs : List FV} → allF xs = some fs → xs = fs.map .f
  | [], fs, h => by cases h; rfl
  | x :: r, fs, h => by
    cases x <;> simp only [allF, reduceCtorEq] at h
    obtain ⟨ys, hy, rfl⟩ := omap h
    simp [allF_ok hy]

theorem LRel.allF {xs : List AV} {fs : List FV} {vs : List Value} (h : LRel N w φ xs vs) (hf : Go.AM.allF xs = some fs) :
    fs.length = vs.length ∧ ∀ (j : Nat) c v, fs[j]? = some c → vs[j]? = some v → FRel N w c v := by
  have := allF_ok hf
  subst this
  refine ⟨by simpa using h.1, fun j c v hj hv => ?_⟩
  have := h.2 j (.f c) v (by simp [hj]) hv
  cases this with | f h => exact h

/-- All values of the list are single cells. -/
def Ones (vs : List Value) : Prop := ∀ v ∈ vs, oneV v = true

theorem mkAgg_ok {cs : List AV} {vs : List Value} (h : LRel N w φ cs vs) (ho : Ones vs) : VRel N w φ (mkAgg cs) (.agg vs.toArray) := by
  unfold mkAgg
  split
  · rename_i fs hf
    have := h.allF hf
    exact .f (.agg (by simpa using this.1.symm) (fun j c v _ hv => ho v (List.mem_of_getElem? (by simpa using hv))) (fun j c v hj hv => this.2 j c v hj (by simpa using hv)))
  · exact .agg (by simpa using h.1.symm) (fun j c v _ hv => ho v (List.mem_of_getElem? (by simpa using hv))) (fun j c v hj hv => h.2 j c v hj (by simpa using hv))

theorem acells_ok {x : AV} {v : Value} {cs : List AV} (h : VRel N w φ x v) (hc : acells x = some cs) : LRel N w φ cs v.cells.toList ∧ Ones v.cells.toList := by
  have single : ∀ {x : AV} {v : Value}, VRel N w φ x v → oneV v = true → LRel N w φ [x] v.cells.toList ∧ Ones v.cells.toList := fun {x v} h ho => by
    have hv : v.cells.toList = [v] := by cases v <;> first | rfl | (simp [oneV] at ho)
    rw [hv]
    exact ⟨.cons h .nil, fun u hu => by simp at hu; rw [hu]; exact ho⟩
  cases h with
  | junk => cases hc
  | f h =>
    cases h with
    | agg hn ho h =>
      cases hc
      exact ⟨LRel.f (by simpa [Value.cells] using hn) (fun j c v hj hv => h j c v hj (by simpa [Value.cells] using hv)), fun u hu => by
        obtain ⟨j, hj⟩ := List.mem_iff_getElem?.1 hu
        have hlt := (List.getElem?_eq_some_iff.1 hj).1
        refine ho j _ u (List.getElem?_eq_getElem (by simpa [Value.cells, hn] using hlt)) (by simpa [Value.cells] using hj)⟩
    | tup => cases hc
    | int h => cases hc; exact single (.f (.int h)) rfl
    | bool => cases hc; exact single (.f .bool) rfl
    | str h => cases hc; exact single (.f (.str h)) rfl
    | fs h =>
      cases hc
      have := crel_one _ _ _ h
      exact single (.f (.fs h)) this
    | nils => cases hc; exact single (.f .nils) rfl
    | nilp => cases hc; exact single (.f .nilp) rfl
    | nilf => cases hc; exact single (.f .nilf) rfl
    | fpt g hN hc' ho h => cases hc; exact single (.f (.fpt g hN hc' ho h)) rfl
    | fn hn h => cases hc; exact single (.f (.fn hn h)) rfl
    | fmap h =>
      cases hc
      have := crel_one .mp _ _ h
      exact single (.f (.fmap h)) this
  | agg hn ho h =>
    cases hc
    exact ⟨⟨by simpa [Value.cells] using hn.symm, fun j c v hj hv => h j c v hj (by simpa [Value.cells] using hv)⟩, fun u hu => by
      obtain ⟨j, hj⟩ := List.mem_iff_getElem?.1 hu
      have hlt := (List.getElem?_eq_some_iff.1 hj).1
      exact ho j _ u (List.getElem?_eq_getElem (by simpa [Value.cells, hn] using hlt)) (by simpa [Value.cells] using hj)⟩
  | tup => cases hc
  | ptr h => cases hc; exact single (.ptr h) rfl
  | eptr h hi => cases hc; exact single (.eptr h hi) rfl
  | sl h1 h2 h3 => cases hc; exact single (.sl h1 h2 h3) rfl
  | fn hn h => cases hc; exact single (.fn hn h) rfl
  | unkB h1 h2 => cases hc; exact single (.unkB h1 h2) rfl
  | nd h hi => cases hc; exact single (.nd h hi) rfl
  | @ndo k o v h h0 =>
    cases hc
    refine single (.ndo h h0) ?_
    cases o with
    | none => rw [h0 rfl]; rfl
    | some i =>
      obtain ⟨b, tot, cnt, _, c, _, rfl⟩ := h rfl
      rfl
  | ndx h hi h0 h1 => cases hc; exact single (.ndx h hi h0 h1) rfl
  | bx h h0 h1 => cases hc; exact single (.bx h h0 h1) rfl
  | slx h hx => cases hc; exact single (.slx h hx) (by cases h; rfl)
  | mp h => cases hc; exact single (.mp h) rfl
end
end Go.AM
