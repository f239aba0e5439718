/-
  A reader and a writer of different objects may come in either order.
-/
import Derived.Test.YthjhlpbiljpccaaAmReg4
namespace Go.AM
open Go.RowKit

section
variable {P : Program} {ms : List Nat} {Γ : Env} {ops : Array Oper} {as : List AOper} {r0 rn : RS} {n : Nat}

theorem elemP_mem {p : Nat × Nat} : ∀ {l : List (Nat × Nat)}, loose.elemP p l = true → p ∈ l
  | [], h => by simp [loose.elemP] at h
  | q :: r, h => by
    simp only [loose.elemP, Bool.or_eq_true, Bool.and_eq_true, beq_iff_eq] at h
    rcases h with ⟨h1, h2⟩ | h
    · have : p = q := Prod.ext h1 h2
      subst this; exact List.mem_cons_self ..
    · exact List.mem_cons_of_mem _ (elemP_mem h)
theorem pairsOk_at {Γ : Env} {s : Slots} {os : List AOper} : ∀ {ps : List (Nat × Nat)}, pairsOk Γ s os ps = true → ∀ {i q : Nat} {x y : AOper}, (i, q) ∈ ps → os[i]? = some x → os[q]? = some y →
    ∃ a b, objsR s x.op = some a ∧ objsW Γ s y = some b ∧ apartL a b = true
  | [], _, _, _, _, _, h, _, _ => by cases h
  | p :: r, h, i, q, x, y, hm, hx, hy => by
    simp only [pairsOk] at h
    split at h
    · rename_i x' y' hx' hy'
      split at h
      · rename_i a b ha hb
        simp only [Bool.and_eq_true] at h
        rcases List.mem_cons.1 hm with rfl | hm
        · rw [hx] at hx'; rw [hy] at hy'
          cases hx'; cases hy'
          exact ⟨a, b, ha, hb, h.1⟩
        · exact pairsOk_at h.2 hm hx hy
      · cases h
    · cases h
theorem apartL_at : ∀ {a b : List Nat}, apartL a b = true → ∀ {k : Nat}, k ∈ a → k ∉ b
  | [], _, _, _, h => by cases h
  | c :: r, b, h, k, hk => by
    simp only [apartL, Bool.and_eq_true, Bool.not_eq_true', List.any_eq_false, beq_iff_eq] at h
    rcases List.mem_cons.1 hk with rfl | hk
    · intro hb; exact h.1 k hb rfl
    · exact apartL_at h.2 hk

/-- A slot that no later operation has as its own. -/
theorem get_stay (c : RegC P ms Γ ops as r0 rn n) {t : Nat} : ∀ (d q : Nat), q + d = as.length → (∀ j y, q ≤ j → as[j]? = some y → y.dst ≠ some t) → get rn.st.s t = get (sAt Γ as r0 q) t
  | 0, q, hq, _ => by
    have : stepAt Γ as r0 as.length = rn := stepAt_last c.run
    rw [show q = as.length by omega, sAt, this]
  | d + 1, q, hq, h => by
    have ho : as[q]? = some as[q] := List.getElem?_eq_getElem (by omega)
    rw [get_stay c d (q + 1) (by omega) fun j y hj => h j y (by omega), c.keep ho (h q _ (Nat.le_refl _) ho)]
theorem stays_at : ∀ {l : List AOper}, stays l = true → ∀ {i j : Nat} {x y : AOper}, i ≤ j → l[i]? = some x → l[j]? = some y → ∀ {t}, t ∈ tmpsOf (match x.op with | .load _ _ a => [a] | .store _ a _ => [a] | .call _ l => l | .callv x l => x :: l | .app _ _ x _ => [x] | .ixn _ x _ => [x] | .callm _ l => l | _ => []) → t ∈ looks x → y.dst ≠ some t
  | [], _, _, _, _, _, _, h, _, _, _, _ => by simp at h
  | o :: r, h, i, j, x, y, hij, hx, hy, t, ht, hl => by
    simp only [stays, Bool.and_eq_true, List.all_eq_true] at h
    obtain ⟨⟨h1, h2⟩, h3⟩ := h
    cases i with
    | zero =>
      simp at hx; subst hx
      cases j with
      | zero =>
        simp at hy; subst hy
        intro e
        rw [e] at h2
        simp only [Bool.not_eq_true'] at h2
        rw [elemN_mem.2 hl] at h2; cases h2
      | succ j =>
        have := h1 y (List.mem_of_getElem? (by simpa using hy))
        intro e
        rw [e] at this
        simp only [Bool.not_eq_true'] at this
        rw [elemN_mem.2 (by unfold adrs; exact List.mem_append_left _ ht)] at this; cases this
    | succ i =>
      cases j with
      | zero => omega
      | succ j =>
        rw [List.getElem?_cons_succ] at hx hy
        exact stays_at h3 (by omega) hx hy ht hl
theorem dst_once (c : RegC P ms Γ ops as r0 rn n) {i : Nat} {o : AOper} {d : Nat} (ho : as[i]? = some o) (hd : o.dst = some d) : get rn.st.s d = get (sAt Γ as r0 (i + 1)) d := by
  have hlt := (List.getElem?_eq_some_iff.1 ho).1
  refine get_stay c (as.length - (i + 1)) (i + 1) (by omega) fun j y hj hy e => ?_
  have := distinct_at c.distinct ho hy hd e
  omega

/-- The objects of an operand are those of its slot at the end. -/
theorem adr_stay (c : RegC P ms Γ ops as r0 rn n) (hst : stays as = true) {i : Nat} {o : AOper} (ho : as[i]? = some o) {t : Nat} (ht : t ∈ tmpsOf (match o.op with | .load _ _ a => [a] | .store _ a _ => [a] | .call _ l => l | .callv x l => x :: l | .app _ _ x _ => [x] | .ixn _ x _ => [x] | .callm _ l => l | _ => [])) : get rn.st.s t = get (sAt Γ as r0 i) t := by
  have hlt := (List.getElem?_eq_some_iff.1 ho).1
  refine get_stay c (as.length - i) i (by omega) fun j y hj hy => stays_at hst hj ho hy ht ?_
  unfold looks
  refine List.mem_append_right _ ?_
  revert ht
  cases o.op <;> simp [opdsOf, tmpsOf]
  case store a v => cases a <;> simp [tmpsOf]; exact fun h => Or.inl h
  case app a v => cases a <;> simp [tmpsOf]; exact fun h => Or.inl h
  case ixn a v => cases a <;> simp [tmpsOf]; exact fun h => Or.inl h
theorem objO_stay {s s' : Slots} {x : AOpd} (h : ∀ t ∈ tmpsOf [x], get s t = get s' t) : objO s x = objO s' x := by
  cases x with
  | c v => rfl
  | t n => simp only [objO]; rw [h n (by simp [tmpsOf])]
theorem tmps_cons {x : AOpd} {r : List AOpd} {t : Nat} : (t ∈ tmpsOf [x] → t ∈ tmpsOf (x :: r)) ∧ (t ∈ tmpsOf r → t ∈ tmpsOf (x :: r)) := by
  cases x with
  | c v => exact ⟨fun h => by simp [tmpsOf] at h, fun h => h⟩
  | t n => exact ⟨fun h => by simp [tmpsOf] at h; subst h; exact List.mem_cons_self .., fun h => List.mem_cons_of_mem _ h⟩
theorem objA_stay {s s' : Slots} : ∀ {l : List AOpd}, (∀ t ∈ tmpsOf l, get s t = get s' t) → objsR.objA s l = objsR.objA s' l
  | [], _ => rfl
  | x :: r, h => by
    simp only [objsR.objA]
    rw [objO_stay (x := x) fun t ht => h t (tmps_cons.1 ht), objA_stay (l := r) fun t ht => h t (tmps_cons.2 ht)]

/-! ### The reader -/
theorem loadA_obj {m m2 : Mem} {ag : Bool} {sz : Nat} {p : AV} {l : List Nat} (h : objV p = some l) (hm : ∀ k ∈ l, m2[k]? = m[k]?) : loadA m2 ag sz p = loadA m ag sz p := by
  cases p with
  | f v => cases v <;> rfl
  | ptr k off =>
    simp only [objV, Option.some.injEq] at h; subst h
    simp only [loadA, hm k (List.mem_singleton.2 rfl)]
  | eptr k z i off =>
    simp only [objV, Option.some.injEq] at h; subst h
    simp only [loadA, hm k (List.mem_singleton.2 rfl)]
  | nd k i off =>
    simp only [objV, Option.some.injEq] at h; subst h
    simp only [loadA, hm k (List.mem_singleton.2 rfl)]
  | bx k i =>
    simp only [objV, Option.some.injEq] at h; subst h
    simp only [loadA, hm k (List.mem_singleton.2 rfl)]
  | ndo k o => cases h
  | ndx k i n => cases h
  | slx k len => cases h
  | mp k => cases h
  | sl k z o len => rfl
  | junk => rfl
  | agg cs => rfl
  | tup cs => rfl
  | fn f cs => rfl
  | unkB p q => rfl
theorem objV_nil {v : AV} (h : objV v = some []) : ∃ x, v = .f x := by
  cases v <;> simp [objV] at h
  exact ⟨_, rfl⟩
theorem opv_obj {s : Slots} {G : List (Nat × Bool)} {x : AOpd} {v : AV} (h : opv s G x = some v) : objO s x = objV v := by
  cases x with
  | c u => simp only [opv, Option.some.injEq] at h; subst h; rfl
  | t n =>
    simp only [opv] at h
    simp only [objO]
    rw [(cond_some h).2 |> Option.some.inj]
theorem objA_all {s : Slots} {G : List (Nat × Bool)} : ∀ {l : List AOpd} {vs : List AV}, opvs s G l = some vs → (∃ x, objsR.objA s l = some x) → ∃ fs, allF vs = some fs
  | [], vs, h, _ => by simp only [opvs, Option.some.injEq] at h; subst h; exact ⟨[], rfl⟩
  | x :: r, vs, h, ⟨l, hl⟩ => by
    simp only [opvs] at h
    obtain ⟨v, hv, h1⟩ := obind h
    obtain ⟨us, hus, rfl⟩ := omap h1
    simp only [objsR.objA] at hl
    split at hl
    · rename_i h0
      rw [opv_obj hv] at h0
      obtain ⟨y, rfl⟩ := objV_nil h0
      obtain ⟨fs, hfs⟩ := objA_all hus ⟨l, hl⟩
      exact ⟨y :: fs, by simp [allF, hfs]⟩
    · cases hl
theorem callA_all {m m2 : Mem} {f : Nat} {vs : List AV} {fs : List FV} {x : AV} {m' : Mem} {b : Bool} (h : allF vs = some fs) (hx : callA Γ m f vs = some (x, m', b)) : callA Γ m2 f vs = some (x, m2, b) := by
  unfold callA at hx ⊢
  rw [h] at hx ⊢
  obtain ⟨r, hr, h2⟩ := omap hx
  simp only [Prod.mk.injEq] at h2
  simp only [hr, Option.map_some, h2.1, h2.2.2]
theorem allF_app {vs : List AV} {fs caps : List FV} (h : allF vs = some fs) : allF (vs ++ caps.map .f) = some (fs ++ caps) := by
  induction vs generalizing fs with
  | nil =>
    simp only [allF, Option.some.injEq] at h; subst h
    induction caps with
    | nil => rfl
    | cons c r ih =>
      simp only [List.map_cons, List.nil_append, allF] at ih ⊢
      rw [ih]; rfl
  | cons v r ih =>
    cases v <;> simp only [allF, reduceCtorEq] at h
    obtain ⟨us, hus, rfl⟩ := omap h
    simp only [List.cons_append, allF, ih hus, Option.map_some]
/-- What a reader of other objects yields is the same. -/
theorem read_same {s : Slots} {G : List (Nat × Bool)} {m m2 : Mem} {op : AOp} {x : AV} {b : Bool} {l : List Nat} (hx : exOp Γ s G m op = some (x, m, b)) (hl : objsR s op = some l) (hm : ∀ k ∈ l, m2[k]? = m[k]?) : exOp Γ s G m2 op = some (x, m2, b) := by
  cases op <;> simp only [objsR, reduceCtorEq] at hl <;> simp only [exOp] at hx ⊢
  case load ag sz a =>
    obtain ⟨p, hp, h1⟩ := obind hx
    obtain ⟨v, hv, h2⟩ := obind h1
    rw [opv_obj hp] at hl
    obtain ⟨rfl, _, rfl⟩ := ok1_spec h2
    rw [hp]
    simp only [Option.bind_some, loadA_obj hl hm, hv]
    rfl
  case call f args =>
    obtain ⟨vs, hvs, h1⟩ := obind hx
    obtain ⟨fs, hfs⟩ := objA_all hvs ⟨l, hl⟩
    rw [hvs]
    exact callA_all hfs h1
  case callv y args =>
    obtain ⟨p, hp, h1⟩ := obind hx
    obtain ⟨vs, hvs, h2⟩ := obind h1
    simp only [objsR.objA] at hl
    split at hl
    · rename_i h0
      rw [opv_obj hp] at h0
      obtain ⟨z, rfl⟩ := objV_nil h0
      obtain ⟨fs, hfs⟩ := objA_all hvs ⟨l, hl⟩
      rw [hp, hvs]
      simp only [Option.bind_some]
      split at h2
      · exact callA_all (allF_app hfs) h2
      · rename_i hh; cases hh
      · cases h2
    · cases hl
  case alloc z =>
    obtain ⟨_, h2, _⟩ := ok1_spec hx
    have := congrArg List.length h2
    simp at this
  case ixn n y z =>
    obtain ⟨p, hp, h1⟩ := obind hx
    obtain ⟨q, hq, h2⟩ := obind h1
    rw [opv_obj hp] at hl
    rw [hp, hq]
    simp only [Option.bind_some]
    split at h2
    · split at h2
      · obtain ⟨h3, h4⟩ := cond_some h2
        simp only [Option.some.injEq, Prod.mk.injEq] at h4
        simp only [h3, h4.1, h4.2.2, cond_true]
      · simp only [objV, Option.some.injEq] at hl; subst hl
        simp only [hm _ (List.mem_singleton.2 rfl)]
        split at h2
        · rename_i hk
          obtain ⟨h3, h4⟩ := cond_some h2
          simp only [Option.some.injEq, Prod.mk.injEq] at h4
          simp only [hk, h3, h4.1, h4.2.2, cond_true]
        · rename_i hk
          simp only [Option.some.injEq, Prod.mk.injEq] at h2
          simp only [hk, h2.1, h2.2.2]
        · cases h2
      · cases h2
    · cases h2

theorem argsV_opvs {s : Slots} {G : List (Nat × Bool)} : ∀ {l : List AOpd} {vs : List AV}, opvs s G l = some vs → argsV s l = vs
  | [], vs, h => by simp only [opvs, Option.some.injEq] at h; exact h
  | x :: r, vs, h => by
    simp only [opvs] at h
    obtain ⟨v, hv, h1⟩ := obind h
    obtain ⟨us, hus, rfl⟩ := omap h1
    cases x with
    | c u => simp only [opv, Option.some.injEq] at hv; subst hv; simp only [argsV, argsV_opvs hus]
    | t n =>
      simp only [opv] at hv
      simp only [argsV, argsV_opvs hus, Option.some.inj (cond_some hv).2]
theorem argsV_stay {s s' : Slots} : ∀ {l : List AOpd}, (∀ t ∈ tmpsOf l, get s t = get s' t) → argsV s l = argsV s' l
  | [], _ => rfl
  | .c v :: r, h => by simp only [argsV]; rw [argsV_stay (l := r) fun t ht => h t (tmps_cons.2 ht)]
  | .t n :: r, h => by simp only [argsV]; rw [argsV_stay (l := r) fun t ht => h t (tmps_cons.2 ht), h n (by simp [tmpsOf])]

/-! ### The writer -/
theorem set_other {m : Mem} {k j : Nat} {o : MObj} (h : k ≠ j) : (m.set j o)[k]? = m[k]? := by rw [List.getElem?_set_ne (Ne.symm h)]
theorem snoc_other {m : Mem} {k : Nat} {o : MObj} (h : k ≠ m.length) : (m ++ [o])[k]? = m[k]? := by
  rcases Nat.lt_or_ge k m.length with h1 | h1
  · exact List.getElem?_append_left h1
  · rw [List.getElem?_eq_none (by simp; omega), List.getElem?_eq_none h1]
theorem storeA_other {m m' : Mem} {sz : Nat} {p v : AV} {l : List Nat} (h : storeA m sz p v = some m') (hl : objV p = some l) {k : Nat} (hk : k ∉ l) : m'[k]? = m[k]? := by
  unfold storeA at h
  obtain ⟨xs, _, h1⟩ := obind h
  have h2 := (cond_some h1).2
  cases p <;> simp only [reduceCtorEq] at h2
  case ptr j off =>
    simp only [objV, Option.some.injEq] at hl; subst hl
    split at h2
    · obtain ⟨cs, _, rfl⟩ := omap h2
      exact set_other (by simpa using hk)
    · split at h2
      · obtain ⟨cs, _, rfl⟩ := omap h2
        exact set_other (by simpa using hk)
      · cases h2
    · cases h2
  case nd j i off =>
    simp only [objV, Option.some.injEq] at hl; subst hl
    split at h2
    · obtain ⟨cs, _, rfl⟩ := omap h2
      exact set_other (by simpa using hk)
    · cases h2
  case bx j i =>
    simp only [objV, Option.some.injEq] at hl; subst hl
    split at h2
    · obtain ⟨cs, _, rfl⟩ := omap h2
      exact set_other (by simpa using hk)
    · cases h2
  case ndx j i b => cases hl
  case eptr j z i off =>
    simp only [objV, Option.some.injEq] at hl; subst hl
    split at h2
    · have h3 := (cond_some h2).2
      obtain ⟨fs, _, h4⟩ := obind h3
      obtain ⟨cs, _, h5⟩ := obind h4
      obtain ⟨y, _, rfl⟩ := omap h5
      exact set_other (by simpa using hk)
    · have h3 := (cond_some h2).2
      obtain ⟨cs, _, h4⟩ := obind h3
      obtain ⟨cs', _, rfl⟩ := omap h4
      exact set_other (by simpa using hk)
    · cases h2
theorem appA_other {m m' : Mem} {T : Sch} {p q x : AV} {b : Bool} {l l2 : List Nat} (h : appA m T p q = some (x, m', b)) (hl : objV x = some l) (hl2 : objV p = some l2) {k : Nat} (hk : k ∉ l ++ l2) : m'[k]? = m[k]? := by
  simp only [List.mem_append, not_or] at hk
  unfold appA at h
  split at h
  · split at h
    · simp only [Option.some.injEq, Prod.mk.injEq] at h
      obtain ⟨rfl, rfl, _⟩ := h
      simp only [objV, Option.some.injEq] at hl; subst hl
      exact snoc_other (by simpa using hk.1)
    · obtain ⟨r, _, h2⟩ := omap h
      simp only [Prod.mk.injEq] at h2
      obtain ⟨rfl, rfl, _⟩ := h2
      simp only [objV, Option.some.injEq] at hl; subst hl
      exact snoc_other (by simpa using hk.1)
  · simp only [objV, Option.some.injEq] at hl2; subst hl2
    have h := (cond_some h).2
    have fin : ∀ {o : MObj} {j z o2 len : Nat}, x = .sl m.length z o2 len → (m.set j .dead ++ [o])[k]? = (m.set j .dead)[k]? := fun {o j z o2 len} e => by
      subst e
      simp only [objV, Option.some.injEq] at hl; subst hl
      exact snoc_other (by simpa using hk.1)
    split at h
    · obtain ⟨hh, _, h1⟩ := obind h
      obtain ⟨r, _, h2⟩ := omap h1
      simp only [Prod.mk.injEq] at h2
      obtain ⟨h3, rfl, _⟩ := h2
      rw [fin h3.symm, set_other (by simpa using hk.2)]
    · have h := (cond_some h).2
      split at h
      · simp only [Option.some.injEq, Prod.mk.injEq] at h
        obtain ⟨h3, rfl, _⟩ := h
        rw [fin h3.symm, set_other (by simpa using hk.2)]
      · obtain ⟨r, _, h2⟩ := omap h
        simp only [Prod.mk.injEq] at h2
        obtain ⟨h3, rfl, _⟩ := h2
        rw [fin h3.symm, set_other (by simpa using hk.2)]
    · cases h
  · cases h
/-- What a writer leaves alone. -/
theorem write_other (c : RegC P ms Γ ops as r0 rn n) (hst : stays as = true) {q : Nat} {y : AOper} (hy : as[q]? = some y) {l : List Nat} (hl : objsW Γ rn.st.s y = some l) {k : Nat} (hk : k ∉ l) : (mAt Γ as r0 (q + 1))[k]? = (mAt Γ as r0 q)[k]? := by
  obtain ⟨x, m', b, hex, hs, hm, _⟩ := c.at_ hy
  rw [hm]
  have own : ∀ {d}, y.dst = some d → get rn.st.s d = (guardsOf (sAt Γ as r0 q) y.guard, x) := fun {d} hd => by
    rw [dst_once c hy hd, hs, hd, get_put_eq]
  unfold objsW at hl
  split at hl
  · rename_i osz sz t v hop
    rw [hop] at hex
    simp only [exOp] at hex
    obtain ⟨p, hp, h1⟩ := obind hex
    obtain ⟨u, _, h2⟩ := obind h1
    obtain ⟨m2, hm2, h3⟩ := obind h2
    obtain ⟨_, rfl, _⟩ := ok1_spec h3
    have e : get rn.st.s t = get (sAt Γ as r0 q) t := adr_stay c hst hy (by rw [hop]; simp [tmpsOf])
    have := opv_obj hp
    simp only [objO] at this
    rw [e, this] at hl
    exact storeA_other hm2 hl hk
  · rename_i z d hop hd
    rw [hop] at hex
    simp only [exOp] at hex
    obtain ⟨p, hp, h1⟩ := obind hex
    obtain ⟨u, _, h2⟩ := obind h1
    obtain ⟨rfl, rfl, _⟩ := ok1_spec h2
    rw [own hd] at hl
    simp only [objV, Option.some.injEq] at hl; subst hl
    exact snoc_other (by simpa using hk)
  · rename_i z d hop hd
    rw [hop] at hex
    simp only [exOp] at hex
    obtain ⟨rfl, rfl, _⟩ := ok1_spec hex
    rw [own hd] at hl
    simp only [objV, Option.some.injEq] at hl; subst hl
    exact snoc_other (by simpa using hk)
  · rename_i T bt z nn pp d hop hd
    rw [hop] at hex
    simp only [exOp] at hex
    obtain ⟨vs, _, h1⟩ := obind hex
    obtain ⟨es, _, h2⟩ := obind (cond_some h1).2
    obtain ⟨rfl, rfl, _⟩ := ok1_spec h2
    rw [own hd] at hl
    simp only [objV, Option.some.injEq] at hl; subst hl
    exact snoc_other (by simpa using hk)
  · rename_i T bt p1 p2 d hop hd
    rw [hop] at hex
    simp only [exOp] at hex
    obtain ⟨u, hu, h1⟩ := obind hex
    obtain ⟨v, _, h2⟩ := obind h1
    obtain ⟨l1, hl1, h3⟩ := obind hl
    obtain ⟨l2, hl2, rfl⟩ := omap h3
    rw [own hd] at hl1
    have e : objO rn.st.s p1 = objV u := by
      rw [objO_stay (s' := sAt Γ as r0 q) fun t ht => adr_stay c hst hy (by rw [hop]; exact ht)]
      exact opv_obj hu
    rw [e] at hl2
    exact appA_other h2 hl1 hl2 hk
  · rename_i f args d hop hd
    split at hl
    · rename_i e he
      rw [hop] at hex
      simp only [exOp] at hex
      obtain ⟨l1, hl1, h3⟩ := obind hl
      obtain ⟨l2, hl2, rfl⟩ := omap h3
      rw [own hd] at hl1
      simp only [List.mem_append, not_or] at hk
      have hargs : ∀ {vs : List AV}, opvs (sAt Γ as r0 q) (guardsOf (sAt Γ as r0 q) y.guard) args = some vs → argsV rn.st.s args = vs := fun {vs} hvs => by
        rw [argsV_stay (s' := sAt Γ as r0 q) fun t ht => adr_stay c hst hy (by rw [hop]; exact ht)]
        exact argsV_opvs hvs
      have hke : ∀ {g : Option Bool} {vs : List AV}, e.runOf g vs (mAt Γ as r0 q) = some (x, m', b) → argsV rn.st.s args = vs → m'[k]? = (mAt Γ as r0 q)[k]? := fun {g vs} hr hvs => by
        rw [hvs] at hl2
        exact (entMOf_sound c.sound.2 he).1.2.2.2 g vs _ x m' b hr l2 hl2 k hk.2 fun a ha => by
          have hl1 : objV x = some l1 := hl1
          rw [ha] at hl1; cases hl1; exact hk.1
      split at hex
      · obtain ⟨vs, hvs, h2⟩ := obind hex
        unfold callM at h2
        rw [he] at h2
        exact hke (g := none) h2 (hargs hvs)
      · obtain ⟨h0, hh0, h1⟩ := obind hex
        obtain ⟨vs, hvs, h2⟩ := obind h1
        unfold callMG at h2
        rw [he] at h2
        exact hke (g := some h0) h2 (hargs hvs)
    · cases hl
  · cases hl
/-- Objects that nobody between changes. -/
theorem obj_stay (c : RegC P ms Γ ops as r0 rn n) {k : Nat} {i : Nat} : ∀ (d : Nat), i + d ≤ as.length → (∀ q y, i ≤ q → q < i + d → as[q]? = some y → (mAt Γ as r0 (q + 1))[k]? = (mAt Γ as r0 q)[k]?) → (mAt Γ as r0 (i + d))[k]? = (mAt Γ as r0 i)[k]?
  | 0, _, _ => rfl
  | d + 1, hd, h => by
    have ho : as[i + d]? = some as[i + d] := List.getElem?_eq_getElem (by omega)
    rw [← Nat.add_assoc, h (i + d) _ (by omega) (by omega) ho]
    exact obj_stay c d (by omega) fun q y h1 h2 => h q y h1 (by omega)
theorem quiet_at (c : RegC P ms Γ ops as r0 rn n) {q : Nat} {y : AOper} (hy : as[q]? = some y) (hw : writesM y.op = false) : mAt Γ as r0 (q + 1) = mAt Γ as r0 q := by
  obtain ⟨x, m', b, hex, _, hm, _⟩ := c.at_ hy
  rw [hm, exOp_same hex hw]
end
end Go.AM
