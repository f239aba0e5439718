/-
  A region: its operations in the order of the text, or in any order that their edges allow.
-/
import Derived.Test.YthjhlpbiljpccaaAmOpL
import Derived.Orders
namespace Go.AM
open Go.RowKit

/-! ### What an operation depends on -/
section
variable {P : Program} {Γ : Env} {s s' : Slots} {G : List (Nat × Bool)} {m m2 m' : Mem} {x : AV} {vc : Bool}

theorem opv_congr {y : AOpd} (h : ∀ t ∈ tmpsOf [y], get s t = get s' t) : opv s G y = opv s' G y := by
  cases y with
  | c v => rfl
  | t n => simp only [opv, h n (by simp [tmpsOf])]
theorem mem_tmps {t : Nat} : ∀ {l : List AOpd}, AOpd.t t ∈ l → t ∈ tmpsOf l
  | [], h => by cases h
  | z :: r, h => by
    rcases List.mem_cons.1 h with rfl | h'
    · simp [tmpsOf]
    · cases z with
      | c v => exact mem_tmps (l := r) h'
      | t k => exact List.mem_cons_of_mem _ (mem_tmps h')
theorem opv_congr' {G' : List (Nat × Bool)} {y : AOpd} {l : List AOpd} (h : ∀ t ∈ tmpsOf l, get s t = get s' t) (hy : y ∈ l) : opv s G' y = opv s' G' y := by
  refine opv_congr fun t ht => h t ?_
  cases y with
  | c v => simp [tmpsOf] at ht
  | t n =>
    simp [tmpsOf] at ht; subst ht
    exact mem_tmps hy
theorem opvs_congr : ∀ {l : List AOpd}, (∀ t ∈ tmpsOf l, get s t = get s' t) → opvs s G l = opvs s' G l
  | [], _ => rfl
  | y :: r, h => by
    have h1 := opv_congr' (G' := G) h (List.mem_cons_self ..)
    have h2 : opvs s G r = opvs s' G r := opvs_congr fun t ht => h t (by cases y <;> simp [tmpsOf, ht])
    simp only [opvs, h1, h2]
theorem opvP3_congr : ∀ {l : List (Nat × Nat × AOpd)}, (∀ t ∈ tmpsOf (l.map fun p => p.2.2), get s t = get s' t) → opvP3 s G l = opvP3 s' G l
  | [], _ => rfl
  | (a, b, y) :: r, h => by
    have h1 := opv_congr' (G' := G) (y := y) h (by simp)
    have h2 : opvP3 s G r = opvP3 s' G r := opvP3_congr fun t ht => h t (by cases y <;> simp [tmpsOf, ht])
    simp only [opvP3, h1, h2]
theorem opvP2_congr : ∀ {l : List (Nat × AOpd)}, (∀ t ∈ tmpsOf (l.map fun p => p.2), get s t = get s' t) → opvP2 s G l = opvP2 s' G l
  | [], _ => rfl
  | (a, y) :: r, h => by
    have h1 := opv_congr' (G' := G) (y := y) h (by simp)
    have h2 : opvP2 s G r = opvP2 s' G r := opvP2_congr fun t ht => h t (by cases y <;> simp [tmpsOf, ht])
    simp only [opvP2, h1, h2]
theorem opvo_congr {y : Option AOpd} {l : List AOpd} (h : ∀ t ∈ tmpsOf l, get s t = get s' t) (hy : ∀ z, y = some z → z ∈ l) : opvo s G y = opvo s' G y := by
  cases y with
  | none => rfl
  | some z => simp only [opvo, opv_congr' (G' := G) h (hy z rfl)]

theorem holdG_congr {G0 : List (Nat × Bool)} : ∀ {X : List (Nat × Bool)}, (∀ p ∈ X, get s p.1 = get s' p.1) → holdG s G0 X = holdG s' G0 X
  | [], _ => rfl
  | (t, want) :: r, h => by
    simp only [holdG, h (t, want) (List.mem_cons_self ..), holdG_congr fun p hp => h p (List.mem_cons_of_mem _ hp)]
theorem exOp_congr {op : AOp} (h : ∀ t ∈ tmpsOf (opdsOf op), get s t = get s' t) (hg : ∀ p ∈ G, get s p.1 = get s' p.1) : exOp Γ s G m op = exOp Γ s' G m op := by
  have e : ∀ {G' : List (Nat × Bool)} {y : AOpd}, y ∈ opdsOf op → opv s G' y = opv s' G' y := fun hy => opv_congr' h hy
  cases op <;> simp only [exOp]
  case mov y => rw [e (by simp [opdsOf])]
  case pick c a b => rw [e (y := .t c) (by simp [opdsOf])]; simp only [e (y := a) (by simp [opdsOf]), e (y := b) (by simp [opdsOf])]
  case box y => rw [e (by simp [opdsOf])]
  case build z ps => rw [opvP3_congr h]
  case bslice T b z n ps => rw [opvP2_congr h]
  case bslF T z n ps => rw [opvP2_congr h]
  case load ag sz y => rw [e (by simp [opdsOf])]
  case store sz a v => simp only [e (y := a) (by simp [opdsOf]), e (y := v) (by simp [opdsOf])]
  case bin op a b => simp only [e (y := a) (by simp [opdsOf]), e (y := b) (by simp [opdsOf])]
  case eqa n l a b => simp only [e (y := a) (by simp [opdsOf]), e (y := b) (by simp [opdsOf])]
  case eqb n a b => simp only [e (y := a) (by simp [opdsOf]), e (y := b) (by simp [opdsOf])]
  case un op y => rw [e (by simp [opdsOf])]
  case conv k y => rw [e (by simp [opdsOf])]
  case convS y => rw [e (by simp [opdsOf])]
  case fld off y => rw [e (by simp [opdsOf])]
  case fldv ag off sz y => rw [e (by simp [opdsOf])]
  case ixa sz a b => simp only [e (y := a) (by simp [opdsOf]), e (y := b) (by simp [opdsOf])]
  case ixs a b => simp only [e (y := a) (by simp [opdsOf]), e (y := b) (by simp [opdsOf])]
  case gix g y => rw [e (by simp [opdsOf])]
  case slc sz y lo hi =>
    have h1 : opvo s G lo = opvo s' G lo := opvo_congr h (by intro z hz; subst hz; simp [opdsOf, optL])
    have h2 : opvo s G hi = opvo s' G hi := opvo_congr h (by intro z hz; subst hz; simp [opdsOf, optL])
    simp only [e (y := y) (by simp [opdsOf]), h1, h2]
  case slcs y lo hi =>
    have h1 : opvo s G lo = opvo s' G lo := opvo_congr h (by intro z hz; subst hz; simp [opdsOf, optL])
    have h2 : opvo s G hi = opvo s' G hi := opvo_congr h (by intro z hz; subst hz; simp [opdsOf, optL])
    simp only [e (y := y) (by simp [opdsOf]), h1, h2]
  case len y => rw [e (by simp [opdsOf])]
  case lens y => rw [e (by simp [opdsOf])]
  case call f args => rw [opvs_congr (l := args) h]
  case callm f args => rw [opvs_congr (l := args) h, holdG_congr hg]
  case callv y args =>
    have h1 : opvs s G args = opvs s' G args := opvs_congr fun t ht => h t (by cases y <;> simp [opdsOf, tmpsOf, ht])
    simp only [e (y := y) (by simp [opdsOf]), h1]
  case mkfn f caps => rw [opvs_congr (l := caps) h]
  case app T b a c => simp only [e (y := a) (by simp [opdsOf]), e (y := c) (by simp [opdsOf])]
  case ext i y => rw [e (by simp [opdsOf])]
  case nilchk y => rw [e (by simp [opdsOf])]
  case mm mx a b => simp only [e (y := a) (by simp [opdsOf]), e (y := b) (by simp [opdsOf])]
  case nilq ng y => rw [e (by simp [opdsOf])]
  case nilpq ng y => rw [e (by simp [opdsOf])]
  case capn y => rw [e (by simp [opdsOf])]
  case appz T a b => simp only [e (y := a) (by simp [opdsOf]), e (y := b) (by simp [opdsOf])]
  case mks T y => rw [e (by simp [opdsOf])]
  case clr T y => rw [e (by simp [opdsOf])]
  case ixn n a b => simp only [e (y := a) (by simp [opdsOf]), e (y := b) (by simp [opdsOf])]
  case mkm y => rw [e (by simp [opdsOf])]
  case mput a b => simp only [e (y := a) (by simp [opdsOf]), e (y := b) (by simp [opdsOf])]
  case mget a b => simp only [e (y := a) (by simp [opdsOf]), e (y := b) (by simp [opdsOf])]

theorem keep_bind {α : Type} {y : Option α} {f g : α → Option (AV × Mem × Bool)} (h : ∀ v, f v = some (x, m', vc) → m' = m ∧ g v = some (x, m2, vc)) (hx : y.bind f = some (x, m', vc)) : m' = m ∧ y.bind g = some (x, m2, vc) := by
  obtain ⟨v, hv, h1⟩ := obind hx
  obtain ⟨h2, h3⟩ := h v h1
  exact ⟨h2, by rw [hv]; exact h3⟩
theorem keep_map {α : Type} {y : Option α} {f : α → AV × Bool} (hx : y.map (fun r => ((f r).1, m, (f r).2)) = some (x, m', vc)) : m' = m ∧ y.map (fun r => ((f r).1, m2, (f r).2)) = some (x, m2, vc) := by
  obtain ⟨v, hv, h1⟩ := omap hx
  simp only [Prod.mk.injEq] at h1
  obtain ⟨rfl, rfl, rfl⟩ := h1
  exact ⟨rfl, by rw [hv]; rfl⟩
theorem keep_ok1 {v : AV} (h : ok1 v m = some (x, m', vc)) : m' = m ∧ ok1 v m2 = some (x, m2, vc) := by
  obtain ⟨rfl, rfl, rfl⟩ := ok1_spec h
  exact ⟨rfl, rfl⟩

set_option maxHeartbeats 1000000 in
/-- What neither looks at the own memory nor changes it. -/
theorem exOp_mem {op : AOp} (hx : exOp Γ s G m op = some (x, m', vc)) (hr : readsM op = false) (hw : writesM op = false) : m' = m ∧ exOp Γ s G m2 op = some (x, m2, vc) := by
  cases op <;> first | (simp [readsM] at hr; done) | (simp [writesM] at hw; done) | skip
  all_goals simp only [exOp] at hx ⊢
  case mov => exact keep_bind (fun v h => keep_ok1 h) hx
  case pick =>
    refine keep_bind (fun v h => keep_bind (fun v1 h => keep_bind (fun v2 h => ?_) h) h) hx
    split at h
    · exact keep_bind (fun v h => keep_ok1 h) h
    · cases h
  case build => exact keep_bind (fun v h => keep_bind (fun v h => keep_ok1 h) h) hx
  case bslF T z n ps =>
    refine keep_bind (fun v h => ?_) hx
    cases hz : z.length == T.size with
    | false => rw [hz] at h; cases h
    | true =>
      rw [hz] at h
      exact keep_bind (fun v h => keep_bind (fun v h => keep_ok1 h) h) h
  case bin => exact keep_bind (fun v h => keep_bind (fun v h => keep_map (f := fun (r : FV × Bool) => (AV.f r.1, r.2)) h) h) hx
  case eqa =>
    refine keep_bind (fun v h => keep_bind (fun v1 h => ?_) h) hx
    split at h
    · exact keep_map (f := fun (r : Bool) => (AV.f (.bool (bif _ then !r else r)), true)) h
    · cases h
  case eqb =>
    refine keep_bind (fun v h => keep_bind (fun v1 h => ?_) h) hx
    split at h <;> first | exact keep_ok1 h | cases h
  case un =>
    refine keep_bind (fun v h => ?_) hx
    split at h <;> first | exact keep_ok1 h | cases h
  case conv =>
    refine keep_bind (fun v h => ?_) hx
    split at h <;> first | exact keep_ok1 h | cases h
  case convS =>
    refine keep_bind (fun v h => ?_) hx
    split at h <;> first | exact keep_ok1 h | cases h
  case fld =>
    refine keep_bind (fun v h => ?_) hx
    split at h <;> first | exact keep_ok1 h | cases h
  case fldv =>
    refine keep_bind (fun v h => ?_) hx
    split at h <;> first | exact keep_bind (fun v h => keep_ok1 h) h | cases h
  case ixa =>
    refine keep_bind (fun v h => keep_bind (fun v1 h => ?_) h) hx
    split at h
    · exact keep_map (f := fun r => r) h
    · cases h
  case gix =>
    refine keep_bind (fun v h => ?_) hx
    split at h
    · exact keep_map (f := fun (t : IntKind × List Int) => (_, _)) h
    · cases h
  case ixs =>
    refine keep_bind (fun v h => keep_bind (fun v1 h => ?_) h) hx
    split at h
    · simp only [Option.some.injEq, Prod.mk.injEq] at h ⊢
      exact ⟨h.2.1.symm, h.1, trivial, h.2.2⟩
    · cases h
  case slc =>
    refine keep_bind (fun v h => keep_bind (fun v1 h => keep_bind (fun v2 h => ?_) h) h) hx
    exact keep_map (f := fun r => r) h
  case slcs =>
    refine keep_bind (fun v h => keep_bind (fun v1 h => keep_bind (fun v2 h => ?_) h) h) hx
    split at h
    · refine keep_bind (fun v h => ?_) h
      exact keep_map (f := fun h => (AV.f (.str _), _)) h
    · cases h
  case len =>
    refine keep_bind (fun v h => ?_) hx
    split at h <;> first | exact keep_ok1 h | cases h
  case lens =>
    refine keep_bind (fun v h => ?_) hx
    split at h <;> first | exact keep_ok1 h | cases h
  case mkfn => exact keep_bind (fun v h => keep_ok1 h) hx
  case ext =>
    refine keep_bind (fun v h => ?_) hx
    split at h
    · exact keep_bind (fun v h => keep_ok1 h) h
    · exact keep_bind (fun v h => keep_ok1 h) h
    · cases h
  case nilchk =>
    refine keep_bind (fun v h => ?_) hx
    split at h
    case h_7 =>
      simp only [Option.some.injEq, Prod.mk.injEq] at h ⊢
      exact ⟨h.2.1.symm, h.1, trivial, h.2.2⟩
    all_goals first | exact keep_ok1 h | cases h
  case nil0 => exact keep_ok1 hx
  case mget =>
    refine keep_bind (fun v h => keep_bind (fun v1 h => ?_) h) hx
    split at h <;> first | exact keep_ok1 h | cases h
  case capn =>
    refine keep_bind (fun v h => ?_) hx
    split at h <;> first | exact keep_ok1 h | cases h
  case nilpq =>
    refine keep_bind (fun v h => ?_) hx
    split at h <;> first | exact keep_ok1 h | cases h
  case nilq =>
    refine keep_bind (fun v h => ?_) hx
    split at h
    · obtain ⟨h1, h2⟩ := cond_some h
      rw [h1]; exact keep_ok1 h2
    · exact keep_ok1 h
    · exact keep_ok1 h
    · cases h
  case mm =>
    refine keep_bind (fun v h => keep_bind (fun v1 h => ?_) h) hx
    split at h
    · obtain ⟨h1, h2⟩ := cond_some h
      rw [h1]; exact keep_ok1 h2
    · cases h
/-- What does not change the own memory. -/
theorem exOp_same {op : AOp} (hx : exOp Γ s G m op = some (x, m', vc)) (hw : writesM op = false) : m' = m := by
  rcases skip_of hx (by rintro sz a v rfl; cases hw) (by rintro f l rfl; cases hw) (by rintro T y rfl; cases hw) (by rintro p q rfl; cases hw) with h | ⟨d, ob, h⟩
  · exact h
  · cases hr : readsM op with
    | false => exact (exOp_mem (m2 := m) hx hr hw).1
    | true =>
      have callsk : ∀ {f : Nat} {vs : List AV}, callA Γ m f vs = some (x, m', vc) → m' = m := fun {f vs} h => by
        unfold callA at h
        split at h
        · obtain ⟨r, _, h2⟩ := omap h
          simp only [Prod.mk.injEq] at h2
          exact h2.2.1.symm
        · obtain ⟨fs, _, h2⟩ := obind h
          obtain ⟨r, _, h3⟩ := obind h2
          cases hfl : flatF r.1 with
          | true =>
            rw [hfl] at h3
            simp only [cond_true, Option.some.injEq, Prod.mk.injEq] at h3
            exact h3.2.1.symm
          | false =>
            rw [hfl] at h3
            obtain ⟨_, h4⟩ := cond_some (show (bif nobR r.1 then _ else none) = _ from h3)
            obtain ⟨_, _, h5⟩ := omap h4
            simp only [Prod.mk.injEq] at h5
            exact h5.2.1.symm
      cases op <;> first | (simp [readsM] at hr; done) | skip
      all_goals simp only [exOp] at hx
      case load =>
        obtain ⟨p, _, h1⟩ := obind hx
        obtain ⟨v, _, h2⟩ := obind h1
        exact skip_ok1 h2
      case call =>
        obtain ⟨p, _, h1⟩ := obind hx
        exact callsk h1
      case callm => simp [writesM] at hw
      case callv =>
        obtain ⟨p, _, h1⟩ := obind hx
        obtain ⟨v, _, h2⟩ := obind h1
        split at h2
        · exact callsk h2
        · exact callsk h2
        · cases h2
      case ixn =>
        obtain ⟨p, _, h1⟩ := obind hx
        obtain ⟨v, _, h2⟩ := obind h1
        split at h2
        · split at h2
          · have h3 := (cond_some h2).2
            simp only [Option.some.injEq, Prod.mk.injEq] at h3
            exact h3.2.1.symm
          · split at h2
            · have h3 := (cond_some h2).2
              simp only [Option.some.injEq, Prod.mk.injEq] at h3
              exact h3.2.1.symm
            · simp only [Option.some.injEq, Prod.mk.injEq] at h2
              exact h2.2.1.symm
            · cases h2
          · cases h2
        · cases h2
end
end Go.AM
