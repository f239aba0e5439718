/-
  Every operation of the compact code.
-/
import Derived.Test.YthjhlpbiljpccaaAmOpQ
namespace Go.AM
open Go.RowKit

section
variable {P : Program} {ms : List Nat} {N : Nat → Prop} {B : Nat → Prop} {w : World} {φ : Phi} {m : Mem} {o : Oper} {a : Act} {Γ : Env} {s : Slots} {G : List (Nat × Bool)} {x : AV} {m' : Mem} {vc : Bool}

set_option maxHeartbeats 1000000 in
theorem exOp_ok {op : AOp} (hc : cOp P ms o.op = some op) (hx : exOp Γ s G m op = some (x, m', vc)) (hvc : hasVc op = true → vc = true)
    (hΓ : Sound P Γ) (hN : ∀ b, ¬ B b → N b) (hs : SlotsOk (Nof N φ) w φ s a) (hG : Holds a G) (hm : MRel N B w φ m) (hB : ∀ b, B b → b < w.heap.size) : OpOk P o a w (Post N B φ w m' x) := by
  unfold cOp at hc
  split at hc
  · rename_i y ho
    obtain ⟨ay, hy, rfl⟩ := omap hc
    exact op_mov (.inl ho) hy hx hs hG hm
  · rename_i y ho
    obtain ⟨ay, hy, rfl⟩ := omap hc
    exact op_mov (.inr ho) hy hx hs hG hm
  · rename_i c y z ho
    obtain ⟨ay, hy, h1⟩ := obind hc
    obtain ⟨az, hz, rfl⟩ := omap h1
    exact op_pick ho hy hz hx hs hG hm
  · rename_i t y ho
    obtain ⟨ay, hy, rfl⟩ := omap hc
    exact op_box ho hy hx hs hG hm hB
  · rename_i t ho
    obtain ⟨z, hz, rfl⟩ := omap hc
    exact op_alloc ho hz hx hm hB
  · rename_i t ps ho
    split at hc
    · rename_i e ht
      obtain ⟨h1, h2⟩ := cond_some hc
      simp only [Bool.and_eq_true] at h1
      cases h2
      obtain rfl : ps = #[] := by have := h1.1; simpa using this
      exact op_nil0 ho ht h1.2 hx hm hB
    · cases hc
  · rename_i t ps ho
    split at hc
    · rename_i fs ht
      obtain ⟨h1, h2⟩ := cond_some hc
      obtain ⟨z, hz, h3⟩ := obind h2
      obtain ⟨p, hp, rfl⟩ := omap h3
      exact op_build ho ht h1 hz hp hx hs hG hm
    · rename_i n e ht
      obtain ⟨h1, h2⟩ := cond_some hc
      obtain ⟨z, hz, h3⟩ := obind h2
      obtain ⟨p, hp, rfl⟩ := omap h3
      exact op_buildA ho ht h1 hz hp hx hs hG hm
    · cases hc
  · rename_i t n ps _ ho
    split at hc
    · rename_i e ht
      obtain ⟨T, hT, h1⟩ := obind hc
      obtain ⟨z, hz, h2⟩ := obind h1
      obtain ⟨p, hp, h3⟩ := obind h2
      obtain ⟨h4, h5⟩ := cond_some h3
      simp only [Bool.and_eq_true, beq_iff_eq, Nat.blt_eq] at h4
      obtain ⟨⟨⟨⟨h6, h7⟩, h8⟩, h9⟩, h10⟩ := h4
      cases hms : elemN 1000000 ms with
      | false =>
        rw [hms] at h5
        cases h5
        exact op_bslice ho ht h6 h7 (Nat.le_of_ble_eq_true h8) h10 h9 hz hp hx hs hG hm hB
      | true =>
        rw [hms] at h5
        cases h5
        exact op_bslF ho ht h6 h7 (Nat.le_of_ble_eq_true h8) h10 h9 hz hp hx hs hG hN hm hB
    · cases hc
  · rename_i t y ho
    obtain ⟨h1, h2⟩ := cond_some hc
    obtain ⟨ay, hy, rfl⟩ := omap h2
    exact op_load ho h1 hy hx hs hG hm
  · rename_i t y z ho
    obtain ⟨h1, h2⟩ := cond_some hc
    obtain ⟨ay, hy, h3⟩ := obind h2
    obtain ⟨az, hz, rfl⟩ := omap h3
    exact op_store ho h1 hy hz hx hs hG hm
  · rename_i bo t y z u ho
    cases hag : isAggT P t with
    | true =>
      rw [hag] at hc
      simp only [cond_true] at hc
      cases hgd : P.eqGuardType P.depth t with
      | true => rw [hgd] at hc; cases hc
      | false =>
        rw [hgd] at hc
        simp only [cond_false] at hc
        split at hc
        · rename_i fs ht
          split at hc
          · obtain ⟨l, hl, h1⟩ := obind hc
            obtain ⟨ay, hy, h2⟩ := obind h1
            obtain ⟨az, hz, rfl⟩ := omap h2
            exact op_eqa ho hgd ht hl (.inl ⟨rfl, rfl⟩) hy hz hx hs hG hm
          · obtain ⟨l, hl, h1⟩ := obind hc
            obtain ⟨ay, hy, h2⟩ := obind h1
            obtain ⟨az, hz, rfl⟩ := omap h2
            exact op_eqa ho hgd ht hl (.inr ⟨rfl, rfl⟩) hy hz hx hs hG hm
          · cases hc
        · cases hc
    | false =>
      rw [hag] at hc
      simp only [cond_false] at hc
      split at hc
      · rename_i ht
        split at hc
        · obtain ⟨ay, hy, h2⟩ := obind hc
          obtain ⟨az, hz, rfl⟩ := omap h2
          exact op_eqb ho ht (.inl ⟨rfl, rfl⟩) hy hz hx hs hG hm
        · obtain ⟨ay, hy, h2⟩ := obind hc
          obtain ⟨az, hz, rfl⟩ := omap h2
          exact op_eqb ho ht (.inr ⟨rfl, rfl⟩) hy hz hx hs hG hm
        · cases hc
      · obtain ⟨ay, hy, h2⟩ := obind hc
        obtain ⟨az, hz, rfl⟩ := omap h2
        exact op_bin ho hy hz hx hvc hs hG hm
      · obtain ⟨ay, hy, h2⟩ := obind hc
        obtain ⟨az, hz, rfl⟩ := omap h2
        exact op_bin ho hy hz hx hvc hs hG hm
      · rename_i e ht
        split at hc
        · obtain ⟨ay, hy, rfl⟩ := omap hc
          exact op_nilpq (neg := false) ho ht (Or.inl ⟨rfl, rfl⟩) hy hx hs hG hm
        · obtain ⟨ay, hy, rfl⟩ := omap hc
          exact op_nilpq (neg := true) ho ht (Or.inr ⟨rfl, rfl⟩) hy hx hs hG hm
        · cases hc
      · rename_i e ht
        split at hc
        · obtain ⟨ay, hy, rfl⟩ := omap hc
          exact op_nilq (neg := false) ho ht (Or.inl ⟨rfl, rfl⟩) hy hx hs hG hm
        · obtain ⟨ay, hy, rfl⟩ := omap hc
          exact op_nilq (neg := true) ho ht (Or.inr ⟨rfl, rfl⟩) hy hx hs hG hm
        · cases hc
      · cases hc
  · rename_i uo t y ho
    obtain ⟨ay, hy, rfl⟩ := omap hc
    exact op_un ho hy hx hs hG hm
  · rename_i t u y ho
    split at hc
    · rename_i ht hu
      obtain ⟨ay, hy, rfl⟩ := omap hc
      exact op_conv ho ht hu hy hx hs hG hm
    · rename_i ht hu
      obtain ⟨ay, hy, rfl⟩ := omap hc
      exact op_convS ho ht hu hy hx hs hG hm
    · cases hc
  · rename_i t y i ho
    split at hc
    · rename_i fs ht
      obtain ⟨f, hf, h1⟩ := obind hc
      obtain ⟨h2, h3⟩ := cond_some h1
      simp only [Bool.and_eq_true, Nat.blt_eq] at h2
      obtain ⟨ay, hy, rfl⟩ := omap h3
      exact op_fld ho ht hf h2.1 h2.2 hy hx hs hG hm
    · cases hc
  · rename_i t y i ho
    split at hc
    · rename_i fs ht
      obtain ⟨f, hf, h1⟩ := obind hc
      obtain ⟨h2, h3⟩ := cond_some h1
      obtain ⟨ay, hy, rfl⟩ := omap h3
      exact op_fldv ho ht hf h2 hy hx hs hG hm
    · cases hc
  · rename_i t y i ho
    split at hc
    · rename_i e ht
      obtain ⟨h2, h3⟩ := cond_some hc
      simp only [Bool.and_eq_true, Nat.blt_eq] at h2
      obtain ⟨ay, hy, h4⟩ := obind h3
      obtain ⟨az, hz, rfl⟩ := omap h4
      exact op_ixa ho ht h2.1 h2.2 hy hz hx (hvc rfl) hs hG hm
    · rename_i n e ht
      split at hc
      · obtain ⟨h2, h3⟩ := cond_some hc
        simp only [Bool.and_eq_true, decide_eq_true_eq] at h2
        obtain ⟨ay, hy, rfl⟩ := omap h3
        exact op_ixarr ho ht h2.1.1.1 h2.1.2 h2.2 hy hx hs hG hm
      · split at hc
        · split at hc
          · rename_i h5 h6
            obtain ⟨h2, h3⟩ := cond_some hc
            simp only [Bool.and_eq_true, decide_eq_true_eq, beq_iff_eq] at h2
            obtain ⟨ay, hy, rfl⟩ := omap h3
            exact op_gix ho ht h2.1.1.2 h2.1.2 h2.2 h5 hy hx (hvc rfl) hs hG hm
          · cases hc
        · obtain ⟨h2, h3⟩ := cond_some hc
          simp only [Bool.and_eq_true, beq_iff_eq] at h2
          obtain ⟨ay, hy, h4⟩ := obind h3
          obtain ⟨az, hz, rfl⟩ := omap h4
          exact op_ixn ho ht h2.1 h2.2 hy hz hx (hvc rfl) hs hG hm
    · cases hc
  · rename_i t y i ho
    split at hc
    · rename_i ht
      obtain ⟨ay, hy, h4⟩ := obind hc
      obtain ⟨az, hz, rfl⟩ := omap h4
      exact op_ixs ho ht hy hz hx (hvc rfl) hs hG hm
    · cases hc
  · rename_i t y lo hi ho
    split at hc
    · rename_i e ht
      obtain ⟨h2, h3⟩ := cond_some hc
      obtain ⟨ay, hy, h4⟩ := obind h3
      obtain ⟨al, hl, h5⟩ := obind h4
      obtain ⟨ah, hh, rfl⟩ := omap h5
      exact op_slc ho ht h2 hy hl hh hx (hvc rfl) hs hG hm
    · rename_i ht
      obtain ⟨ay, hy, h4⟩ := obind hc
      obtain ⟨al, hl, h5⟩ := obind h4
      obtain ⟨ah, hh, rfl⟩ := omap h5
      exact op_slcs ho ht hy hl hh hx (hvc rfl) hs hG hm
    · cases hc
  · rename_i f first caps ho
    obtain ⟨h1, h2⟩ := cond_some hc
    obtain ⟨as, has, rfl⟩ := omap h2
    obtain rfl : first = #[] := by simpa using h1
    exact op_mkfn ho has hx hs hG hm
  · rename_i args argTypes ho
    split at hc
    · rename_i y t hca hct
      split at hc
      · rename_i ht
        obtain ⟨ay, hy, rfl⟩ := omap hc
        exact op_lens ho rfl hca hct ht hy hx hs hG hm
      · rename_i e ht
        obtain ⟨ay, hy, rfl⟩ := omap hc
        exact op_len ho rfl hca hct ht hy hx hs hG hm
      · cases hc
    · cases hc
  · rename_i args argTypes ho
    split at hc
    · rename_i y z t u hca hct
      split at hc
      · rename_i e ht hu
        obtain ⟨T, hT, h1⟩ := obind hc
        obtain ⟨ay, hy, h2⟩ := obind h1
        obtain ⟨az, hz, h3⟩ := obind h2
        obtain ⟨h4, h5⟩ := cond_some h3
        simp only [Bool.and_eq_true, beq_iff_eq, Nat.blt_eq] at h4
        obtain ⟨⟨⟨⟨⟨h6, h7⟩, h8⟩, h9⟩, h10⟩, h11⟩ := h4
        cases h5
        exact op_appz ho rfl hca hct ht hu h6 h7 h8 h9 h10 (Nat.le_of_ble_eq_true h11) hy hz hx (hvc rfl) hs hG hm hB
      · rename_i e e2 ht hu
        obtain ⟨T, hT, h1⟩ := obind hc
        obtain ⟨ay, hy, h2⟩ := obind h1
        obtain ⟨az, hz, h3⟩ := obind h2
        obtain ⟨h4, h5⟩ := cond_some h3
        simp only [Bool.and_eq_true, beq_iff_eq, Nat.blt_eq] at h4
        obtain ⟨⟨⟨⟨⟨h6, h7⟩, h8⟩, h9⟩, h10⟩, h11⟩ := h4
        cases h5
        exact op_app ho rfl hca hct ht hu h6 h7 h8 h9 h10 (Nat.le_of_ble_eq_true h11) hy hz hx (hvc rfl) hs hG hm hB
      · cases hc
    · cases hc
  · rename_i args argTypes ho
    split at hc
    · rename_i y t hca hct
      split at hc
      · rename_i e ht
        obtain ⟨ay, hy, rfl⟩ := omap hc
        exact op_capn ho rfl hca hct ht hy hx hs hG hm
      · cases hc
    · cases hc
  · rename_i args argTypes ho
    split at hc
    · rename_i y t hca hct
      split at hc
      · rename_i e ht
        obtain ⟨T, hT, h1⟩ := obind hc
        obtain ⟨h4, h5⟩ := cond_some h1
        simp only [Bool.and_eq_true, beq_iff_eq, Nat.blt_eq] at h4
        obtain ⟨⟨⟨h6, h7⟩, h8⟩, h9⟩ := h4
        obtain ⟨ay, hy, rfl⟩ := omap h5
        exact op_clr ho rfl hca hct ht h7 h8 h9 hy hx hs hG hm
      · cases hc
    · cases hc
  · rename_i t l c ho
    split at hc
    · rename_i e ht
      obtain ⟨T, hT, h1⟩ := obind hc
      obtain ⟨h4, h5⟩ := cond_some h1
      simp only [Bool.and_eq_true, beq_iff_eq, Nat.blt_eq] at h4
      obtain ⟨⟨⟨⟨⟨⟨h3, h6⟩, h7⟩, h8⟩, h9⟩, h10⟩, h11⟩ := h4
      cases h5
      subst h3
      exact op_mks ho ht h6 h7 h8 h9 (Nat.le_of_ble_eq_true h11) hx (hvc rfl) hs hG hm hB
    · cases hc
  · rename_i args argTypes ho
    split at hc
    · rename_i y z hca
      obtain ⟨ay, hy, h2⟩ := obind hc
      obtain ⟨az, hz, rfl⟩ := omap h2
      exact op_mm (mx := true) ho rfl hca hy hz hx hs hG hm
    · cases hc
  · rename_i args argTypes ho
    split at hc
    · rename_i y z hca
      obtain ⟨ay, hy, h2⟩ := obind hc
      obtain ⟨az, hz, rfl⟩ := omap h2
      exact op_mm (mx := false) ho rfl hca hy hz hx hs hG hm
    · cases hc
  · rename_i f args argTypes ho
    obtain ⟨as, has, rfl⟩ := omap hc
    cases hms : elemN f ms with
    | true =>
      rw [hms] at hx hvc
      exact op_callm ho rfl has hx (hvc rfl) hΓ hN hs hG hm hB
    | false =>
      rw [hms] at hx hvc
      exact op_call ho rfl has hx (hvc rfl) hΓ hN hs hG hm hB
  · rename_i t args argTypes ho
    obtain ⟨as, has, rfl⟩ := omap hc
    exact op_callv ho rfl has hx (hvc rfl) hΓ hN hs hG hm hB
  · rename_i t r ho
    split at hc
    · rename_i k e ht
      split at hc
      · rename_i hk he
        obtain ⟨ay, hy, rfl⟩ := omap hc
        exact op_mkm ho ht hy hx hs hG hm hB
      · cases hc
    · cases hc
  · rename_i t y z ho
    split at hc
    · rename_i k e ht
      split at hc
      · rename_i hk he
        obtain ⟨ay, hy, h1⟩ := obind hc
        obtain ⟨az, hz, rfl⟩ := omap h1
        exact op_mput ho ht hk hy hz hx hs hG hm
      · cases hc
    · cases hc
  · rename_i t y z ho
    split at hc
    · rename_i k e ht
      split at hc
      · rename_i hk he
        obtain ⟨h0, h1⟩ := cond_some hc
        obtain ⟨ay, hy, h1⟩ := obind h1
        obtain ⟨az, hz, rfl⟩ := omap h1
        exact op_mget ho ht hk h0 hy hz hx hs hG hm
      · cases hc
    · cases hc
  · rename_i y i ho
    obtain ⟨ay, hy, rfl⟩ := omap hc
    exact op_ext ho hy hx hs hG hm
  · rename_i y ho
    obtain ⟨ay, hy, rfl⟩ := omap hc
    exact op_nilchk ho hy hx (hvc rfl) hs hG hm
  · cases hc

/-! ### An operation that its guard keeps back -/
/-- What it would have done to the own memory: nothing; an object more; an object given up, and one more. -/
def SkipM (m m' : Mem) : Prop := m' = m ∨ ∃ (d : List Nat) (ob : MObj), m' = (d.foldl (fun m k => m.set k .dead) m) ++ [ob]

theorem skipM_ok {w : World} (hm : MRel N B w φ m) (h : SkipM m m') : ∃ φ', Tr N B φ w φ' w ∧ MRel N B w φ' m' := by
  rcases h with rfl | ⟨d, ob, rfl⟩
  · exact ⟨φ, Tr.refl _ _ _ _, hm⟩
  · have hd : ∀ (d : List Nat) (m : Mem), MRel N B w φ m → MRel N B w φ (d.foldl (fun m k => m.set k .dead) m) := fun d => by
      induction d with
      | nil => exact fun m h => h
      | cons k d ih => exact fun m h => ih _ (mrel_dead h k)
    exact ⟨_, (mrel_phantom (hd d m hm) ob).1, (mrel_phantom (hd d m hm) ob).2⟩

theorem skip_bind {α : Type} {y : Option α} {f : α → Option (AV × Mem × Bool)} (h : ∀ v, f v = some (x, m', vc) → SkipM m m') (hx : y.bind f = some (x, m', vc)) : SkipM m m' := by
  obtain ⟨v, _, h1⟩ := obind hx
  exact h v h1
theorem skip_ok1 {v : AV} {m0 : Mem} (h : ok1 v m0 = some (x, m', vc)) : m' = m0 := (ok1_spec h).2.1

set_option maxHeartbeats 1000000 in
theorem skip_of {op : AOp} (hx : exOp Γ s G m op = some (x, m', vc)) (hst : ∀ sz a v, op ≠ .store sz a v) (hst2 : ∀ f l, op ≠ .callm f l) (hst3 : ∀ T x, op ≠ .clr T x) (hst4 : ∀ a b, op ≠ .mput a b) : SkipM m m' := by
  have callsk : ∀ {f : Nat} {vs : List AV}, callA Γ m f vs = some (x, m', vc) → SkipM m m' := fun {f vs} h => by
    unfold callA at h
    split at h
    · obtain ⟨r, _, h2⟩ := omap h
      simp only [Prod.mk.injEq] at h2
      exact .inl h2.2.1.symm
    · obtain ⟨fs, _, h2⟩ := obind h
      obtain ⟨r, _, h3⟩ := obind h2
      cases hfl : flatF r.1 with
      | true =>
        rw [hfl] at h3
        simp only [cond_true, Option.some.injEq, Prod.mk.injEq] at h3
        exact .inl h3.2.1.symm
      | false =>
        rw [hfl] at h3
        obtain ⟨_, h4⟩ := cond_some (show (bif nobR r.1 then _ else none) = _ from h3)
        obtain ⟨_, _, h5⟩ := omap h4
        simp only [Prod.mk.injEq] at h5
        exact .inl h5.2.1.symm
  cases op <;> simp only [exOp] at hx
  case mov => exact skip_bind (fun v h => .inl (skip_ok1 h)) hx
  case pick =>
    refine skip_bind (fun v h => skip_bind (fun v1 h => skip_bind (fun v2 h => ?_) h) h) hx
    split at h
    · exact skip_bind (fun v h => .inl (skip_ok1 h)) h
    · cases h
  case box => exact skip_bind (fun v h => skip_bind (fun v h => .inr ⟨[], _, skip_ok1 h⟩) h) hx
  case alloc => exact .inr ⟨[], _, skip_ok1 hx⟩
  case build => exact skip_bind (fun v h => skip_bind (fun v h => .inl (skip_ok1 h)) h) hx
  case bslice =>
    refine skip_bind (fun v h => ?_) hx
    exact skip_bind (fun v h => .inr ⟨[], _, skip_ok1 h⟩) (cond_some h).2
  case bslF =>
    refine skip_bind (fun v h => ?_) hx
    exact skip_bind (fun v h => skip_bind (fun v h => .inl (skip_ok1 h)) h) (cond_some h).2
  case load => exact skip_bind (fun v h => skip_bind (fun v h => .inl (skip_ok1 h)) h) hx
  case store sz a v => exact absurd rfl (hst sz a v)
  case bin =>
    refine skip_bind (fun v h => skip_bind (fun v1 h => ?_) h) hx
    obtain ⟨r, _, h2⟩ := omap h
    simp only [Prod.mk.injEq] at h2
    exact .inl h2.2.1.symm
  case eqa =>
    refine skip_bind (fun v h => skip_bind (fun v1 h => ?_) h) hx
    split at h
    · obtain ⟨r, _, h2⟩ := omap h
      simp only [Prod.mk.injEq] at h2
      exact .inl h2.2.1.symm
    · cases h
  case eqb =>
    refine skip_bind (fun v h => skip_bind (fun v1 h => ?_) h) hx
    split at h
    · exact .inl (skip_ok1 h)
    · cases h
  case un =>
    refine skip_bind (fun v h => ?_) hx
    split at h <;> first | exact .inl (skip_ok1 h) | cases h
  case conv =>
    refine skip_bind (fun v h => ?_) hx
    split at h <;> first | exact .inl (skip_ok1 h) | cases h
  case convS =>
    refine skip_bind (fun v h => ?_) hx
    split at h <;> first | exact .inl (skip_ok1 h) | cases h
  case fld =>
    refine skip_bind (fun v h => ?_) hx
    split at h <;> first | exact .inl (skip_ok1 h) | cases h
  case fldv =>
    refine skip_bind (fun v h => ?_) hx
    split at h
    · exact skip_bind (fun v h => .inl (skip_ok1 h)) h
    · exact skip_bind (fun v h => .inl (skip_ok1 h)) h
    · cases h
  case ixa =>
    refine skip_bind (fun v h => skip_bind (fun v1 h => ?_) h) hx
    split at h
    · obtain ⟨r, _, h2⟩ := omap h
      simp only [Prod.mk.injEq] at h2
      exact .inl h2.2.1.symm
    · cases h
  case ixs =>
    refine skip_bind (fun v h => skip_bind (fun v1 h => ?_) h) hx
    split at h
    · simp only [Option.some.injEq, Prod.mk.injEq] at h
      exact .inl h.2.1.symm
    · cases h
  case gix =>
    refine skip_bind (fun v h => ?_) hx
    split at h
    · obtain ⟨r, _, h2⟩ := omap h
      simp only [Prod.mk.injEq] at h2
      exact .inl h2.2.1.symm
    · cases h
  case slc =>
    refine skip_bind (fun v h => skip_bind (fun v1 h => skip_bind (fun v2 h => ?_) h) h) hx
    obtain ⟨r, _, h2⟩ := omap h
    simp only [Prod.mk.injEq] at h2
    exact .inl h2.2.1.symm
  case slcs =>
    refine skip_bind (fun v h => skip_bind (fun v1 h => skip_bind (fun v2 h => ?_) h) h) hx
    split at h
    · refine skip_bind (fun v h => ?_) h
      obtain ⟨r, _, h2⟩ := omap h
      simp only [Prod.mk.injEq] at h2
      exact .inl h2.2.1.symm
    · cases h
  case len =>
    refine skip_bind (fun v h => ?_) hx
    split at h <;> first | exact .inl (skip_ok1 h) | cases h
  case lens =>
    refine skip_bind (fun v h => ?_) hx
    split at h <;> first | exact .inl (skip_ok1 h) | cases h
  case call => exact skip_bind (fun v h => callsk h) hx
  case callm f l => exact absurd rfl (hst2 f l)
  case clr T y => exact absurd rfl (hst3 T y)
  case mput p q => exact absurd rfl (hst4 p q)
  case mkm =>
    refine skip_bind (fun v h => ?_) hx
    split at h
    · exact .inr ⟨[], _, skip_ok1 h⟩
    · cases h
  case mget =>
    refine skip_bind (fun v h => skip_bind (fun v1 h => ?_) h) hx
    split at h
    · exact .inl (skip_ok1 h)
    · cases h
  case capn =>
    refine skip_bind (fun v h => ?_) hx
    split at h <;> first | exact .inl (skip_ok1 h) | cases h
  case appz =>
    refine skip_bind (fun v h => skip_bind (fun v1 h => ?_) h) hx
    split at h
    · simp only [Option.some.injEq, Prod.mk.injEq] at h
      exact .inr ⟨[], _, h.2.1.symm⟩
    · cases h
  case mks =>
    refine skip_bind (fun v h => ?_) hx
    split at h
    · simp only [Option.some.injEq, Prod.mk.injEq] at h
      exact .inr ⟨[], _, h.2.1.symm⟩
    · cases h
  case callv =>
    refine skip_bind (fun v h => skip_bind (fun v1 h => ?_) h) hx
    split at h
    · exact callsk h
    · exact callsk h
    · cases h
  case mkfn => exact skip_bind (fun v h => .inl (skip_ok1 h)) hx
  case app =>
    refine skip_bind (fun v h => skip_bind (fun v1 h => ?_) h) hx
    unfold appA at h
    split at h
    · split at h
      · simp only [Option.some.injEq, Prod.mk.injEq] at h
        exact .inr ⟨[], _, h.2.1.symm⟩
      · obtain ⟨r, _, h2⟩ := omap h
        simp only [Prod.mk.injEq] at h2
        exact .inr ⟨[], _, h2.2.1.symm⟩
    · have h := (cond_some h).2
      split at h
      · refine skip_bind (fun v h => ?_) h
        obtain ⟨r, _, h2⟩ := omap h
        simp only [Prod.mk.injEq] at h2
        exact .inr ⟨[_], _, h2.2.1.symm⟩
      · have h := (cond_some h).2
        split at h
        · simp only [Option.some.injEq, Prod.mk.injEq] at h
          exact .inr ⟨[_], _, h.2.1.symm⟩
        · obtain ⟨r, _, h2⟩ := omap h
          simp only [Prod.mk.injEq] at h2
          exact .inr ⟨[_], _, h2.2.1.symm⟩
      · cases h
    · cases h
  case ext =>
    refine skip_bind (fun v h => ?_) hx
    split at h
    · exact skip_bind (fun v h => .inl (skip_ok1 h)) h
    · exact skip_bind (fun v h => .inl (skip_ok1 h)) h
    · cases h
  case nilchk =>
    refine skip_bind (fun v h => ?_) hx
    split at h
    case h_7 =>
      simp only [Option.some.injEq, Prod.mk.injEq] at h
      exact .inl h.2.1.symm
    all_goals first | exact .inl (skip_ok1 h) | cases h
  case ixn =>
    refine skip_bind (fun v h => skip_bind (fun v1 h => ?_) h) hx
    split at h
    · split at h
      · have h := (cond_some h).2
        simp only [Option.some.injEq, Prod.mk.injEq] at h
        exact .inl h.2.1.symm
      · split at h
        · have h := (cond_some h).2
          simp only [Option.some.injEq, Prod.mk.injEq] at h
          exact .inl h.2.1.symm
        · simp only [Option.some.injEq, Prod.mk.injEq] at h
          exact .inl h.2.1.symm
        · cases h
      · cases h
    · cases h
  case nil0 => exact .inl (skip_ok1 hx)
  case nilpq =>
    refine skip_bind (fun v h => ?_) hx
    split at h <;> first | exact .inl (skip_ok1 h) | cases h
  case mm =>
    refine skip_bind (fun v h => skip_bind (fun v1 h => ?_) h) hx
    split at h
    · exact .inl (skip_ok1 (cond_some h).2)
    · cases h
  case nilq =>
    refine skip_bind (fun v h => ?_) hx
    split at h
    · exact .inl (skip_ok1 (cond_some h).2)
    · exact .inl (skip_ok1 h)
    · exact .inl (skip_ok1 h)
    · cases h
end
end Go.AM
