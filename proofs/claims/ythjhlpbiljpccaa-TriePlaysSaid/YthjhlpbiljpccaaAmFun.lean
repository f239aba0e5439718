/-
  A function's contract, from its compact code.
-/
import Derived.Test.YthjhlpbiljpccaaAmEvC
namespace Go.AM
open Go.RowKit

/-! ### What is sure of data that is in memory -/
mutual
def Cell.wf : (c : Cell) → c.den → Prop
  | .bool, _ => True
  | .int k, n => inR k n
  | .str, s => s.length ≤ maxLen
  | .fn _, _ => True
  | .mp, _ => True
  | .sl T, l => lenD (T := T) l ≤ maxLen ∧ ∀ (i : Nat) (x : T.den), nthD (T := T) l i = some x → Sch.wf T x
def Sch.wf : (s : Sch) → s.den → Prop
  | .nil, _ => True
  | .cons c s, x => Cell.wf c x.1 ∧ Sch.wf s x.2
end
def capsWf : (l : List Sch) → capsDen l → Prop
  | [], _ => True
  | s :: r, x => Sch.wf s x.1 ∧ capsWf r x.2
def VS.wf : (v : VS) → v.den → Prop
  | .one c, x => Cell.wf c x
  | .st s, x => Sch.wf s x
  | .ptr s, x => Sch.wf s x
  | .clo _ caps, x => capsWf caps x
def VSs.wf : (l : List VS) → VSs.den l → Prop
  | [], _ => True
  | v :: r, x => VS.wf v x.1 ∧ VSs.wf r x.2

section
variable {N : Nat → Prop} {w : World}
mutual
theorem crel_wf : (c : Cell) → (x : c.den) → (v : Value) → CRel N w c x v → Cell.wf c x
  | .bool, _, _, _ => trivial
  | .int _, _, _, h => h.2
  | .str, _, _, h => h.2
  | .fn _, _, _, _ => trivial
  | .mp, _, _, _ => trivial
  | .sl T, l, v, h => by
    obtain ⟨A, cap, _, hm, _, hc⟩ := h
    refine ⟨hm, fun i x hi => ?_⟩
    have hlt : i < lenD (T := T) l := (List.getElem?_eq_some_iff.1 hi).1
    by_cases hT : 0 < T.size
    · obtain ⟨a, _, _, hr⟩ := hc (by omega) hT
      exact srel_wf T x _ (hr i x hi)
    · cases T with
      | nil => exact trivial
      | cons c s => simp [Sch.size] at hT
theorem srel_wf : (s : Sch) → (x : s.den) → (f : Nat → Option Value) → SRel N w s x f → Sch.wf s x
  | .nil, _, _, _ => trivial
  | .cons c s, x, f, h => by
    obtain ⟨⟨v, _, _, hc⟩, hs⟩ := h
    exact ⟨crel_wf c x.1 v hc, srel_wf s x.2 _ hs⟩
end

theorem enc_wf : (s : Sch) → (x : s.den) → (∀ (j : Nat) c, (s.enc x)[j]? = some c → ∃ v, FRel N w c v) → Sch.wf s x
  | .nil, _, _ => trivial
  | .cons c s, x, h => by
    obtain ⟨v, hv⟩ := h 0 (c.enc x.1) rfl
    exact ⟨crel_wf c x.1 v (enc_crel c x.1 v hv), enc_wf s x.2 fun j d hd => h (j + 1) d (by simpa [Sch.enc] using hd)⟩
theorem ptr_wf {s : Sch} {x : s.den} {o : Nat} {v : Value} (h : FRel N w (.fpt (s.enc x) o) v) : Sch.wf s x := by
  cases h with
  | fpt g hN hc ho h => exact enc_wf s x fun j c hj => ⟨g j, h j c hj⟩
theorem caps_wf : (l : List Sch) → (x : capsDen l) → (∀ (j : Nat) c, (capsEnc l x)[j]? = some c → ∃ v, FRel N w c v) → capsWf l x
  | [], _, _ => trivial
  | s :: r, x, h => by
    obtain ⟨v, hv⟩ := h 0 _ rfl
    exact ⟨ptr_wf hv, caps_wf r x.2 fun j d hd => h (j + 1) d (by simpa [capsEnc] using hd)⟩
theorem vs_wf : (t : VS) → (x : t.den) → (v : Value) → FRel N w (t.enc x) v → VS.wf t x
  | .one c, x, v, h => crel_wf c x v (enc_crel c x v h)
  | .st s, x, v, h => by
    cases h with
    | @agg _ vs hn ho h =>
      refine enc_wf (N := N) (w := w) s x fun j c hj => ?_
      have hlt := (List.getElem?_eq_some_iff.1 hj).1
      exact ⟨_, h j c _ hj (Array.getElem?_eq_getElem (by omega))⟩
  | .ptr s, x, v, h => ptr_wf h
  | .clo f caps, x, v, h => by
    cases h with
    | @fn _ _ vs hn h =>
      refine caps_wf (N := N) (w := w) caps x fun j c hj => ?_
      have hlt := (List.getElem?_eq_some_iff.1 hj).1
      exact ⟨_, h j c _ hj (Array.getElem?_eq_getElem (by omega))⟩
theorem vss_wf : (l : List VS) → (x : VSs.den l) → (vs : List Value) → ArgsRel N w (VSs.enc l x) vs → VSs.wf l x
  | [], _, _, _ => trivial
  | t :: r, x, [], h => by have := h.1; simp [VSs.enc] at this
  | t :: r, x, v :: vs, h =>
    ⟨vs_wf t x.1 v (h.2 0 _ v rfl rfl), vss_wf r x.2 vs ⟨by have := h.1; simpa [VSs.enc] using this, fun j c u hj hu => h.2 (j + 1) c u (by simpa [VSs.enc] using hj) (by simpa using hu)⟩⟩
end

theorem vss_len : (l : List VS) → (x : VSs.den l) → (VSs.enc l x).length = l.length
  | [], _ => rfl
  | _ :: r, x => by simp [VSs.enc, vss_len r x.2]

theorem get_start : ∀ (i : Nat) (fs : List FV) (t : Nat), get (start i fs) t = if t < i then ([], .junk) else match fs[t - i]? with | some v => ([], .f v) | none => ([], .junk)
  | i, [], t => by simp [start, get]
  | i, v :: r, t => by
    simp only [start, get]
    rcases Bool.eq_false_or_eq_true (i == t) with h | h
    · have : i = t := by simpa using h
      subst this
      simp
    · have hne : ¬ i = t := by simpa using h
      simp only [h, cond_false]
      rw [get_start (i + 1) r t]
      by_cases h1 : t < i
      · simp [h1, Nat.lt_succ_of_lt h1]
      · have h2 : ¬ t < i + 1 := by omega
        simp only [h1, h2, if_false]
        rw [show t - i = (t - (i + 1)) + 1 by omega]
        simp

section
variable {P : Program} {ms : List Nat} {Γ : Env}

/-- One result. -/
theorem resV_ok {N : Nat → Prop} {wb : Base} {n : Nat} {a : Act} {w : World} {φ : Phi} {st : St} (hN : ∀ b, ¬ wb.B b → N b) (h : RelC N wb n a w φ st) {r : ResultVar} {rs : List ResultVar} {ar : ARes} {ars : List ARes} (hr : cRes P (r :: rs) = some (ar :: ars))
    {x : FV} (hx : resV st ar = some x) : (∃ ars', cRes P rs = some ars' ∧ ars' = ars) ∧
    ∃ v, ((match r with | .tmp t => pure (a.tmps.getD t undef) | .cell c t => do loadVar t (← asAddr (a.tmps.getD c undef)) : Sem Value)).run P w = .ok v w ∧ FRel N w x v := by
  have hM : ∀ b, Nof N φ b ∨ ownL φ st.m b → N b := fun b hb => by
    rcases hb with hb | hb
    · exact hb.1
    · obtain ⟨k, x, hb, hf⟩ := hb.own
      exact hN b (h.mem.bd k x b hb hf).1
  cases r with
  | tmp t =>
    simp only [cRes] at hr
    obtain ⟨ars', h1, h2⟩ := omap hr
    cases h2
    refine ⟨⟨_, h1, rfl⟩, a.tmps.getD t undef, by simp, ?_⟩
    simp only [resV] at hx
    split at hx
    · rename_i v hv
      have := h.slots t
      rw [hv] at this
      exact frz_ok hM h.mem 8 _ _ _ hx this
    · cases hx
  | cell c t =>
    simp only [cRes] at hr
    rcases Bool.eq_false_or_eq_true (tyOk P t) with ht | ht
    · rw [ht] at hr
      simp only [cond_true] at hr
      obtain ⟨ars', h1, h2⟩ := omap hr
      cases h2
      simp only [resV] at hx
      split at hx
      · rename_i v hv
        obtain ⟨y, hy, hz⟩ := obind hx
        have hs := h.slots c
        rw [hv] at hs
        obtain ⟨u, hu, hur⟩ := load_val ht h.mem hs hy
        refine ⟨⟨_, h1, rfl⟩, u, ?_, frz_ok hM h.mem 8 _ _ _ hz hur⟩
        obtain ⟨A, hA⟩ : ∃ A, a.tmps.getD c undef = .pointer (some A) := by
          generalize a.tmps.getD c undef = pv at hs
          unfold loadA at hy
          split at hy
          · cases hs with | f hs => cases hs; exact ⟨_, rfl⟩
          · cases hs; exact ⟨_, rfl⟩
          · cases hs; exact ⟨_, rfl⟩
          · cases hs; exact ⟨_, rfl⟩
          · cases hs; exact ⟨_, rfl⟩
          · cases hs; exact ⟨_, rfl⟩
          · cases hy
        show (do loadVar t (← asAddr (a.tmps.getD c undef)) : Sem Value).run P w = _
        rw [hA] at hu ⊢
        simpa [Instr.loadAt, Instr.sureAddr, asAddr] using hu
      · cases hx
    · rw [ht] at hr; cases hr

/-- A result of the model. -/
def getRes (tmps : Array Value) : ResultVar → Sem Value
  | .tmp t => pure (tmps.getD t undef)
  | .cell c t => do loadVar t (← asAddr (tmps.getD c undef))

theorem resVs_ok {N : Nat → Prop} {wb : Base} {n : Nat} {a : Act} {w : World} {φ : Phi} {st : St} (hN : ∀ b, ¬ wb.B b → N b) (h : RelC N wb n a w φ st) : ∀ {rs : List ResultVar} {ars : List ARes} {xs : List FV}, cRes P rs = some ars → resVs st ars = some xs →
    ∃ us, (rs.mapM (getRes a.tmps)).run P w = .ok us w ∧ ArgsRel N w xs us
  | [], ars, xs, hr, hx => by
    simp only [cRes, Option.some.injEq] at hr
    subst hr
    simp only [resVs, Option.some.injEq] at hx
    subst hx
    exact ⟨[], by simp, rfl, fun j c v hj => by simp at hj⟩
  | r :: rs, [], xs, hr, hx => by
    cases r with
    | tmp t => simp only [cRes] at hr; obtain ⟨_, _, h2⟩ := omap hr; cases h2
    | cell c t =>
      simp only [cRes] at hr
      rcases Bool.eq_false_or_eq_true (tyOk P t) with ht | ht
      · rw [ht] at hr; obtain ⟨_, _, h2⟩ := omap hr; cases h2
      · rw [ht] at hr; cases hr
  | r :: rs, ar :: ars, xs, hr, hx => by
    simp only [resVs] at hx
    obtain ⟨x, hx1, h1⟩ := obind hx
    obtain ⟨ys, hys, rfl⟩ := omap h1
    obtain ⟨⟨_, hrs, rfl⟩, v, hv, hvr⟩ := resV_ok hN h hr hx1
    obtain ⟨us, hus, hl, hu⟩ := resVs_ok hN h hrs hys
    have hv' : (getRes a.tmps r).run P w = .ok v w := by
      rw [← hv]; cases r <;> rfl
    refine ⟨v :: us, ?_, by simp [hl], fun j c u hj hju => ?_⟩
    · simp [List.mapM_cons, Sem.run_bind, hv', hus]
    · cases j with
      | zero => simp at hj hju; subst hj; subst hju; exact hvr
      | succ j => exact hu j c u (by simpa using hj) (by simpa using hju)

theorem results_ok {N : Nat → Prop} {wb : Base} {n : Nat} {a : Act} {w : World} {φ : Phi} {st : St} (hN : ∀ b, ¬ wb.B b → N b) (h : RelC N wb n a w φ st) {fn : Func} {ars : List ARes} {xs : List FV} (hr : cRes P fn.results.toList = some ars) (hx : resVs st ars = some xs) :
    ∃ v, (results fn a.tmps).run P w = .ok v w ∧ FRel N w (outOf xs) v := by
  obtain ⟨us, hus, hl, hu⟩ := resVs_ok hN h hr hx
  have he : results fn a.tmps = fn.results.mapM (getRes a.tmps) >>= fun vs => pure (if h : vs.size = 1 then vs[0] else .tuple vs) := by
    unfold results
    congr 1
  rw [Array.mapM_eq_mapM_toList, map_eq_pure_bind] at he
  refine ⟨if h : us.toArray.size = 1 then us.toArray[0] else .tuple us.toArray, ?_, ?_⟩
  · rw [he]
    simp only [Sem.run_bind, hus, Result.andThen_ok, Sem.run_pure]
  · cases us with
    | nil =>
      have : xs = [] := List.eq_nil_of_length_eq_zero (by simpa using hl)
      subst this
      exact .tup rfl fun j c v hj => by simp at hj
    | cons u r =>
      cases r with
      | nil =>
        cases xs with
        | nil => simp at hl
        | cons x r' =>
          have : r' = [] := List.eq_nil_of_length_eq_zero (by simpa using hl)
          subst this
          exact hu 0 x u rfl rfl
      | cons u' r =>
        have h1 : ¬ ((u :: u' :: r).toArray.size = 1) := by simp
        rw [dif_neg h1]
        cases xs with
        | nil => simp at hl
        | cons x r' =>
          cases r' with
          | nil => simp at hl
          | cons x' r' =>
            refine .tup (by simpa using hl.symm) fun j c v hj hv => hu j c v hj (by simpa using hv)

theorem rel_start {N : Nat → Prop} {w : World} {fs : List FV} {vs : List Value} {n : Nat} (hgl : GlobOk N w) (hA : ArgsRel N w fs vs) (hn : fs.length ≤ n) :
    RelC N (Base.all w) n { tmps := vs.toArray ++ Array.replicate (n - vs.toArray.size) undef, defers := [] } w [] ⟨start 0 fs, []⟩ := by
  have hown : Keeps N w (Nof N []) w := fun _ _ h g => ⟨⟨h, fun ⟨k, _, hk, _⟩ => by simp at hk⟩, g⟩
  refine ⟨fun t => ?_, fun t => ?_, ⟨rfl, fun k b tot cnt o h => by simp at h, fun k x b h => by simp at h, fun k j o p x y b h => by simp at h, hgl.mono hown⟩, Bel.refl _ _, ?_, rfl⟩
  · show (get (start 0 fs) t).1 = []
    rw [get_start]
    simp only [Nat.not_lt_zero, if_false]
    split <;> rfl
  · show VRel _ _ _ (get (start 0 fs) t).2 _
    rw [get_start]
    simp only [Nat.not_lt_zero, if_false, Nat.sub_zero]
    split
    · rename_i c hc
      have hlt := (List.getElem?_eq_some_iff.1 hc).1
      have hv : vs[t]? = some (vs[t]'(by have := hA.1; omega)) := List.getElem?_eq_getElem _
      have := hA.2 t c _ hc hv
      refine .f ((this).mono hown |> fun z => ?_)
      have hlv : t < vs.length := by have := hA.1; omega
      have : (vs.toArray ++ Array.replicate (n - vs.toArray.size) undef).getD t undef = vs[t]'hlv := by
        simp [Array.getD_eq_getD_getElem?, Array.getElem?_append, hlv]
      rw [this]; exact z
    · exact .junk
  · have := hA.1
    simp; omega

theorem compF_inv {fn : Func} {c : AFunc} (h : compF P ms fn = some c) : ∃ code, fn.body = some code ∧ cC P ms fn.ntmps code = some c.body ∧ cRes P fn.results.toList = some c.res ∧ c.ntmps = fn.ntmps ∧ c.nparams = fn.params.size := by
  unfold compF at h
  split at h
  · cases h
  · rename_i code hb
    obtain ⟨b, hc, h1⟩ := obind h
    obtain ⟨r, hr, rfl⟩ := omap h1
    exact ⟨code, hb, hc, hr, rfl, rfl⟩

/-- A FUNCTION's CONTRACT, at one argument. -/
theorem pure_of (hm : P.follows .mixedOrders = true) (hΓ : Sound P Γ) {tbl : Tbl} {f : Nat} {fn : Func} {c : AFunc} (hf : P.funcs[f]? = some fn) (hc : compF P ms fn = some c.strip) (hl : TblOk tbl c.body)
    {fs rs : List FV} (hn : fs.length ≤ c.ntmps) (hev : evF Γ (Lfp Γ tbl) c fs fun vs => vs = rs) : PureA P f fs (outOf rs) := by
  intro N w vs hN hgl hA
  obtain ⟨code, hb, hcode, hres, hnt, _⟩ := compF_inv hc
  have hnt' : c.ntmps = fn.ntmps := hnt
  refine calls_of_wp hf hb ?_
  refine evC_ok (N := N) (wb := Base.all w) (n := fn.ntmps) hm hΓ (fun b hb => hN b (Nat.le_of_not_lt hb)) code c.body hcode hl (rel_start hgl hA (by omega)) hev fun o a w' φ st h hk => ?_
  have fin : (match resVs st c.res with | some vs => vs = rs | none => False) → a.defers = [] ∧ ∃ v, (results fn a.tmps).run P w' = .ok v w' ∧ ∃ v', Ending.returned v = .returned v' ∧ FRel N w' (outOf rs) v' ∧ Below w.heap.size w w' := fun hr => by
    split at hr
    · rename_i xs hxs
      subst hr
      obtain ⟨v, h1, h2⟩ := results_ok (fun b hb => hN b (Nat.le_of_not_lt hb)) h hres hxs
      exact ⟨h.defers, v, h1, v, rfl, h2, h.below.below fun _ h => h⟩
    · exact hr.elim
  cases o with
  | norm => exact fin hk
  | ret => exact fin hk
  | exit i => exact hk.elim

/-- The results, read as data. -/
def dq (R : List VS) (Q : VSs.den R → Prop) (vs : List FV) : Prop := match VSs.dec R vs with
  | some x => Q x
  | none => False
theorem out_dec {N : Nat → Prop} {w : World} {R : List VS} {xs : List FV} {x : VSs.den R} {v : Value} (hd : VSs.dec R xs = some x) (h : FRel N w (outOf xs) v) : FRel N w (outOf (VSs.enc R x)) v := by
  have many : ∀ {us : Array Value}, us.size = xs.length → (∀ (j : Nat) c u, xs[j]? = some c → us[j]? = some u → FRel N w c u) → ArgsRel N w (VSs.enc R x) us.toList := fun {us} hn hu =>
    vss_dec R xs x us.toList hd ⟨by simpa using hn.symm, fun j c u hj hju => hu j c u hj (by simpa using hju)⟩
  cases R with
  | nil =>
    cases xs with
    | nil => exact h
    | cons c r => simp [VSs.dec] at hd
  | cons t R =>
    cases R with
    | nil =>
      cases xs with
      | nil => simp [VSs.dec] at hd
      | cons c r =>
        cases r with
        | nil =>
          obtain ⟨y, hy, h1⟩ := obind hd
          obtain ⟨u, hu, rfl⟩ := omap h1
          exact vs_dec t c y v hy h
        | cons c2 r =>
          obtain ⟨y, hy, h1⟩ := obind hd
          obtain ⟨u, hu, rfl⟩ := omap h1
          simp [VSs.dec] at hu
    | cons t2 R =>
      cases xs with
      | nil => simp [VSs.dec] at hd
      | cons c r =>
        cases r with
        | nil =>
          obtain ⟨y, hy, h1⟩ := obind hd
          obtain ⟨u, hu, rfl⟩ := omap h1
          simp [VSs.dec] at hu
        | cons c2 r =>
          cases h with
          | @tup _ us hn hu =>
            have := many hn hu
            exact .tup (by rw [← Array.length_toList]; exact this.1.symm) fun j c u hj hju => this.2 j c u hj (by simpa using hju)
theorem pure_dq (hm : P.follows .mixedOrders = true) (hΓ : Sound P Γ) {tbl : Tbl} {f : Nat} {fn : Func} {c : AFunc} (hf : P.funcs[f]? = some fn) (hc : compF P ms fn = some c.strip) (hl : TblOk tbl c.body)
    {fs : List FV} {R : List VS} {x : VSs.den R} (hn : fs.length ≤ c.ntmps) (hev : evF Γ (Lfp Γ tbl) c fs (dq R fun y => y = x)) : PureA P f fs (outOf (VSs.enc R x)) := by
  intro N w vs hN hgl hA
  obtain ⟨code, hb, hcode, hres, hnt, _⟩ := compF_inv hc
  have hnt' : c.ntmps = fn.ntmps := hnt
  refine calls_of_wp hf hb ?_
  refine evC_ok (N := N) (wb := Base.all w) (n := fn.ntmps) hm hΓ (fun b hb => hN b (Nat.le_of_not_lt hb)) code c.body hcode hl (rel_start hgl hA (by omega)) hev fun o a w' φ st h hk => ?_
  have fin : (match resVs st c.res with | some vs => dq R (fun y => y = x) vs | none => False) → a.defers = [] ∧ ∃ v, (results fn a.tmps).run P w' = .ok v w' ∧ ∃ v', Ending.returned v = .returned v' ∧ FRel N w' (outOf (VSs.enc R x)) v' ∧ Below w.heap.size w w' := fun hr => by
    split at hr
    · rename_i xs hxs
      unfold dq at hr
      split at hr
      · rename_i y hy
        subst hr
        obtain ⟨v, h1, h2⟩ := results_ok (fun b hb => hN b (Nat.le_of_not_lt hb)) h hres hxs
        exact ⟨h.defers, v, h1, v, rfl, out_dec hy h2, h.below.below fun _ h => h⟩
      · exact hr.elim
    · exact hr.elim
  cases o with
  | norm => exact fin hk
  | ret => exact fin hk
  | exit i => exact hk.elim
theorem sound_dq (hm : P.follows .mixedOrders = true) (hΓ : Sound P Γ) {tbl : Tbl} {e : Ent} {fn : Func} {c : AFunc} (hf : P.funcs[e.f]? = some fn) (hname : (fn.name == "runtime.NumGoroutine") = false) (hc : compF P ms fn = some c.strip) (hl : TblOk tbl c.body)
    (hn : e.A.length ≤ c.ntmps) (hev : ∀ x, VSs.wf e.A x → e.pre x = true → evF Γ (Lfp Γ tbl) c (VSs.enc e.A x) (dq e.R fun y => y = e.g x)) : SoundE P e := by
  obtain ⟨code, hb, _⟩ := compF_inv hc
  refine ⟨⟨fn, hf, hname, by rw [hb]; rfl⟩, fun x hp N w vs hN hgl hA => ?_⟩
  exact pure_dq hm hΓ hf hc hl (by rw [vss_len]; exact hn) (hev x (vss_wf e.A x vs hA) hp) N w vs hN hgl hA

/-- The contract of an entry. -/
theorem sound_of (hm : P.follows .mixedOrders = true) (hΓ : Sound P Γ) {tbl : Tbl} {e : Ent} {fn : Func} {c : AFunc} (hf : P.funcs[e.f]? = some fn) (hname : (fn.name == "runtime.NumGoroutine") = false) (hc : compF P ms fn = some c.strip) (hl : TblOk tbl c.body)
    (hn : e.A.length ≤ c.ntmps) (hev : ∀ x, VSs.wf e.A x → e.pre x = true → evF Γ (Lfp Γ tbl) c (VSs.enc e.A x) fun vs => vs = VSs.enc e.R (e.g x)) : SoundE P e := by
  obtain ⟨code, hb, _⟩ := compF_inv hc
  refine ⟨⟨fn, hf, hname, by rw [hb]; rfl⟩, fun x hp N w vs hN hgl hA => ?_⟩
  exact pure_of hm hΓ hf hc hl (by rw [vss_len]; exact hn) (hev x (vss_wf e.A x vs hA) hp) N w vs hN hgl hA
end
end Go.AM
