/-
  Plain lemmas: loops that go up, the first place, numbers that fit.
-/
import Derived.Test.YthjhlpbiljpccaaAmOps
import Derived.IntWalk
namespace Go.AM

theorem down {n : Nat} {G L : Nat → Prop} (hend : G n → L n) (hstep : ∀ i, i < n → (G (i + 1) → L (i + 1)) → G i → L i) : ∀ i, i ≤ n → G i → L i := by
  intro i hi
  generalize hd : n - i = d
  induction d generalizing i with
  | zero =>
    have : i = n := by omega
    subst this; exact hend
  | succ d ih => exact hstep i (by omega) (ih (i + 1) (by omega) (by omega))

/-- The first place at which f holds, counted from i; -1 if there is none. -/
def firstFrom {α : Type} (f : α → Bool) : List α → Int → Int
  | [], _ => -1
  | x :: r, i => cond (f x) i (firstFrom f r (i + 1))
def firstIdx {α : Type} (f : α → Bool) (l : List α) : Int := firstFrom f l 0

theorem drop_at {α : Type} {l : List α} {i : Nat} (h : i < l.length) (d : α) : l.drop i = l.getD i d :: l.drop (i + 1) := by
  rw [List.drop_eq_getElem_cons h]
  simp [List.getD, h]
theorem getD_mem {α : Type} {l : List α} {i : Nat} (h : i < l.length) (d : α) : l.getD i d ∈ l := by
  simp [List.getD, h]
theorem okIx_of {n len : Int} (h1 : 0 ≤ n) (h2 : n < len) : okIx n len = true := by simp [okIx, h1, h2]
theorem okIx_nat {i n : Nat} (h : i < n) : okIx (i : Int) (n : Int) = true := okIx_of (by omega) (by omega)
theorem okSlc_of {l h n : Int} (h1 : 0 ≤ l) (h2 : l ≤ h) (h3 : h ≤ n) : okSlc l h n = true := by simp [okSlc, h1, h2, h3]
theorem okApp_of {len n m : Nat} (h1 : len = n) (h2 : len + m ≤ roomy) : okApp len n m = true := by simp [okApp, h1]; omega
theorem w64 {x : Int} (h1 : -9223372036854775808 ≤ x) (h2 : x ≤ 9223372036854775807) : IntKind.wrap .i64 x = x := IntWalk.i64_in x ⟨h1, h2⟩
theorem w64n {n : Nat} (h : n < 9223372036854775807) : IntKind.wrap .i64 ((n : Int) + 1) = ((n + 1 : Nat) : Int) := by
  rw [w64 (by omega) (by omega)]; rfl
theorem dlt {i n : Nat} (h : i < n) : decide ((i : Int) < (n : Int)) = true := by simpa using h
theorem dltf {i n : Nat} (h : ¬ i < n) : decide ((i : Int) < (n : Int)) = false := by simpa using h

/-- The length that memory allows. -/
theorem len_ok {T : Sch} {l : List T.den} (h : Cell.wf (.sl T) l) : l.length ≤ maxLen := h.1

/-- A loop that goes up by one: what it comes to. -/
def upV {R : Type} (body : Nat → R → R) (rest : R) : Nat → Nat → R
  | 0, _ => rest
  | m + 1, c => body c (upV body rest m (c + 1))
/-- The same with what is carried along. -/
def upS {R S : Type} (body : Nat → S → (S → R) → R) (rest : S → R) : Nat → Nat → S → R
  | 0, _, s => rest s
  | m + 1, c, s => body c s (upS body rest m (c + 1))

section
variable {α : Type} {F : α → Prop}
theorem cond_f {b : Bool} {x y : α} {p q : Prop} (h1 : b = true → F x → p) (h2 : b = false → F y → q) : F (cond b x y) → cond b p q := by
  cases b
  · exact h2 rfl
  · exact h1 rfl
theorem vcn_f {b : Bool} {x : α} {p : Prop} (h : b = false) (h1 : F x → p) : F x → cond b False p := by subst h; exact h1
theorem vc_f {b : Bool} {x : α} {p : Prop} (h : b = true) (h1 : F x → p) : F x → cond b p False := by subst h; exact h1
theorem cond_lt {B : Int} {n c : Nat} {p q : Prop} (hB : n = B.toNat) (h : c < n) (hp : p) : cond (decide ((c : Int) < B)) p q := by
  have : decide ((c : Int) < B) = true := by simp; omega
  rw [this]; exact hp
theorem cond_ge {B : Int} {n c : Nat} {p q : Prop} (hB : n = B.toNat) (h : n ≤ c) (hq : q) : cond (decide ((c : Int) < B)) p q := by
  have : decide ((c : Int) < B) = false := by simp; omega
  rw [this]; exact hq
theorem cond_lt_r {a : Bool} {B : Int} {n c : Nat} {p q : Prop} (hB : n = B.toNat) (h : c < n) (hp : cond a p q) : cond (a && decide ((c : Int) < B)) p q := by
  have : decide ((c : Int) < B) = true := by simp; omega
  rw [this, Bool.and_true]; exact hp
theorem cond_ge_r {a : Bool} {B : Int} {n c : Nat} {p q : Prop} (hB : n = B.toNat) (h : n ≤ c) (hq : q) : cond (a && decide ((c : Int) < B)) p q := by
  have : decide ((c : Int) < B) = false := by simp; omega
  rw [this, Bool.and_false]; exact hq
theorem cond_le {B : Int} {n c : Nat} {p q : Prop} (hB : n = (B + 1).toNat) (h : c < n) (hp : p) : cond (decide ((c : Int) ≤ B)) p q := by
  have : decide ((c : Int) ≤ B) = true := by simp; omega
  rw [this]; exact hp
theorem cond_gt {B : Int} {n c : Nat} {p q : Prop} (hB : n = (B + 1).toNat) (h : n ≤ c) (hq : q) : cond (decide ((c : Int) ≤ B)) p q := by
  have : decide ((c : Int) ≤ B) = false := by simp; omega
  rw [this]; exact hq

theorem wrap_i64n {n : Nat} (hn : n ≤ maxLen) : ∀ c, c < n → IntKind.wrap .i64 ((c : Int) + 1) = ((c + 1 : Nat) : Int) := fun c h => by
  unfold maxLen at hn
  rw [w64 (by omega) (by omega)]; rfl
theorem wrap_u64n {n : Nat} (hn : n ≤ maxLen) : ∀ c, c < n → IntKind.wrap .u64 ((c : Int) + 1) = ((c + 1 : Nat) : Int) := fun c h => by
  unfold maxLen at hn
  rw [IntWalk.u64_in _ (by omega)]; rfl
theorem wrap_u32n {n : Nat} (hn : n ≤ 4294967295) : ∀ c, c < n → IntKind.wrap .u32 ((c : Int) + 1) = ((c + 1 : Nat) : Int) := fun c h => by
  rw [IntWalk.u32_in _ (by omega)]; rfl

theorem wm1 {c n : Nat} (hn : n ≤ maxLen) (h : c < n) (h1 : 1 ≤ c) : IntKind.wrap .i64 ((c : Int) - 1) = ((c - 1 : Nat) : Int) := by
  unfold maxLen at hn
  rw [w64 (by omega) (by omega)]; omega

theorem upV_loop {k : IntKind} {L : Int → Prop} {body : Nat → α → α} {rest : α} {n s : Nat} (hw : ∀ c, c < n → IntKind.wrap k ((c : Int) + 1) = ((c + 1 : Nat) : Int))
    (hend : ∀ c : Nat, n ≤ c → F rest → L c) (hstep : ∀ c : Nat, s ≤ c → c < n → ∀ next, (F next → L (IntKind.wrap k ((c : Int) + 1))) → F (body c next) → L c) :
    F (upV body rest (n - s) s) → L s := by
  suffices h : ∀ m c, s ≤ c → m = n - c → F (upV body rest m c) → L c from h _ s (Nat.le_refl _) rfl
  intro m
  induction m with
  | zero => intro c _ hc h; exact hend c (by omega) h
  | succ m ih =>
    intro c hs hc h
    refine hstep c hs (by omega) _ (fun hF => ?_) h
    rw [hw c (by omega)]
    exact ih (c + 1) (by omega) (by omega) hF
theorem upS_loop {k : IntKind} {S : Type} {I : Nat → S → Prop} {L : Int → S → Prop} {body : Nat → S → (S → α) → α} {rest : S → α} {n s0 : Nat} (hw : ∀ c, c < n → IntKind.wrap k ((c : Int) + 1) = ((c + 1 : Nat) : Int))
    (hend : ∀ c : Nat, n ≤ c → ∀ s, I c s → F (rest s) → L c s)
    (hstep : ∀ c : Nat, s0 ≤ c → c < n → ∀ next : S → α, (∀ s', I (c + 1) s' → F (next s') → L (IntKind.wrap k ((c : Int) + 1)) s') → ∀ s, I c s → F (body c s next) → L c s) :
    ∀ s, I s0 s → F (upS body rest (n - s0) s0 s) → L s0 s := by
  suffices h : ∀ m c, s0 ≤ c → m = n - c → ∀ s, I c s → F (upS body rest m c s) → L c s from h _ s0 (Nat.le_refl _) rfl
  intro m
  induction m with
  | zero => intro c _ hc s hI h; exact hend c (by omega) s hI h
  | succ m ih =>
    intro c hs hc s hI h
    refine hstep c hs (by omega) _ (fun s' hI' hF => ?_) s hI h
    rw [hw c (by omega)]
    exact ih (c + 1) (by omega) (by omega) s' hI' hF
theorem upV_loopI {k : IntKind} {I : Nat → Prop} {L : Int → Prop} {body : Nat → α → α} {rest : α} {n s : Nat} (hw : ∀ c, c < n → IntKind.wrap k ((c : Int) + 1) = ((c + 1 : Nat) : Int))
    (hend : ∀ c : Nat, n ≤ c → I c → F rest → L c) (hstep : ∀ c : Nat, s ≤ c → c < n → ∀ next, (I (c + 1) → F next → L (IntKind.wrap k ((c : Int) + 1))) → I c → F (body c next) → L c) (h0 : I s) :
    F (upV body rest (n - s) s) → L s := by
  suffices h : ∀ m c, s ≤ c → m = n - c → I c → F (upV body rest m c) → L c from h _ s (Nat.le_refl _) rfl h0
  intro m
  induction m with
  | zero => intro c _ hc hI h; exact hend c (by omega) hI h
  | succ m ih =>
    intro c hs hc hI h
    refine hstep c hs (by omega) _ (fun hI' hF => ?_) hI h
    rw [hw c (by omega)]
    exact ih (c + 1) (by omega) (by omega) hI' hF
/-- A loop that ends, by what is sure of each round. -/
theorem upF_loop {S : Type} {I : Nat → S → Prop} {L : S → Prop} {body : Nat → S → (S → α) → α} {rest : S → α} {n s0 : Nat} (hend : ∀ s, I n s → False) (hle : s0 ≤ n)
    (hstep : ∀ c : Nat, s0 ≤ c → c < n → ∀ next : S → α, (∀ s', I (c + 1) s' → F (next s') → L s') → ∀ s, I c s → F (body c s next) → L s) :
    ∀ s, I s0 s → F (upS body rest (n - s0) s0 s) → L s := by
  suffices h : ∀ m c, s0 ≤ c → m + c = n → ∀ s, I c s → F (upS body rest m c s) → L s from h _ s0 (Nat.le_refl _) (by omega)
  intro m
  induction m with
  | zero => intro c _ hc s hI _; exact (hend s (by rw [← hc, Nat.zero_add]; exact hI)).elim
  | succ m ih =>
    intro c hs hc s hI h
    exact hstep c hs (by omega) _ (fun s' hI' hF => ih (c + 1) (by omega) (by omega) s' hI' hF) s hI h
end

/-- A region in two parts. -/
theorem evC_split {Γ : Env} {Λ : Loops} {a b : List AOper} {c : ACode} {st st' : St} {k : K} (h : evOps Γ a ⟨st, true⟩ = some ⟨st', true⟩) : evC Γ Λ (.seq (.region (a ++ b) []) c) st k = evC Γ Λ (.seq (.region b []) c) st' k := by
  simp only [evC, evOps_app, h, Option.bind_some, pairsOk]

theorem evC_seq {Γ : Env} {Λ : Loops} {a b : ACode} {st : St} {k : K} : evC Γ Λ (.seq a b) st k = evC Γ Λ a st (kSeq (evC Γ Λ b) k) := rfl
theorem evC_skip {Γ : Env} {Λ : Loops} {st : St} {k : K} : evC Γ Λ .skip st k = k .norm st := rfl
theorem kSeq_norm {f : St → K → Prop} {k : K} {st : St} : kSeq f k .norm st = f st k := rfl
theorem evC_reg {Γ : Env} {Λ : Loops} {ops : List AOper} {st : St} {s' : Slots} (s2 : Slots) {m2 : Mem} {k : K} (h : evOps Γ ops ⟨st, true⟩ = some ⟨⟨s', m2⟩, true⟩) (he : endR s' = s2) : evC Γ Λ (.region ops []) st k = k .norm ⟨s2, m2⟩ := by
  subst he
  simp only [evC, h, pairsOk, cond_true]
theorem evC_cond {Γ : Env} {Λ : Loops} {c : Nat} {t e : ACode} {st : St} {b : Bool} {k : K} (h : get st.s c = ([], .f (.bool b))) : evC Γ Λ (.cond c t e) st k = cond b (evC Γ Λ t st k) (evC Γ Λ e st k) := by simp only [evC, h]

/-- The evaluation of a function, closed to the elaborator's eye. -/
structure EvF (Γ : Env) (tbl : Tbl) (c : AFunc) (args : List FV) (Q : List FV → Prop) : Prop where
  out : evF Γ (Lfp Γ tbl) c args Q
theorem EvF.of {Γ : Env} {tbl : Tbl} {c : AFunc} {args : List FV} {Q : List FV → Prop} {p : Prop} (h : evF Γ (Lfp Γ tbl) c args Q = p) (hp : p) : EvF Γ tbl c args Q := ⟨h.mpr hp⟩
theorem sound_ev {P : Program} {ms : List Nat} {Γ : Env} (hm : P.follows .mixedOrders = true) (hΓ : Sound P Γ) {tbl : Tbl} {e : Ent} {fn : Func} {c : AFunc} (hf : P.funcs[e.f]? = some fn) (hname : (fn.name == "runtime.NumGoroutine") = false) (hc : compF P ms fn = some c.strip) (hl : TblOk tbl c.body)
    (hn : e.A.length ≤ c.ntmps) (hev : ∀ x, VSs.wf e.A x → e.pre x = true → EvF Γ tbl c (VSs.enc e.A x) (dq e.R fun y => y = e.g x)) : SoundE P e :=
  sound_dq hm hΓ hf hname hc hl hn fun x a b => (hev x a b).out
theorem pure_ev {P : Program} {ms : List Nat} {Γ : Env} (hm : P.follows .mixedOrders = true) (hΓ : Sound P Γ) {tbl : Tbl} {f : Nat} {fn : Func} {c : AFunc} (hf : P.funcs[f]? = some fn) (hc : compF P ms fn = some c.strip) (hl : TblOk tbl c.body)
    {fs : List FV} {R : List VS} {x : VSs.den R} (hn : fs.length ≤ c.ntmps) (hev : EvF Γ tbl c fs (dq R fun y => y = x)) : PureA P f fs (outOf (VSs.enc R x)) := pure_dq hm hΓ hf hc hl hn hev.out

/-! ### What is sure of data -/
mutual
theorem dflt_wf : (c : Cell) → Cell.wf c c.dflt
  | .bool => trivial
  | .int k => show inR k (0 : Int) by cases k <;> (constructor <;> decide)
  | .str => Nat.zero_le _
  | .fn _ => trivial
  | .mp => trivial
  | .sl T => ⟨Nat.zero_le _, fun i x h => by simp [nthD, Cell.dflt] at h⟩
theorem dflts_wf : (s : Sch) → Sch.wf s s.dflt
  | .nil => trivial
  | .cons c s => ⟨dflt_wf c, dflts_wf s⟩
end
theorem wf_getD {T : Sch} {l : List T.den} (h : Cell.wf (.sl T) l) (i : Nat) : Sch.wf T (l.getD i T.dflt) := by
  unfold List.getD
  cases hi : l[i]? with
  | none => exact dflts_wf T
  | some x => exact h.2 i x hi

theorem nn_u64 (x : Int) : 0 ≤ IntKind.wrap .u64 x := by
  simp [IntKind.wrap, IntKind.bits, IntKind.signed]; omega
theorem nn_u32 (x : Int) : 0 ≤ IntKind.wrap .u32 x := by rw [IntKind.wrap_u32]; omega

theorem nn_d64 (x : Int) : decide (0 ≤ IntKind.wrap .u64 x) = true := by simpa using nn_u64 x
theorem and_t {a b : Bool} (h : a = true) (g : b = true) : (a && b) = true := by rw [h, g]; rfl
theorem or_l {a b : Bool} (h : a = true) : (a || b) = true := by rw [h]; rfl
theorem wk1 {k : Int} (h1 : 1 ≤ k) (h : inR .i64 k) : IntKind.wrap .i64 (k - 1) = k - 1 := by
  have h2 : k ≤ 9223372036854775807 := h.2
  exact w64 (by omega) (by omega)
theorem not_neg {a : Int} (h : decide (a < 0) = false) : 0 ≤ a := by simpa using h

theorem len_slcL {α : Type} (l : List α) (a b : Int) : (slcL l a b).length = min (b.toNat - a.toNat) (l.length - a.toNat) := by simp [slcL]
theorem len_segL {α : Type} (l : List α) (a b : Nat) : (segL l a b).length = min b (l.length - a) := by simp [segL]

/-- What a search gives: no place, or one in range. -/
theorem upV_ix {f : Nat → Bool} : ∀ (m s : Nat), upV (fun c next => cond (f c) (c : Int) next) (-1) m s = -1 ∨ ((s : Int) ≤ upV (fun c next => cond (f c) (c : Int) next) (-1) m s ∧ upV (fun c next => cond (f c) (c : Int) next) (-1) m s < (s + m : Nat))
  | 0, s => Or.inl rfl
  | m + 1, s => by
    simp only [upV]
    cases f s with
    | true => right; simp only [cond_true]; omega
    | false =>
      simp only [cond_false]
      rcases upV_ix (f := f) m (s + 1) with h | h
      · exact Or.inl h
      · right; omega
theorem ix_or {f : Nat → Bool} {n : Nat} {g : Int} (h : g = upV (fun c next => cond (f c) (c : Int) next) (-1) (n - 0) 0) : g < 0 ∨ okIx g (n : Int) = true := by
  rcases upV_ix (f := f) (n - 0) 0 with h1 | h1
  · left; omega
  · right; rw [h]; exact okIx_of (by omega) (by omega)
end Go.AM
