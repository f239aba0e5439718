/-
  Calls by contract; what an own value reads as.
-/
import Derived.Test.YthjhlpbiljpccaaAmOpJ
namespace Go.AM
open Go.RowKit

def ArgsRel (N : Nat → Prop) (w : World) (fs : List FV) (vs : List Value) : Prop :=
  fs.length = vs.length ∧ ∀ (j : Nat) c v, fs[j]? = some c → vs[j]? = some v → FRel N w c v

/-- Called with this data, the function hands back that, and leaves what was there as it was. -/
def PureA (P : Program) (f : Nat) (args : List FV) (r : FV) : Prop :=
  ∀ (N : Nat → Prop) (w : World) (vs : List Value), (∀ b, w.heap.size ≤ b → N b) → GlobOk N w → ArgsRel N w args vs →
    Calls P f vs.toArray w fun e w' => ∃ v, e = .returned v ∧ FRel N w' r v ∧ Below w.heap.size w w'

def HasBody (P : Program) (f : Nat) : Prop := ∃ fn, P.funcs[f]? = some fn ∧ (fn.name == "runtime.NumGoroutine") = false ∧ fn.body.isNone = false

/-- One of the two ways of a call. -/
def EntM.runOf (e : EntM) : Option Bool → List AV → Mem → Option (AV × Mem × Bool)
  | none => e.run
  | some h => e.runG h
/-- What it leaves alone. -/
def KeepsM (e : EntM) : Prop := ∀ (g : Option Bool) (avs : List AV) (m : Mem) (x : AV) (m' : Mem) (b : Bool), e.runOf g avs m = some (x, m', b) → ∀ l, e.wr avs = some l → ∀ k, k ∉ l → (∀ a, objV x = some a → k ∉ a) → m'[k]? = m[k]?
theorem KeepsM.none {e : EntM} (h : ∀ avs, e.wr avs = .none) : KeepsM e := fun _ avs _ _ _ _ _ l hl => by rw [h avs] at hl; cases hl
/-- A call that changes own memory: its law. -/
def SoundM (P : Program) (e : EntM) : Prop :=
  HasBody P e.f ∧ (∀ (avs : List AV) (m : Mem) (x : AV) (m' : Mem), e.run avs m = some (x, m', true) →
    ∀ (N B : Nat → Prop) (w : World) (φ : Phi) (vs : List Value), (∀ b, ¬ B b → N b) → MRel N B w φ m → (∀ b, B b → b < w.heap.size) → LRel (Nof N φ) w φ avs vs →
      Calls P e.f vs.toArray w fun en w' => ∃ v, en = .returned v ∧ Post N B φ w m' x v w') ∧
    (∀ (h : Bool) (avs : List AV) (m : Mem) (x : AV) (m' : Mem) (b : Bool), e.runG h avs m = some (x, m', b) → (h = true → e.run avs m = some (x, m', b)) ∧
      (h = false → ∀ (N B : Nat → Prop) (w : World) (φ : Phi), MRel N B w φ m → ∃ φ', Tr N B φ w φ' w ∧ MRel N B w φ' m')) ∧ KeepsM e
def SoundMs (P : Program) : List EntM → Prop
  | [] => True
  | e :: r => SoundM P e ∧ SoundMs P r
theorem entMOf_sound {P : Program} : ∀ {Γ : List EntM}, SoundMs P Γ → ∀ {f : Nat} {e : EntM}, entMOf Γ f = some e → SoundM P e ∧ e.f = f
  | [], _, _, _, h => by cases h
  | d :: r, hs, f, e, h => by
    unfold entMOf at h
    cases hd : d.f == f with
    | true => rw [hd] at h; cases h; exact ⟨hs.1, by simpa using hd⟩
    | false => rw [hd] at h; exact entMOf_sound hs.2 h
/-- The entry's law. -/
def SoundE (P : Program) (e : Ent) : Prop :=
  HasBody P e.f ∧ ∀ x : VSs.den e.A, e.pre x = true → PureA P e.f (VSs.enc e.A x) (outOf (VSs.enc e.R (e.g x)))
def SoundP (P : Program) : List Ent → Prop
  | [] => True
  | e :: r => SoundE P e ∧ SoundP P r
def Sound (P : Program) (Γ : Env) : Prop := SoundP P Γ.p ∧ SoundMs P Γ.m
theorem callF_sound {P : Program} : ∀ {Γ : List Ent}, SoundP P Γ → ∀ {f : Nat} {fs : List FV} {r : FV × Bool}, callF Γ f fs = some r → ∃ (e : Ent) (y : VSs.den e.A), SoundE P e ∧ e.f = f ∧ VSs.dec e.A fs = some y ∧ r = (outOf (VSs.enc e.R (e.g y)), e.pre y)
  | [], _, _, _, _, h => by cases h
  | d :: r, hs, f, fs, x, h => by
    unfold callF at h
    cases hd : d.f == f with
    | true =>
      rw [hd] at h
      simp only [cond_true] at h
      split at h
      · rename_i y hy
        cases h
        exact ⟨d, y, hs.1, by simpa using hd, hy, rfl⟩
      · exact callF_sound hs.2 h
    | false => rw [hd] at h; exact callF_sound hs.2 h

section
variable {P : Program} {N : Nat → Prop} {B : Nat → Prop} {w : World} {φ : Phi} {m : Mem} {o : Oper} {a : Act} {Γ : Env} {s : Slots} {G : List (Nat × Bool)} {x : AV} {m' : Mem} {vc : Bool}

theorem agg_dec {N : Nat → Prop} {T : Sch} {cs : List FV} {y : T.den} (hd : T.dec cs = some y) {vs : Array Value} (h : FRel N w (.agg cs) (.agg vs)) : FRel N w (.agg (T.enc y)) (.agg vs) := by
  cases h with
  | agg hn ho h =>
    have hs : SRel N w T y (fun j => vs[j]?) := dec_srel T cs y hd _ fun j c hj => by
      have hlt := (List.getElem?_eq_some_iff.1 hj).1
      have hv : vs[j]? = some (vs[j]'(by omega)) := Array.getElem?_eq_getElem (by omega)
      exact ⟨_, hv, h j c _ hj hv⟩
    have hl := dec_length T cs y hd
    refine .agg (by rw [Sch.enc_length, hn, hl]) (fun j c v hj hv => ?_) (fun j c v hj hv => ?_)
    · obtain ⟨u, hu, h1, _⟩ := srel_enc T y _ hs j c hj
      rw [hv] at hu; cases hu; exact h1
    · obtain ⟨u, hu, _, h2⟩ := srel_enc T y _ hs j c hj
      rw [hv] at hu; cases hu; exact h2
theorem fpt_dec {N : Nat → Prop} {T : Sch} {cs : List FV} {y : T.den} (hd : T.dec cs = some y) {v : Value} {off : Nat} (h : FRel N w (.fpt cs off) v) : FRel N w (.fpt (T.enc y) off) v := by
  cases h with
  | @fpt _ _ A g hN hc ho h =>
    have hs : SRel N w T y (fun j => w.cell? (A.add j)) := dec_srel T cs y hd _ fun j c hj => ⟨_, hc j c hj, h j c hj⟩
    have hl := dec_length T cs y hd
    have hall : ∀ j, ∃ u, ∀ c, (T.enc y)[j]? = some c → w.cell? (A.add j) = some u ∧ oneV u = true ∧ FRel N w c u := fun j => by
      cases hj : (T.enc y)[j]? with
      | none => exact ⟨undef, fun c h => by cases h⟩
      | some c =>
        obtain ⟨u, h1, h2, h3⟩ := srel_enc T y _ hs j c hj
        exact ⟨u, fun d hd => by cases hd; exact ⟨h1, h2, h3⟩⟩
    obtain ⟨g', hg'⟩ := Classical.axiomOfChoice hall
    refine .fpt g' (fun hne => hN fun e => hne ?_) (fun j c hj => (hg' j c hj).1) (fun j c hj => (hg' j c hj).2.1) (fun j c hj => (hg' j c hj).2.2)
    subst e
    have : (T.enc y).length = 0 := by rw [Sch.enc_length, ← hl]; rfl
    exact List.eq_nil_of_length_eq_zero this
theorem caps_dec {N : Nat → Prop} : ∀ (l : List Sch) (cs : List FV) (y : capsDen l) (vs : List Value), capsDec l cs = some y → ArgsRel N w cs vs → ArgsRel N w (capsEnc l y) vs
  | [], [], _, _, _, h => h
  | [], _ :: _, _, _, hd, _ => by simp [capsDec] at hd
  | s :: r, [], _, _, hd, _ => by simp [capsDec] at hd
  | s :: r, c :: cs, y, vs, hd, h => by
    cases c with
    | fpt cs' off =>
      cases off with
      | succ n => simp [capsDec] at hd
      | zero =>
        obtain ⟨u, hu, hd⟩ := obind (show (s.dec cs').bind (fun x => (capsDec r cs).map fun y => (x, y)) = some y from hd)
        obtain ⟨us, hus, rfl⟩ := omap hd
        cases vs with
        | nil => have := h.1; simp at this
        | cons v vt =>
          have ih := caps_dec r cs us vt hus ⟨by have := h.1; simpa using this, fun j c v hj hv => h.2 (j + 1) c v (by simpa using hj) (by simpa using hv)⟩
          refine ⟨by simp [capsEnc, ih.1], fun j c v' hj hv => ?_⟩
          cases j with
          | zero =>
            simp [capsEnc] at hj hv
            subst hj; subst hv
            exact fpt_dec hu (h.2 0 _ _ rfl rfl)
          | succ j => exact ih.2 j c v' (by simpa [capsEnc] using hj) (by simpa using hv)
    | _ => cases hd
theorem decSt_inv {T : Sch} {c : FV} {y : T.den} (h : decSt T c = some y) : ∃ cs, c = .agg cs ∧ T.dec cs = some y := by
  unfold decSt at h
  split at h
  · exact ⟨_, rfl, h⟩
  · cases h
theorem decPtr_inv {T : Sch} {c : FV} {y : T.den} (h : decPtr T c = some y) : ∃ cs, c = .fpt cs 0 ∧ T.dec cs = some y := by
  unfold decPtr at h
  split at h
  · exact ⟨_, rfl, h⟩
  · cases h
theorem decClo_inv {f : Nat} {caps : List Sch} {c : FV} {y : capsDen caps} (h : decClo f caps c = some y) : ∃ cs, c = .fn f cs ∧ capsDec caps cs = some y := by
  unfold decClo at h
  split at h
  · rename_i g vs
    cases e : f == g with
    | false => rw [e] at h; cases h
    | true =>
      rw [e] at h
      have : f = g := by simpa using e
      subst this
      exact ⟨_, rfl, h⟩
  · cases h
theorem vs_dec {N : Nat → Prop} : (t : VS) → (c : FV) → (y : t.den) → (v : Value) → t.dec c = some y → FRel N w c v → FRel N w (t.enc y) v
  | .one d, c, y, v, hd, h => crel_enc d y v (dec_crel d c y v hd h)
  | .st T, c, y, v, hd, h => by
    obtain ⟨cs, rfl, hd'⟩ := decSt_inv hd
    cases h with
    | agg hn ho h => exact agg_dec hd' (.agg hn ho h)
  | .ptr T, c, y, v, hd, h => by
    obtain ⟨cs, rfl, hd'⟩ := decPtr_inv hd
    exact fpt_dec hd' h
  | .clo f caps, c, y, v, hd, h => by
    obtain ⟨cs, rfl, hd'⟩ := decClo_inv hd
    cases h with
    | @fn _ _ vs hn h =>
      have := caps_dec caps cs y vs.toList hd' ⟨by simpa using hn.symm, fun j c v hj hv => h j c v hj (by simpa using hv)⟩
      exact .fn (by simpa using this.1.symm) fun j c v hj hv => this.2 j c v hj (by simpa using hv)
theorem vss_dec {N : Nat → Prop} : ∀ (l : List VS) (cs : List FV) (y : VSs.den l) (vs : List Value), VSs.dec l cs = some y → ArgsRel N w cs vs → ArgsRel N w (VSs.enc l y) vs
  | [], [], _, _, _, h => h
  | [], _ :: _, _, _, hd, _ => by simp [VSs.dec] at hd
  | t :: r, [], _, _, hd, _ => by simp [VSs.dec] at hd
  | t :: r, c :: cs, y, vs, hd, h => by
    obtain ⟨u, hu, hd⟩ := obind hd
    obtain ⟨us, hus, rfl⟩ := omap hd
    cases vs with
    | nil => have := h.1; simp at this
    | cons v vt =>
      have ih := vss_dec r cs us vt hus ⟨by have := h.1; simpa using this, fun j c v hj hv => h.2 (j + 1) c v (by simpa using hj) (by simpa using hv)⟩
      refine ⟨by simp [VSs.enc, ih.1], fun j c v' hj hv => ?_⟩
      cases j with
      | zero =>
        simp [VSs.enc] at hj hv
        subst hj; subst hv
        exact vs_dec t _ u _ hu (h.2 0 _ _ rfl rfl)
      | succ j => exact ih.2 j c v' (by simpa [VSs.enc] using hj) (by simpa using hv)

/-! ### Flat data holds whatever the memory -/
mutual
theorem flat_any {N N' : Nat → Prop} {w w' : World} : (x : FV) → (v : Value) → flatF x = true → FRel N w x v → FRel N' w' x v
  | .int k n, v, _, h => by cases h with | int h => exact .int h
  | .bool b, v, _, h => by cases h; exact .bool
  | .str l, v, _, h => by cases h with | str h => exact .str h
  | .fs _ _, _, hf, _ => by simp [flatF] at hf
  | .nils, _, hf, _ => by simp [flatF] at hf
  | .nilp, v, _, h => by cases h; exact .nilp
  | .nilf, v, _, h => by cases h; exact .nilf
  | .agg cs, v, hf, h => by
    cases h with
    | agg hn ho h => exact .agg hn ho fun j c v hj hv => flat_anys cs hf j c v hj (h j c v hj hv)
  | .tup cs, v, hf, h => by
    cases h with
    | tup hn h => exact .tup hn fun j c v hj hv => flat_anys cs hf j c v hj (h j c v hj hv)
  | .fpt _ _, _, hf, _ => by simp [flatF] at hf
  | .fn _ _, _, hf, _ => by simp [flatF] at hf
theorem flat_anys {N N' : Nat → Prop} {w w' : World} : (cs : List FV) → flatFs cs = true → ∀ (j : Nat) (c : FV) (v : Value), cs[j]? = some c → FRel N w c v → FRel N' w' c v
  | [], _, j, c, v, hj, _ => by simp at hj
  | d :: r, hf, 0, c, v, hj, h => by
    simp only [flatFs, Bool.and_eq_true] at hf
    simp at hj; subst hj
    exact flat_any d v hf.1 h
  | d :: r, hf, j + 1, c, v, hj, h => by
    simp only [flatFs, Bool.and_eq_true] at hf
    exact flat_anys r hf.2 j c v (by simpa using hj) h
end

/-! ### What an own value reads as -/
abbrev AnyB : Nat → Prop := fun _ => True
theorem to_any (N : Nat → Prop) (w : World) : Keeps N w AnyB w := fun _ _ _ h => ⟨trivial, h⟩

theorem frzL_ok {M : Nat → Prop} {fz : AV → Option FV} (hz : ∀ x y v, fz x = some y → VRel (Nof N φ) w φ x v → FRel M w y v) : ∀ {xs : List AV} {ys : List FV} {vs : List Value}, frzL fz xs = some ys → LRel (Nof N φ) w φ xs vs → ArgsRel M w ys vs
  | [], ys, vs, h, hr => by
    cases h
    exact ⟨by have := hr.1; simpa using this, fun j c v hj => by simp at hj⟩
  | x :: xs, ys, vs, h, hr => by
    obtain ⟨y, hy, h⟩ := obind h
    obtain ⟨zs, hzs, rfl⟩ := omap h
    cases vs with
    | nil => have := hr.1; simp at this
    | cons v vt =>
      have ih := frzL_ok hz hzs ⟨by have := hr.1; simpa using this, fun j c v hj hv => hr.2 (j + 1) c v (by simpa using hj) (by simpa using hv)⟩
      refine ⟨by simp [ih.1], fun j c v' hj hv => ?_⟩
      cases j with
      | zero => simp at hj hv; subst hj; subst hv; exact hz x y v hy (hr.2 0 x v rfl rfl)
      | succ j => exact ih.2 j c v' (by simpa using hj) (by simpa using hv)

theorem frzE_get {fz : AV → Option FV} {T : Sch} : ∀ (es : List (List AV)) (l : List T.den), frzE fz T es = some l → l.length = es.length ∧ ∀ (i : Nat) (x : T.den), l[i]? = some x → ∃ e fs, es[i]? = some e ∧ frzL fz e = some fs ∧ T.dec fs = some x
  | [], l, h => by cases h; exact ⟨rfl, fun i x hx => by simp at hx⟩
  | e :: es, l, h => by
    obtain ⟨x, hx, h1⟩ := obind h
    obtain ⟨fs, hfs, hd⟩ := obind hx
    obtain ⟨xs, hxs, rfl⟩ := omap h1
    obtain ⟨h2, h3⟩ := frzE_get es xs hxs
    refine ⟨by simp [h2], fun i y hy => ?_⟩
    cases i with
    | zero => simp at hy; subst hy; exact ⟨e, fs, rfl, hfs, hd⟩
    | succ i => exact h3 i y (by simpa using hy)

/-- The blocks of the own objects that live. -/
def ownL (φ : Phi) (m : Mem) (b : Nat) : Prop := ∃ (k : Nat) (o : MObj) (x : Nat × Nat × Cnt), m[k]? = some o ∧ live o = true ∧ φ[k]? = some (some x) ∧ foot x b
theorem ownL.own {φ : Phi} {m : Mem} {b : Nat} (h : ownL φ m b) : own φ b := let ⟨k, _, x, _, _, h1, h2⟩ := h; ⟨k, x, h1, h2⟩

theorem frz_ok {M : Nat → Prop} (hM : ∀ b, Nof N φ b ∨ ownL φ m b → M b) (hm : MRel N B w φ m) : ∀ (d : Nat) (x : AV) (y : FV) (v : Value), frz m d x = some y → VRel (Nof N φ) w φ x v → FRel M w y v
  | 0, x, y, v, h, hr => by
    cases x <;> simp only [frz, reduceCtorEq, Option.some.injEq] at h
    subst h
    cases hr with | f hr => exact hr.mono (fun _ _ h1 h2 => ⟨hM _ (.inl h1), h2⟩)
  | d + 1, x, y, v, h, hr => by
    have ih := frz_ok hM hm d
    have toM : Keeps (Nof N φ) w M w := fun _ _ h1 h2 => ⟨hM _ (.inl h1), h2⟩
    have rowc : ∀ {k off len : Nat} {T : Sch} {l : List T.den}, m[k]? = some (.row T l) → VRel (Nof N φ) w φ (.sl k T.size off len) v → FRel M w (.fs T ((l.drop off).take len)) v := fun {k off len T l} hk hr => by
      rcases sl_at hm hr hk rfl with ⟨rfl, A, c, rfl⟩ | ⟨b, c, cells, e, rfl, hb, ⟨_, hcont⟩, hcnt, hcap, hlc⟩
      · rw [List.take_zero]
        exact .fs ⟨A, c, rfl, Nat.zero_le _, Nat.zero_le _, fun h => absurd h (Nat.lt_irrefl 0)⟩
      · have ownb : 0 < c → ownL φ m b := fun hc0 => by
          cases hr with
          | sl h1 h2 h3 =>
            obtain ⟨b', tot, cnt, g1, g2, _⟩ := h3 hc0
            simp only [Option.some.injEq, Addr.mk.injEq] at g2
            exact ⟨k, _, _, hk, rfl, by rw [g2.1]; exact g1, foot_self ..⟩
        have hlen : ((l.drop off).take len).length = len := by
          simp only [List.length_take, List.length_drop]; simp only [cntO] at hcnt; omega
        have hmx : len ≤ maxLen := by have := hcont.2.1; simp only [cntO] at hcnt; omega
        refine .fs ⟨some ⟨b, off * T.size, none⟩, c, by rw [show lenD (T := T) ((l.drop off).take len) = len from hlen], by rw [show lenD (T := T) ((l.drop off).take len) = len from hlen]; exact hmx, by rw [show lenD (T := T) ((l.drop off).take len) = len from hlen]; exact hlc, fun h0 _ => ⟨_, rfl, hM _ (.inr (ownb (Nat.lt_of_lt_of_le (by simpa [hlen] using h0) hlc))), fun i x hx => ?_⟩⟩
        obtain ⟨h1, h2⟩ := take_drop_get hx
        refine SRel.mono toM T x _ _ (fun j u hj hu => ?_) (hcont.2.2 (off + i) x h1)
        rw [addr_add]
        rw [Nat.add_mul, Nat.add_assoc] at hu
        simp [World.cell?, hb, hu]
    cases x with
    | f z =>
      cases h
      cases hr with | f hr => exact hr.mono (fun _ _ h1 h2 => ⟨hM _ (.inl h1), h2⟩)
    | junk => cases h
    | unkB => cases h
    | tup => cases h
    | eptr => cases h
    | nd => cases h
    | ndo => cases h
    | ndx => cases h
    | bx => cases h
    | mp k =>
      simp only [frz] at h
      split at h
      · rename_i l hk
        cases h
        cases hr with
        | mp hφ =>
          obtain ⟨_, _, ⟨es, c, hb, hi⟩, _⟩ := hm.objs k _ _ _ _ hφ hk rfl
          exact .fmap (.inr ⟨_, es, c, rfl, hM _ (.inr ⟨k, _, _, hk, rfl, by simpa using hφ, foot_self ..⟩), hb, hi⟩)
      · cases h
    | slx k len =>
      cases hr with
      | slx hr _ =>
      simp only [frz] at h
      split at h
      · rename_i T l hk
        cases hz : T.size == 1 with
        | false => rw [hz] at h; cases h
        | true =>
          rw [hz] at h; cases h
          have hz' : T.size = 1 := by simpa using hz
          rw [← hz'] at hr
          exact rowc hk hr
      · cases h
    | agg cs =>
      obtain ⟨fs, hfs, rfl⟩ := omap h
      cases hr with
      | @agg _ vs hn ho hr =>
        have := frzL_ok ih hfs (vs := vs.toList) ⟨by simpa using hn.symm, fun j c v hj hv => hr j c v hj (by simpa using hv)⟩
        refine .agg (by simpa using this.1.symm) (fun j c v hj hv => ?_) (fun j c v hj hv => this.2 j c v hj (by simpa using hv))
        have hlt : j < cs.length := by have := (Array.getElem?_eq_some_iff.1 hv).1; omega
        exact ho j _ v (List.getElem?_eq_getElem hlt) hv
    | fn f caps =>
      obtain ⟨fs, hfs, rfl⟩ := omap h
      cases hr with
      | @fn _ _ vs hn hr =>
        have := frzL_ok ih hfs (vs := vs.toList) ⟨by simpa using hn.symm, fun j c v hj hv => hr j c v hj (by simpa using hv)⟩
        exact .fn (by simpa using this.1.symm) (fun j c v hj hv => this.2 j c v hj (by simpa using hv))
    | ptr k off =>
      simp only [frz] at h
      split at h
      · rename_i pn cs hk
        obtain ⟨fs, hfs, rfl⟩ := omap h
        cases hr with
        | @ptr _ _ b tot cnt hφ =>
          obtain ⟨cells, e, hb, hs, hcc, _⟩ := hm.cells k b tot cnt _ hφ hk rfl
          have hL : LRel (Nof N φ) w φ cs cells.toList := ⟨by simpa using hcc.2.1.symm, fun j c v hj hv => by
            obtain ⟨u, hu, _, hr⟩ := hcc.2.2 j c hj
            rw [Array.getElem?_toList, hu] at hv; cases hv; exact hr⟩
          have := frzL_ok ih hfs hL
          have hall : ∀ j, ∃ u, ∀ c, fs[j]? = some c → w.cell? ((⟨b, 0, none⟩ : Addr).add j) = some u ∧ oneV u = true ∧ FRel M w c u := fun j => by
            cases hj : fs[j]? with
            | none => exact ⟨undef, fun c h => by cases h⟩
            | some c =>
              have hlt := (List.getElem?_eq_some_iff.1 hj).1
              have hlen := this.1
              have hl2 : j < cs.length := by have := hL.1; omega
              obtain ⟨u, hu, ho, _⟩ := hcc.2.2 j _ (List.getElem?_eq_getElem hl2)
              exact ⟨u, fun d hd => by cases hd; exact ⟨by rw [addr_add]; simp [World.cell?, hb, hu], ho, this.2 j c u hj (by rw [Array.getElem?_toList]; exact hu)⟩⟩
          obtain ⟨g, hg⟩ := Classical.axiomOfChoice hall
          have : (⟨b, off, none⟩ : Addr) = (⟨b, 0, none⟩ : Addr).add off := by rw [addr_add]; simp
          rw [this]
          exact .fpt g (fun _ => hM _ (.inr ⟨k, _, _, hk, rfl, by simpa using hφ, foot_self ..⟩)) (fun j c hj => (hg j c hj).1) (fun j c hj => (hg j c hj).2.1) (fun j c hj => (hg j c hj).2.2)
      · cases h
    | sl k sz off len =>
      simp only [frz] at h
      split at h
      · rename_i T l hk
        cases hz : T.size == sz with
        | false => rw [hz] at h; cases h
        | true =>
          rw [hz] at h; cases h
          have hz' : T.size = sz := by simpa using hz
          subst hz'
          exact rowc hk hr
      · rename_i T es hk
        cases hz : T.size == sz with
        | false => rw [hz] at h; cases h
        | true =>
          rw [hz] at h
          simp only [cond_true] at h
          obtain ⟨l, hl, rfl⟩ := omap h
          have hz' : T.size = sz := by simpa using hz
          subst hz'
          obtain ⟨hll, hget⟩ := frzE_get _ _ hl
          rcases sl_at hm hr hk rfl with ⟨rfl, A, c, rfl⟩ | ⟨b, c, cells, e, rfl, hb, ⟨_, hcont⟩, hcnt, hcap, hlc⟩
          · have : l = [] := List.eq_nil_of_length_eq_zero (by rw [hll]; simp)
            subst this
            exact .fs ⟨A, c, rfl, Nat.zero_le _, Nat.zero_le _, fun h => absurd h (Nat.lt_irrefl 0)⟩
          · have ownb : 0 < c → ownL φ m b := fun hc0 => by
              cases hr with
              | sl h1 h2 h3 =>
                obtain ⟨b', tot, cnt, g1, g2, _⟩ := h3 hc0
                simp only [Option.some.injEq, Addr.mk.injEq] at g2
                exact ⟨k, _, _, hk, rfl, by rw [g2.1]; exact g1, foot_self ..⟩
            have hlen : l.length = len := by
              rw [hll]; simp only [List.length_take, List.length_drop]; simp only [cntO] at hcnt; omega
            have hmx : len ≤ maxLen := by have := hcont.2.1; simp only [cntO] at hcnt; omega
            refine .fs ⟨some ⟨b, off * T.size, none⟩, c, by rw [show lenD (T := T) l = len from hlen], by rw [show lenD (T := T) l = len from hlen]; exact hmx, by rw [show lenD (T := T) l = len from hlen]; exact hlc, fun h0 _ => ⟨_, rfl, hM _ (.inr (ownb (Nat.lt_of_lt_of_le (by simpa [hlen] using h0) hlc))), fun i x hx => ?_⟩⟩
            obtain ⟨e', fs, he, hfs, hd⟩ := hget i x hx
            obtain ⟨h1, h2⟩ := take_drop_get he
            obtain ⟨hle, hc⟩ := hcont.2.2 (off + i) e' h1
            have hall : ∀ j, ∃ u, j < e'.length → cells[(off + i) * T.size + j]? = some u ∧ VRel (Nof N φ) w φ (e'.getD j .junk) u := fun j => by
              by_cases hj : j < e'.length
              · obtain ⟨u, hu, _, hr⟩ := hc j _ (List.getElem?_eq_getElem hj)
                exact ⟨u, fun _ => ⟨hu, by simpa [List.getD, hj] using hr⟩⟩
              · exact ⟨undef, fun h => absurd h hj⟩
            obtain ⟨g, hg⟩ := Classical.axiomOfChoice hall
            have hA := frzL_ok ih hfs (vs := (List.range e'.length).map g) ⟨by simp, fun j c v hj hv => by
              have hlt := (List.getElem?_eq_some_iff.1 hj).1
              simp [hlt] at hv
              subst hv
              have := (hg j hlt).2
              simpa [List.getD, hj] using this⟩
            refine dec_srel T fs x hd _ fun j c hj => ?_
            have hjl : j < e'.length := by have := (List.getElem?_eq_some_iff.1 hj).1; have := hA.1; simp at this; omega
            refine ⟨g j, ?_, hA.2 j c _ hj (by simp [hjl])⟩
            rw [addr_add]
            have := (hg j hjl).1
            rw [Nat.add_mul, Nat.add_assoc] at this
            simp [World.cell?, hb, this]
      · cases h

/-! ### Rows of bools, handed to a call for a while -/
mutual
theorem crel_back {M M' : Nat → Prop} {w' : World} (hM : ∀ (p : Addr) u, M p.block → w'.cell? p = some u → M' p.block ∨ ∃ b, u = .bool b) : (c : Cell) → c.nob = true → (x : c.den) → (v : Value) → CRel M w' c x v → CRel M' w' c x v
  | .bool, h, _, _, _ => by simp [Cell.nob] at h
  | .mp, h, _, _, _ => by simp [Cell.nob] at h
  | .int _, _, _, _, h => h
  | .str, _, _, _, h => h
  | .fn _, _, _, _, h => h
  | .sl T, hb, l, v, h => by
    obtain ⟨A, cap, hv, hm, hc, hcell⟩ := h
    have hb' : T.nob = true := by simpa [Cell.nob] using hb
    refine ⟨A, cap, hv, hm, hc, fun h0 hT => ?_⟩
    obtain ⟨a, hA, hN, hr⟩ := hcell h0 hT
    refine ⟨a, hA, ?_, fun i x hx => srel_back hM T hb' x _ (hr i x hx)⟩
    cases T with
    | nil => simp [Sch.size] at hT
    | cons c s =>
      obtain ⟨x, hx⟩ : ∃ x, nthD (T := .cons c s) l 0 = some x := ⟨_, List.getElem?_eq_getElem h0⟩
      obtain ⟨⟨u, hu, _, hcr⟩, _⟩ := hr 0 x hx
      have := hM _ u (by rw [add_block]; exact hN) hu
      rw [add_block] at this
      rcases this with h | ⟨b, rfl⟩
      · exact h
      · cases c with
        | bool => simp [Sch.nob, Cell.nob] at hb'
        | mp => simp [Sch.nob, Cell.nob] at hb'
        | int k => exact absurd hcr.1 (by simp)
        | str => exact absurd hcr.1 (by simp)
        | fn f => simp [CRel] at hcr
        | sl S => obtain ⟨_, _, h, _⟩ := hcr; cases h
theorem srel_back {M M' : Nat → Prop} {w' : World} (hM : ∀ (p : Addr) u, M p.block → w'.cell? p = some u → M' p.block ∨ ∃ b, u = .bool b) : (s : Sch) → s.nob = true → (x : s.den) → (f : Nat → Option Value) → SRel M w' s x f → SRel M' w' s x f
  | .nil, _, _, _, _ => trivial
  | .cons c s, hb, x, f, h => by
    simp only [Sch.nob, Bool.and_eq_true] at hb
    obtain ⟨⟨v, hv, ho, hc⟩, hs⟩ := h
    exact ⟨⟨v, hv, ho, crel_back hM c hb.1 x.1 v hc⟩, srel_back hM s hb.2 x.2 _ hs⟩
end
theorem nob_back {M M' : Nat → Prop} {w' : World} {x : FV} {v : Value} (hx : nobR x = true) (hM : ∀ (p : Addr) u, M p.block → w'.cell? p = some u → M' p.block ∨ ∃ b, u = .bool b) (h : FRel M w' x v) : FRel M' w' x v := by
  cases x <;> simp only [nobR, reduceCtorEq] at hx
  cases h with
  | fs h => exact .fs (crel_back hM (.sl _) hx _ _ h)
/-- What such a call may look at. -/
def XM (N : Nat → Prop) (φ : Phi) (w : World) (b : Nat) : Prop := Nof N φ b ∨ (b < w.heap.size ∧ ∀ (p : Addr) u, p.block = b → w.cell? p = some u → ∃ t, u = .bool t)
theorem xArgs_ok (hm : MRel N B w φ m) : ∀ {avs : List AV} {fs : List FV} {vs : List Value}, xArgs m avs = some true → frzL (frz m 8) avs = some fs → LRel (Nof N φ) w φ avs vs → ArgsRel (XM N φ w) w fs vs := fun {avs fs vs} => by
  have toM : Keeps (Nof N φ) w (XM N φ w) w := fun _ _ h1 h2 => ⟨.inl h1, h2⟩
  have one : ∀ {x : AV} {y : FV} {v : Value}, xArg m x = some true → frz m 8 x = some y → VRel (Nof N φ) w φ x v → FRel (XM N φ w) w y v := fun {x y v} hx hy hr => by
    cases x <;> simp only [xArg, reduceCtorEq] at hx
    · cases hy
      cases hr with | f hr => exact hr.mono toM
    · rename_i k len
      split at hx
      · rename_i l hk
        simp only [Option.some.injEq, decide_eq_true_eq] at hx
        simp only [frz, hk, Sch.size] at hy
        cases hy
        cases hr with
        | slx hr he =>
        rcases sl_at hm hr hk rfl with ⟨h0, A, c, rfl⟩ | ⟨b, c, cells, e, rfl, hb, ⟨_, hcont⟩, hcnt, hcap, hlc⟩
        · subst h0
          rw [List.take_zero]
          exact .fs ⟨A, c, rfl, Nat.zero_le _, Nat.zero_le _, fun h => absurd h (Nat.lt_irrefl 0)⟩
        · have hlen : (l.take len).length = len := by simp only [List.length_take]; omega
          have hmx : len ≤ maxLen := by rw [hx]; exact hcont.2.1
          refine .fs ⟨some ⟨b, 0 * 1, none⟩, c, by rw [show lenD (T := .cons .bool .nil) (l.take len) = len from hlen], by rw [show lenD (T := .cons .bool .nil) (l.take len) = len from hlen]; exact hmx, by rw [show lenD (T := .cons .bool .nil) (l.take len) = len from hlen]; exact hlc, fun h0 _ => ⟨_, rfl, .inr ?_, fun i x hi => ?_⟩⟩
          · have h0' : 0 < len := by simpa [hlen] using h0
            obtain ⟨b', cnt, hφ⟩ := he h0'
            have hbb : b' = b := by
              cases hr with
              | sl h1 h2 h3 =>
                obtain ⟨b2, tot, cnt2, g1, g2, _⟩ := h3 (Nat.lt_of_lt_of_le h0' hlc)
                simp only [Option.some.injEq, Addr.mk.injEq] at g2
                rw [hφ] at g1
                simp only [Option.some.injEq, Prod.mk.injEq] at g1
                rw [g1.1, g2.1]
            subst hbb
            obtain ⟨cs2, e2, q1, q2, q3, _⟩ := hm.cells k b' len cnt _ hφ hk rfl
            refine ⟨(hm.bd k _ b' hφ (foot_self ..)).2, fun p u hp hu => ?_⟩
            have hpb : w.heap[p.block]? = some (.cells cs2 e2 (0, 0)) := by rw [hp]; exact q1
            have hcs : cs2 = cells := by rw [q1] at hb; cases hb; rfl
            subst hcs
            simp only [World.cell?, hpb] at hu
            split at hu
            · cases hu
            · have hlt : p.off < l.length := by have := (Array.getElem?_eq_some_iff.1 hu).1; omega
              obtain ⟨⟨u', hu', _, hcr⟩, _⟩ := hcont.2.2 p.off _ (List.getElem?_eq_getElem hlt)
              simp only [Sch.size, Nat.zero_add, Nat.mul_one, Nat.add_zero] at hu'
              rw [hu] at hu'
              cases hu'
              exact ⟨_, hcr⟩
          · have hx' : l[i]? = some x := by
              rw [show nthD (T := .cons .bool .nil) (l.take len) i = (l.take len)[i]? from rfl, List.getElem?_take] at hi
              split at hi
              · exact hi
              · cases hi
            refine SRel.mono toM (.cons .bool .nil) x _ _ (fun j u hj hu => ?_) (hcont.2.2 i x hx')
            rw [addr_add]
            simp [World.cell?, hb] at hu ⊢
            exact hu
      · cases hx
  induction avs generalizing fs vs with
  | nil =>
    intro _ hf hl
    cases hf
    exact ⟨by have := hl.1; simpa using this, fun j c v hj => by simp at hj⟩
  | cons a r ih =>
    intro hx hf hl
    obtain ⟨p, hp, hx1⟩ := obind hx
    obtain ⟨q, hq, hx2⟩ := omap hx1
    simp only [Bool.and_eq_true] at hx2
    obtain ⟨rfl, rfl⟩ := hx2
    obtain ⟨y, hy, hf1⟩ := obind hf
    obtain ⟨ys, hys, rfl⟩ := omap hf1
    cases vs with
    | nil => have := hl.1; simp at this
    | cons v vt =>
      have ih := ih hq hys ⟨by have := hl.1; simpa using this, fun j c v hj hv => hl.2 (j + 1) c v (by simpa using hj) (by simpa using hv)⟩
      refine ⟨by simp [ih.1], fun j c v' hj hv => ?_⟩
      cases j with
      | zero => simp at hj hv; subst hj; subst hv; exact one hp hy (hl.2 0 a v rfl rfl)
      | succ j => exact ih.2 j c v' (by simpa using hj) (by simpa using hv)

/-! ### Calls -/
theorem callFunc_run {f : Nat} (hb : HasBody P f) (args : Array Value) (w : World) : (callFunc f args).run P w = .ok (.enter f args) w := by
  obtain ⟨fn, h1, h2, h3⟩ := hb
  have h2' : ¬ fn.name = "runtime.NumGoroutine" := by simpa using h2
  have h3' : ¬ fn.body = none := fun e => by rw [e] at h3; cases h3
  simp [callFunc, h1, if_neg h2', h3']

theorem call_ok (hΓ : Sound P Γ) (hN : ∀ b, ¬ B b → N b) (hm : MRel N B w φ m) (hB : ∀ b, B b → b < w.heap.size) {f : Nat} {avs : List AV} {vs : List Value} (hv : LRel (Nof N φ) w φ avs vs)
    (hc : callA Γ m f avs = some (x, m', vc)) (hvc : vc = true) (hx : (execOp a.eval o).run P w = (callFunc f vs.toArray).run P w) : OpOk P o a w (Post N B φ w m' x) := by
  have fin : ∀ {fs : List FV} {r : FV × Bool} {M : Nat → Prop}, callF Γ.p f fs = some r → r.2 = true → (∀ b, w.heap.size ≤ b → M b) → GlobOk M w → ArgsRel M w fs vs → (∀ w', Below w.heap.size w w' → ∀ v, FRel M w' r.1 v → FRel (Nof N φ) w' r.1 v) → OpOk P o a w (Post N B φ w m (.f r.1)) := fun {fs r M} hcf hr2 hM hgl hA hback => by
    obtain ⟨e, y, ⟨hbody, hs⟩, rfl, hy, rfl⟩ := callF_sound hΓ.1 hcf
    have hcalls := hs y hr2 M w vs hM hgl (vss_dec e.A fs y vs hy hA)
    unfold OpOk
    rw [hx, callFunc_run hbody]
    exact hcalls.mono fun en w' ⟨v, h1, h2, h3⟩ => by
      have hk := mrel_keep hm h3
      exact ⟨v, h1, φ, hk.1, hk.2, .f (hback w' h3 v h2)⟩
  unfold callA at hc
  split at hc
  · rename_i fs hfs
    obtain ⟨r, hr, h2⟩ := omap hc
    simp only [Prod.mk.injEq] at h2
    obtain ⟨rfl, rfl, rfl⟩ := h2
    have hA := hv.allF hfs
    refine fin hr hvc (M := Nof N φ) (fun b hb => ⟨hN b (fun h => by have := hB b h; omega), fun ⟨k, x, h, hf⟩ => ?_⟩) hm.gl hA (fun _ _ _ h => h)
    have := (hm.bd k x b h hf).2
    omega
  · obtain ⟨fs, hfs, h2⟩ := obind hc
    obtain ⟨r, hr, h3⟩ := obind h2
    cases hfl : flatF r.1 with
    | false =>
      rw [hfl] at h3
      simp only [cond_false] at h3
      obtain ⟨hnb, h4⟩ := bif_some h3
      obtain ⟨bb, hbb, h5⟩ := omap h4
      simp only [Prod.mk.injEq] at h5
      obtain ⟨rfl, rfl, rfl⟩ := h5
      simp only [Bool.and_eq_true] at hvc
      obtain ⟨hr2, rfl⟩ := hvc
      have hA := xArgs_ok hm hbb hfs hv
      refine fin hr hr2 (M := XM N φ w) (fun b hb => .inl ⟨hN b (fun h => by have := hB b h; omega), fun ⟨k, x, h, hf⟩ => ?_⟩) (hm.gl.sub fun _ h => .inl h) hA (fun w' hbw v h => nob_back hnb (fun p u hp hu => ?_) h)
      · have := (hm.bd k x b h hf).2
        omega
      · rcases hp with hp | ⟨hpl, hp⟩
        · exact .inl hp
        · refine .inr (hp p u rfl ?_)
          rw [← cell_same (hbw.block _ hpl)]; exact hu
    | true =>
      rw [hfl] at h3
      simp only [cond_true, Option.some.injEq, Prod.mk.injEq] at h3
      obtain ⟨rfl, rfl, rfl⟩ := h3
      have hA := frzL_ok (frz_ok (M := AnyB) (fun _ _ => trivial) hm 8) hfs hv
      exact fin hr hvc (M := AnyB) (fun _ _ => trivial) (hm.gl.sub fun _ _ => trivial) hA (fun w' _ v h => flat_any r.1 v hfl h)

theorem op_call {f : Nat} {c : Call} (hoc : o.op = .call c) (hcc : c.callee = .value (.func f)) {as : List AOpd} (hca : cOpds c.args.toList = some as) (hx : exOp Γ s G m (.call f as) = some (x, m', vc)) (hvc : vc = true)
    (hΓ : Sound P Γ) (hN : ∀ b, ¬ B b → N b) (hs : SlotsOk (Nof N φ) w φ s a) (hG : Holds a G) (hm : MRel N B w φ m) (hB : ∀ b, B b → b < w.heap.size) : OpOk P o a w (Post N B φ w m' x) := by
  obtain ⟨vs, hv, h2⟩ := obind hx
  have hl := opds_ok hs hG hca hv
  obtain ⟨callee, args, argTypes⟩ := c
  simp only at hcc
  subst hcc
  refine call_ok hΓ hN hm hB hl h2 hvc ?_
  have : (args.map a.eval) ++ #[] = (args.toList.map a.eval).toArray := by apply Array.ext'; simp
  have he : a.eval (.func f) = .func (.func f) #[] #[] := rfl
  simp only [execOp, hoc, resolve, Sem.run_bind, he, Deferred.ofValue, Sem.run_pure, Result.andThen_ok, invoke, Array.empty_append, this]

theorem holdG_true {N : Nat → Prop} {s : Slots} {a : Act} (hs : SlotsOk N w φ s a) {G0 : List (Nat × Bool)} (hG : Holds a G0) : ∀ {X : List (Nat × Bool)} {q : Bool}, (∀ p ∈ X, p ∈ G0) → holdG s G0 X = some q → q = true
  | [], q, _, h => by simp only [holdG, Option.some.injEq] at h; exact h.symm
  | (t, want) :: r, q, hX, h => by
    simp only [holdG] at h
    obtain ⟨h1, h2⟩ := bif_some h
    have hv := hs t (subB_holds hG h1)
    have hp := hG (t, want) (hX _ (List.mem_cons_self ..))
    simp only at hp
    rw [hp] at hv
    split at h2
    · rename_i b hb
      obtain ⟨q', hq, rfl⟩ := omap h2
      rw [holdG_true hs hG (fun p hp => hX p (List.mem_cons_of_mem _ hp)) hq]
      rw [hb] at hv
      cases hv with
      | f hv => cases hv; simp
    · cases h2

theorem op_callm {f : Nat} {c : Call} (hoc : o.op = .call c) (hcc : c.callee = .value (.func f)) {as : List AOpd} (hca : cOpds c.args.toList = some as) (hx : exOp Γ s G m (.callm f as) = some (x, m', vc)) (hvc : vc = true)
    (hΓ : Sound P Γ) (hN : ∀ b, ¬ B b → N b) (hs : SlotsOk (Nof N φ) w φ s a) (hG : Holds a G) (hm : MRel N B w φ m) (hB : ∀ b, B b → b < w.heap.size) : OpOk P o a w (Post N B φ w m' x) := by
  subst hvc
  have main : ∀ {e : EntM} {vs : List AV}, entMOf Γ.m f = some e → opvs s G as = some vs → e.run vs m = some (x, m', true) → OpOk P o a w (Post N B φ w m' x) := fun {e vs} he hv h2 => by
    have hl := opds_ok hs hG hca hv
    obtain ⟨callee, args, argTypes⟩ := c
    simp only at hcc
    subst hcc
    obtain ⟨⟨hbody, hsm, _⟩, rfl⟩ := entMOf_sound hΓ.2 he
    have hcalls := hsm vs m x m' h2 N B w φ _ hN hm hB hl
    have : (args.map a.eval) ++ #[] = (args.toList.map a.eval).toArray := by apply Array.ext'; simp
    have he2 : a.eval (.func e.f) = .func (.func e.f) #[] #[] := rfl
    have hrun : (execOp a.eval o).run P w = (callFunc e.f (args.toList.map a.eval).toArray).run P w := by
      simp only [execOp, hoc, resolve, Sem.run_bind, he2, Deferred.ofValue, Sem.run_pure, Result.andThen_ok, invoke, Array.empty_append, this]
    unfold OpOk
    rw [hrun, callFunc_run hbody]
    exact hcalls
  simp only [exOp] at hx
  split at hx
  · obtain ⟨vs, hv, h2⟩ := obind hx
    unfold callM at h2
    cases he : entMOf Γ.m f with
    | none => rw [he] at h2; cases h2
    | some e =>
      rw [he] at h2
      exact main he hv h2
  · obtain ⟨q, hq, h1⟩ := obind hx
    obtain ⟨vs, hv, h2⟩ := obind h1
    obtain rfl := holdG_true hs hG (fun _ h => h) hq
    unfold callMG at h2
    cases he : entMOf Γ.m f with
    | none => rw [he] at h2; cases h2
    | some e =>
      rw [he] at h2
      exact main he hv (((entMOf_sound hΓ.2 he).1.2.2.1 true vs m x m' true h2).1 rfl)

theorem op_callv {t : Tmp} {c : Call} (hoc : o.op = .call c) (hcc : c.callee = .value (.tmp t)) {as : List AOpd} (hca : cOpds c.args.toList = some as) (hx : exOp Γ s G m (.callv (.t t) as) = some (x, m', vc)) (hvc : vc = true)
    (hΓ : Sound P Γ) (hN : ∀ b, ¬ B b → N b) (hs : SlotsOk (Nof N φ) w φ s a) (hG : Holds a G) (hm : MRel N B w φ m) (hB : ∀ b, B b → b < w.heap.size) : OpOk P o a w (Post N B φ w m' x) := by
  obtain ⟨cv, hcv, h1⟩ := obind hx
  obtain ⟨vs, hv, h2⟩ := obind h1
  have hl := opds_ok hs hG hca hv
  have hcr : VRel (Nof N φ) w φ cv (a.eval (.tmp t)) := opd_ok hs hG (x := .tmp t) rfl hcv
  obtain ⟨callee, args, argTypes⟩ := c
  simp only at hcc
  subst hcc
  generalize he : a.eval (.tmp t) = ev at hcr
  split at h2
  · rename_i f caps
    cases hcr with
    | f hcr =>
    cases hcr with
    | @fn _ _ us hn h =>
    have hcp : LRel (Nof N φ) w φ (caps.map .f) us.toList := LRel.f (by simpa using hn) (fun j c v hj hv => h j c v hj (by simpa using hv))
    refine call_ok hΓ hN hm hB (LRel.app hl hcp) h2 hvc ?_
    have : (args.map a.eval) ++ us = (args.toList.map a.eval ++ us.toList).toArray := by apply Array.ext'; simp
    simp only [execOp, hoc, resolve, Sem.run_bind, he, Deferred.ofValue, Sem.run_pure, Result.andThen_ok, invoke, Array.empty_append, this]
  · rename_i f caps
    cases hcr with
    | @fn _ _ us hn h =>
    have hcp : LRel (Nof N φ) w φ caps us.toList := ⟨by simpa using hn.symm, fun j c v hj hv => h j c v hj (by simpa using hv)⟩
    refine call_ok hΓ hN hm hB (LRel.app hl hcp) h2 hvc ?_
    have : (args.map a.eval) ++ us = (args.toList.map a.eval ++ us.toList).toArray := by apply Array.ext'; simp
    simp only [execOp, hoc, resolve, Sem.run_bind, he, Deferred.ofValue, Sem.run_pure, Result.andThen_ok, invoke, Array.empty_append, this]
  · cases h2
end
end Go.AM
