/-
  Calls that are handed own slices: the laws.
-/
import Derived.Test.YthjhlpbiljpccaaAmOwn2
namespace Go.AM
open Go.RowKit

theorem srel_flat {N N' : Nat → Prop} {w w' : World} : (T : Sch) → (x : T.den) → (f : Nat → Option Value) → flatS T = true → SRel N w T x f → SRel N' w' T x f
  | .nil, _, _, _, _ => trivial
  | .cons .bool s, x, f, h, ⟨⟨v, h1, h2, h3⟩, h4⟩ => ⟨⟨v, h1, h2, h3⟩, srel_flat s x.2 _ (by simpa [flatS] using h) h4⟩
  | .cons (.int _) s, x, f, h, ⟨⟨v, h1, h2, h3⟩, h4⟩ => ⟨⟨v, h1, h2, h3⟩, srel_flat s x.2 _ (by simpa [flatS] using h) h4⟩
  | .cons .str s, x, f, h, ⟨⟨v, h1, h2, h3⟩, h4⟩ => ⟨⟨v, h1, h2, h3⟩, srel_flat s x.2 _ (by simpa [flatS] using h) h4⟩
  | .cons (.sl _) s, x, f, h, _ => by simp [flatS] at h
  | .cons (.fn _) s, x, f, h, _ => by simp [flatS] at h
  | .cons .mp s, x, f, h, _ => by simp [flatS] at h

/-- What an own slice that is handed back stands for. -/
structure Back (w : World) (T : Sch) (l : List T.den) (u : Value) (A : Option Addr) (c : Nat) (z : Option (Nat × Nat × Cnt)) : Prop where
  val : u = .slice A l.length c
  le : l.length ≤ c
  mx : l.length ≤ maxLen
  nz : z = none → c = 0
  at_ : ∀ b tot cnt, z = some (b, tot, cnt) → A = some ⟨b, 0, none⟩ ∧ c * T.size ≤ tot ∧ cnt = cN l.length ∧ ∃ cs e, w.heap[b]? = some (.cells cs e (0, 0)) ∧ cs.size = tot ∧ ∀ (M : Nat → Prop) (ψ' : Phi), OCont M w ψ' b [] (.row T l) cs

section
variable {N B : Nat → Prop} {w : World} {φ : Phi} {m : Mem}

theorem back_ok (hm : MRel N B w φ m) {T : Sch} (hT : flatS T = true) {v : AV} {u : Value} {l : List T.den} (hb : backO T m v = some l) (hv : VRel (Nof N φ) w φ v u) :
    ∃ A c z, Back w T l u A c z ∧ ∀ b tot cnt, z = some (b, tot, cnt) → ∃ k o y, v = .sl k T.size 0 y ∧ m[k]? = some o ∧ live o = true ∧ (∀ p cs, o ≠ .box p cs) ∧ ∃ cnt', φ[k]? = some (some (b, tot, cnt')) := by
  unfold backO at hb
  split at hb
  · simp only [Option.some.injEq] at hb
    subst hb
    cases hv with
    | f hv => cases hv with
      | @nils A => exact ⟨A, 0, none, ⟨rfl, Nat.le_refl 0, Nat.zero_le _, fun _ => rfl, fun _ _ _ h => by cases h⟩, fun _ _ _ h => by cases h⟩
  · rename_i k sz len
    cases hz : T.size == sz with
    | false => rw [hz] at hb; cases hb
    | true =>
    rw [hz] at hb
    have hz' : T.size = sz := by simpa using hz
    subst hz'
    simp only [cond_true] at hb
    cases hv with
    | @sl _ _ _ _ c A h1 h2 h3 =>
    rcases Nat.eq_zero_or_pos c with rfl | hc
    · obtain rfl : len = 0 := by omega
      have hl : l = [] := by
        split at hb
        · obtain ⟨hh, _, h5⟩ := omap hb
          rw [← h5]; rfl
        · have := (cond_some hb).2
          have := (frzE_asF _ _ this).1
          exact List.eq_nil_of_length_eq_zero (by simpa using this)
        · cases hb
      subst hl
      exact ⟨A, 0, none, ⟨rfl, Nat.le_refl 0, Nat.zero_le _, fun _ => rfl, fun _ _ _ h => by cases h⟩, fun _ _ _ h => by cases h⟩
    · obtain ⟨b, tot, cnt, g1, g2, g3, g4⟩ := h3 hc
      rw [Nat.zero_add] at g3 g4
      rw [Nat.zero_mul] at g2
      split at hb
      · rename_i U l0 hk
        obtain ⟨hh, _, h5⟩ := omap hb
        obtain ⟨rfl⟩ := hh
        rw [castL_self] at h5
        obtain ⟨cs, e, e1, e2, e3, e4⟩ := hm.cells k b tot cnt _ g1 hk rfl
        simp only [cntO] at e4
        have hlen : l.length = len := by rw [← h5, List.length_take]; omega
        refine ⟨A, c, some (b, tot, cN l.length), ⟨by rw [hlen], by omega, by omega, fun h => by (cases h), fun b' tot' cnt' h => ?_⟩, fun b' tot' cnt' h => ?_⟩
        · simp only [Option.some.injEq, Prod.mk.injEq] at h
          obtain ⟨rfl, rfl, rfl⟩ := h
          refine ⟨g2, g3, rfl, cs, e, e1, e2, fun M ψ' => ⟨?_, by omega, fun i x hi => ?_⟩⟩
          · have := Nat.mul_le_mul_right U.size (show l.length ≤ l0.length by omega)
            exact Nat.le_trans this e3.1
          · refine srel_flat U x _ hT (e3.2.2 i x ?_)
            rw [← h5] at hi
            rw [List.getElem?_take] at hi
            split at hi
            · exact hi
            · cases hi
        · simp only [Option.some.injEq, Prod.mk.injEq] at h
          obtain ⟨rfl, rfl, rfl⟩ := h
          exact ⟨k, _, len, rfl, hk, rfl, (fun p cs h => by cases h), cnt, g1⟩
      · rename_i U es hk
        obtain ⟨hU, h5⟩ := cond_some hb
        have hU' : U.size = T.size := by simpa using hU
        obtain ⟨cs, e, e1, e2, e3, e4⟩ := hm.cells k b tot cnt _ g1 hk rfl
        simp only [cntO] at e4
        have hll := (frzE_asF _ _ h5).1
        have hlen : l.length = len := by rw [hll, List.length_take]; omega
        refine ⟨A, c, some (b, tot, cN l.length), ⟨by rw [hlen], by omega, by omega, fun h => by (cases h), fun b' tot' cnt' h => ?_⟩, fun b' tot' cnt' h => ?_⟩
        · simp only [Option.some.injEq, Prod.mk.injEq] at h
          obtain ⟨rfl, rfl, rfl⟩ := h
          refine ⟨g2, g3, rfl, cs, e, e1, e2, fun M ψ' => ⟨?_, by omega, fun i x hi => ?_⟩⟩
          · have := Nat.mul_le_mul_right T.size (show l.length ≤ es.length by omega)
            have e5 := e3.1
            rw [hU'] at e5
            exact Nat.le_trans this e5
          · have hE : ERel (Nof N φ) w φ T.size (es.take len) cs := fun i cs' hi => by
              rw [List.getElem?_take] at hi
              split at hi
              · have := e3.2.2 i cs' hi
                rw [hU'] at this; exact this
              · cases hi
            exact srel_flat T x _ hT (erel_typed hE h5 i x hi)
        · simp only [Option.some.injEq, Prod.mk.injEq] at h
          obtain ⟨rfl, rfl, rfl⟩ := h
          exact ⟨k, _, len, rfl, hk, rfl, (fun p cs h => by cases h), cnt, g1⟩
      · cases hb
  · cases hb

theorem Back.vrel {T : Sch} {l : List T.den} {u : Value} {A : Option Addr} {c : Nat} {z : Option (Nat × Nat × Cnt)} (h : Back w T l u A c z) {M : Nat → Prop} {w' : World} {ψ : Phi} {k : Nat} (hk : ψ[k]? = some z) : VRel M w' ψ (.sl k T.size 0 l.length) u := by
  rw [h.val]
  refine .sl h.le h.mx fun hc => ?_
  cases z with
  | none => have := h.nz rfl; omega
  | some x =>
    obtain ⟨b, tot, cnt⟩ := x
    obtain ⟨h1, h2, h3, _⟩ := h.at_ b tot cnt rfl
    exact ⟨b, tot, cnt, hk, by rw [h1, Nat.zero_mul], by rw [Nat.zero_add]; exact h2, by rw [h3, Nat.zero_add]; exact Nat.le_refl _⟩
end

section
variable {P : Program} {ms : List Nat} {Γ : Env}

theorem res_one {fn : Func} {n : Nat} (h : cRes P fn.results.toList = some [.t n]) (tmps : Array Value) (w : World) : (results fn tmps).run P w = .ok (tmps.getD n undef) w := by
  have hr : ∃ r, fn.results.toList = [.tmp n] ∧ r = () := by
    refine ⟨(), ?_, rfl⟩
    generalize fn.results.toList = rs at h
    match rs, h with
    | [], h => simp [cRes] at h
    | [.tmp t], h =>
      simp only [cRes, Option.map_some, Option.some.injEq, List.cons.injEq, ARes.t.injEq, and_true] at h
      rw [h]
    | [.cell c t], h =>
      simp only [cRes] at h
      rcases Bool.eq_false_or_eq_true (tyOk P t) with ht | ht
      · rw [ht] at h; simp at h
      · rw [ht] at h; simp at h
    | .tmp t :: r :: rs, h =>
      simp only [cRes] at h
      obtain ⟨x, hx, h2⟩ := omap h
      simp only [List.cons.injEq] at h2
      have : x = [] := h2.2
      subst this
      cases r with
      | tmp t2 => simp only [cRes] at hx; obtain ⟨_, _, h3⟩ := omap hx; cases h3
      | cell c t2 =>
        simp only [cRes] at hx
        rcases Bool.eq_false_or_eq_true (tyOk P t2) with ht | ht
        · rw [ht] at hx; obtain ⟨_, _, h3⟩ := omap hx; cases h3
        · rw [ht] at hx; cases hx
    | .cell c t :: r :: rs, h =>
      simp only [cRes] at h
      rcases Bool.eq_false_or_eq_true (tyOk P t) with ht | ht
      · rw [ht] at h; obtain ⟨x, hx, h2⟩ := omap h; cases h2
      · rw [ht] at h; cases h
  obtain ⟨_, hr, _⟩ := hr
  have he : results fn tmps = fn.results.mapM (getRes tmps) >>= fun vs => pure (if h : vs.size = 1 then vs[0] else .tuple vs) := by
    unfold results
    congr 1
  rw [Array.mapM_eq_mapM_toList, map_eq_pure_bind, hr] at he
  rw [he]
  simp [List.mapM_cons, Sem.run_bind, getRes]

theorem lrel_len {N : Nat → Prop} {w : World} {φ : Phi} {xs : List AV} {vs : List Value} (h : LRel N w φ xs vs) : xs.length = vs.length := h.1
theorem takeO_len : ∀ {A : List VO} {m m1 : Mem} {avs : List AV}, takeO m A avs = some m1 → avs.length = A.length
  | [], m, m1, [], _ => rfl
  | [], m, m1, _ :: _, h => by simp [takeO] at h
  | .p _ :: r, m, m1, [], h => by simp [takeO] at h
  | .own _ :: r, m, m1, [], h => by simp [takeO] at h
  | .nil :: r, m, m1, [], h => by simp [takeO] at h
  | .io _ :: r, m, m1, [], h => by simp [takeO] at h
  | .p _ :: r, m, m1, v :: vs, h => by simp only [takeO] at h; simp [takeO_len (A := r) h]
  | .own _ :: r, m, m1, v :: vs, h => by simp only [takeO] at h; obtain ⟨x, _, h1⟩ := obind h; simp [takeO_len (A := r) h1]
  | .io _ :: r, m, m1, v :: vs, h => by simp only [takeO] at h; obtain ⟨x, _, h1⟩ := obind h; simp [takeO_len (A := r) h1]
  | .nil :: r, m, m1, v :: vs, h => by
    unfold takeO at h
    split at h
    all_goals first | (rename_i he1 he2; cases he1; done) | skip
    all_goals first | (rename_i h1 h2; cases h1; cases h2; simp [takeO_len (A := r) h]; done) | simp_all

/-- What is sure of the arguments that are data. -/
def VOs.wf : (A : List VO) → VOs.den A → Prop
  | [], _ => True
  | .p t :: r, x => VS.wf t x.1 ∧ VOs.wf r x.2
  | .own _ :: r, x => VOs.wf r x.2
  | .nil :: r, x => VOs.wf r x.2
  | .io _ :: r, x => VOs.wf r x.2
theorem readO_wf {N B : Nat → Prop} {w : World} {φ : Phi} {m1 : Mem} (hm1 : MRel N B w φ m1) : ∀ (A : List VO) {m : Mem} {avs : List AV} {vs : List Value} {x : VOs.den A} {b : Bool}, readO m1 m A avs = some (x, b) → LRel (Nof N φ) w φ avs vs → VOs.wf A x
  | [], _, _, _, _, _, _, _ => trivial
  | .p t :: A, m, [], vs, x, b, h, _ => by simp [readO] at h
  | .own t :: A, m, [], vs, x, b, h, _ => by simp [readO] at h
  | .nil :: A, m, [], vs, x, b, h, _ => by simp [readO] at h
  | .io t :: A, m, [], vs, x, b, h, _ => by simp [readO] at h
  | a :: A, m, v :: avs, [], x, b, h, hl => by have := hl.1; simp at this
  | .p t :: A, m, v :: avs, u :: vs, x, b, h, hl => by
    have hl' : LRel (Nof N φ) w φ avs vs := ⟨by have := hl.1; simpa using this, fun j c v hj hv => hl.2 (j + 1) c v (by simpa using hj) (by simpa using hv)⟩
    simp only [readO] at h
    obtain ⟨y, hy, h3⟩ := obind h
    obtain ⟨c, hc, hd⟩ := obind hy
    obtain ⟨r, hr, h4⟩ := omap h3
    have hx := (congrArg Prod.fst h4).symm
    subst hx
    have := frz_ok (M := M0 N φ m1) (fun _ h => h) hm1 8 v c u hc (hl.2 0 v u rfl rfl)
    exact ⟨vs_wf t y u (vs_dec t c y u hd this), readO_wf hm1 A (b := r.2) hr hl'⟩
  | .own T :: A, m, v :: avs, u :: vs, x, b, h, hl => by
    have hl' : LRel (Nof N φ) w φ avs vs := ⟨by have := hl.1; simpa using this, fun j c v hj hv => hl.2 (j + 1) c v (by simpa using hj) (by simpa using hv)⟩
    simp only [readO] at h
    obtain ⟨y, hy, h3⟩ := obind h
    obtain ⟨r, hr, h4⟩ := omap h3
    have hx := (congrArg Prod.fst h4).symm
    subst hx
    exact readO_wf hm1 A (b := r.2) hr hl'
  | .io T :: A, m, v :: avs, u :: vs, x, b, h, hl => by
    have hl' : LRel (Nof N φ) w φ avs vs := ⟨by have := hl.1; simpa using this, fun j c v hj hv => hl.2 (j + 1) c v (by simpa using hj) (by simpa using hv)⟩
    simp only [readO] at h
    obtain ⟨y, hy, h3⟩ := obind h
    obtain ⟨r, hr, h4⟩ := omap h3
    have hx := (congrArg Prod.fst h4).symm
    subst hx
    exact readO_wf hm1 A (b := r.2) hr hl'
  | .nil :: A, m, v :: avs, u :: vs, x, b, h, hl => by
    have hl' : LRel (Nof N φ) w φ avs vs := ⟨by have := hl.1; simpa using this, fun j c v hj hv => hl.2 (j + 1) c v (by simpa using hj) (by simpa using hv)⟩
    have hvn : v = .f .nils := by
      cases v with
      | f y => cases y <;> first | rfl | (simp [readO] at h; done)
      | _ => simp [readO] at h
    subst hvn
    simp only [readO] at h
    obtain ⟨r, hr, h4⟩ := omap h
    have hx := (congrArg Prod.fst h4).symm
    subst hx
    exact readO_wf hm1 A (b := r.2) hr hl'

/-- The frame of the callee. -/
def frame0 (n : Nat) (vs : List Value) : Act := { tmps := vs.toArray ++ Array.replicate (n - vs.toArray.size) undef, defers := [] }
theorem frame0_at {n : Nat} {vs : List Value} {j : Nat} {v : Value} (h : vs[j]? = some v) : (frame0 n vs).tmps.getD j undef = v := by
  have hlt := (List.getElem?_eq_some_iff.1 h).1
  have hv := (List.getElem?_eq_some_iff.1 h).2
  simp [frame0, Array.getD_eq_getD_getElem?, Array.getElem?_append, hlt, hv]

/-- THE LAW OF A FUNCTION THAT HANDS BACK AN OWN SLICE. -/
theorem soundO (hmx : P.follows .mixedOrders = true) (hΓ : Sound P Γ) {tbl : Tbl} {e : EntO} {fn : Func} {c : AFunc} (hf : P.funcs[e.f]? = some fn) (hname : (fn.name == "runtime.NumGoroutine") = false) (hc : compF P ms fn = some c.strip) (hl : TblOk tbl c.body)
    (hn : e.A.length ≤ c.ntmps) (hio : noIo e.A = true) (hT : flatS e.T = true) (hres1 : ∃ n, c.res = [.t n]) (hev : ∀ x, VOs.wf e.A x → e.pre x = true → evO Γ (Lfp Γ tbl) c e.A x e.T fun y => y = e.g x) : SoundM P e.ent := by
  obtain ⟨code, hb, hcode, hres, hnt, _⟩ := compF_inv hc
  refine ⟨⟨fn, hf, hname, by rw [hb]; rfl⟩, fun avs m xv m' hrun N B w φ vs hN hm hB hl2 => ?_, (fun _ _ _ _ _ _ h => by cases h), KeepsM.none fun _ => rfl⟩
  have hnt' : c.ntmps = fn.ntmps := hnt
  obtain ⟨m1, ht1, h2⟩ := obind (show (takeO m e.A avs).bind _ = _ from hrun)
  obtain ⟨x, hr1, h3⟩ := omap h2
  obtain ⟨x, b⟩ := x
  simp only [Prod.mk.injEq, Bool.and_eq_true] at h3
  obtain ⟨rfl, rfl, rfl, hpre⟩ := h3
  have hm1 : MRel N B w φ m1 := by
    have : ∀ (A : List VO) (avs : List AV) (m : Mem), noIo A = true → MRel N B w φ m → ∀ {m1}, takeO m A avs = some m1 → MRel N B w φ m1 := fun A => by
      induction A with
      | nil => intro avs m _ hm m1 h; cases avs <;> simp [takeO] at h; subst h; exact hm
      | cons a A ih =>
        intro avs m hio hm m1 h
        cases avs with
        | nil => cases a <;> simp [takeO] at h
        | cons v vs =>
          cases a with
          | p t => exact ih vs m (by simpa [noIo] using hio) hm (by simpa only [takeO] using h)
          | nil =>
            unfold takeO at h
            split at h
            all_goals first | (rename_i he1 he2; cases he1; done) | skip
            all_goals first | (rename_i h1 h2; cases h1; cases h2; exact ih _ m (by simpa [noIo] using hio) hm h) | simp_all
          | own T =>
            simp only [takeO] at h
            obtain ⟨y, hy, h1⟩ := obind h
            refine ih vs y.2.1 (by simpa [noIo] using hio) ?_ h1
            unfold ownA at hy
            split at hy
            · cases hy; exact hm
            · have := (cond_some hy).2
              split at this
              · obtain ⟨_, _, rfl⟩ := omap this; exact mrel_dead hm _
              · obtain ⟨_, _, rfl⟩ := omap (cond_some this).2; exact mrel_dead hm _
              · cases this
            · cases hy
          | io T => simp [noIo] at hio
    exact this e.A avs m hio hm ht1
  obtain ⟨ψ, _, htk, hslots⟩ := took_all (tm := fun t => (frame0 fn.ntmps vs).tmps.getD t undef) (b0 := 0) (i := 0) (s := []) hm hm1 e.A hio (Took.start N w φ m) ht1 hr1 hl2 fun j v hj => by
    rw [Nat.zero_add]; exact frame0_at hj
  obtain ⟨hmc, hK⟩ := took_mrel hm htk
  have hS := hslots (Nof (Nc N w φ m1 ψ) ψ) (fun y v h => h.mono hK) fun t => ⟨rfl, .junk⟩
  have hlen : vs.length ≤ fn.ntmps := by rw [← lrel_len hl2, takeO_len ht1]; omega
  refine calls_of_wp hf hb ?_
  refine evC_ok (N := Nc N w φ m1 ψ) (wb := baseC w ψ) (n := fn.ntmps) hmx hΓ (fun b hb => ?_) code c.body hcode hl (φ := ψ) (a := frame0 fn.ntmps vs) (st := startO 0 0 e.A x ⟨[], []⟩) ⟨fun t => (hS t).1, fun t => (hS t).2, hmc, Bel.refl _ _, ?_, rfl⟩ (hev x (readO_wf hm1 e.A hr1 hl2) hpre) fun o a w' φ' st h hk => ?_
  · by_cases hlt : b < w.heap.size
    · exact .inr (.inl (Classical.byContradiction fun hno => hb ⟨hlt, hno⟩))
    · exact .inr (.inr (by omega))
  · simp [frame0]; omega
  have fin : kDoneO c e.T (fun y => y = e.g x) .norm st → a.defers = [] ∧ ∃ v, (results fn a.tmps).run P w' = .ok v w' ∧ ∃ v', Ending.returned v = .returned v' ∧ Post N B φ w (m1 ++ [.row e.T (e.g x)]) (.sl m1.length e.T.size 0 (e.g x).length) v' w' := fun hr => by
    obtain ⟨n, hrn⟩ := hres1
    have hres' : cRes P fn.results.toList = some [.t n] := by rw [← hrn]; exact hres
    simp only [kDoneO, hrn] at hr
    split at hr
    · rename_i v hv
      split at hr
      · rename_i l hbk
        subst hr
        have hvr := h.slots n
        rw [hv] at hvr
        obtain ⟨A, cc, z, hbk1, hbk2⟩ := back_ok h.mem hT hbk hvr
        have hgive := took_give hm hB htk (z := z) (o := .row e.T (e.g x)) h.below fun b tot cnt hz => by
          obtain ⟨k, o2, y, _, g1, g2, _, cnt', g3⟩ := hbk2 b tot cnt hz
          obtain ⟨_, _, e3, cs, ee, e4, e5, e6⟩ := hbk1.at_ b tot cnt hz
          have := h.mem.bd k _ b g3 (foot_self ..)
          refine ⟨this.1, this.2, by rw [e3], cs, ee, e4, e5, by rw [e3]; exact Nat.le_refl _, e6⟩
        refine ⟨h.defers, _, res_one hres' _ _, _, rfl, φ ++ [z], hgive.1, hgive.2, hbk1.vrel ?_⟩
        rw [htk.mlen, ← hm.len]; simp
      · exact hr.elim
    · exact hr.elim
  cases o with
  | norm => exact fin hk
  | ret => exact fin (by simp only [kDoneO] at hk ⊢; exact hk)
  | exit i => exact hk.elim

/-- The evaluation of such a function, closed to the elaborator's eye. -/
structure EvO (Γ : Env) (tbl : Tbl) (c : AFunc) (A : List VO) (x : VOs.den A) (T : Sch) (Q : List T.den → Prop) : Prop where
  out : evO Γ (Lfp Γ tbl) c A x T Q
theorem EvO.of {Γ : Env} {tbl : Tbl} {c : AFunc} {A : List VO} {x : VOs.den A} {T : Sch} {Q : List T.den → Prop} {p : Prop} (h : evO Γ (Lfp Γ tbl) c A x T Q = p) (hp : p) : EvO Γ tbl c A x T Q := ⟨h.mpr hp⟩
theorem sound_evO (hmx : P.follows .mixedOrders = true) (hΓ : Sound P Γ) {tbl : Tbl} {e : EntO} {fn : Func} {c : AFunc} (hf : P.funcs[e.f]? = some fn) (hname : (fn.name == "runtime.NumGoroutine") = false) (hc : compF P ms fn = some c.strip) (hl : TblOk tbl c.body)
    (hn : e.A.length ≤ c.ntmps) (hio : noIo e.A = true) (hT : flatS e.T = true) (hres1 : ∃ n, c.res = [.t n]) (hev : ∀ x, VOs.wf e.A x → e.pre x = true → EvO Γ tbl c e.A x e.T fun y => y = e.g x) : SoundM P e.ent :=
  soundO hmx hΓ hf hname hc hl hn hio hT hres1 fun x a b => (hev x a b).out
/-- The results behind the first one. -/
theorem res_tail {N : Nat → Prop} {wb : Base} {nn : Nat} {a : Act} {w : World} {φ : Phi} {st : St} (hN : ∀ b, ¬ wb.B b → N b) (h : RelC N wb nn a w φ st) {fn : Func} {n : Nat} {r : ARes} {rs : List ARes} (hr : cRes P fn.results.toList = some (.t n :: r :: rs)) {xs : List FV} (hx : resVs st (r :: rs) = some xs) :
    ∃ us : List Value, (results fn a.tmps).run P w = .ok (.tuple (a.tmps.getD n undef :: us).toArray) w ∧ ArgsRel N w xs us := by
  have hq : ∃ q, fn.results.toList = .tmp n :: q ∧ cRes P q = some (r :: rs) := by
    generalize fn.results.toList = L at hr
    match L, hr with
    | [], hr => simp [cRes] at hr
    | .tmp t :: q, hr =>
      simp only [cRes] at hr
      obtain ⟨y, hy, h2⟩ := omap hr
      simp only [List.cons.injEq, ARes.t.injEq] at h2
      obtain ⟨rfl, rfl⟩ := h2
      exact ⟨q, rfl, hy⟩
    | .cell c t :: q, hr =>
      simp only [cRes] at hr
      rcases Bool.eq_false_or_eq_true (tyOk P t) with ht | ht
      · rw [ht] at hr; obtain ⟨y, hy, h2⟩ := omap hr; cases h2
      · rw [ht] at hr; cases hr
  obtain ⟨q, hq, hq2⟩ := hq
  obtain ⟨us, hus, hl⟩ := resVs_ok hN h hq2 hx
  have he : results fn a.tmps = fn.results.mapM (getRes a.tmps) >>= fun vs => pure (if h : vs.size = 1 then vs[0] else .tuple vs) := by
    unfold results
    congr 1
  rw [Array.mapM_eq_mapM_toList, map_eq_pure_bind, hq] at he
  refine ⟨us, ?_, hl⟩
  have hlen : us ≠ [] := fun e0 => by
    have h1 := hl.1
    rw [e0] at h1
    simp only [resVs] at hx
    obtain ⟨v, _, h2⟩ := obind hx
    obtain ⟨vs, _, rfl⟩ := omap h2
    simp at h1
  have h1 : ¬ ((a.tmps.getD n undef :: us).toArray.size = 1) := by
    cases us with
    | nil => exact (hlen rfl).elim
    | cons u us => simp
  rw [he]
  have hg : (getRes a.tmps (.tmp n)).run P w = .ok (a.tmps.getD n undef) w := by simp [getRes]
  simp only [List.mapM_cons, Sem.run_bind, hg, Result.andThen_ok, hus, Sem.run_pure, dif_neg h1]

/-- The law of a function that hands back an own slice, and flat data. -/
theorem soundT (hmx : P.follows .mixedOrders = true) (hΓ : Sound P Γ) {tbl : Tbl} {e : EntT} {fn : Func} {c : AFunc} (hf : P.funcs[e.f]? = some fn) (hname : (fn.name == "runtime.NumGoroutine") = false) (hc : compF P ms fn = some c.strip) (hl : TblOk tbl c.body)
    (hn : e.A.length ≤ c.ntmps) (hio : noIo e.A = true) (hT : flatS e.T = true) (hres1 : ∃ n r rs, c.res = .t n :: r :: rs) (hev : ∀ x, VOs.wf e.A x → e.pre x = true → evT Γ (Lfp Γ tbl) c e.A x e.T e.R fun y => y = e.g x) : SoundM P e.ent := by
  obtain ⟨code, hb, hcode, hres, hnt, _⟩ := compF_inv hc
  refine ⟨⟨fn, hf, hname, by rw [hb]; rfl⟩, fun avs m xv m' hrun N B w φ vs hN hm hB hl2 => ?_, (fun _ _ _ _ _ _ h => by cases h), KeepsM.none fun _ => rfl⟩
  have hnt' : c.ntmps = fn.ntmps := hnt
  obtain ⟨m1, ht1, h2⟩ := obind (show (takeO m e.A avs).bind _ = _ from hrun)
  obtain ⟨x, hr1, h3⟩ := obind h2
  obtain ⟨x, b⟩ := x
  obtain ⟨hflat, h3⟩ := cond_some h3
  simp only [Option.some.injEq, Prod.mk.injEq, Bool.and_eq_true] at h3
  obtain ⟨rfl, rfl, rfl, hpre⟩ := h3
  have hm1 : MRel N B w φ m1 := by
    have : ∀ (A : List VO) (avs : List AV) (m : Mem), noIo A = true → MRel N B w φ m → ∀ {m1}, takeO m A avs = some m1 → MRel N B w φ m1 := fun A => by
      induction A with
      | nil => intro avs m _ hm m1 h; cases avs <;> simp [takeO] at h; subst h; exact hm
      | cons a A ih =>
        intro avs m hio hm m1 h
        cases avs with
        | nil => cases a <;> simp [takeO] at h
        | cons v vs =>
          cases a with
          | p t => exact ih vs m (by simpa [noIo] using hio) hm (by simpa only [takeO] using h)
          | nil =>
            unfold takeO at h
            split at h
            all_goals first | (rename_i he1 he2; cases he1; done) | skip
            all_goals first | (rename_i h1 h2; cases h1; cases h2; exact ih _ m (by simpa [noIo] using hio) hm h) | simp_all
          | own T =>
            simp only [takeO] at h
            obtain ⟨y, hy, h1⟩ := obind h
            refine ih vs y.2.1 (by simpa [noIo] using hio) ?_ h1
            unfold ownA at hy
            split at hy
            · cases hy; exact hm
            · have := (cond_some hy).2
              split at this
              · obtain ⟨_, _, rfl⟩ := omap this; exact mrel_dead hm _
              · obtain ⟨_, _, rfl⟩ := omap (cond_some this).2; exact mrel_dead hm _
              · cases this
            · cases hy
          | io T => simp [noIo] at hio
    exact this e.A avs m hio hm ht1
  obtain ⟨ψ, _, htk, hslots⟩ := took_all (tm := fun t => (frame0 fn.ntmps vs).tmps.getD t undef) (b0 := 0) (i := 0) (s := []) hm hm1 e.A hio (Took.start N w φ m) ht1 hr1 hl2 fun j v hj => by
    rw [Nat.zero_add]; exact frame0_at hj
  obtain ⟨hmc, hK⟩ := took_mrel hm htk
  have hS := hslots (Nof (Nc N w φ m1 ψ) ψ) (fun y v h => h.mono hK) fun t => ⟨rfl, .junk⟩
  have hlen : vs.length ≤ fn.ntmps := by rw [← lrel_len hl2, takeO_len ht1]; omega
  refine calls_of_wp hf hb ?_
  have hNc : ∀ b, ¬ (baseC w ψ).B b → Nc N w φ m1 ψ b := fun b hb => by
    by_cases hlt : b < w.heap.size
    · exact .inr (.inl (Classical.byContradiction fun hno => hb ⟨hlt, hno⟩))
    · exact .inr (.inr (by omega))
  refine evC_ok (N := Nc N w φ m1 ψ) (wb := baseC w ψ) (n := fn.ntmps) hmx hΓ hNc code c.body hcode hl (φ := ψ) (a := frame0 fn.ntmps vs) (st := startO 0 0 e.A x ⟨[], []⟩) ⟨fun t => (hS t).1, fun t => (hS t).2, hmc, Bel.refl _ _, ?_, rfl⟩ (hev x (readO_wf hm1 e.A hr1 hl2) hpre) fun o a w' φ' st h hk => ?_
  · simp [frame0]; omega
  have fin : kDoneT c e.T e.R (fun y => y = e.g x) .norm st → a.defers = [] ∧ ∃ v, (results fn a.tmps).run P w' = .ok v w' ∧ ∃ v', Ending.returned v = .returned v' ∧ Post N B φ w (m1 ++ [.row e.T (e.g x).1]) (.tup (.sl m1.length e.T.size 0 (e.g x).1.length :: (VSs.enc e.R (e.g x).2).map .f)) v' w' := fun hr => by
    obtain ⟨n, r1, rs, hrn⟩ := hres1
    have hres' : cRes P fn.results.toList = some (.t n :: r1 :: rs) := by rw [← hrn]; exact hres
    simp only [kDoneT, hrn] at hr
    split at hr
    · rename_i v hv
      split at hr
      · rename_i l hbk
        split at hr
        · rename_i xs hxs
          split at hr
          · rename_i y hy
            have hl1 : l = (e.g x).1 := congrArg Prod.fst hr
            have hy1 : y = (e.g x).2 := congrArg Prod.snd hr
            subst hl1
            have hvr := h.slots n
            rw [hv] at hvr
            obtain ⟨A, cc, z, hbk1, hbk2⟩ := back_ok h.mem hT hbk hvr
            have hgive := took_give hm hB htk (z := z) (o := .row e.T (e.g x).1) h.below fun b tot cnt hz => by
              obtain ⟨k, o2, y, _, g1, g2, _, cnt', g3⟩ := hbk2 b tot cnt hz
              obtain ⟨_, _, e3, cs, ee, e4, e5, e6⟩ := hbk1.at_ b tot cnt hz
              have := h.mem.bd k _ b g3 (foot_self ..)
              refine ⟨this.1, this.2, by rw [e3], cs, ee, e4, e5, by rw [e3]; exact Nat.le_refl _, e6⟩
            obtain ⟨us, hus, hul, hu⟩ := res_tail hNc h hres' hxs
            have hvs := vss_dec e.R xs y us hy ⟨hul, hu⟩
            rw [hy1] at hvs
            refine ⟨h.defers, _, hus, _, rfl, φ ++ [z], hgive.1, hgive.2, .tup ?_ fun j c v hj hv => ?_⟩
            · have := hvs.1
              simp only [List.size_toArray, List.length_cons, List.length_map]
              omega
            · cases j with
              | zero =>
                simp only [List.getElem?_cons_zero, Option.some.injEq] at hj
                subst hj
                have : v = a.tmps.getD n undef := by simpa using hv.symm
                subst this
                refine hbk1.vrel ?_
                rw [htk.mlen, ← hm.len]; simp
              | succ j =>
                simp only [List.getElem?_cons_succ, List.getElem?_map, Option.map_eq_some_iff] at hj
                obtain ⟨d, hd, rfl⟩ := hj
                have hv' : us[j]? = some v := by simpa using hv
                have hd' := hvs.2 j d v hd hv'
                exact .f (flat_anys _ hflat j d v hd hd')
          · exact hr.elim
        · exact hr.elim
      · exact hr.elim
    · exact hr.elim
  cases o with
  | norm => exact fin hk
  | ret => exact fin (by simp only [kDoneT] at hk ⊢; exact hk)
  | exit i => exact hk.elim

/-- The evaluation of such a function, closed to the elaborator's eye. -/
structure EvT (Γ : Env) (tbl : Tbl) (c : AFunc) (A : List VO) (x : VOs.den A) (T : Sch) (R : List VS) (Q : List T.den × VSs.den R → Prop) : Prop where
  out : evT Γ (Lfp Γ tbl) c A x T R Q
theorem EvT.of {Γ : Env} {tbl : Tbl} {c : AFunc} {A : List VO} {x : VOs.den A} {T : Sch} {R : List VS} {Q : List T.den × VSs.den R → Prop} {p : Prop} (h : evT Γ (Lfp Γ tbl) c A x T R Q = p) (hp : p) : EvT Γ tbl c A x T R Q := ⟨h.mpr hp⟩
theorem sound_evT (hmx : P.follows .mixedOrders = true) (hΓ : Sound P Γ) {tbl : Tbl} {e : EntT} {fn : Func} {c : AFunc} (hf : P.funcs[e.f]? = some fn) (hname : (fn.name == "runtime.NumGoroutine") = false) (hc : compF P ms fn = some c.strip) (hl : TblOk tbl c.body)
    (hn : e.A.length ≤ c.ntmps) (hio : noIo e.A = true) (hT : flatS e.T = true) (hres1 : ∃ n r rs, c.res = .t n :: r :: rs) (hev : ∀ x, VOs.wf e.A x → e.pre x = true → EvT Γ tbl c e.A x e.T e.R fun y => y = e.g x) : SoundM P e.ent :=
  soundT hmx hΓ hf hname hc hl hn hio hT hres1 fun x a b => (hev x a b).out
end
end Go.AM
