/-
  Methods of a pointer to an own box with one own slice: what such a call gives; its law, from the method's compact code.
-/
import Derived.Test.YthjhlpbiljpccaaAmOwnX3
namespace Go.AM
open Go.RowKit

/-- A method of a pointer to an own box with one own slice: what it hands back, what the box holds behind it. -/
structure EntI where
  f : Nat
  T : Sch
  A : List VS
  R : List VS
  pre : List T.den → VSs.den A → Bool
  g : List T.den → VSs.den A → VSs.den R
  h : List T.den → VSs.den A → List T.den
def EntI.run (e : EntI) : List AV → Mem → Option (AV × Mem × Bool)
  | .ptr k 0 :: vs, m => match m[k]? with
    | some (.box pn [c]) => (ownA e.T (m.set k .dead) c).bind fun o => ((allF vs).bind (VSs.dec e.A)).bind fun x =>
        bif flatFs (VSs.enc e.R (e.g o.1 x)) then
          some (.f (outOf (VSs.enc e.R (e.g o.1 x))), o.2.1.set k (.box pn [.sl o.2.1.length e.T.size 0 (e.h o.1 x).length]) ++ [.row e.T (e.h o.1 x)], o.2.2 && e.pre o.1 x)
        else none
    | _ => none
  | _, _ => none
theorem EntI.run_inv {e : EntI} {avs : List AV} {m : Mem} {r : AV × Mem × Bool} (h : e.run avs m = some r) : ∃ k avs' pn c, avs = .ptr k 0 :: avs' ∧ m[k]? = some (.box pn [c]) ∧
    ((ownA e.T (m.set k .dead) c).bind fun o => ((allF avs').bind (VSs.dec e.A)).bind fun x =>
        bif flatFs (VSs.enc e.R (e.g o.1 x)) then
          some (.f (outOf (VSs.enc e.R (e.g o.1 x))), o.2.1.set k (.box pn [.sl o.2.1.length e.T.size 0 (e.h o.1 x).length]) ++ [.row e.T (e.h o.1 x)], o.2.2 && e.pre o.1 x)
        else none) = some r := by
  unfold EntI.run at h
  split at h
  · rename_i k avs'
    split at h
    · rename_i pn c hk
      exact ⟨k, avs', pn, c, rfl, hk, h⟩
    · cases h
  · cases h
def EntI.ent (e : EntI) : EntM := ⟨e.f, e.run, fun _ _ _ => none, fun _ => none⟩

/-- Where the callee begins; 'b': the block of the box. -/
def startI (b : Nat) (T : Sch) (l : List T.den) (fs : List FV) : St :=
  ⟨(0, [], .ptr 0 0) :: start 1 fs, [.box (some (0, b)) [.sl 1 T.size 0 l.length], .row T l]⟩
/-- The box that a slot points to: its place, what it holds, its block. -/
def boxAt (m : Mem) : AV → Option (Nat × AV × Nat)
  | .ptr k 0 => match m[k]? with
    | some (.box (some (0, b)) [u]) => some (k, u, b)
    | _ => none
  | _ => none
def kDoneI (c : AFunc) (T : Sch) (R : List VS) (Q : VSs.den R × List T.den × Nat → Prop) : K
  | .norm, st | .ret, st => match get st.s 0 with
    | ([], v) => match boxAt st.m v with
      | some q => match backO T st.m q.2.1 with
        | some l => match (resVs st c.res).bind (VSs.dec R) with
          | some y => Q (y, l, q.2.2)
          | none => False
        | none => False
      | none => False
    | _ => False
  | .exit _, _ => False
def evI (Γ : Env) (Λ : Loops) (c : AFunc) (T : Sch) (A : List VS) (R : List VS) (b : Nat) (l : List T.den) (x : VSs.den A) (Q : VSs.den R × List T.den × Nat → Prop) : Prop :=
  evC Γ Λ c.body (startI b T l (VSs.enc A x)) (kDoneI c T R Q)

section
variable {P : Program} {ms : List Nat} {Γ : Env}

set_option maxHeartbeats 1000000 in
theorem soundI (hmx : P.follows .mixedOrders = true) (hΓ : Sound P Γ) {tbl : Tbl} {e : EntI} {fn : Func} {c : AFunc} (hf : P.funcs[e.f]? = some fn) (hname : (fn.name == "runtime.NumGoroutine") = false) (hc : compF P ms fn = some c.strip) (hl : TblOk tbl c.body)
    (hn : e.A.length + 1 ≤ c.ntmps) (hT : flatS e.T = true) (hev : ∀ b l x, VSs.wf e.A x → e.pre l x = true → evI Γ (Lfp Γ tbl) c e.T e.A e.R b l x fun y => y = (e.g l x, e.h l x, b)) : SoundM P e.ent := by
  obtain ⟨code, hb, hcode, hres, hnt, _⟩ := compF_inv hc
  refine ⟨⟨fn, hf, hname, by rw [hb]; rfl⟩, fun avs m xv m' hrun N B w φ vs hN hm hB hl2 => ?_, (fun _ _ _ _ _ _ h => by cases h), KeepsM.none fun _ => rfl⟩
  have hnt' : c.ntmps = fn.ntmps := hnt
  have hres : cRes P fn.results.toList = some c.res := hres
  have hrun : e.run avs m = some (xv, m', true) := hrun
  obtain ⟨k, avs', pn, cc, rfl, hmk, hrun⟩ := EntI.run_inv hrun
  obtain ⟨⟨l, m1, bo⟩, ho, h2⟩ := obind hrun
  obtain ⟨x, hx0, h3⟩ := obind h2
  obtain ⟨fs, hfs, hx⟩ := obind hx0
  obtain ⟨hfl, h4⟩ := bif_some h3
  simp only [Option.some.injEq, Prod.mk.injEq, Bool.and_eq_true] at h4
  obtain ⟨rfl, rfl, hbo, hpre⟩ := h4
  subst hbo
  simp only at hpre hfl ho
  -- the box
  match vs, hl2 with
  | [], hl2 => have := hl2.1; simp at this
  | u0 :: us, hl2 =>
  have hl' := lrel_tail hl2
  have hv0 := hl2.2 0 _ u0 rfl rfl
  obtain ⟨b, tot, cnt, hφ, rfl⟩ : ∃ b tot cnt, φ[k]? = some (some (b, tot, cnt)) ∧ u0 = .pointer (some ⟨b, 0, none⟩) := by
    cases hv0 with
    | ptr h => exact ⟨_, _, _, h, rfl⟩
  have hkm : k < m.length := (List.getElem?_eq_some_iff.1 hmk).1
  have hkφ : k < φ.length := (List.getElem?_eq_some_iff.1 hφ).1
  obtain ⟨cs0, ee0, hd1, hd2, hd3, hd4⟩ := hm.cells k b tot cnt _ hφ hmk rfl
  have hex : cnt.ex = [] := hd3.1.1
  have hn0 : cnt.n = 0 := Nat.le_zero.1 hd4
  have hcnt : cnt = cN 0 := by
    obtain ⟨c1, c2⟩ := cnt
    simp only at hex hn0
    rw [hex, hn0]
  subst hcnt
  have htot : tot = 1 := by rw [← hd2, hd3.2.1]; rfl
  subst htot
  obtain ⟨uv, huv, hone, hvc⟩ := hd3.2.2 0 cc rfl
  have hbx := (Took.start N w φ m).push hm hmk rfl (o2 := .box (some (0, b)) [.junk]) rfl (fun b' tot' cnt' cs hφ' hcc M ψ' _ _ => by
    rw [hφ] at hφ'; cases hφ'
    refine ⟨⟨hcc.1.1, fun t b1 h1 => by cases h1; rfl⟩, hcc.2.1, fun j d hj => ?_⟩
    obtain ⟨v, g1, g2, _⟩ := hcc.2.2 j cc (by
      cases j with
      | zero => rfl
      | succ j => simp at hj)
    cases j with
    | zero => simp at hj; subst hj; exact ⟨v, g1, g2, .junk⟩
    | succ j => simp at hj)
  have hpl : (φ[k]?).bind id = some (b, 1, cN 0) := by rw [hφ]; rfl
  rw [hpl] at hbx
  simp only [List.nil_append] at hbx
  obtain ⟨z0, htk, hval⟩ := took_own hm hbx ho hvc
  simp only [List.cons_append, List.nil_append, List.length_cons, List.length_nil, Nat.zero_add] at htk hval
  obtain ⟨hmc0, hK⟩ := took_mrel hm htk
  generalize hψd : ([some (b, 1, cN 0), z0] : Phi) = ψ at htk hval hmc0 hK
  have hψ0 : ψ[0]? = some (some (b, 1, cN 0)) := by rw [← hψd]; rfl
  have hψ1 : ψ[1]? = some z0 := by rw [← hψd]; rfl
  have hmc : MRel (Nc N w φ m1 ψ) (baseC w ψ).B w ψ [.box (some (0, b)) [.sl 1 e.T.size 0 l.length], .row e.T l] := by
    have := mrel_retellH hmc0 (k := 0) (o' := .box (some (0, b)) [.sl 1 e.T.size 0 l.length]) rfl rfl rfl rfl fun b' tot' cnt' cs e' hp hh hcc => by
      rw [hψ0] at hp; cases hp
      have hhe : w.heap[b]? = some (.cells cs e' (0, 0)) := hh
      rw [hd1] at hhe
      injection hhe with hhe
      injection hhe with e1 e2
      subst e1
      refine ⟨hcc.1, hcc.2.1, fun j d hj => ?_⟩
      cases j with
      | zero => simp at hj; subst hj; exact ⟨uv, huv, hone, hval _ ψ hψ1⟩
      | succ j => simp at hj
    exact this
  have hArg : ArgsRel (Nof (Nc N w φ m1 ψ) ψ) w (VSs.enc e.A x) us := by
    have h1 := hl'.allF hfs
    have h2 : ArgsRel (Nof N φ) w fs us := h1
    have h3 := vss_dec e.A fs x us hx h2
    exact ⟨h3.1, fun j c v hj hv => (h3.2 j c v hj hv).mono fun p v hp hv => hK p v (.inl hp) hv⟩
  have hwf : VSs.wf e.A x := vss_wf e.A x us (vss_dec e.A fs x us hx (hl'.allF hfs))
  have hlenA : (VSs.enc e.A x).length = e.A.length := vss_len e.A x
  have hlen : (Value.pointer (some ⟨b, 0, none⟩) :: us).length ≤ fn.ntmps := by
    have := hArg.1
    simp only [List.length_cons]
    omega
  refine calls_of_wp hf hb ?_
  have hNc : ∀ b, ¬ (baseC w ψ).B b → Nc N w φ m1 ψ b := fun b hb => by
    by_cases hlt : b < w.heap.size
    · exact .inr (.inl (Classical.byContradiction fun hno => hb ⟨hlt, hno⟩))
    · exact .inr (.inr (by omega))
  have hS : SOk (Nof (Nc N w φ m1 ψ) ψ) w ψ (fun t => (frame0 fn.ntmps (Value.pointer (some ⟨b, 0, none⟩) :: us)).tmps.getD t undef) (startI b e.T l (VSs.enc e.A x)).s := by
    refine SOk.cons (fun t => ?_) ?_
    · rw [get_start]
      split
      · exact ⟨rfl, .junk⟩
      · rename_i ht
        split
        · rename_i v hv
          refine ⟨rfl, ?_⟩
          have hlt := (List.getElem?_eq_some_iff.1 hv).1
          have hu : us[t - 1]? = some (us[t - 1]'(by have := hArg.1; omega)) := List.getElem?_eq_getElem _
          have hat := frame0_at (n := fn.ntmps) (vs := Value.pointer (some ⟨b, 0, none⟩) :: us) (j := t) (v := us[t - 1]'(by have := hArg.1; omega)) (by
            obtain ⟨q, rfl⟩ : ∃ q, t = q + 1 := ⟨t - 1, by omega⟩
            simp)
          rw [hat]
          exact .f (hArg.2 _ v _ hv hu)
        · exact ⟨rfl, .junk⟩
    · rw [frame0_at (j := 0) (v := .pointer (some ⟨b, 0, none⟩)) rfl]
      exact .ptr hψ0
  refine evC_ok (N := Nc N w φ m1 ψ) (wb := baseC w ψ) (n := fn.ntmps) hmx hΓ hNc code c.body hcode hl (φ := ψ) (a := frame0 fn.ntmps (Value.pointer (some ⟨b, 0, none⟩) :: us)) (st := startI b e.T l (VSs.enc e.A x)) ⟨fun t => (hS t).1, fun t => (hS t).2, hmc, Bel.refl _ _, ?_, rfl⟩ (hev b l x hwf hpre) fun o a w' φ' st h hko => ?_
  · simp [frame0]; simp at hlen; omega
  have fin : kDoneI c e.T e.R (fun y => y = (e.g l x, e.h l x, b)) .norm st → a.defers = [] ∧ ∃ v, (results fn a.tmps).run P w' = .ok v w' ∧ ∃ v', Ending.returned v = .returned v' ∧
      Post N B φ w (m1.set k (.box pn [.sl m1.length e.T.size 0 (e.h l x).length]) ++ [.row e.T (e.h l x)]) (.f (outOf (VSs.enc e.R (e.g l x)))) v' w' := fun hr => by
    simp only [kDoneI] at hr
    split at hr
    rotate_left
    · exact hr.elim
    rename_i va hva
    split at hr
    rotate_left
    · exact hr.elim
    rename_i q hq
    split at hr
    rotate_left
    · exact hr.elim
    rename_i l' hbk
    split at hr
    rotate_left
    · exact hr.elim
    rename_i y hy
    obtain ⟨q, u, bq⟩ := q
    simp only [Prod.mk.injEq] at hr hbk
    obtain ⟨rfl, rfl, rfl⟩ := hr
    have hvr := h.slots 0
    rw [hva] at hvr
    simp only at hvr
    have hq2 : st.m[q]? = some (.box (some (0, bq)) [u]) ∧ ∃ b1 tot1 cnt1, φ'[q]? = some (some (b1, tot1, cnt1)) := by
      unfold boxAt at hq
      split at hq
      · split at hq
        · rename_i hmq
          simp only [Option.some.injEq, Prod.mk.injEq] at hq
          obtain ⟨rfl, rfl, rfl⟩ := hq
          refine ⟨hmq, ?_⟩
          generalize a.tmps.getD 0 undef = u at hvr
          cases hvr with
          | ptr hx => exact ⟨_, _, _, hx⟩
        · cases hq
      · cases hq
    obtain ⟨hmq, b1, tot1, cnt1, hφq⟩ := hq2
    obtain ⟨cs, ee, hc1, hc2, hc3, hc4⟩ := h.mem.cells q b1 tot1 cnt1 _ hφq hmq rfl
    obtain rfl : b1 = bq := hc3.1.2 0 bq rfl
    obtain ⟨uv', huv', hone', hvu⟩ := hc3.2.2 0 u rfl
    obtain ⟨A, c2, z, hbk1, hbk2⟩ := back_ok h.mem hT hbk hvu
    have hlm : m1.length = φ.length := by rw [htk.mlen, hm.len]
    have hput := took_put (z := z) (more := []) (oA := .box pn [.sl m1.length e.T.size 0 (e.h l x).length]) (o := .row e.T (e.h l x)) hm hB htk h.below hφ
      (fun d hd => by
        have hd' : d = b1 := by
          rcases hd with hd | hd
          · exact hd
          · simp at hd
        subst hd'
        exact h.mem.bd q _ d hφq (foot_self ..))
      ⟨cs, ee, hc1, by rw [hc3.2.1]; rfl, Nat.zero_le _, fun M => ⟨⟨rfl, hd3.1.2⟩, hc3.2.1, fun j d hj => by
        cases j with
        | zero =>
          simp at hj; subst hj
          refine ⟨uv', huv', hone', hbk1.vrel ?_⟩
          rw [List.getElem?_append_right (by simp [hlm])]
          simp [hlm]
        | succ j => simp at hj⟩⟩
      fun b2 tot2 cnt2 hz => by
        obtain ⟨k2, o2, y2, hvs, g1, g2, g2', cnt', g3⟩ := hbk2 b2 tot2 cnt2 hz
        obtain ⟨_, _, e3, cs3, ee3, e4, e5, e6⟩ := hbk1.at_ b2 tot2 cnt2 hz
        have hbd := h.mem.bd k2 _ b2 g3 (foot_self ..)
        have hne : k2 ≠ q := fun e => by
          subst e
          rw [hmq] at g1; cases g1
          exact g2' _ _ rfl
        refine ⟨hbd.1, hbd.2, by rw [e3], fun hft => ?_, cs3, ee3, e4, e5, by rw [e3]; exact Nat.le_refl _, e6⟩
        have hft' : b2 = b1 := by
          rcases hft with hft | hft
          · exact hft
          · simp at hft
        exact hne (h.mem.apart k2 q o2 _ _ _ b2 g1 hmq g2 rfl g3 hφq (foot_self ..) (.inl hft'))
    obtain ⟨xs, hxs, hd⟩ := obind hy
    obtain ⟨v, h1, h2⟩ := results_ok hNc h hres hxs
    exact ⟨h.defers, v, h1, v, rfl, _, hput.1, hput.2, .f (flat_any _ _ (flat_out hfl) (out_dec hd h2))⟩
  cases o with
  | norm => exact fin hko
  | ret => exact fin (by simp only [kDoneI] at hko ⊢; exact hko)
  | exit i => exact hko.elim

/-- The evaluation of such a function, closed to the elaborator's eye. -/
structure EvI (Γ : Env) (tbl : Tbl) (c : AFunc) (T : Sch) (A : List VS) (R : List VS) (b : Nat) (l : List T.den) (x : VSs.den A) (Q : VSs.den R × List T.den × Nat → Prop) : Prop where
  out : evI Γ (Lfp Γ tbl) c T A R b l x Q
theorem EvI.of {Γ : Env} {tbl : Tbl} {c : AFunc} {T : Sch} {A R : List VS} {b : Nat} {l : List T.den} {x : VSs.den A} {Q : VSs.den R × List T.den × Nat → Prop} {p : Prop} (h : evI Γ (Lfp Γ tbl) c T A R b l x Q = p) (hp : p) : EvI Γ tbl c T A R b l x Q := ⟨h.mpr hp⟩
theorem sound_evI (hmx : P.follows .mixedOrders = true) (hΓ : Sound P Γ) {tbl : Tbl} {e : EntI} {fn : Func} {c : AFunc} (hf : P.funcs[e.f]? = some fn) (hname : (fn.name == "runtime.NumGoroutine") = false) (hc : compF P ms fn = some c.strip) (hl : TblOk tbl c.body)
    (hn : e.A.length + 1 ≤ c.ntmps) (hT : flatS e.T = true) (hev : ∀ b l x, VSs.wf e.A x → e.pre l x = true → EvI Γ tbl c e.T e.A e.R b l x fun y => y = (e.g l x, e.h l x, b)) : SoundM P e.ent :=
  soundI hmx hΓ hf hname hc hl hn hT fun b l x z a => (hev b l x z a).out
end
end Go.AM
