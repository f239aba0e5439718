/-
  The compact code is right; a function's contract.
-/
import Derived.Test.YthjhlpbiljpccaaAmKeep
import Derived.LoopN
namespace Go.AM
open Go.RowKit

/-- Behind one round of a loop. -/
def kLoop (keep : List (Nat × KP)) (R : St → K → Prop) (k : K) : K
  | .norm, st => match keepS keep st with
    | some st' => R st' k
    | none => False
  | o, st => k o st

/-- The loops of a function, by number: what is kept at the head, the body. -/
abbrev Tbl := Nat → List (Nat × KP) × ACode
/-- The loops of this code are the table's. -/
def TblOk (tbl : Tbl) : ACode → Prop
  | .seq a b => TblOk tbl a ∧ TblOk tbl b
  | .seqF a b => TblOk tbl a ∧ TblOk tbl b
  | .seqP _ _ a b => TblOk tbl a ∧ TblOk tbl b
  | .cond _ t e => TblOk tbl t ∧ TblOk tbl e
  | .block _ b => TblOk tbl b
  | .loop n keep b => tbl n = (keep, b) ∧ TblOk tbl b
  | _ => True

def KLe (k k' : K) : Prop := ∀ o st, k o st → k' o st
def MonoL (Λ : Loops) : Prop := ∀ n st k k', KLe k k' → Λ n st k → Λ n st k'
theorem evC_mono {Γ : Env} {Λ Λ' : Loops} (hΛ : ∀ n st k, Λ n st k → Λ' n st k) (hm : MonoL Λ') : ∀ (c : ACode) {st : St} {k k' : K}, KLe k k' → evC Γ Λ c st k → evC Γ Λ' c st k'
  | .skip, st, k, k', hk, h => hk .norm st h
  | .region ops ps, st, k, k', hk, h => by
    simp only [evC] at h ⊢
    cases he : evOps Γ ops ⟨st, true⟩ with
    | none => rw [he] at h; exact h.elim
    | some r =>
      rw [he] at h
      simp only at h ⊢
      cases hp : pairsOk Γ r.st.s ops ps with
      | false => rw [hp] at h; exact h.elim
      | true =>
        rw [hp] at h
        simp only [cond_true] at h ⊢
        rcases Bool.eq_false_or_eq_true r.vc with hv | hv
        · rw [hv] at h ⊢; exact hk _ _ h
        · rw [hv] at h; exact h.elim
  | .bad, st, k, k', hk, h => h.elim
  | .seq a b, st, k, k', hk, h => by
    simp only [evC] at h ⊢
    refine evC_mono hΛ hm a (fun o s ho => ?_) h
    cases o with
    | norm => exact evC_mono hΛ hm b hk ho
    | exit i => exact hk _ _ ho
    | ret => exact hk _ _ ho
  | .seqF a b, st, k, k', hk, h => by
    simp only [evC] at h ⊢
    refine evC_mono hΛ hm a (fun o s ho => ?_) h
    cases o with
    | norm => exact evC_mono hΛ hm b hk ho
    | exit i => exact hk _ _ ho
    | ret => exact hk _ _ ho
  | .seqP fz kp a b, st, k, k', hk, h => by
    simp only [evC] at h ⊢
    refine evC_mono hΛ hm a (fun o s ho => ?_) h
    cases o with
    | norm =>
      simp only [kSeq, kP] at ho ⊢
      split at ho
      · exact evC_mono hΛ hm b hk ho
      · exact ho.elim
    | exit i => exact hk _ _ ho
    | ret => exact hk _ _ ho
  | .cond c t e, st, k, k', hk, h => by
    simp only [evC] at h ⊢
    split at h
    · rename_i b hb
      cases b with
      | true => exact evC_mono hΛ hm t hk h
      | false => exact evC_mono hΛ hm e hk h
    · exact ⟨fun hp => evC_mono hΛ hm t hk (h.1 hp), fun hq => evC_mono hΛ hm e hk (h.2 hq)⟩
    · exact h.elim
  | .block id b, st, k, k', hk, h => by
    simp only [evC] at h ⊢
    refine evC_mono hΛ hm b (fun o s ho => ?_) h
    cases o with
    | norm => exact hk _ _ ho
    | ret => exact hk _ _ ho
    | exit i =>
      simp only [kBlock] at ho ⊢
      rcases Bool.eq_false_or_eq_true (i == id) with hi | hi
      · rw [hi] at ho ⊢; exact hk _ _ ho
      · rw [hi] at ho ⊢; exact hk _ _ ho
  | .loop n keep b, st, k, k', hk, h => by
    simp only [evC] at h ⊢
    split at h
    · rename_i st' hst
      exact hm n st' k k' hk (hΛ n st' k h)
    · exact h.elim
  | .exit id, st, k, k', hk, h => hk _ _ h
  | .ret, st, k, k', hk, h => hk _ _ h

/-- THE LOOPS' LAW: the least one that a round bears out. -/
def Lfp (Γ : Env) (tbl : Tbl) : Loops := fun n st k =>
  ∀ R : Loops, MonoL R → (∀ n st k, evC Γ R (tbl n).2 st (kLoop (tbl n).1 (R n) k) → R n st k) → R n st k
theorem Lfp.mono (Γ : Env) (tbl : Tbl) : MonoL (Lfp Γ tbl) := fun _ _ _ _ hk h R hR hF => hR _ _ _ _ hk (h R hR hF)
/-- One round. -/
theorem Lfp.step {Γ : Env} {tbl : Tbl} {n : Nat} {st : St} {k : K} (h : evC Γ (Lfp Γ tbl) (tbl n).2 st (kLoop (tbl n).1 (Lfp Γ tbl n) k)) : Lfp Γ tbl n st k := by
  intro R hR hF
  refine hF n st k (evC_mono (fun n st k h => h R hR hF) hR _ (fun o s ho => ?_) h)
  cases o with
  | exit i => exact ho
  | ret => exact ho
  | norm =>
    simp only [kLoop] at ho ⊢
    split at ho
    · rename_i st' hst
      exact ho R hR hF
    · exact ho.elim

/-- Inside a loop. -/
def InL (P : Program) (c : Code) (Q : Exit → Act → World → Prop) (a : Act) (w : World) : Prop :=
  ∀ b k cs, ∃ e a' w', Q e a' w' ∧ Arrives P (lone (b.at a (.code c :: .inLoop c :: k)) cs w) b k cs e a' w'
theorem inL_step {P : Program} {c : Code} {Q : Exit → Act → World → Prop} {a : Act} {w : World} (h : c.wp P (Exit.then (InL P c Q) Q) a w) : InL P c Q a w := by
  intro b k cs
  obtain ⟨e, a₁, w₁, hq, harr⟩ := h b (.inLoop c :: k) cs
  cases e with
  | normal =>
    obtain ⟨e₂, a₂, w₂, hq₂, harr₂⟩ := hq b k cs
    exact ⟨e₂, a₂, w₂, hq₂, .of_steps (Steps.trans harr (.one step_inLoop)) harr₂⟩
  | exit id => exact ⟨_, a₁, w₁, hq, .pass (x := .inLoop c) rfl (fun _ _ => .inl (by simp)) harr⟩
  | goto l => exact ⟨_, a₁, w₁, hq, .pass (x := .inLoop c) rfl (fun _ _ => .inl (by simp)) harr⟩
  | ret => exact ⟨_, a₁, w₁, hq, .pass (x := .inLoop c) rfl (fun _ _ => .inl (by simp)) harr⟩
  | panic ch => exact ⟨_, a₁, w₁, hq, .pass (x := .inLoop c) rfl (fun _ _ => .inl (by simp)) harr⟩
  | outgrown => exact ⟨_, a₁, w₁, hq, .pass (x := .inLoop c) rfl (fun _ _ => .inl (by simp)) harr⟩
theorem wp_of_inL {P : Program} {c : Code} {Q : Exit → Act → World → Prop} {a : Act} {w : World} (h : InL P c Q a w) : (Code.loop c).wp P Q a w := fun b k cs =>
  let ⟨e, a', w', hq, harr⟩ := h b k cs; ⟨e, a', w', hq, .of_steps (.one step_loop) harr⟩

def exitOf : Out → Exit
  | .norm => .normal
  | .exit i => .exit i
  | .ret => .ret

section
variable {P : Program} {ms : List Nat} {Γ : Env} {N : Nat → Prop} {wb : Base} {n : Nat}

/-- The post that a continuation stands for. -/
def QOk (N : Nat → Prop) (wb : Base) (n : Nat) (k : K) (Q : Exit → Act → World → Prop) : Prop :=
  ∀ o a w φ st, RelC N wb n a w φ st → k o st → Q (exitOf o) a w

/-- What a loop's law stands for. -/
def LoopSound (P : Program) (ms : List Nat) (N : Nat → Prop) (wb : Base) (nt : Nat) (tbl : Tbl) : Loops := fun n st k =>
  ∀ Q, QOk N wb nt k Q → ∀ c, cC P ms nt c = some (strip (tbl n).2) → TblOk tbl (tbl n).2 → ∀ a w φ, RelC N wb nt a w φ st → InL P c Q a w

theorem get_frzS (m : Mem) (s : Slots) (t : Nat) : get (s.map fun e => (e.1, e.2.1, frzV m e.2.2)) t = ((get s t).1, frzV m (get s t).2) := by
  induction s with
  | nil => rfl
  | cons e r ih =>
    obtain ⟨u, G, v⟩ := e
    simp only [List.map_cons, get]
    cases u == t with
    | true => rfl
    | false => exact ih
theorem frzS_ok {a : Act} {w : World} {φ : Phi} {st : St} (hN : ∀ b, ¬ wb.B b → N b) (h : RelC N wb n a w φ st) : RelC N wb n a w [] (frzS st) := by
  have hM : ∀ b, Nof N φ b ∨ own φ b → Nof N [] b := fun b hb => by
    have hno : ¬ own [] b := fun ⟨k, _, hk, _⟩ => by simp at hk
    rcases hb with hb | ⟨k, x, hb, hf⟩
    · exact ⟨hb.1, hno⟩
    · exact ⟨hN b (h.mem.bd k x b hb hf).1, hno⟩
  refine ⟨fun t => ?_, fun t => ?_, ⟨rfl, fun k b tot cnt o h => by simp at h, fun k x b h => by simp at h, fun k j o p x y b h => by simp [frzS] at h, h.mem.gl.sub fun b hb => hM b (.inl hb)⟩, h.below, h.size, h.defers⟩
  · show (get (st.s.map _) t).1 = []
    rw [get_frzS]; exact h.free t
  · show VRel _ _ _ (get (st.s.map _) t).2 _
    rw [get_frzS]
    unfold frzV
    simp only
    split
    · rename_i v hv
      exact .f (frz_ok (fun b hb => hM b (hb.imp id ownL.own)) h.mem 8 _ _ _ hv (h.slots t))
    · exact .junk

theorem frzP_ok {a : Act} {w : World} {φ : Phi} {st st' : St} {fz kp : List Nat} (hN : ∀ b, ¬ wb.B b → N b) (h : RelC N wb n a w φ st) (hk : frzP fz kp st = some st') : ∃ φ', RelC N wb n a w φ' st' := by
  unfold frzP at hk
  simp only at hk
  obtain ⟨s, hs, h1⟩ := obind hk
  obtain ⟨m, hmm, h2⟩ := obind h1
  have hnd := reach_nodup (m := st.m) 200 (refsS (keepL st.s kp)) [] List.nodup_nil
  generalize reach st.m 200 (refsS (keepL st.s kp)) [] = ks at *
  cases hlv : m.all live with
  | false => rw [hlv] at h2; cases h2
  | true =>
  rw [hlv] at h2
  simp only [cond_true, Option.some.injEq] at h2
  subst h2
  obtain ⟨hml, hmg⟩ := renM_get hmm
  have hK : Keeps (fun b => Nof N φ b ∨ ownL φ (killL ks st.m) b) w (Nof N (renPhi ks φ)) w := fun p v hp hv => by
    refine ⟨?_, hv⟩
    rcases hp with hp | ⟨k2, o2, x2, g1, g2, g3, g4⟩
    · exact ⟨hp.1, fun ho => hp.2 (renPhi_own ho)⟩
    · refine ⟨hN _ (h.mem.bd k2 x2 _ g3 g4).1, fun ho => ?_⟩
      obtain ⟨j, x, hj, hf⟩ := ho
      obtain ⟨k, hk1, hk2⟩ := renPhi_at.1 hj
      obtain ⟨g5, g6⟩ := killL_get _ _ _ _ g1 g2
      have hjl : j < m.length := by rw [hml]; exact (List.getElem?_eq_some_iff.1 hk1).1
      have hmj : m[j]? = some m[j] := List.getElem?_eq_getElem hjl
      obtain ⟨k', o, e1, e2, e3⟩ := hmg j _ hmj
      rw [hk1] at e1; cases e1
      have hlo : live o = true := by
        rw [(renO_live e3).1]
        exact List.all_eq_true.1 hlv _ (List.getElem_mem hjl)
      have := h.mem.apart k k2 o o2 x x2 _ e2 g5 hlo g2 hk2 g3 hf g4
      subst this
      exact g6 (List.mem_of_getElem? hk1)
  have hmk := mrel_killL ks h.mem
  refine ⟨renPhi ks φ, fun t => ?_, fun t => ?_, renM_ok h.mem hnd hmm, h.below, h.size, h.defers⟩
  · show (get (frzL2 _ _ _ _) t).1 = []
    rcases frzL2_get st.s (killL ks st.m) s fz t with e | e
    · rw [e]; exact h.free t
    · rw [e, (renS_get hs t).1]
      rcases keepL_get st.s kp t with e | e
      · rw [e]; exact h.free t
      · rw [e]
  · show VRel _ _ _ (get (frzL2 _ _ _ _) t).2 _
    rcases frzL2_get st.s (killL ks st.m) s fz t with e | e
    · rw [e]
      unfold frzV
      simp only
      split
      · rename_i v hv
        exact .f ((frz_ok (M := fun b => Nof N φ b ∨ ownL φ (killL ks st.m) b) (fun _ h => h) hmk 8 _ _ _ hv (h.slots t)).mono hK)
      · exact .junk
    · rw [e]
      refine renV_ok (ks := ks) (φ := φ) (x := (get (keepL st.s kp) t).2) ?_ (renS_get hs t).2
      rcases keepL_get st.s kp t with e | e
      · rw [e]; exact h.slots t
      · rw [e]; exact .junk

theorem evC_ok' (hm : P.follows .mixedOrders = true) (hΓ : Sound P Γ) (hN : ∀ b, ¬ wb.B b → N b) {Λ : Loops} {tbl : Tbl} (hΛ : ∀ i st k, Λ i st k → LoopSound P ms N wb n tbl i st k) :
    ∀ (code : Code) (c : ACode), cC P ms n code = some (strip c) → TblOk tbl c → ∀ {a w φ st k Q}, RelC N wb n a w φ st → evC Γ Λ c st k → QOk N wb n k Q → code.wp P Q a w
  | .skip, c, hc, hl, a, w, φ, st, k, Q, h, he, hq => by
    cases c <;> simp only [cC, strip, Option.some.injEq, reduceCtorEq] at hc
    exact wp_skip (hq .norm a w φ st h he)
  | .region id ops draw, c, hc, hl, a, w, φ, st, k, Q, h, he, hq => by
    have hreg : (∃ as ps, strip c = .region as ps) ∨ strip c = .bad := by
      simp only [cC] at hc
      split at hc
      · rename_i as' _
        cases hr : regOk n as' with
        | false => rw [hr] at hc; exact .inr (Option.some.inj hc).symm
        | true =>
          rw [hr] at hc
          simp only [cond_true] at hc
          cases draw with
          | false => exact .inl ⟨_, _, (Option.some.inj hc).symm⟩
          | true =>
            simp only [cond_true] at hc
            cases ha : anyOk ops.toList as' (openP (aheads ops.toList []) as'.zipIdx) with
            | false => rw [ha] at hc; exact .inr (Option.some.inj hc).symm
            | true => rw [ha] at hc; exact .inl ⟨_, _, (Option.some.inj hc).symm⟩
      · exact .inr (Option.some.inj hc).symm
    rcases hreg with ⟨as, ps, hs⟩ | hs
    · cases c <;> simp only [strip, reduceCtorEq] at hs
      rename_i as' ps'
      cases hs
      simp only [evC] at he
      split at he
      · rename_i rn hrn
        cases hp : pairsOk Γ rn.st.s as ps with
        | false => rw [hp] at he; exact he.elim
        | true =>
          rw [hp] at he
          simp only [cond_true] at he
          rcases Bool.eq_false_or_eq_true rn.vc with hv | hv
          · rw [hv] at he
            exact region_ok hm hΓ hN hc h hrn hp hv fun a' w' φ' h' => hq .norm a' w' φ' _ h' he
          · rw [hv] at he; exact he.elim
      · exact he.elim
    · cases c <;> simp only [strip, reduceCtorEq] at hs
      exact he.elim
  | .seq x y, c, hc, hl, a, w, φ, st, k, Q, h, he, hq => by
    simp only [cC] at hc
    obtain ⟨x', hx, h1⟩ := obind hc
    obtain ⟨y', hy, h2⟩ := omap h1
    cases c <;> simp only [strip, reduceCtorEq] at h2
    · rename_i cx cy
      cases h2
      simp only [evC] at he
      refine wp_seq (evC_ok' hm hΓ hN hΛ x cx hx hl.1 h he fun o a' w' φ' st' h' hk => ?_)
      cases o with
      | norm => exact evC_ok' hm hΓ hN hΛ y cy hy hl.2 h' hk hq
      | exit i => exact hq (.exit i) a' w' φ' st' h' hk
      | ret => exact hq .ret a' w' φ' st' h' hk
    · rename_i cx cy
      cases h2
      simp only [evC] at he
      refine wp_seq (evC_ok' hm hΓ hN hΛ x cx hx hl.1 h he fun o a' w' φ' st' h' hk => ?_)
      cases o with
      | norm => exact evC_ok' hm hΓ hN hΛ y cy hy hl.2 (frzS_ok hN h') hk hq
      | exit i => exact hq (.exit i) a' w' φ' st' h' hk
      | ret => exact hq .ret a' w' φ' st' h' hk
    · rename_i fz kp cx cy
      cases h2
      simp only [evC] at he
      refine wp_seq (evC_ok' hm hΓ hN hΛ x cx hx hl.1 h he fun o a' w' φ' st' h' hk => ?_)
      cases o with
      | norm =>
        simp only [kSeq, kP] at hk
        split at hk
        · rename_i st2 hst2
          obtain ⟨φ2, h2⟩ := frzP_ok hN h' hst2
          exact evC_ok' hm hΓ hN hΛ y cy hy hl.2 h2 hk hq
        · exact hk.elim
      | exit i => exact hq (.exit i) a' w' φ' st' h' hk
      | ret => exact hq .ret a' w' φ' st' h' hk
  | .cond (.tmp t) x y, c, hc, hl, a, w, φ, st, k, Q, h, he, hq => by
    simp only [cC] at hc
    obtain ⟨x', hx, h1⟩ := obind hc
    obtain ⟨y', hy, h2⟩ := omap h1
    cases c <;> simp only [strip, reduceCtorEq] at h2
    rename_i ct cx cy
    cases h2
    simp only [evC] at he
    split at he
    · rename_i b hb
      have hs := h.slots t
      rw [hb] at hs
      have hev : a.eval (.tmp t) = .bool b := by
        show a.tmps.getD t undef = .bool b
        generalize a.tmps.getD t undef = v at hs
        cases hs with
        | f hf => cases hf; rfl
      cases b with
      | true => exact wp_cond_true hev (evC_ok' hm hΓ hN hΛ x cx hx hl.1 h he hq)
      | false => exact wp_cond_false hev (evC_ok' hm hΓ hN hΛ y cy hy hl.2 h he hq)
    · rename_i pt pf hb
      have hs := h.slots t
      rw [hb] at hs
      have hev : ∃ b, a.eval (.tmp t) = .bool b ∧ (b = true → pt) ∧ (b = false → pf) := by
        show ∃ b, a.tmps.getD t undef = .bool b ∧ _
        generalize a.tmps.getD t undef = v at hs
        cases hs with
        | unkB h1 h2 => exact ⟨_, rfl, h1, h2⟩
      obtain ⟨b, hev, h1, h2⟩ := hev
      cases b with
      | true => exact wp_cond_true hev (evC_ok' hm hΓ hN hΛ x cx hx hl.1 h (he.1 (h1 rfl)) hq)
      | false => exact wp_cond_false hev (evC_ok' hm hΓ hN hΛ y cy hy hl.2 h (he.2 (h2 rfl)) hq)
    · exact he.elim
  | .block id b, c, hc, hl, a, w, φ, st, k, Q, h, he, hq => by
    simp only [cC] at hc
    obtain ⟨b', hb, h2⟩ := omap hc
    cases c <;> simp only [strip, reduceCtorEq] at h2
    rename_i i cb
    cases h2
    simp only [evC] at he
    refine wp_block (evC_ok' hm hΓ hN hΛ b cb hb hl h he fun o a' w' φ' st' h' hk => ?_)
    cases o with
    | norm => exact hq .norm a' w' φ' st' h' hk
    | ret => exact hq .ret a' w' φ' st' h' hk
    | exit i =>
      simp only [kBlock] at hk
      show Exit.inBlock id Q (.exit i) a' w'
      rcases Bool.eq_false_or_eq_true (i == id) with hi | hi
      · rw [hi] at hk
        have : i = id := by simpa using hi
        subst this
        have := hq .norm a' w' φ' st' h' hk
        simpa [Exit.inBlock, exitOf] using this
      · rw [hi] at hk
        have hne : ¬ i = id := by simpa using hi
        have := hq (.exit i) a' w' φ' st' h' hk
        simpa [Exit.inBlock, exitOf, hne] using this
  | .loop b, c, hc, hl, a, w, φ, st, k, Q, h, he, hq => by
    simp only [cC] at hc
    obtain ⟨b', hb, h2⟩ := omap hc
    cases c <;> simp only [strip, reduceCtorEq] at h2
    rename_i i keep cb
    cases h2
    simp only [evC] at he
    split at he
    · rename_i st' hst
      obtain ⟨φ', h'⟩ := keepS_ok h hst
      have ht : tbl i = (keep, cb) := hl.1
      exact wp_of_inL (hΛ i st' k he Q hq b (by rw [ht]; exact hb) (by rw [ht]; exact hl.2) a w φ' h')
    · exact he.elim
  | .exit id, c, hc, hl, a, w, φ, st, k, Q, h, he, hq => by
    cases c <;> simp only [cC, strip, Option.some.injEq, reduceCtorEq] at hc
    cases hc
    exact wp_exit (hq (.exit _) a w φ st h he)
  | .ret, c, hc, hl, a, w, φ, st, k, Q, h, he, hq => by
    cases c <;> simp only [cC, strip, Option.some.injEq, reduceCtorEq] at hc
    exact wp_ret (hq .ret a w φ st h he)
  | .cond (.const v) x y, c, hc, hl, a, w, φ, st, k, Q, h, he, hq => by simp [cC] at hc
  | .cond (.func v) x y, c, hc, hl, a, w, φ, st, k, Q, h, he, hq => by simp [cC] at hc

theorem lfp_sound (hm : P.follows .mixedOrders = true) (hΓ : Sound P Γ) (hN : ∀ b, ¬ wb.B b → N b) {tbl : Tbl} : ∀ i st k, Lfp Γ tbl i st k → LoopSound P ms N wb n tbl i st k := fun i st k h => by
  refine h (LoopSound P ms N wb n tbl) (fun j s k k' hk hs Q hq => hs Q fun o a w φ st hr hko => hq o a w φ st hr (hk o st hko)) fun j s k hs Q hq c hc ht a w φ hr => ?_
  refine inL_step (evC_ok' hm hΓ hN (fun _ _ _ h => h) c _ hc ht hr hs fun o a2 w2 φ2 st2 h2 hk => ?_)
  cases o with
  | exit x => exact hq (.exit x) a2 w2 φ2 st2 h2 hk
  | ret => exact hq .ret a2 w2 φ2 st2 h2 hk
  | norm =>
    simp only [kLoop] at hk
    split at hk
    · rename_i st3 hst3
      obtain ⟨φ3, h3⟩ := keepS_ok h2 hst3
      exact hk Q hq c hc ht a2 w2 φ3 h3
    · exact hk.elim

theorem evC_ok (hm : P.follows .mixedOrders = true) (hΓ : Sound P Γ) (hN : ∀ b, ¬ wb.B b → N b) {tbl : Tbl} (code : Code) (c : ACode) (hc : cC P ms n code = some (strip c)) (ht : TblOk tbl c) {a : Act} {w : World} {φ : Phi} {st : St} {k : K} {Q : Exit → Act → World → Prop}
    (h : RelC N wb n a w φ st) (he : evC Γ (Lfp Γ tbl) c st k) (hq : QOk N wb n k Q) : code.wp P Q a w := evC_ok' hm hΓ hN (lfp_sound hm hΓ hN) code c hc ht h he hq
end
end Go.AM
