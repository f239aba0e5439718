/-
  The law of the plays, in plain Lean: the tree and the reference's list hold the same entries behind each call.
-/
import Derived.Test.YthjhlpbiljpccaaAmTh2
import Derived.KernelRfl
namespace Go.Proofs.Ythjhlpbiljpccaa
open Go Go.AM
set_option maxRecDepth 100000

theorem sane_true : g_law4_sane = true := by decide +kernel
theorem upS_all {S : Type} {body : Nat → S → (S → Bool) → Bool} {rest : S → Bool} {n : Nat} {I : Nat → S → Prop} (hs : ∀ c, c < n → ∀ s, I c s → ∃ s', I (c + 1) s' ∧ ∀ next, body c s next = next s') (hr : ∀ s, I n s → rest s = true) {s : S} (h : I 0 s) : upS body rest (n - 0) 0 s = true := by
  obtain ⟨s', h1, h2⟩ := upS_inv (rest := rest) hs n 0 (by omega) s h
  exact h2.trans (hr s' h1)
theorem upV_true {f : Nat → Bool} : ∀ (m s : Nat), (∀ c, f c = false) → upV (fun c next => cond (f c) false next) true m s = true
  | 0, _, _ => rfl
  | m + 1, s, h => by unfold upV; rw [h s]; exact upV_true m (s + 1) h
theorem ents_self (l : List TableEntryT) : g_keep_Entries l l = true := by
  unfold g_keep_Entries S_keep_Entries_0
  simp only [bne_self_eq_false, cond_false]
  exact upV_true _ _ fun c => by simp
theorem pfxs_self (l : List PrefixT) : g_keep_Prefixes l l = true := by
  unfold g_keep_Prefixes S_keep_Prefixes_0
  simp only [bne_self_eq_false, cond_false]
  exact upV_true _ _ fun c => by simp
theorem segP_self (L : List PrefixT) : segL L 0 L.length = L := by simp [segL]
theorem plays_true (l : List ActT) (hw : Cell.wf (.sl ActS) l) (hl : l.length ≤ 60) : S_law4_TriePlays_0 l g_trie_New.1 g_trie_New.2 [] = true := by
  unfold S_law4_TriePlays_0
  refine upS_all (I := PlayI) (fun c hc s hI => ?_) (fun s hI => ?_) play_e
  · obtain ⟨u1, u2⟩ := u32_acts hw hc
    generalize List.getD l c ActD = x at u1 u2 ⊢
    have hc60 : c ≤ 60 := by omega
    have hsz := play_sz hI
    have up := hI.up
    cases h3 : x.1 == 3 with
    | true =>
      obtain ⟨d1, d2⟩ := play_del hI hc60 (p := (x.2.1, x.2.2.1, ())) u1
      have e := play_sz d2
      simp only at e
      exact ⟨_, d2, fun next => by simp only [cond_true, d1, e, beq_self_eq_true, Bool.not_true, cond_false, bne_self_eq_false]⟩
    | false =>
    cases h4 : x.1 == 4 with
    | true =>
      have e := play_get hI (p := (x.2.1, x.2.2.1, ())) u1
      exact ⟨_, up, fun next => by simp only [cond_true, e, seg_self, hsz, beq_self_eq_true, Bool.not_true, Bool.or_false, cond_false, bne_self_eq_false]⟩
    | false =>
    cases h5 : x.1 == 5 with
    | true =>
      have e := play_look hI (a := x.2.2.2.2.1) u2
      exact ⟨_, up, fun next => by simp only [cond_true, e, seg_self, hsz, beq_self_eq_true, Bool.and_self, Bool.not_true, Bool.or_false, cond_false, bne_self_eq_false]⟩
    | false =>
    cases h6 : x.1 == 6 with
    | true =>
      have e := play_cov hI (p := (x.2.1, x.2.2.1, ())) u1
      exact ⟨_, up, fun next => by simp only [cond_true, e, hsz, seg_self, segP_self, pfxs_self, Bool.not_true, cond_false, bne_self_eq_false]⟩
    | false =>
      obtain ⟨d1, d2⟩ := play_ins hI hc60 (p := (x.2.1, x.2.2.1, ())) u1 x.2.2.2.1
      have e := play_sz d2
      simp only at e
      exact ⟨_, d2, fun next => by simp only [cond_false, d1, e, beq_self_eq_true, Bool.not_true, bne_self_eq_false]⟩
  · have e := play_ent hI
    rw [e, seg_self, ents_self, sane_true]; rfl

theorem true_law4_TriePlays (l : List ActT) (hw : VSs.wf e_law4_TriePlays.A (l, ())) : g_law4_TriePlays l = true := by
  unfold g_law4_TriePlays
  cases h : decide ((l.length : Int) > 60) with
  | true => rfl
  | false =>
    have h := of_decide_eq_false h
    exact plays_true l hw.1 (by omega)
end Go.Proofs.Ythjhlpbiljpccaa
