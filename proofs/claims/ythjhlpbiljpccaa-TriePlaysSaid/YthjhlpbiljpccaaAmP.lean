/-
  The contracts of the functions with loops.
-/
import Derived.Test.YthjhlpbiljpccaaAmE0
import Derived.Test.YthjhlpbiljpccaaAmE1
import Derived.Test.YthjhlpbiljpccaaAmE2
import Derived.Test.YthjhlpbiljpccaaAmE3
namespace Go.Proofs.Ythjhlpbiljpccaa
open Go Go.AM
set_option maxRecDepth 100000
theorem ct_trie_collect (k : Nat) (pn : Nat × List Nat) (tr : List Nd) (sz : Int) (l : List TableEntryT) (n : Nat) (p : PrefixT) (ha : AWf (tr, sz)) (hw : VXs.wf e_trie_collect.A (l, n, p, ())) (hp : pk_trie_collect (k + 1) tr sz l n p = true) (Q : (List TableEntryT) × (List Nd × Int) × (Nat × List Nat) → Prop) (hq : Q ((ek_trie_collect (k + 1)).g (tr, sz) (l, n, p, ()), (tr, sz), pn)) : EvX (G_trie_collect k) tb_trie_collect c_trie_collect e_trie_collect.A pn (tr, sz) (l, n, p, ()) e_trie_collect.R Q := by
  have _ := hw
  obtain ⟨h0, h1, h2, h3⟩ := of_decide_eq_true (guardL_of hp)
  have hq : Q (gk_trie_collect (k + 1) tr sz l n p, (tr, sz), pn) := hq
  refine EvX.of (in_trie_collect k pn tr sz l n p Q) ?_
  have ph := phalves (p := p) h0 h1
  have one : ∀ {l2 : List TableEntryT} {i : Nat} {q : PrefixT}, q.2.1 = p.2.1 + 1 → p.2.1 < 32 → (gk0_collect k tr l2 i q).length ≤ 1048576 → pk_trie_collect k tr sz l2 i q = true := fun {l2 i q} e hlt hl => guardL_pos ha.1 (decide_eq_true ⟨by omega, by omega, by omega, hl⟩)
  have ap : ∀ {x : TableEntryT}, (l ++ [x]).length ≤ 1048576 → okApp l.length l.length 1 = true := fun {x} h => okApp_of rfl (by simp at h; unfold roomy; omega)
  have up : ∀ {l2 : List TableEntryT} {i : Nat} {q : PrefixT}, (gk0_collect k tr l2 i q).length ≤ 1048576 → l2.length ≤ 1048576 := fun h => Nat.le_trans (gk_mono k ..) h
  have t1 : ∀ (x : TableEntryT), (l ++ [x]).take (l.length + 1) = l ++ [x] := fun x => List.take_of_length_le (by simp)
  have t2 : ∀ (x : TableEntryT), decide (l.length + 1 = (l ++ [x]).length) = true := fun x => by simp
  have t3 : ∀ (l : List TableEntryT), l.take l.length = l := fun l => List.take_of_length_le (Nat.le_refl _)
  have t4 : ∀ (n : Nat), decide (n = n) = true := fun n => by simp
  rw [gk_eq ha.1] at hq
  simp only [gk0_collect] at h3 hq
  simp only [gk_eq ha.1]
  rw [ph]
  cases hh : (List.getD tr n Nd.z).has <;> cases hv : (!(g_addr_Halves p).2.2.1) <;> cases hc0 : (Option.isSome (List.getD tr n Nd.z).c0) <;> cases hc1 : (Option.isSome (List.getD tr n Nd.z).c1) <;> simp only [hh, hv, hc0, hc1, cond_true, cond_false, t1, t2, t3, t4, Bool.and_true, Bool.true_and, decide_true] at h3 hq ⊢
  all_goals (try obtain ⟨q1, q2, q3, q4⟩ := halves_len hv)
  all_goals first
    | exact hq
    | exact vc_i (ap h3) hq
    | exact vc_i (one (by rw [q4]) q2 h3) hq
    | exact vc_i (one (by rw [q3]) q2 h3) hq
    | exact vc_i (one (by rw [q3]) q2 (up h3)) (vc_i (one (by rw [q4]) q2 h3) hq)
    | exact vc_i (ap (up h3)) (vc_i (one (by rw [q4]) q2 h3) hq)
    | exact vc_i (ap (up h3)) (vc_i (one (by rw [q3]) q2 h3) hq)
    | exact vc_i (ap (up (up h3))) (vc_i (one (by rw [q3]) q2 (up h3)) (vc_i (one (by rw [q4]) q2 h3) hq))
end Go.Proofs.Ythjhlpbiljpccaa
