/-
  The contracts of the functions with loops.
-/
import Derived.Test.YtjejfgehcncohaaAmE0
import Derived.Test.YtjejfgehcncohaaAmE1
import Derived.Test.YtjejfgehcncohaaAmE2
import Derived.Test.YtjejfgehcncohaaAmE3
namespace Go.Proofs.Ytjejfgehcncohaa
open Go Go.AM
set_option maxRecDepth 100000
theorem lpx_nat_pool (t : TranslationT) (p : PacketT) (Q : (List PacketT) × Unit → Prop) : ∀ (m : Nat) (a : Int) (q : PacketT) (acc : List PacketT), acc.length + m = 8 → Q (poolGo t m a q acc, ()) → L_nat_pool_0 t p acc.length a q acc Q
  | 0, a, q, acc, h, hq => by
    apply rd_nat_pool_0
    have e : decide ((acc.length : Int) < 8) = false := by simp; omega
    rw [e, Bool.and_false]
    have e2 : segL acc 0 acc.length = acc := by simp [segL]
    show Q (segL acc 0 acc.length, ())
    rw [e2]; exact hq
  | m + 1, a, q, acc, h, hq => by
    apply rd_nat_pool_0
    have e : decide ((acc.length : Int) < 8) = true := by simp; omega
    rw [e, Bool.and_true]
    refine cond_f (F := fun y => Q (y, ())) (fun _ hF => ?_) (fun _ hF => ?_) hq
    · refine vc_i (okApp_of rfl (by have : roomy = 1048576 := rfl; omega)) ?_
      have h2 := lpx_nat_pool t p Q m _ _ (acc ++ [_]) (by simp; omega) hF
      rw [List.length_append] at h2
      exact h2
    · have e2 : segL acc 0 acc.length = acc := by simp [segL]
      rw [e2]; exact hF
theorem ct_nat_pool (t : TranslationT) (p : PacketT) (hw : VSs.wf e_nat_pool.A (t, p, ())) (hp : e_nat_pool.pre (t, p, ()) = true) (Q : (List PacketT) × Unit → Prop) (hq : Q (e_nat_pool.g (t, p, ()))) : EvF G_nat_pool tb_nat_pool c_nat_pool (VSs.enc e_nat_pool.A (t, p, ())) (dq e_nat_pool.R Q) := by
  have _ := hw
  have _ := hp
  exact EvF.of (in_nat_pool t p Q) (lpx_nat_pool t p Q 8 _ p [] rfl hq)
theorem pok_law8_sane (_hw : VSs.wf e_law8_sane.A ()) : p_law8_sane = true := by kernel_rfl
end Go.Proofs.Ytjejfgehcncohaa
