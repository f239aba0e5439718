/-
  The codes and their equations.
-/
import Derived.Test.YtabhhkjjpmcodaaAmG
import Derived.Test.YtabhhkjjpmcodaaProg
import Derived.KernelRfl
namespace Go.Proofs.Ytabhhkjjpmcodaa
open Go Go.AM
set_option maxRecDepth 100000
/-! netverify/netverifyref4.Mask -/
def G_r4_Mask : Env := ⟨[], []⟩
def b_r4_Mask_0 : ACode := (.seq (.seq (.region [(oI 5 (.mov (.t 4))), (oI 6 (.bin .lss (.t 5) (.c (.f (.int .i64 32)))))] []) (.cond 6 .skip (.exit 0))) (.seq (.block 1 (.seq (.region [(oI 9 (.mov (.t 4))), (oI 10 (.mov (.t 0))), (oI 11 (.bin .lss (.t 9) (.t 10)))] []) (.cond 11 (.region [(oI 12 (.mov (.t 3))), (oI 13 (.mov (.t 4))), (oI 14 (.bin .sub (.c (.f (.int .i64 31))) (.t 13))), (oI 15 (.conv .u64 (.t 14))), (oI 16 (.bin .shl (.c (.f (.int .u32 1))) (.t 15))), (oI 17 (.bin .or (.t 12) (.t 16))), (oI 3 (.mov (.t 17)))] []) .skip))) (.region [(oI 7 (.mov (.t 4))), (oI 8 (.bin .add (.t 7) (.c (.f (.int .i64 1))))), (oI 4 (.mov (.t 8)))] [])))
def r_r4_Mask_0 : ACode := (.seq (.region [(oI 18 (.mov (.t 3))), (oI 2 (.mov (.t 18)))] []) .ret)
def c_r4_Mask : AFunc := AFunc.mk 19 1 [(.t 2)] (.seq (.region [(oI 2 (.mov (.c (.f (.int .u32 0)))))] []) (.seq (.region [(oI 3 (.mov (.c (.f (.int .u32 0)))))] []) (.seq (.seq (.region [(oI 4 (.mov (.c (.f (.int .i64 0)))))] []) (.block 0 (.loop 0 [(0, .no), (3, .no), (4, .no)] b_r4_Mask_0))) r_r4_Mask_0)))
def tb_r4_Mask : Tbl
  | 0 => ([(0, .no), (3, .no), (4, .no)], b_r4_Mask_0)
  | _ => ([], .skip)
theorem ok_r4_Mask : compF Try.prog [] Try.f30 = some c_r4_Mask.strip := by kernel_rfl
theorem tk_r4_Mask : TblOk tb_r4_Mask c_r4_Mask.body := ⟨trivial, ⟨trivial, ⟨⟨trivial, ⟨rfl, ⟨⟨trivial, ⟨trivial, trivial⟩⟩, ⟨⟨trivial, ⟨trivial, trivial⟩⟩, trivial⟩⟩⟩⟩, ⟨trivial, trivial⟩⟩⟩⟩
def k_r4_Mask_0 (Q : Int × Unit → Prop) : K := (kBlock 0 (kSeq (evC G_r4_Mask (Lfp G_r4_Mask tb_r4_Mask) r_r4_Mask_0) (kDone c_r4_Mask (dq e_r4_Mask.R Q))))
def s_r4_Mask_0 (n : Int) (v0 : Int) (v1 : Int) : St := ⟨[(0, [], .f (.int .i64 n)), (3, [], .f (.int .u32 v0)), (4, [], .f (.int .i64 v1))], []⟩
def L_r4_Mask_0 (n : Int) (v0 : Int) (v1 : Int) (Q : Int × Unit → Prop) : Prop := Lfp G_r4_Mask tb_r4_Mask 0 (s_r4_Mask_0 n v0 v1) (k_r4_Mask_0 Q)
theorem in_r4_Mask (n : Int) (Q : Int × Unit → Prop) : evF G_r4_Mask (Lfp G_r4_Mask tb_r4_Mask) c_r4_Mask (VSs.enc e_r4_Mask.A (n, ())) (dq e_r4_Mask.R Q) = (
  L_r4_Mask_0 n 0 0 Q) := by kernel_rfl
theorem rd_r4_Mask_0 (n : Int) (v0 : Int) (v1 : Int) (Q : Int × Unit → Prop) (h :
  cond (decide (v1 < 32))
  (cond (decide (v1 < n))
    (cond (decide (0 ≤ (IntKind.wrap .u64 (IntKind.wrap .i64 (31 - v1)))))
      (L_r4_Mask_0 n (ior .u32 v0 (ishl .u32 1 (IntKind.wrap .u64 (IntKind.wrap .i64 (31 - v1))))) (IntKind.wrap .i64 (v1 + 1)) Q)
      False)
    (L_r4_Mask_0 n v0 (IntKind.wrap .i64 (v1 + 1)) Q))
  (Q (v0, ()))) : L_r4_Mask_0 n v0 v1 Q := Lfp.step (Eq.mpr (by kernel_rfl) h)
theorem lp_r4_Mask_0 (n : Int) (v00 : Int) (Q : Int × Unit → Prop) (hw : VSs.wf e_r4_Mask.A (n, ()))  : (fun y : Int => Q (y, ())) (S_r4_Mask_0 n v00) → L_r4_Mask_0 n v00 0 Q := by
  have _ := hw
  let FF := (fun y : Int => Q (y, ()))
  refine upS_loop (F := FF) (k := .i64) (n := 32) (I := fun _ _ => True) (L := (fun (c0 : Int) (s0 : Int) => L_r4_Mask_0 n s0 c0 Q)) (wrap_i64n (by decide)) (fun c0 hc0 s0 hI hF => rd_r4_Mask_0 n s0 (c0 : Int) Q (cond_ge (n := 32) rfl hc0 (id hF))) (fun c0 _ hc0 next0 hn0 s0 hI hF => rd_r4_Mask_0 n s0 (c0 : Int) Q (cond_lt (n := 32) rfl hc0 ((cond_f (F := FF) (fun h0 => (vc_f (F := FF) (by first | ((repeat' (first | rfl | exact nn_d64 _ | exact okIx_nat hc0 | refine and_t ?_ ?_ | refine or_l ?_)); done) | (simp [-List.getD_eq_getElem?_getD, okIx_nat hc0, nn_u64, nn_u32]; done) | (simp [-List.getD_eq_getElem?_getD, okIx_nat hc0, nn_u64, nn_u32, h0]; done) | (have hry : roomy = 1048576 := rfl; simp [-List.getD_eq_getElem?_getD, okIx, okSlc, okApp, len_slcL, len_segL] at h0 ⊢ <;> omega)) /- 1 -/ (hn0 _ trivial))) (fun h0 => (hn0 _ trivial))) hF))) v00 trivial
theorem ct_r4_Mask (n : Int) (hw : VSs.wf e_r4_Mask.A (n, ())) (Q : Int × Unit → Prop) (hq : Q (e_r4_Mask.g (n, ()))) : EvF G_r4_Mask tb_r4_Mask c_r4_Mask (VSs.enc e_r4_Mask.A (n, ())) (dq e_r4_Mask.R Q) := by
  have _ := hw
  let FF := (fun y : Int => Q (y, ()))
  refine EvF.of (in_r4_Mask n Q) ?_
  exact (lp_r4_Mask_0 n _ Q hw) hq
/-! netverify/netverifyref4.Valid -/
def G_r4_Valid : Env := ⟨[e_r4_Mask], []⟩
def c_r4_Valid : AFunc := AFunc.mk 20 1 [(.t 2)] (.seq (.region [(oI 1 (.box (.t 0))), (oI 2 (.mov (.c (.f (.bool false)))))] []) (.seq (.region [(oI 3 (.fld 1 (.t 1))), (oI 4 (.load false 1 (.t 3))), (oI 5 (.bin .geq (.t 4) (.c (.f (.int .i64 0))))), (oI 6 (.mov (.t 5))), (.mk (some 7) (some (6, true)) (.fld 1 (.t 1))), (.mk (some 8) (some (6, true)) (.load false 1 (.t 7))), (.mk (some 9) (some (6, true)) (.bin .leq (.t 8) (.c (.f (.int .i64 32))))), (oI 10 (.pick 6 (.t 9) (.c (.f (.bool false))))), (oI 11 (.mov (.t 10))), (.mk (some 12) (some (11, true)) (.fld 0 (.t 1))), (.mk (some 13) (some (11, true)) (.load false 1 (.t 12))), (.mk (some 14) (some (11, true)) (.fld 1 (.t 1))), (.mk (some 15) (some (11, true)) (.load false 1 (.t 14))), (.mk (some 16) (some (11, true)) (.call 30 [(.t 15)])), (.mk (some 17) (some (11, true)) (.bin .andNot (.t 13) (.t 16))), (.mk (some 18) (some (11, true)) (.bin .eql (.t 17) (.c (.f (.int .u32 0))))), (oI 19 (.pick 11 (.t 18) (.c (.f (.bool false))))), (oI 2 (.mov (.t 19)))] []) .ret))
def tb_r4_Valid : Tbl := fun _ => ([], .skip)
theorem ok_r4_Valid : compF Try.prog [] Try.f9 = some c_r4_Valid.strip := by kernel_rfl
theorem tk_r4_Valid : TblOk tb_r4_Valid c_r4_Valid.body := ⟨trivial, ⟨trivial, trivial⟩⟩
theorem in_r4_Valid (p : PrefixT) (Q : Bool × Unit → Prop) : evF G_r4_Valid (Lfp G_r4_Valid tb_r4_Valid) c_r4_Valid (VSs.enc e_r4_Valid.A (p, ())) (dq e_r4_Valid.R Q) = (
  Q ((((decide (p.2.1 ≥ 0)) && (decide (p.2.1 ≤ 32))) && ((iandnot .u32 p.1 (g_r4_Mask p.2.1)) == 0)), ())) := by kernel_rfl
theorem au_r4_Valid (p : PrefixT) (Q : Bool × Unit → Prop) : evF G_r4_Valid (Lfp G_r4_Valid tb_r4_Valid) c_r4_Valid (VSs.enc e_r4_Valid.A (p, ())) (dq e_r4_Valid.R Q) = Q (e_r4_Valid.g (p, ())) := (in_r4_Valid p Q).trans rfl
/-! netverify/netverifyref8.ValidPrefixRule -/
def G_r8_ValidPrefixRule : Env := ⟨[e_r4_Valid], []⟩
def c_r8_ValidPrefixRule : AFunc := AFunc.mk 26 1 [(.t 2)] (.seq (.region [(oI 1 (.box (.t 0))), (oI 2 (.mov (.c (.f (.bool false)))))] []) (.seq (.region [(oI 3 (.fld 1 (.t 1))), (oI 4 (.load true 2 (.t 3))), (oI 5 (.call 9 [(.t 4)])), (oI 6 (.mov (.t 5))), (.mk (some 7) (some (6, true)) (.fld 1 (.t 1))), (.mk (some 8) (some (6, true)) (.fld 1 (.t 7))), (.mk (some 9) (some (6, true)) (.load false 1 (.t 8))), (.mk (some 10) (some (6, true)) (.fld 3 (.t 1))), (.mk (some 11) (some (6, true)) (.load false 1 (.t 10))), (.mk (some 12) (some (6, true)) (.bin .leq (.t 9) (.t 11))), (oI 13 (.pick 6 (.t 12) (.c (.f (.bool false))))), (oI 14 (.mov (.t 13))), (.mk (some 15) (some (14, true)) (.fld 3 (.t 1))), (.mk (some 16) (some (14, true)) (.load false 1 (.t 15))), (.mk (some 17) (some (14, true)) (.fld 4 (.t 1))), (.mk (some 18) (some (14, true)) (.load false 1 (.t 17))), (.mk (some 19) (some (14, true)) (.bin .leq (.t 16) (.t 18))), (oI 20 (.pick 14 (.t 19) (.c (.f (.bool false))))), (oI 21 (.mov (.t 20))), (.mk (some 22) (some (21, true)) (.fld 4 (.t 1))), (.mk (some 23) (some (21, true)) (.load false 1 (.t 22))), (.mk (some 24) (some (21, true)) (.bin .leq (.t 23) (.c (.f (.int .i64 32))))), (oI 25 (.pick 21 (.t 24) (.c (.f (.bool false))))), (oI 2 (.mov (.t 25)))] []) .ret))
def tb_r8_ValidPrefixRule : Tbl := fun _ => ([], .skip)
theorem ok_r8_ValidPrefixRule : compF Try.prog [] Try.f10 = some c_r8_ValidPrefixRule.strip := by kernel_rfl
theorem tk_r8_ValidPrefixRule : TblOk tb_r8_ValidPrefixRule c_r8_ValidPrefixRule.body := ⟨trivial, ⟨trivial, trivial⟩⟩
theorem in_r8_ValidPrefixRule (x0 : PrefixRuleT) (Q : Bool × Unit → Prop) : evF G_r8_ValidPrefixRule (Lfp G_r8_ValidPrefixRule tb_r8_ValidPrefixRule) c_r8_ValidPrefixRule (VSs.enc e_r8_ValidPrefixRule.A (x0, ())) (dq e_r8_ValidPrefixRule.R Q) = (
  Q (((((g_r4_Valid (x0.2.1, x0.2.2.1, ())) && (decide (x0.2.2.1 ≤ x0.2.2.2.1))) && (decide (x0.2.2.2.1 ≤ x0.2.2.2.2.1))) && (decide (x0.2.2.2.2.1 ≤ 32))), ())) := by kernel_rfl
theorem au_r8_ValidPrefixRule (x0 : PrefixRuleT) (Q : Bool × Unit → Prop) : evF G_r8_ValidPrefixRule (Lfp G_r8_ValidPrefixRule tb_r8_ValidPrefixRule) c_r8_ValidPrefixRule (VSs.enc e_r8_ValidPrefixRule.A (x0, ())) (dq e_r8_ValidPrefixRule.R Q) = Q (e_r8_ValidPrefixRule.g (x0, ())) := (in_r8_ValidPrefixRule x0 Q).trans rfl
/-! netverify/addr.clamp -/
def G_addr_clamp : Env := ⟨[], []⟩
def c_addr_clamp : AFunc := AFunc.mk 6 1 [(.t 2)] (.seq (.region [(oI 2 (.mov (.c (.f (.int .i64 0)))))] []) (.seq (.region [(oI 3 (.mov (.t 0))), (oI 4 (.mm false (.t 3) (.c (.f (.int .i64 32))))), (oI 5 (.mm true (.c (.f (.int .i64 0))) (.t 4))), (oI 2 (.mov (.t 5)))] []) .ret))
def tb_addr_clamp : Tbl := fun _ => ([], .skip)
theorem ok_addr_clamp : compF Try.prog [] Try.f69 = some c_addr_clamp.strip := by kernel_rfl
theorem tk_addr_clamp : TblOk tb_addr_clamp c_addr_clamp.body := ⟨trivial, ⟨trivial, trivial⟩⟩
theorem in_addr_clamp (n : Int) (Q : Int × Unit → Prop) : evF G_addr_clamp (Lfp G_addr_clamp tb_addr_clamp) c_addr_clamp (VSs.enc e_addr_clamp.A (n, ())) (dq e_addr_clamp.R Q) = (
  Q ((cond (decide ((cond (decide (32 < n)) 32 n) > 0)) (cond (decide (32 < n)) 32 n) 0), ())) := by kernel_rfl
theorem au_addr_clamp (n : Int) (Q : Int × Unit → Prop) : evF G_addr_clamp (Lfp G_addr_clamp tb_addr_clamp) c_addr_clamp (VSs.enc e_addr_clamp.A (n, ())) (dq e_addr_clamp.R Q) = Q (e_addr_clamp.g (n, ())) := (in_addr_clamp n Q).trans rfl
/-! netverify/addr.Mask -/
def G_addr_Mask : Env := ⟨[e_addr_clamp], []⟩
def c_addr_Mask : AFunc := AFunc.mk 7 1 [(.t 2)] (.seq (.region [(oI 2 (.mov (.c (.f (.int .u32 0)))))] []) (.seq (.region [(oI 3 (.mov (.t 0))), (oI 4 (.call 69 [(.t 3)])), (oI 5 (.bin .sub (.c (.f (.int .i64 32))) (.t 4))), (oI 6 (.bin .shl (.c (.f (.int .u32 4294967295))) (.t 5))), (oI 2 (.mov (.t 6)))] []) .ret))
def tb_addr_Mask : Tbl := fun _ => ([], .skip)
theorem ok_addr_Mask : compF Try.prog [] Try.f59 = some c_addr_Mask.strip := by kernel_rfl
theorem tk_addr_Mask : TblOk tb_addr_Mask c_addr_Mask.body := ⟨trivial, ⟨trivial, trivial⟩⟩
theorem in_addr_Mask (n : Int) (Q : Int × Unit → Prop) : evF G_addr_Mask (Lfp G_addr_Mask tb_addr_Mask) c_addr_Mask (VSs.enc e_addr_Mask.A (n, ())) (dq e_addr_Mask.R Q) = (
  cond (decide (0 ≤ (IntKind.wrap .i64 (32 - (g_addr_clamp n)))))
  (Q ((ishl .u32 4294967295 (IntKind.wrap .i64 (32 - (g_addr_clamp n)))), ()))
  False) := by kernel_rfl
theorem ct_addr_Mask (n : Int) (hw : VSs.wf e_addr_Mask.A (n, ())) (Q : Int × Unit → Prop) (hq : Q (e_addr_Mask.g (n, ()))) : EvF G_addr_Mask tb_addr_Mask c_addr_Mask (VSs.enc e_addr_Mask.A (n, ())) (dq e_addr_Mask.R Q) := by
  have _ := hw
  let FF := (fun y : Int => Q (y, ()))
  refine EvF.of (in_addr_Mask n Q) ?_
  exact (vc_f (F := FF) (by have h := clamp_range n; rw [w64 (by omega) (by omega)]; simp [-List.getD_eq_getElem?_getD]; omega) id) hq
/-! netverify/addr.Contains -/
def G_addr_Contains : Env := ⟨[e_addr_Mask], []⟩
def c_addr_Contains : AFunc := AFunc.mk 13 2 [(.t 4)] (.seq (.region [(oI 2 (.box (.t 0))), (oI 4 (.mov (.c (.f (.bool false)))))] []) (.seq (.region [(oI 5 (.mov (.t 1))), (oI 6 (.fld 1 (.t 2))), (oI 7 (.load false 1 (.t 6))), (oI 8 (.call 59 [(.t 7)])), (oI 9 (.bin .and (.t 5) (.t 8))), (oI 10 (.fld 0 (.t 2))), (oI 11 (.load false 1 (.t 10))), (oI 12 (.bin .eql (.t 9) (.t 11))), (oI 4 (.mov (.t 12)))] []) .ret))
def tb_addr_Contains : Tbl := fun _ => ([], .skip)
theorem ok_addr_Contains : compF Try.prog [] Try.f41 = some c_addr_Contains.strip := by kernel_rfl
theorem tk_addr_Contains : TblOk tb_addr_Contains c_addr_Contains.body := ⟨trivial, ⟨trivial, trivial⟩⟩
theorem in_addr_Contains (p : PrefixT) (a : Int) (Q : Bool × Unit → Prop) : evF G_addr_Contains (Lfp G_addr_Contains tb_addr_Contains) c_addr_Contains (VSs.enc e_addr_Contains.A (p, a, ())) (dq e_addr_Contains.R Q) = (
  Q (((iand .u32 a (g_addr_Mask p.2.1)) == p.1), ())) := by kernel_rfl
theorem au_addr_Contains (p : PrefixT) (a : Int) (Q : Bool × Unit → Prop) : evF G_addr_Contains (Lfp G_addr_Contains tb_addr_Contains) c_addr_Contains (VSs.enc e_addr_Contains.A (p, a, ())) (dq e_addr_Contains.R Q) = Q (e_addr_Contains.g (p, a, ())) := (in_addr_Contains p a Q).trans rfl
/-! netverify/addr.Covers -/
def G_addr_Covers : Env := ⟨[e_addr_Contains], []⟩
def c_addr_Covers : AFunc := AFunc.mk 16 2 [(.t 4)] (.seq (.region [(oI 2 (.box (.t 0))), (oI 3 (.box (.t 1))), (oI 4 (.mov (.c (.f (.bool false)))))] []) (.seq (.region [(oI 5 (.fld 1 (.t 2))), (oI 6 (.load false 1 (.t 5))), (oI 7 (.fld 1 (.t 3))), (oI 8 (.load false 1 (.t 7))), (oI 9 (.bin .leq (.t 6) (.t 8))), (oI 10 (.mov (.t 9))), (.mk (some 11) (some (10, true)) (.load true 2 (.t 2))), (.mk (some 12) (some (10, true)) (.fld 0 (.t 3))), (.mk (some 13) (some (10, true)) (.load false 1 (.t 12))), (.mk (some 14) (some (10, true)) (.call 41 [(.t 11), (.t 13)])), (oI 15 (.pick 10 (.t 14) (.c (.f (.bool false))))), (oI 4 (.mov (.t 15)))] []) .ret))
def tb_addr_Covers : Tbl := fun _ => ([], .skip)
theorem ok_addr_Covers : compF Try.prog [] Try.f31 = some c_addr_Covers.strip := by kernel_rfl
theorem tk_addr_Covers : TblOk tb_addr_Covers c_addr_Covers.body := ⟨trivial, ⟨trivial, trivial⟩⟩
theorem in_addr_Covers (p : PrefixT) (q : PrefixT) (Q : Bool × Unit → Prop) : evF G_addr_Covers (Lfp G_addr_Covers tb_addr_Covers) c_addr_Covers (VSs.enc e_addr_Covers.A (p, q, ())) (dq e_addr_Covers.R Q) = (
  Q (((decide (p.2.1 ≤ q.2.1)) && (g_addr_Contains p q.1)), ())) := by kernel_rfl
theorem au_addr_Covers (p : PrefixT) (q : PrefixT) (Q : Bool × Unit → Prop) : evF G_addr_Covers (Lfp G_addr_Covers tb_addr_Covers) c_addr_Covers (VSs.enc e_addr_Covers.A (p, q, ())) (dq e_addr_Covers.R Q) = Q (e_addr_Covers.g (p, q, ())) := (in_addr_Covers p q Q).trans rfl
/-! netverify/policy.Matches -/
def G_policy_Matches : Env := ⟨[e_addr_Covers], []⟩
def c_policy_Matches : AFunc := AFunc.mk 23 2 [(.t 4)] (.seq (.region [(oI 2 (.box (.t 0))), (oI 3 (.box (.t 1))), (oI 4 (.mov (.c (.f (.bool false)))))] []) (.seq (.region [(oI 5 (.fld 1 (.t 2))), (oI 6 (.load true 2 (.t 5))), (oI 7 (.load true 2 (.t 3))), (oI 8 (.call 31 [(.t 6), (.t 7)])), (oI 9 (.mov (.t 8))), (.mk (some 10) (some (9, true)) (.fld 3 (.t 2))), (.mk (some 11) (some (9, true)) (.load false 1 (.t 10))), (.mk (some 12) (some (9, true)) (.fld 1 (.t 3))), (.mk (some 13) (some (9, true)) (.load false 1 (.t 12))), (.mk (some 14) (some (9, true)) (.bin .leq (.t 11) (.t 13))), (oI 15 (.pick 9 (.t 14) (.c (.f (.bool false))))), (oI 16 (.mov (.t 15))), (.mk (some 17) (some (16, true)) (.fld 1 (.t 3))), (.mk (some 18) (some (16, true)) (.load false 1 (.t 17))), (.mk (some 19) (some (16, true)) (.fld 4 (.t 2))), (.mk (some 20) (some (16, true)) (.load false 1 (.t 19))), (.mk (some 21) (some (16, true)) (.bin .leq (.t 18) (.t 20))), (oI 22 (.pick 16 (.t 21) (.c (.f (.bool false))))), (oI 4 (.mov (.t 22)))] []) .ret))
def tb_policy_Matches : Tbl := fun _ => ([], .skip)
theorem ok_policy_Matches : compF Try.prog [] Try.f11 = some c_policy_Matches.strip := by kernel_rfl
theorem tk_policy_Matches : TblOk tb_policy_Matches c_policy_Matches.body := ⟨trivial, ⟨trivial, trivial⟩⟩
theorem in_policy_Matches (x0 : PrefixRuleT) (p : PrefixT) (Q : Bool × Unit → Prop) : evF G_policy_Matches (Lfp G_policy_Matches tb_policy_Matches) c_policy_Matches (VSs.enc e_policy_Matches.A (x0, p, ())) (dq e_policy_Matches.R Q) = (
  Q ((((g_addr_Covers (x0.2.1, x0.2.2.1, ()) p) && (decide (x0.2.2.2.1 ≤ p.2.1))) && (decide (p.2.1 ≤ x0.2.2.2.2.1))), ())) := by kernel_rfl
theorem au_policy_Matches (x0 : PrefixRuleT) (p : PrefixT) (Q : Bool × Unit → Prop) : evF G_policy_Matches (Lfp G_policy_Matches tb_policy_Matches) c_policy_Matches (VSs.enc e_policy_Matches.A (x0, p, ())) (dq e_policy_Matches.R Q) = Q (e_policy_Matches.g (x0, p, ())) := (in_policy_Matches x0 p Q).trans rfl
/-! netverify/policy.First -/
def G_policy_First : Env := ⟨[e_policy_Matches], []⟩
def b_policy_First_0 : ACode := (.seq (.region [(oI 11 (.bin .lss (.t 10) (.t 9)))] []) (.seq (.cond 11 .skip (.exit 0)) (.seq (.block 1 (.seq (.region [(oI 12 (.mov (.t 10))), (oI 13 (.ixa 5 (.t 8) (.t 10))), (oI 14 (.load true 5 (.t 13))), (oI 6 (.alloc [(.f (.bool false)), (.f (.int .u32 0)), (.f (.int .i64 0)), (.f (.int .i64 0)), (.f (.int .i64 0))])), (oI 5 (.mov (.t 12))), (.mk none none (.store 5 (.t 6) (.t 14)))] []) (.seq (.region [(oI 15 (.load true 5 (.t 6))), (oI 16 (.load true 2 (.t 3))), (oI 17 (.call 11 [(.t 15), (.t 16)]))] []) (.cond 17 (.seq (.region [(oI 18 (.mov (.t 5))), (oI 4 (.mov (.t 18)))] []) .ret) .skip)))) (.region [(oI 19 (.bin .add (.t 10) (.c (.f (.int .i64 1))))), (oI 10 (.mov (.t 19)))] []))))
def r_policy_First_0 : ACode := (.seq (.region [(oI 4 (.mov (.c (.f (.int .i64 (-1))))))] []) .ret)
def c_policy_First : AFunc := AFunc.mk 20 2 [(.t 4)] (.seq (.region [(oI 2 (.box (.t 0))), (oI 3 (.box (.t 1))), (oI 4 (.mov (.c (.f (.int .i64 0)))))] []) (.seq (.seq (.region [(oI 7 (.fld 1 (.t 2))), (oI 8 (.load false 1 (.t 7))), (oI 9 (.len (.t 8))), (oI 10 (.mov (.c (.f (.int .i64 0)))))] []) (.block 0 (.loop 0 [(3, .no), (8, .no), (9, .no), (10, .no)] b_policy_First_0))) r_policy_First_0))
def tb_policy_First : Tbl
  | 0 => ([(3, .no), (8, .no), (9, .no), (10, .no)], b_policy_First_0)
  | _ => ([], .skip)
theorem ok_policy_First : compF Try.prog [] Try.f13 = some c_policy_First.strip := by kernel_rfl
theorem tk_policy_First : TblOk tb_policy_First c_policy_First.body := ⟨trivial, ⟨⟨trivial, ⟨rfl, ⟨trivial, ⟨⟨trivial, trivial⟩, ⟨⟨trivial, ⟨trivial, ⟨⟨trivial, trivial⟩, trivial⟩⟩⟩, trivial⟩⟩⟩⟩⟩, ⟨trivial, trivial⟩⟩⟩
def k_policy_First_0 (Q : Int × Unit → Prop) : K := (kBlock 0 (kSeq (evC G_policy_First (Lfp G_policy_First tb_policy_First) r_policy_First_0) (kDone c_policy_First (dq e_policy_First.R Q))))
def s_policy_First_0 (l : PrefixListT) (p : PrefixT) (v0 : Int) : St := ⟨[(3, [], .ptr 0 0), (8, [], .f (.fs PrefixRuleS l.2.1)), (9, [], .f (.int .i64 (l.2.1.length : Int))), (10, [], .f (.int .i64 v0))], [.box none [.f (.int .u32 p.1), .f (.int .i64 p.2.1)]]⟩
def L_policy_First_0 (l : PrefixListT) (p : PrefixT) (v0 : Int) (Q : Int × Unit → Prop) : Prop := Lfp G_policy_First tb_policy_First 0 (s_policy_First_0 l p v0) (k_policy_First_0 Q)
theorem in_policy_First (l : PrefixListT) (p : PrefixT) (Q : Int × Unit → Prop) : evF G_policy_First (Lfp G_policy_First tb_policy_First) c_policy_First (VSs.enc e_policy_First.A (l, p, ())) (dq e_policy_First.R Q) = (
  L_policy_First_0 l p 0 Q) := by kernel_rfl
theorem rd_policy_First_0 (l : PrefixListT) (p : PrefixT) (v0 : Int) (Q : Int × Unit → Prop) (h :
  cond (decide (v0 < (l.2.1.length : Int)))
  (cond (okIx v0 (l.2.1.length : Int))
    (cond (g_policy_Matches (List.getD l.2.1 (Int.toNat v0) PrefixRuleD) p)
      (Q (v0, ()))
      (L_policy_First_0 l p (IntKind.wrap .i64 (v0 + 1)) Q))
    False)
  (Q ((-1), ()))) : L_policy_First_0 l p v0 Q := Lfp.step (Eq.mpr (by kernel_rfl) h)
theorem lp_policy_First_0 (l : PrefixListT) (p : PrefixT) (Q : Int × Unit → Prop) (hw : VSs.wf e_policy_First.A (l, p, ()))  : (fun y : Int => Q (y, ())) (S_policy_First_0 l p) → L_policy_First_0 l p 0 Q := by
  have _ := hw
  let FF := (fun y : Int => Q (y, ()))
  refine upV_loop (F := FF) (k := .i64) (n := l.2.1.length) (L := (fun c0 : Int => L_policy_First_0 l p c0 Q)) (wrap_i64n (show _ ≤ _ from (((hw.1).2).1).1)) (fun c0 hc0 hF => rd_policy_First_0 l p (c0 : Int) Q (cond_ge (n := l.2.1.length) rfl hc0 (id hF))) (fun c0 _ hc0 next0 hn0 hF => rd_policy_First_0 l p (c0 : Int) Q (cond_lt (n := l.2.1.length) rfl hc0 ((vc_f (F := FF) (by first | ((repeat' (first | rfl | exact nn_d64 _ | exact okIx_nat hc0 | refine and_t ?_ ?_ | refine or_l ?_)); done) | (simp [-List.getD_eq_getElem?_getD, okIx_nat hc0, nn_u64, nn_u32]; done) | (have hry : roomy = 1048576 := rfl; simp [-List.getD_eq_getElem?_getD, okIx, okSlc, okApp, len_slcL, len_segL] <;> omega)) /- 1 -/ (cond_f (F := FF) (fun h0 => id) (fun h0 => hn0))) hF)))
theorem ct_policy_First (l : PrefixListT) (p : PrefixT) (hw : VSs.wf e_policy_First.A (l, p, ())) (Q : Int × Unit → Prop) (hq : Q (e_policy_First.g (l, p, ()))) : EvF G_policy_First tb_policy_First c_policy_First (VSs.enc e_policy_First.A (l, p, ())) (dq e_policy_First.R Q) := by
  have _ := hw
  let FF := (fun y : Int => Q (y, ()))
  refine EvF.of (in_policy_First l p Q) ?_
  exact (lp_policy_First_0 l p Q hw) hq
/-! netverify/model.PrefixList$1 -/
def G_model_PrefixList_1 : Env := ⟨[], []⟩
def c_model_PrefixList_1 : AFunc := AFunc.mk 8 1 [(.t 3)] (.seq (.region [(oI 2 (.box (.t 0))), (oI 3 (.mov (.c (.f (.bool false)))))] []) (.seq (.region [(oI 4 (.fld 0 (.t 2))), (oI 5 (.load false 1 (.t 4))), (oI 6 (.load false 1 (.t 1))), (oI 7 (.bin .eql (.t 5) (.t 6))), (oI 3 (.mov (.t 7)))] []) .ret))
def tb_model_PrefixList_1 : Tbl := fun _ => ([], .skip)
theorem ok_model_PrefixList_1 : compF Try.prog [] Try.f56 = some c_model_PrefixList_1.strip := by kernel_rfl
theorem tk_model_PrefixList_1 : TblOk tb_model_PrefixList_1 c_model_PrefixList_1.body := ⟨trivial, ⟨trivial, trivial⟩⟩
theorem in_model_PrefixList_1 (x0 : PrefixListT) (c1 : StrT) (Q : Bool × Unit → Prop) : evF G_model_PrefixList_1 (Lfp G_model_PrefixList_1 tb_model_PrefixList_1) c_model_PrefixList_1 (VSs.enc e_model_PrefixList_1.A (x0, c1, ())) (dq e_model_PrefixList_1.R Q) = (
  Q ((x0.1 == c1.1), ())) := by kernel_rfl
theorem au_model_PrefixList_1 (x0 : PrefixListT) (c1 : StrT) (Q : Bool × Unit → Prop) : evF G_model_PrefixList_1 (Lfp G_model_PrefixList_1 tb_model_PrefixList_1) c_model_PrefixList_1 (VSs.enc e_model_PrefixList_1.A (x0, c1, ())) (dq e_model_PrefixList_1.R Q) = Q (e_model_PrefixList_1.g (x0, c1, ())) := (in_model_PrefixList_1 x0 c1 Q).trans rfl
/-! slices.IndexFunc(()netverify/api.PrefixList,netverify/api.PrefixList) -/
def G_slices_IndexFunc_PrefixList : Env := ⟨[e_model_PrefixList_1], []⟩
def b_slices_IndexFunc_PrefixList_0 : ACode := (.seq (.region [(oI 9 (.bin .lss (.t 8) (.t 7)))] []) (.seq (.cond 9 .skip (.exit 0)) (.seq (.block 1 (.seq (.region [(oI 10 (.mov (.t 8))), (oI 5 (.mov (.t 10)))] []) (.seq (.region [(oI 11 (.mov (.t 1))), (oI 12 (.mov (.t 0))), (oI 13 (.mov (.t 5))), (oI 14 (.ixa 2 (.t 12) (.t 13))), (oI 15 (.load true 2 (.t 14))), (oI 16 (.callv (.t 11) [(.t 15)]))] []) (.cond 16 (.seq (.region [(oI 17 (.mov (.t 5))), (oI 4 (.mov (.t 17)))] []) .ret) .skip)))) (.region [(oI 18 (.bin .add (.t 8) (.c (.f (.int .i64 1))))), (oI 8 (.mov (.t 18)))] []))))
def r_slices_IndexFunc_PrefixList_0 : ACode := (.seq (.region [(oI 4 (.mov (.c (.f (.int .i64 (-1))))))] []) .ret)
def c_slices_IndexFunc_PrefixList : AFunc := AFunc.mk 19 2 [(.t 4)] (.seq (.region [(oI 4 (.mov (.c (.f (.int .i64 0)))))] []) (.seq (.seq (.region [(oI 6 (.mov (.t 0))), (oI 7 (.len (.t 6))), (oI 8 (.mov (.c (.f (.int .i64 0)))))] []) (.block 0 (.loop 0 [(0, .no), (1, .no), (7, .no), (8, .no)] b_slices_IndexFunc_PrefixList_0))) r_slices_IndexFunc_PrefixList_0))
def tb_slices_IndexFunc_PrefixList : Tbl
  | 0 => ([(0, .no), (1, .no), (7, .no), (8, .no)], b_slices_IndexFunc_PrefixList_0)
  | _ => ([], .skip)
theorem ok_slices_IndexFunc_PrefixList : compF Try.prog [] Try.f55 = some c_slices_IndexFunc_PrefixList.strip := by kernel_rfl
theorem tk_slices_IndexFunc_PrefixList : TblOk tb_slices_IndexFunc_PrefixList c_slices_IndexFunc_PrefixList.body := ⟨trivial, ⟨⟨trivial, ⟨rfl, ⟨trivial, ⟨⟨trivial, trivial⟩, ⟨⟨trivial, ⟨trivial, ⟨⟨trivial, trivial⟩, trivial⟩⟩⟩, trivial⟩⟩⟩⟩⟩, ⟨trivial, trivial⟩⟩⟩
def k_slices_IndexFunc_PrefixList_0 (Q : Int × Unit → Prop) : K := (kBlock 0 (kSeq (evC G_slices_IndexFunc_PrefixList (Lfp G_slices_IndexFunc_PrefixList tb_slices_IndexFunc_PrefixList) r_slices_IndexFunc_PrefixList_0) (kDone c_slices_IndexFunc_PrefixList (dq e_slices_IndexFunc_PrefixList.R Q))))
def s_slices_IndexFunc_PrefixList_0 (s : List PrefixListT) (f_0 : List UInt8) (v0 : Int) : St := ⟨[(0, [], .f (.fs PrefixListS s)), (1, [], .f (.fn 56 [.fpt [.str f_0] 0])), (7, [], .f (.int .i64 (s.length : Int))), (8, [], .f (.int .i64 v0))], []⟩
def L_slices_IndexFunc_PrefixList_0 (s : List PrefixListT) (f_0 : List UInt8) (v0 : Int) (Q : Int × Unit → Prop) : Prop := Lfp G_slices_IndexFunc_PrefixList tb_slices_IndexFunc_PrefixList 0 (s_slices_IndexFunc_PrefixList_0 s f_0 v0) (k_slices_IndexFunc_PrefixList_0 Q)
theorem in_slices_IndexFunc_PrefixList (s : List PrefixListT) (f_0 : List UInt8) (Q : Int × Unit → Prop) : evF G_slices_IndexFunc_PrefixList (Lfp G_slices_IndexFunc_PrefixList tb_slices_IndexFunc_PrefixList) c_slices_IndexFunc_PrefixList (VSs.enc e_slices_IndexFunc_PrefixList.A (s, ((f_0, ()), ()), ())) (dq e_slices_IndexFunc_PrefixList.R Q) = (
  L_slices_IndexFunc_PrefixList_0 s f_0 0 Q) := by kernel_rfl
theorem rd_slices_IndexFunc_PrefixList_0 (s : List PrefixListT) (f_0 : List UInt8) (v0 : Int) (Q : Int × Unit → Prop) (h :
  cond (decide (v0 < (s.length : Int)))
  (cond ((okIx v0 (s.length : Int)) && true)
    (cond (g_model_PrefixList_1 (List.getD s (Int.toNat v0) PrefixListD) (f_0, ()))
      (Q (v0, ()))
      (L_slices_IndexFunc_PrefixList_0 s f_0 (IntKind.wrap .i64 (v0 + 1)) Q))
    False)
  (Q ((-1), ()))) : L_slices_IndexFunc_PrefixList_0 s f_0 v0 Q := Lfp.step (Eq.mpr (by kernel_rfl) h)
theorem lp_slices_IndexFunc_PrefixList_0 (s : List PrefixListT) (f_0 : List UInt8) (Q : Int × Unit → Prop) (hw : VSs.wf e_slices_IndexFunc_PrefixList.A (s, ((f_0, ()), ()), ()))  : (fun y : Int => Q (y, ())) (S_slices_IndexFunc_PrefixList_0 s f_0) → L_slices_IndexFunc_PrefixList_0 s f_0 0 Q := by
  have _ := hw
  let FF := (fun y : Int => Q (y, ()))
  refine upV_loop (F := FF) (k := .i64) (n := s.length) (L := (fun c0 : Int => L_slices_IndexFunc_PrefixList_0 s f_0 c0 Q)) (wrap_i64n (show _ ≤ _ from (hw.1).1)) (fun c0 hc0 hF => rd_slices_IndexFunc_PrefixList_0 s f_0 (c0 : Int) Q (cond_ge (n := s.length) rfl hc0 (id hF))) (fun c0 _ hc0 next0 hn0 hF => rd_slices_IndexFunc_PrefixList_0 s f_0 (c0 : Int) Q (cond_lt (n := s.length) rfl hc0 ((vc_f (F := FF) (by first | ((repeat' (first | rfl | exact nn_d64 _ | exact okIx_nat hc0 | refine and_t ?_ ?_ | refine or_l ?_)); done) | (simp [-List.getD_eq_getElem?_getD, okIx_nat hc0, nn_u64, nn_u32]; done) | (have hry : roomy = 1048576 := rfl; simp [-List.getD_eq_getElem?_getD, okIx, okSlc, okApp, len_slcL, len_segL] <;> omega)) /- 1 -/ (cond_f (F := FF) (fun h0 => id) (fun h0 => hn0))) hF)))
theorem ct_slices_IndexFunc_PrefixList (s : List PrefixListT) (f_0 : List UInt8) (hw : VSs.wf e_slices_IndexFunc_PrefixList.A (s, ((f_0, ()), ()), ())) (Q : Int × Unit → Prop) (hq : Q (e_slices_IndexFunc_PrefixList.g (s, ((f_0, ()), ()), ()))) : EvF G_slices_IndexFunc_PrefixList tb_slices_IndexFunc_PrefixList c_slices_IndexFunc_PrefixList (VSs.enc e_slices_IndexFunc_PrefixList.A (s, ((f_0, ()), ()), ())) (dq e_slices_IndexFunc_PrefixList.R Q) := by
  have _ := hw
  let FF := (fun y : Int => Q (y, ()))
  refine EvF.of (in_slices_IndexFunc_PrefixList s f_0 Q) ?_
  exact (lp_slices_IndexFunc_PrefixList_0 s f_0 Q hw) hq
end Go.Proofs.Ytabhhkjjpmcodaa
