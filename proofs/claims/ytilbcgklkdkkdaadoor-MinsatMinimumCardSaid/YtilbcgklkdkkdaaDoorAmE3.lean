/-
  The codes and their equations.
-/
import Derived.Test.YtilbcgklkdkkdaaDoorAmG
import Derived.Test.YtilbcgklkdkkdaaDoorProg
import Derived.KernelRfl
namespace Go.Proofs.YtilbcgklkdkkdaaDoor
open Go Go.AM
set_option maxRecDepth 100000
/-! netverify/netverifyref42.Satisfies -/
def G_r42_Satisfies : Env := ⟨[e_r42_Satisfied], []⟩
def b_r42_Satisfies_0 : ACode := (.seq (.seq (.region [(oI 6 (.mov (.t 5))), (oI 7 (.mov (.t 1))), (oI 8 (.len (.t 7))), (oI 9 (.bin .lss (.t 6) (.t 8)))] []) (.cond 9 .skip (.exit 0))) (.seq (.block 1 (.seq (.region [(oI 12 (.mov (.t 0))), (oI 13 (.mov (.t 1))), (oI 14 (.mov (.t 5))), (oI 15 (.ixa 2 (.t 13) (.t 14))), (oI 16 (.load true 2 (.t 15))), (oI 17 (.call 30 [(.t 12), (.t 16)])), (oI 18 (.un .not (.t 17)))] []) (.cond 18 (.seq (.region [(oI 4 (.mov (.c (.f (.bool false)))))] []) .ret) .skip))) (.region [(oI 10 (.mov (.t 5))), (oI 11 (.bin .add (.t 10) (.c (.f (.int .i64 1))))), (oI 5 (.mov (.t 11)))] [])))
def r_r42_Satisfies_0 : ACode := (.seq (.region [(oI 4 (.mov (.c (.f (.bool true)))))] []) .ret)
def c_r42_Satisfies : AFunc := AFunc.mk 19 2 [(.t 4)] (.seq (.region [(oI 4 (.mov (.c (.f (.bool false)))))] []) (.seq (.seq (.region [(oI 5 (.mov (.c (.f (.int .i64 0)))))] []) (.block 0 (.loop 0 [(0, .no), (1, .no), (5, .no)] b_r42_Satisfies_0))) r_r42_Satisfies_0))
def tb_r42_Satisfies : Tbl
  | 0 => ([(0, .no), (1, .no), (5, .no)], b_r42_Satisfies_0)
  | _ => ([], .skip)
theorem ok_r42_Satisfies : compF Tryd.prog [26, 27] Tryd.f17 = some c_r42_Satisfies.strip := by kernel_rfl
theorem tk_r42_Satisfies : TblOk tb_r42_Satisfies c_r42_Satisfies.body := ⟨trivial, ⟨⟨trivial, ⟨rfl, ⟨⟨trivial, ⟨trivial, trivial⟩⟩, ⟨⟨trivial, ⟨⟨trivial, trivial⟩, trivial⟩⟩, trivial⟩⟩⟩⟩, ⟨trivial, trivial⟩⟩⟩
def k_r42_Satisfies_0 (Q : Bool × Unit → Prop) : K := (kBlock 0 (kSeq (evC G_r42_Satisfies (Lfp G_r42_Satisfies tb_r42_Satisfies) r_r42_Satisfies_0) (kDone c_r42_Satisfies (dq e_r42_Satisfies.R Q))))
def s_r42_Satisfies_0 (set : List Ti64T) (cs : List ConstraintT) (v0 : Int) : St := ⟨[(0, [], .f (.fs Ti64S set)), (1, [], .f (.fs ConstraintS cs)), (5, [], .f (.int .i64 v0))], []⟩
def L_r42_Satisfies_0 (set : List Ti64T) (cs : List ConstraintT) (v0 : Int) (Q : Bool × Unit → Prop) : Prop := Lfp G_r42_Satisfies tb_r42_Satisfies 0 (s_r42_Satisfies_0 set cs v0) (k_r42_Satisfies_0 Q)
theorem in_r42_Satisfies (set : List Ti64T) (cs : List ConstraintT) (Q : Bool × Unit → Prop) : evF G_r42_Satisfies (Lfp G_r42_Satisfies tb_r42_Satisfies) c_r42_Satisfies (VSs.enc e_r42_Satisfies.A (set, cs, ())) (dq e_r42_Satisfies.R Q) = (
  L_r42_Satisfies_0 set cs 0 Q) := by kernel_rfl
theorem rd_r42_Satisfies_0 (set : List Ti64T) (cs : List ConstraintT) (v0 : Int) (Q : Bool × Unit → Prop) (h :
  cond (decide (v0 < (cs.length : Int)))
  (cond ((okIx v0 (cs.length : Int)) && true)
    (cond (!(g_r42_Satisfied set (List.getD cs (Int.toNat v0) ConstraintD)))
      (Q (false, ()))
      (L_r42_Satisfies_0 set cs (IntKind.wrap .i64 (v0 + 1)) Q))
    False)
  (Q (true, ()))) : L_r42_Satisfies_0 set cs v0 Q := Lfp.step (Eq.mpr (by kernel_rfl) h)
theorem lp_r42_Satisfies_0 (set : List Ti64T) (cs : List ConstraintT) (Q : Bool × Unit → Prop) (hw : VSs.wf e_r42_Satisfies.A (set, cs, ()))  : (fun y : Bool => Q (y, ())) (S_r42_Satisfies_0 set cs) → L_r42_Satisfies_0 set cs 0 Q := by
  have _ := hw
  let FF := (fun y : Bool => Q (y, ()))
  refine upV_loop (F := FF) (k := .i64) (n := cs.length) (L := (fun c0 : Int => L_r42_Satisfies_0 set cs c0 Q)) (wrap_i64n (show _ ≤ _ from (hw.2.1).1)) (fun c0 hc0 hF => rd_r42_Satisfies_0 set cs (c0 : Int) Q (cond_ge (n := cs.length) rfl hc0 (id hF))) (fun c0 _ hc0 next0 hn0 hF => rd_r42_Satisfies_0 set cs (c0 : Int) Q (cond_lt (n := cs.length) rfl hc0 ((vc_f (F := FF) (by first | ((repeat' (first | rfl | exact nn_d64 _ | exact okIx_nat hc0 | refine and_t ?_ ?_ | refine or_l ?_)); done) | (simp [-List.getD_eq_getElem?_getD, okIx_nat hc0, nn_u64, nn_u32]; done) | (have hry : roomy = 1048576 := rfl; simp [-List.getD_eq_getElem?_getD, okIx, okSlc, okApp, len_slcL, len_segL] <;> omega)) /- 1 -/ (cond_f (F := FF) (fun h0 => id) (fun h0 => hn0))) hF)))
theorem ct_r42_Satisfies (set : List Ti64T) (cs : List ConstraintT) (hw : VSs.wf e_r42_Satisfies.A (set, cs, ())) (Q : Bool × Unit → Prop) (hq : Q (e_r42_Satisfies.g (set, cs, ()))) : EvF G_r42_Satisfies tb_r42_Satisfies c_r42_Satisfies (VSs.enc e_r42_Satisfies.A (set, cs, ())) (dq e_r42_Satisfies.R Q) := by
  have _ := hw
  let FF := (fun y : Bool => Q (y, ()))
  refine EvF.of (in_r42_Satisfies set cs Q) ?_
  exact (lp_r42_Satisfies_0 set cs Q hw) hq
/-! netverify/netverifyref42.Less -/
def G_r42_Less : Env := ⟨[], []⟩
def b_r42_Less_0 : ACode := (.seq (.seq (.region [(oI 16 (.mov (.t 5))), (oI 17 (.mov (.t 0))), (oI 18 (.len (.t 17))), (oI 19 (.bin .lss (.t 16) (.t 18)))] []) (.cond 19 .skip (.exit 0))) (.seq (.block 1 (.seq (.region [(oI 22 (.mov (.t 0))), (oI 23 (.mov (.t 5))), (oI 24 (.ixa 1 (.t 22) (.t 23))), (oI 25 (.load false 1 (.t 24))), (oI 26 (.mov (.t 1))), (oI 27 (.mov (.t 5))), (oI 28 (.ixa 1 (.t 26) (.t 27))), (oI 29 (.load false 1 (.t 28))), (oI 30 (.bin .neq (.t 25) (.t 29)))] []) (.cond 30 (.seq (.region [(oI 31 (.mov (.t 0))), (oI 32 (.mov (.t 5))), (oI 33 (.ixa 1 (.t 31) (.t 32))), (oI 34 (.load false 1 (.t 33))), (oI 35 (.mov (.t 1))), (oI 36 (.mov (.t 5))), (oI 37 (.ixa 1 (.t 35) (.t 36))), (oI 38 (.load false 1 (.t 37))), (oI 39 (.bin .lss (.t 34) (.t 38))), (oI 4 (.mov (.t 39)))] []) .ret) .skip))) (.region [(oI 20 (.mov (.t 5))), (oI 21 (.bin .add (.t 20) (.c (.f (.int .i64 1))))), (oI 5 (.mov (.t 21)))] [])))
def r_r42_Less_0 : ACode := (.seq (.region [(oI 4 (.mov (.c (.f (.bool false)))))] []) .ret)
def c_r42_Less : AFunc := AFunc.mk 40 2 [(.t 4)] (.seq (.region [(oI 4 (.mov (.c (.f (.bool false)))))] []) (.seq (.seq (.region [(oI 6 (.mov (.t 0))), (oI 7 (.len (.t 6))), (oI 8 (.mov (.t 1))), (oI 9 (.len (.t 8))), (oI 10 (.bin .neq (.t 7) (.t 9)))] []) (.cond 10 (.seq (.region [(oI 11 (.mov (.t 0))), (oI 12 (.len (.t 11))), (oI 13 (.mov (.t 1))), (oI 14 (.len (.t 13))), (oI 15 (.bin .lss (.t 12) (.t 14))), (oI 4 (.mov (.t 15)))] []) .ret) .skip)) (.seq (.seq (.region [(oI 5 (.mov (.c (.f (.int .i64 0)))))] []) (.block 0 (.loop 0 [(0, .no), (1, .no), (5, .no)] b_r42_Less_0))) r_r42_Less_0)))
def tb_r42_Less : Tbl
  | 0 => ([(0, .no), (1, .no), (5, .no)], b_r42_Less_0)
  | _ => ([], .skip)
theorem ok_r42_Less : compF Tryd.prog [26, 27] Tryd.f18 = some c_r42_Less.strip := by kernel_rfl
theorem tk_r42_Less : TblOk tb_r42_Less c_r42_Less.body := ⟨trivial, ⟨⟨trivial, ⟨⟨trivial, trivial⟩, trivial⟩⟩, ⟨⟨trivial, ⟨rfl, ⟨⟨trivial, ⟨trivial, trivial⟩⟩, ⟨⟨trivial, ⟨⟨trivial, trivial⟩, trivial⟩⟩, trivial⟩⟩⟩⟩, ⟨trivial, trivial⟩⟩⟩⟩
def k_r42_Less_0 (Q : Bool × Unit → Prop) : K := (kBlock 0 (kSeq (evC G_r42_Less (Lfp G_r42_Less tb_r42_Less) r_r42_Less_0) (kDone c_r42_Less (dq e_r42_Less.R Q))))
def s_r42_Less_0 (a : List Ti64T) (b : List Ti64T) (v0 : Int) : St := ⟨[(0, [], .f (.fs Ti64S a)), (1, [], .f (.fs Ti64S b)), (5, [], .f (.int .i64 v0))], []⟩
def L_r42_Less_0 (a : List Ti64T) (b : List Ti64T) (v0 : Int) (Q : Bool × Unit → Prop) : Prop := Lfp G_r42_Less tb_r42_Less 0 (s_r42_Less_0 a b v0) (k_r42_Less_0 Q)
theorem in_r42_Less (a : List Ti64T) (b : List Ti64T) (Q : Bool × Unit → Prop) : evF G_r42_Less (Lfp G_r42_Less tb_r42_Less) c_r42_Less (VSs.enc e_r42_Less.A (a, b, ())) (dq e_r42_Less.R Q) = (
  cond ((a.length : Int) != (b.length : Int))
  (Q ((decide ((a.length : Int) < (b.length : Int))), ()))
  (L_r42_Less_0 a b 0 Q)) := by kernel_rfl
theorem rd_r42_Less_0 (a : List Ti64T) (b : List Ti64T) (v0 : Int) (Q : Bool × Unit → Prop) (h :
  cond (decide (v0 < (a.length : Int)))
  (cond ((okIx v0 (a.length : Int)) && (okIx v0 (b.length : Int)))
    (cond ((List.getD a (Int.toNat v0) Ti64D).1 != (List.getD b (Int.toNat v0) Ti64D).1)
      (cond ((okIx v0 (a.length : Int)) && (okIx v0 (b.length : Int)))
        (Q ((decide ((List.getD a (Int.toNat v0) Ti64D).1 < (List.getD b (Int.toNat v0) Ti64D).1)), ()))
        False)
      (L_r42_Less_0 a b (IntKind.wrap .i64 (v0 + 1)) Q))
    False)
  (Q (false, ()))) : L_r42_Less_0 a b v0 Q := Lfp.step (Eq.mpr (by kernel_rfl) h)
theorem lp_r42_Less_0 (a : List Ti64T) (b : List Ti64T) (Q : Bool × Unit → Prop) (hw : VSs.wf e_r42_Less.A (a, b, ()))  (g0 : ((a.length : Int) != (b.length : Int)) = false) : (fun y : Bool => Q (y, ())) (S_r42_Less_0 a b) → L_r42_Less_0 a b 0 Q := by
  have _ := hw
  have _ := g0
  let FF := (fun y : Bool => Q (y, ()))
  refine upV_loop (F := FF) (k := .i64) (n := a.length) (L := (fun c0 : Int => L_r42_Less_0 a b c0 Q)) (wrap_i64n (show _ ≤ _ from (hw.1).1)) (fun c0 hc0 hF => rd_r42_Less_0 a b (c0 : Int) Q (cond_ge (n := a.length) rfl hc0 (id hF))) (fun c0 _ hc0 next0 hn0 hF => rd_r42_Less_0 a b (c0 : Int) Q (cond_lt (n := a.length) rfl hc0 ((vc_f (F := FF) (by first | ((repeat' (first | rfl | exact nn_d64 _ | exact okIx_nat hc0 | refine and_t ?_ ?_ | refine or_l ?_)); done) | (simp [-List.getD_eq_getElem?_getD, okIx_nat hc0, nn_u64, nn_u32]; done) | (simp [-List.getD_eq_getElem?_getD, okIx_nat hc0, nn_u64, nn_u32, g0]; done) | (have hry : roomy = 1048576 := rfl; simp [-List.getD_eq_getElem?_getD, okIx, okSlc, okApp, len_slcL, len_segL] at g0 ⊢ <;> omega)) /- 1 -/ (cond_f (F := FF) (fun h1 => (vc_f (F := FF) (by first | ((repeat' (first | rfl | exact nn_d64 _ | exact okIx_nat hc0 | refine and_t ?_ ?_ | refine or_l ?_)); done) | (simp [-List.getD_eq_getElem?_getD, okIx_nat hc0, nn_u64, nn_u32]; done) | (simp [-List.getD_eq_getElem?_getD, okIx_nat hc0, nn_u64, nn_u32, g0, h1]; done) | (have hry : roomy = 1048576 := rfl; simp [-List.getD_eq_getElem?_getD, okIx, okSlc, okApp, len_slcL, len_segL] at g0 h1 ⊢ <;> omega)) /- 2 -/ id)) (fun h1 => hn0))) hF)))
theorem ct_r42_Less (a : List Ti64T) (b : List Ti64T) (hw : VSs.wf e_r42_Less.A (a, b, ())) (Q : Bool × Unit → Prop) (hq : Q (e_r42_Less.g (a, b, ()))) : EvF G_r42_Less tb_r42_Less c_r42_Less (VSs.enc e_r42_Less.A (a, b, ())) (dq e_r42_Less.R Q) := by
  have _ := hw
  let FF := (fun y : Bool => Q (y, ()))
  refine EvF.of (in_r42_Less a b Q) ?_
  exact (cond_f (F := FF) (fun h0 => id) (fun h0 => (lp_r42_Less_0 a b Q hw h0))) hq
/-! netverify/netverifyref42.Members -/
def G_r42_Members : Env := ⟨[], []⟩
def b_r42_Members_0 : ACode := (.seq (.seq (.region [(oI 7 (.mov (.t 6))), (oI 8 (.mov (.t 1))), (oI 9 (.bin .lss (.t 7) (.t 8)))] []) (.cond 9 .skip (.exit 0))) (.seq (.block 1 (.seq (.region [(oI 12 (.mov (.t 0))), (oI 13 (.mov (.t 6))), (oI 14 (.bin .shr (.t 12) (.t 13))), (oI 15 (.bin .and (.t 14) (.c (.f (.int .i64 1))))), (oI 16 (.bin .eql (.t 15) (.c (.f (.int .i64 1)))))] []) (.cond 16 (.region [(oI 17 (.mov (.t 5))), (oI 18 (.mov (.t 6))), (oI 19 (.bslice Ti64S 8 [(.f (.int .i64 0))] 1 [(0, (.t 18))])), (oI 20 (.app Ti64S 8 (.t 17) (.t 19))), (oI 5 (.mov (.t 20)))] []) .skip))) (.region [(oI 10 (.mov (.t 6))), (oI 11 (.bin .add (.t 10) (.c (.f (.int .i64 1))))), (oI 6 (.mov (.t 11)))] [])))
def r_r42_Members_0 : ACode := (.seq (.region [(oI 21 (.mov (.t 5))), (oI 4 (.mov (.t 21)))] []) .ret)
def c_r42_Members : AFunc := AFunc.mk 22 2 [(.t 4)] (.seq (.region [(oI 4 (.mov (.c (.f .nils))))] []) (.seq (.region [(oI 5 (.mov (.c (.f .nils))))] []) (.seq (.seq (.region [(oI 6 (.mov (.c (.f (.int .i64 0)))))] []) (.block 0 (.loop 0 [(0, .no), (1, .no), (5, .own Ti64S), (6, .no)] b_r42_Members_0))) r_r42_Members_0)))
def tb_r42_Members : Tbl
  | 0 => ([(0, .no), (1, .no), (5, .own Ti64S), (6, .no)], b_r42_Members_0)
  | _ => ([], .skip)
theorem ok_r42_Members : compF Tryd.prog [26, 27] Tryd.f25 = some c_r42_Members.strip := by kernel_rfl
theorem tk_r42_Members : TblOk tb_r42_Members c_r42_Members.body := ⟨trivial, ⟨trivial, ⟨⟨trivial, ⟨rfl, ⟨⟨trivial, ⟨trivial, trivial⟩⟩, ⟨⟨trivial, ⟨trivial, trivial⟩⟩, trivial⟩⟩⟩⟩, ⟨trivial, trivial⟩⟩⟩⟩
def k_r42_Members_0 (Q : (List Ti64T) × Unit → Prop) : K := (kBlock 0 (kSeq (evC G_r42_Members (Lfp G_r42_Members tb_r42_Members) r_r42_Members_0) (kDone c_r42_Members (dq e_r42_Members.R Q))))
def s_r42_Members_0 (x0 : Int) (n : Int) (v0 : Nat) (v1 : Int) (v2 : List Ti64T) : St := ⟨[(0, [], .f (.int .i64 x0)), (1, [], .f (.int .i64 n)), (5, [], .sl 0 1 0 v0), (6, [], .f (.int .i64 v1))], [.row Ti64S v2]⟩
def L_r42_Members_0 (x0 : Int) (n : Int) (v0 : Nat) (v1 : Int) (v2 : List Ti64T) (Q : (List Ti64T) × Unit → Prop) : Prop := Lfp G_r42_Members tb_r42_Members 0 (s_r42_Members_0 x0 n v0 v1 v2) (k_r42_Members_0 Q)
theorem in_r42_Members (x0 : Int) (n : Int) (Q : (List Ti64T) × Unit → Prop) : evF G_r42_Members (Lfp G_r42_Members tb_r42_Members) c_r42_Members (VSs.enc e_r42_Members.A (x0, n, ())) (dq e_r42_Members.R Q) = (
  L_r42_Members_0 x0 n 0 0 [] Q) := by kernel_rfl
theorem rd_r42_Members_0 (x0 : Int) (n : Int) (v0 : Nat) (v1 : Int) (v2 : List Ti64T) (Q : (List Ti64T) × Unit → Prop) (h :
  cond (decide (v1 < n))
  (cond (decide (0 ≤ v1))
    (cond ((iand .i64 (ishr .i64 x0 v1) 1) == 1)
      (cond (okApp v0 v2.length 1)
        (L_r42_Members_0 x0 n (v0 + 1) (IntKind.wrap .i64 (v1 + 1)) (v2 ++ [(v1, ())]) Q)
        False)
      (L_r42_Members_0 x0 n v0 (IntKind.wrap .i64 (v1 + 1)) v2 Q))
    False)
  (Q ((segL v2 0 v0), ()))) : L_r42_Members_0 x0 n v0 v1 v2 Q := Lfp.step (Eq.mpr (by kernel_rfl) h)
theorem lp_r42_Members_0 (x0 : Int) (n : Int) (v20 : List Ti64T) (Q : (List Ti64T) × Unit → Prop) (hw : VSs.wf e_r42_Members.A (x0, n, ())) (hp : p_r42_Members x0 n = true)  (hI0 : (fun (c : Nat) (v : List Ti64T) => v.length ≤ c) 0 v20) : (fun y : List Ti64T => Q (y, ())) (S_r42_Members_0 x0 n v20) → L_r42_Members_0 x0 n (List.length v20) 0 v20 Q := by
  have _ := hw
  have _ := hp
  let FF := (fun y : List Ti64T => Q (y, ()))
  refine upS_loop (F := FF) (k := .i64) (n := (Int.toNat n)) (I := (fun (c : Nat) (v : List Ti64T) => v.length ≤ c)) (L := (fun (c0 : Int) (s0 : (List Ti64T)) => L_r42_Members_0 x0 n (List.length s0) c0 s0 Q)) (wrap_i64n (by have h : n ≤ 9223372036854775807 := (hw.2.1).2; unfold maxLen; omega)) (fun c0 hc0 s0 hI hF => rd_r42_Members_0 x0 n (List.length s0) (c0 : Int) s0 Q (cond_ge (n := (Int.toNat n)) rfl hc0 (id hF))) (fun c0 _ hc0 next0 hn0 s0 hI hF => rd_r42_Members_0 x0 n (List.length s0) (c0 : Int) s0 Q (cond_lt (n := (Int.toNat n)) rfl hc0 ((vc_f (F := FF) (by first | ((have h3 : n ≤ 1000 := of_decide_eq_true hp; have hI2 : s0.length ≤ c0 := hI; have hry : roomy = 1048576 := rfl; simp [-List.getD_eq_getElem?_getD, okApp, hry]; omega); done) | ((repeat' (first | rfl | exact nn_d64 _ | exact okIx_nat hc0 | refine and_t ?_ ?_ | refine or_l ?_)); done) | (simp [-List.getD_eq_getElem?_getD, okIx_nat hc0, nn_u64, nn_u32]; done) | (have hry : roomy = 1048576 := rfl; simp [-List.getD_eq_getElem?_getD, okIx, okSlc, okApp, len_slcL, len_segL] at hI ⊢ <;> omega)) /- 1 -/ (cond_f (F := FF) (fun h0 => (vc_f (F := FF) (by first | ((have h3 : n ≤ 1000 := of_decide_eq_true hp; have hI2 : s0.length ≤ c0 := hI; have hry : roomy = 1048576 := rfl; simp [-List.getD_eq_getElem?_getD, okApp, hry]; omega); done) | ((repeat' (first | rfl | exact nn_d64 _ | exact okIx_nat hc0 | refine and_t ?_ ?_ | refine or_l ?_)); done) | (simp [-List.getD_eq_getElem?_getD, okIx_nat hc0, nn_u64, nn_u32]; done) | (simp [-List.getD_eq_getElem?_getD, okIx_nat hc0, nn_u64, nn_u32, h0]; done) | (have hry : roomy = 1048576 := rfl; simp [-List.getD_eq_getElem?_getD, okIx, okSlc, okApp, len_slcL, len_segL] at h0 hI ⊢ <;> omega)) /- 2 -/ (fun hF => by have hL := hn0 _ (by first | (show List.length _ ≤ _; rw [List.length_append]; exact Nat.succ_le_succ hI) | exact Nat.le_succ_of_le hI) hF; simpa only [List.length_append, List.length_cons, List.length_nil, List.length_set, Nat.zero_add, Int.toNat_natCast] using hL))) (fun h0 => (fun hF => by have hL := hn0 _ (by first | (show List.length _ ≤ _; rw [List.length_append]; exact Nat.succ_le_succ hI) | exact Nat.le_succ_of_le hI) hF; simpa only [List.length_append, List.length_cons, List.length_nil, List.length_set, Nat.zero_add, Int.toNat_natCast] using hL)))) hF))) v20 hI0
theorem ct_r42_Members (x0 : Int) (n : Int) (hw : VSs.wf e_r42_Members.A (x0, n, ())) (hp : p_r42_Members x0 n = true) (Q : (List Ti64T) × Unit → Prop) (hq : Q (e_r42_Members.g (x0, n, ()))) : EvF G_r42_Members tb_r42_Members c_r42_Members (VSs.enc e_r42_Members.A (x0, n, ())) (dq e_r42_Members.R Q) := by
  have _ := hw
  let FF := (fun y : List Ti64T => Q (y, ()))
  refine EvF.of (in_r42_Members x0 n Q) ?_
  exact (lp_r42_Members_0 x0 n [] Q hw hp (by exact Nat.le_refl _)) hq
/-! netverify/netverifyref42.Best -/
def G_r42_Best : Env := ⟨[e_r42_Satisfies, e_r42_Less, e_r42_Members], []⟩
def b_r42_Best_0 : ACode := (.seq (.seq (.region [(oI 10 (.mov (.t 8))), (oI 11 (.mov (.t 0))), (oI 12 (.bin .shl (.c (.f (.int .i64 1))) (.t 11))), (oI 13 (.bin .lss (.t 10) (.t 12)))] []) (.cond 13 .skip (.exit 0))) (.seq (.block 1 (.seq (.region [(oI 16 (.mov (.t 8))), (oI 17 (.mov (.t 0))), (oI 18 (.call 25 [(.t 16), (.t 17)])), (oI 9 (.mov (.t 18)))] []) (.seq (.region [(oI 19 (.mov (.t 9))), (oI 20 (.mov (.t 1))), (oI 21 (.call 17 [(.t 19), (.t 20)])), (oI 22 (.mov (.t 21))), (.mk (some 23) (some (22, true)) (.mov (.t 7))), (.mk (some 24) (some (22, true)) (.un .not (.t 23))), (.mk (some 25) (some (22, true)) (.mov (.t 24))), (.mk (some 26) (some (25, false)) (.mov (.t 9))), (.mk (some 27) (some (25, false)) (.mov (.t 6))), (.mk (some 28) (some (25, false)) (.call 18 [(.t 26), (.t 27)])), (.mk (some 29) (some (22, true)) (.pick 25 (.c (.f (.bool true))) (.t 28))), (oI 30 (.pick 22 (.t 29) (.c (.f (.bool false)))))] []) (.cond 30 (.region [(oI 31 (.mov (.t 9))), (oI 6 (.mov (.t 31))), (oI 7 (.mov (.c (.f (.bool true)))))] []) .skip)))) (.region [(oI 14 (.mov (.t 8))), (oI 15 (.bin .add (.t 14) (.c (.f (.int .i64 1))))), (oI 8 (.mov (.t 15)))] [])))
def r_r42_Best_0 : ACode := (.seq (.region [(oI 32 (.mov (.t 6))), (oI 33 (.mov (.t 7))), (oI 4 (.mov (.t 32))), (oI 5 (.mov (.t 33)))] []) .ret)
def c_r42_Best : AFunc := AFunc.mk 34 2 [(.t 4), (.t 5)] (.seq (.region [(oI 4 (.mov (.c (.f .nils)))), (oI 5 (.mov (.c (.f (.bool false)))))] []) (.seq (.region [(oI 6 (.mov (.c (.f .nils))))] []) (.seq (.region [(oI 7 (.mov (.c (.f (.bool false)))))] []) (.seq (.seq (.region [(oI 8 (.mov (.c (.f (.int .i64 0)))))] []) (.block 0 (.loop 0 [(0, .no), (1, .no), (6, .dat Ti64S), (7, .no), (8, .no)] b_r42_Best_0))) r_r42_Best_0))))
def tb_r42_Best : Tbl
  | 0 => ([(0, .no), (1, .no), (6, .dat Ti64S), (7, .no), (8, .no)], b_r42_Best_0)
  | _ => ([], .skip)
theorem ok_r42_Best : compF Tryd.prog [26, 27] Tryd.f13 = some c_r42_Best.strip := by kernel_rfl
theorem tk_r42_Best : TblOk tb_r42_Best c_r42_Best.body := ⟨trivial, ⟨trivial, ⟨trivial, ⟨⟨trivial, ⟨rfl, ⟨⟨trivial, ⟨trivial, trivial⟩⟩, ⟨⟨trivial, ⟨trivial, ⟨trivial, trivial⟩⟩⟩, trivial⟩⟩⟩⟩, ⟨trivial, trivial⟩⟩⟩⟩⟩
def k_r42_Best_0 (Q : (List Ti64T) × Bool × Unit → Prop) : K := (kBlock 0 (kSeq (evC G_r42_Best (Lfp G_r42_Best tb_r42_Best) r_r42_Best_0) (kDone c_r42_Best (dq e_r42_Best.R Q))))
def s_r42_Best_0 (n : Int) (cs : List ConstraintT) (v0 : List Ti64T) (v1 : Bool) (v2 : Int) : St := ⟨[(0, [], .f (.int .i64 n)), (1, [], .f (.fs ConstraintS cs)), (6, [], .f (.fs Ti64S v0)), (7, [], .f (.bool v1)), (8, [], .f (.int .i64 v2))], []⟩
def L_r42_Best_0 (n : Int) (cs : List ConstraintT) (v0 : List Ti64T) (v1 : Bool) (v2 : Int) (Q : (List Ti64T) × Bool × Unit → Prop) : Prop := Lfp G_r42_Best tb_r42_Best 0 (s_r42_Best_0 n cs v0 v1 v2) (k_r42_Best_0 Q)
theorem in_r42_Best (n : Int) (cs : List ConstraintT) (Q : (List Ti64T) × Bool × Unit → Prop) : evF G_r42_Best (Lfp G_r42_Best tb_r42_Best) c_r42_Best (VSs.enc e_r42_Best.A (n, cs, ())) (dq e_r42_Best.R Q) = (
  L_r42_Best_0 n cs [] false 0 Q) := by kernel_rfl
theorem rd_r42_Best_0 (n : Int) (cs : List ConstraintT) (v0 : List Ti64T) (v1 : Bool) (v2 : Int) (Q : (List Ti64T) × Bool × Unit → Prop) (h :
  cond (decide (0 ≤ n))
  (cond (decide (v2 < (ishl .i64 1 n)))
    (cond (p_r42_Members v2 n)
      (cond ((g_r42_Satisfies (g_r42_Members v2 n) cs) && ((!v1) || (g_r42_Less (g_r42_Members v2 n) v0)))
        (L_r42_Best_0 n cs (g_r42_Members v2 n) true (IntKind.wrap .i64 (v2 + 1)) Q)
        (L_r42_Best_0 n cs v0 v1 (IntKind.wrap .i64 (v2 + 1)) Q))
      False)
    (Q (v0, v1, ())))
  False) : L_r42_Best_0 n cs v0 v1 v2 Q := Lfp.step (Eq.mpr (by kernel_rfl) h)
theorem lp_r42_Best_0 (n : Int) (cs : List ConstraintT) (v00 : List Ti64T) (v10 : Bool) (Q : (List Ti64T) × Bool × Unit → Prop) (hw : VSs.wf e_r42_Best.A (n, cs, ())) (hp : p_r42_Best n cs = true)  : (fun y : (List Ti64T) × Bool × Unit => Q y) (S_r42_Best_0 n cs v00 v10) → L_r42_Best_0 n cs v00 v10 0 Q := by
  have _ := hw
  have _ := hp
  let FF := (fun y : (List Ti64T) × Bool × Unit => Q y)
  refine upS_loop (F := FF) (k := .i64) (n := (Int.toNat (ishl .i64 1 n))) (I := fun _ _ => True) (L := (fun (c0 : Int) (s0 : (List Ti64T) × Bool) => L_r42_Best_0 n cs s0.1 s0.2 c0 Q)) (wrap_i64n (best_bound hp)) (fun c0 hc0 s0 hI hF => rd_r42_Best_0 n cs s0.1 s0.2 (c0 : Int) Q (vc_i (by first | ((have h3 := pbest hp; simp [-List.getD_eq_getElem?_getD]; omega); done) | ((have h3 := pbest hp; simp [-List.getD_eq_getElem?_getD, p_r42_Members]; omega); done) | ((repeat' (first | rfl | exact nn_d64 _ | refine and_t ?_ ?_ | refine or_l ?_)); done) | (simp [-List.getD_eq_getElem?_getD, nn_u64, nn_u32]; done) | (have hry : roomy = 1048576 := rfl; simp [-List.getD_eq_getElem?_getD, okIx, okSlc, okApp, len_slcL, len_segL] <;> omega)) /- 2 -/ (cond_ge (n := (Int.toNat (ishl .i64 1 n))) rfl hc0 (id hF)))) (fun c0 _ hc0 next0 hn0 s0 hI hF => rd_r42_Best_0 n cs s0.1 s0.2 (c0 : Int) Q (vc_i (by first | ((have h3 := pbest hp; simp [-List.getD_eq_getElem?_getD]; omega); done) | ((have h3 := pbest hp; simp [-List.getD_eq_getElem?_getD, p_r42_Members]; omega); done) | ((repeat' (first | rfl | exact nn_d64 _ | refine and_t ?_ ?_ | refine or_l ?_)); done) | (simp [-List.getD_eq_getElem?_getD, nn_u64, nn_u32]; done) | (have hry : roomy = 1048576 := rfl; simp [-List.getD_eq_getElem?_getD, okIx, okSlc, okApp, len_slcL, len_segL] <;> omega)) /- 3 -/ (cond_lt (n := (Int.toNat (ishl .i64 1 n))) rfl hc0 ((vc_f (F := FF) (by first | ((have h3 := pbest hp; simp [-List.getD_eq_getElem?_getD]; omega); done) | ((have h3 := pbest hp; simp [-List.getD_eq_getElem?_getD, p_r42_Members]; omega); done) | ((repeat' (first | rfl | exact nn_d64 _ | exact okIx_nat hc0 | refine and_t ?_ ?_ | refine or_l ?_)); done) | (simp [-List.getD_eq_getElem?_getD, okIx_nat hc0, nn_u64, nn_u32]; done) | (have hry : roomy = 1048576 := rfl; simp [-List.getD_eq_getElem?_getD, okIx, okSlc, okApp, len_slcL, len_segL] <;> omega)) /- 1 -/ (cond_f (F := FF) (fun h0 => (hn0 _ trivial)) (fun h0 => (hn0 _ trivial)))) hF)))) (v00, v10) trivial
theorem ct_r42_Best (n : Int) (cs : List ConstraintT) (hw : VSs.wf e_r42_Best.A (n, cs, ())) (hp : p_r42_Best n cs = true) (Q : (List Ti64T) × Bool × Unit → Prop) (hq : Q (e_r42_Best.g (n, cs, ()))) : EvF G_r42_Best tb_r42_Best c_r42_Best (VSs.enc e_r42_Best.A (n, cs, ())) (dq e_r42_Best.R Q) := by
  have _ := hw
  let FF := (fun y : (List Ti64T) × Bool × Unit => Q y)
  refine EvF.of (in_r42_Best n cs Q) ?_
  exact (lp_r42_Best_0 n cs _ _ Q hw hp) hq
/-! netverify/netverifylaw43.MinsatMinimum -/
def G_law43_MinsatMinimum : Env := ⟨[e_law43_awake, e_law43_small, e_law43_fit, e_minsat_Minimum, e_r42_Check, e_r42_Best, e_keep_Ints], []⟩
def c_law43_MinsatMinimum : AFunc := AFunc.mk 67 3 [(.t 6)] (.seq (.region [(oI 6 (.mov (.c (.f (.bool false)))))] []) (.seq (.seq (.region [(oI 12 (.call 8 [])), (oI 13 (.un .not (.t 12)))] []) (.cond 13 (.seq (.region [(oI 6 (.mov (.c (.f (.bool false)))))] []) .ret) .skip)) (.seq (.seq (.region [(oI 14 (.mov (.t 0))), (oI 15 (.mov (.t 1))), (oI 16 (.call 9 [(.t 14), (.t 15)])), (oI 17 (.un .not (.t 16)))] []) (.cond 17 (.seq (.region [(oI 6 (.mov (.c (.f (.bool true)))))] []) .ret) .skip)) (.seq (.seq (.region [(oI 18 (.mov (.t 2))), (oI 19 (.mov (.t 18))), (.mk (some 20) (some (19, true)) (.mov (.t 0))), (.mk (some 21) (some (19, true)) (.bin .geq (.t 20) (.c (.f (.int .i64 1))))), (oI 22 (.pick 19 (.t 21) (.c (.f (.bool false)))))] []) (.cond 22 (.region [(oI 23 (.mov (.t 0))), (oI 24 (.mov (.t 1))), (oI 25 (.call 10 [(.t 23), (.t 24)])), (oI 1 (.mov (.t 25)))] []) .skip)) (.seq (.region [(oI 27 (.mov (.t 0))), (oI 28 (.mov (.t 1))), (oI 29 (.call 11 [(.t 27), (.t 28)])), (oI 26 (.mov (.t 29))), (oI 30 (.ext 0 (.t 26))), (oI 31 (.ext 1 (.t 26))), (oI 7 (.mov (.t 30))), (oI 8 (.mov (.t 31)))] []) (.seq (.region [(oI 32 (.mov (.t 0))), (oI 33 (.mov (.t 1))), (oI 34 (.call 12 [(.t 32), (.t 33)])), (oI 9 (.mov (.t 34)))] []) (.seq (.seq (.region [(oI 35 (.mov (.t 9))), (oI 36 (.bin .neq (.t 35) (.c (.f (.int .i64 0)))))] []) (.cond 36 (.seq (.region [(oI 37 (.mov (.t 8))), (oI 38 (.mov (.t 9))), (oI 39 (.bin .eql (.t 37) (.t 38))), (oI 40 (.mov (.t 39))), (.mk (some 41) (some (40, true)) (.mov (.t 7))), (.mk (some 42) (some (40, true)) (.len (.t 41))), (.mk (some 43) (some (40, true)) (.bin .eql (.t 42) (.c (.f (.int .i64 0))))), (oI 44 (.pick 40 (.t 43) (.c (.f (.bool false))))), (oI 6 (.mov (.t 44)))] []) .ret) .skip)) (.seq (.region [(oI 46 (.mov (.t 0))), (oI 47 (.mov (.t 1))), (oI 48 (.call 13 [(.t 46), (.t 47)])), (oI 45 (.mov (.t 48))), (oI 49 (.ext 0 (.t 45))), (oI 50 (.ext 1 (.t 45))), (oI 10 (.mov (.t 49))), (oI 11 (.mov (.t 50)))] []) (.seq (.seq (.region [(oI 51 (.mov (.t 11))), (oI 52 (.un .not (.t 51)))] []) (.cond 52 (.seq (.region [(oI 53 (.mov (.t 8))), (oI 54 (.bin .eql (.t 53) (.c (.f (.int .i64 8))))), (oI 55 (.mov (.t 54))), (.mk (some 56) (some (55, true)) (.mov (.t 7))), (.mk (some 57) (some (55, true)) (.len (.t 56))), (.mk (some 58) (some (55, true)) (.bin .eql (.t 57) (.c (.f (.int .i64 0))))), (oI 59 (.pick 55 (.t 58) (.c (.f (.bool false))))), (oI 6 (.mov (.t 59)))] []) .ret) .skip)) (.seq (.region [(oI 60 (.mov (.t 8))), (oI 61 (.bin .eql (.t 60) (.c (.f (.int .i64 0))))), (oI 62 (.mov (.t 61))), (.mk (some 63) (some (62, true)) (.mov (.t 7))), (.mk (some 64) (some (62, true)) (.mov (.t 10))), (.mk (some 65) (some (62, true)) (.call 14 [(.t 63), (.t 64)])), (oI 66 (.pick 62 (.t 65) (.c (.f (.bool false))))), (oI 6 (.mov (.t 66)))] []) .ret))))))))))
def tb_law43_MinsatMinimum : Tbl := fun _ => ([], .skip)
theorem ok_law43_MinsatMinimum : compF Tryd.prog [26, 27] Tryd.f3 = some c_law43_MinsatMinimum.strip := by kernel_rfl
theorem tk_law43_MinsatMinimum : TblOk tb_law43_MinsatMinimum c_law43_MinsatMinimum.body := ⟨trivial, ⟨⟨trivial, ⟨⟨trivial, trivial⟩, trivial⟩⟩, ⟨⟨trivial, ⟨⟨trivial, trivial⟩, trivial⟩⟩, ⟨⟨trivial, ⟨trivial, trivial⟩⟩, ⟨trivial, ⟨trivial, ⟨⟨trivial, ⟨⟨trivial, trivial⟩, trivial⟩⟩, ⟨trivial, ⟨⟨trivial, ⟨⟨trivial, trivial⟩, trivial⟩⟩, ⟨trivial, trivial⟩⟩⟩⟩⟩⟩⟩⟩⟩⟩
theorem in_law43_MinsatMinimum (n : Int) (cs : List ConstraintT) (near : Bool) (Q : Bool × Unit → Prop) : evF G_law43_MinsatMinimum (Lfp G_law43_MinsatMinimum tb_law43_MinsatMinimum) c_law43_MinsatMinimum (VSs.enc e_law43_MinsatMinimum.A (n, cs, near, ())) (dq e_law43_MinsatMinimum.R Q) = (
  cond (!g_law43_awake)
  (Q (false, ()))
  (cond (!(g_law43_small n cs))
    (Q (true, ()))
    (cond (near && (decide (n ≥ 1)))
      (cond (p_law43_fit n cs)
        (cond ((g_r42_Check n (g_law43_fit n cs)) != 0)
          (Q ((((g_minsat_Minimum n (g_law43_fit n cs)).2.1 == (g_r42_Check n (g_law43_fit n cs))) && (((g_minsat_Minimum n (g_law43_fit n cs)).1.length : Int) == 0)), ()))
          (cond (p_r42_Best n (g_law43_fit n cs))
            (cond (!(g_r42_Best n (g_law43_fit n cs)).2.1)
              (Q ((((g_minsat_Minimum n (g_law43_fit n cs)).2.1 == 8) && (((g_minsat_Minimum n (g_law43_fit n cs)).1.length : Int) == 0)), ()))
              (Q ((((g_minsat_Minimum n (g_law43_fit n cs)).2.1 == 0) && (g_keep_Ints (g_minsat_Minimum n (g_law43_fit n cs)).1 (g_r42_Best n (g_law43_fit n cs)).1)), ())))
            False))
        False)
      (cond ((g_r42_Check n cs) != 0)
        (Q ((((g_minsat_Minimum n cs).2.1 == (g_r42_Check n cs)) && (((g_minsat_Minimum n cs).1.length : Int) == 0)), ()))
        (cond (p_r42_Best n cs)
          (cond (!(g_r42_Best n cs).2.1)
            (Q ((((g_minsat_Minimum n cs).2.1 == 8) && (((g_minsat_Minimum n cs).1.length : Int) == 0)), ()))
            (Q ((((g_minsat_Minimum n cs).2.1 == 0) && (g_keep_Ints (g_minsat_Minimum n cs).1 (g_r42_Best n cs).1)), ())))
          False))))) := by kernel_rfl
theorem ct_law43_MinsatMinimum (n : Int) (cs : List ConstraintT) (near : Bool) (hw : VSs.wf e_law43_MinsatMinimum.A (n, cs, near, ())) (Q : Bool × Unit → Prop) (hq : Q (e_law43_MinsatMinimum.g (n, cs, near, ()))) : EvF G_law43_MinsatMinimum tb_law43_MinsatMinimum c_law43_MinsatMinimum (VSs.enc e_law43_MinsatMinimum.A (n, cs, near, ())) (dq e_law43_MinsatMinimum.R Q) := by
  have _ := hw
  let FF := (fun y : Bool => Q (y, ()))
  refine EvF.of (in_law43_MinsatMinimum n cs near Q) ?_
  exact (cond_f (F := FF) (fun h0 => id) (fun h0 => (cond_f (F := FF) (fun h1 => id) (fun h1 => (cond_f (F := FF) (fun h2 => (vc_f (F := FF) (by first | ((exact small_fit (by assumption) (by simp_all [-List.getD_eq_getElem?_getD])); done) | ((exact rbest (by assumption)); done) | ((repeat' (first | rfl | exact nn_d64 _ | refine and_t ?_ ?_ | refine or_l ?_)); done) | (simp [-List.getD_eq_getElem?_getD, nn_u64, nn_u32]; done) | (simp [-List.getD_eq_getElem?_getD, nn_u64, nn_u32, h0, h1, h2]; done) | (have hry : roomy = 1048576 := rfl; simp [-List.getD_eq_getElem?_getD, okIx, okSlc, okApp, len_slcL, len_segL] at h0 h1 h2 ⊢ <;> omega)) /- 1 -/ (cond_f (F := FF) (fun h3 => id) (fun h3 => (vc_f (F := FF) (by first | ((exact small_fit (by assumption) (by simp_all [-List.getD_eq_getElem?_getD])); done) | ((exact rbest (by assumption)); done) | ((repeat' (first | rfl | exact nn_d64 _ | refine and_t ?_ ?_ | refine or_l ?_)); done) | (simp [-List.getD_eq_getElem?_getD, nn_u64, nn_u32]; done) | (simp [-List.getD_eq_getElem?_getD, nn_u64, nn_u32, h0, h1, h2, h3]; done) | (have hry : roomy = 1048576 := rfl; simp [-List.getD_eq_getElem?_getD, okIx, okSlc, okApp, len_slcL, len_segL] at h0 h1 h2 h3 ⊢ <;> omega)) /- 2 -/ (cond_f (F := FF) (fun h4 => id) (fun h4 => id))))))) (fun h2 => (cond_f (F := FF) (fun h3 => id) (fun h3 => (vc_f (F := FF) (by first | ((exact small_fit (by assumption) (by simp_all [-List.getD_eq_getElem?_getD])); done) | ((exact rbest (by assumption)); done) | ((repeat' (first | rfl | exact nn_d64 _ | refine and_t ?_ ?_ | refine or_l ?_)); done) | (simp [-List.getD_eq_getElem?_getD, nn_u64, nn_u32]; done) | (simp [-List.getD_eq_getElem?_getD, nn_u64, nn_u32, h0, h1, h2, h3]; done) | (have hry : roomy = 1048576 := rfl; simp [-List.getD_eq_getElem?_getD, okIx, okSlc, okApp, len_slcL, len_segL] at h0 h1 h2 h3 ⊢ <;> omega)) /- 3 -/ (cond_f (F := FF) (fun h4 => id) (fun h4 => id))))))))))) hq
end Go.Proofs.YtilbcgklkdkkdaaDoor
