/-
  The codes and their equations.
-/
import Derived.Test.YtilbcgklkdkkdaaDoorAmG
import Derived.Test.YtilbcgklkdkkdaaDoorProg
import Derived.KernelRfl
namespace Go.Proofs.YtilbcgklkdkkdaaDoor
open Go Go.AM
set_option maxRecDepth 100000
/-! netverify/minsat.Check$1 -/
def G_minsat_Check_1 : Env := ⟨[], []⟩
def c_minsat_Check_1 : AFunc := AFunc.mk 11 1 [(.t 3)] (.seq (.region [(oI 3 (.mov (.c (.f (.bool false)))))] []) (.seq (.region [(oI 4 (.mov (.t 0))), (oI 5 (.bin .lss (.t 4) (.c (.f (.int .i64 0))))), (oI 6 (.mov (.t 5))), (.mk (some 7) (some (6, false)) (.mov (.t 0))), (.mk (some 8) (some (6, false)) (.load false 1 (.t 1))), (.mk (some 9) (some (6, false)) (.bin .geq (.t 7) (.t 8))), (oI 10 (.pick 6 (.c (.f (.bool true))) (.t 9))), (oI 3 (.mov (.t 10)))] []) .ret))
def tb_minsat_Check_1 : Tbl := fun _ => ([], .skip)
theorem ok_minsat_Check_1 : compF Tryd.prog [26, 27] Tryd.f31 = some c_minsat_Check_1.strip := by kernel_rfl
theorem tk_minsat_Check_1 : TblOk tb_minsat_Check_1 c_minsat_Check_1.body := ⟨trivial, ⟨trivial, trivial⟩⟩
theorem in_minsat_Check_1 (x0 : Int) (c1 : Ti64T) (Q : Bool × Unit → Prop) : evF G_minsat_Check_1 (Lfp G_minsat_Check_1 tb_minsat_Check_1) c_minsat_Check_1 (VSs.enc e_minsat_Check_1.A (x0, c1, ())) (dq e_minsat_Check_1.R Q) = (
  Q (((decide (x0 < 0)) || (decide (x0 ≥ c1.1))), ())) := by kernel_rfl
theorem au_minsat_Check_1 (x0 : Int) (c1 : Ti64T) (Q : Bool × Unit → Prop) : evF G_minsat_Check_1 (Lfp G_minsat_Check_1 tb_minsat_Check_1) c_minsat_Check_1 (VSs.enc e_minsat_Check_1.A (x0, c1, ())) (dq e_minsat_Check_1.R Q) = Q (e_minsat_Check_1.g (x0, c1, ())) := (in_minsat_Check_1 x0 c1 Q).trans rfl
/-! slices.IndexFunc(()int,int) -/
def G_slices_IndexFunc_int_minsat_Check_1 : Env := ⟨[e_minsat_Check_1], []⟩
def b_slices_IndexFunc_int_minsat_Check_1_0 : ACode := (.seq (.region [(oI 9 (.bin .lss (.t 8) (.t 7)))] []) (.seq (.cond 9 .skip (.exit 0)) (.seq (.block 1 (.seq (.region [(oI 10 (.mov (.t 8))), (oI 5 (.mov (.t 10)))] []) (.seq (.region [(oI 11 (.mov (.t 1))), (oI 12 (.mov (.t 0))), (oI 13 (.mov (.t 5))), (oI 14 (.ixa 1 (.t 12) (.t 13))), (oI 15 (.load false 1 (.t 14))), (oI 16 (.callv (.t 11) [(.t 15)]))] []) (.cond 16 (.seq (.region [(oI 17 (.mov (.t 5))), (oI 4 (.mov (.t 17)))] []) .ret) .skip)))) (.region [(oI 18 (.bin .add (.t 8) (.c (.f (.int .i64 1))))), (oI 8 (.mov (.t 18)))] []))))
def r_slices_IndexFunc_int_minsat_Check_1_0 : ACode := (.seq (.region [(oI 4 (.mov (.c (.f (.int .i64 (-1))))))] []) .ret)
def c_slices_IndexFunc_int_minsat_Check_1 : AFunc := AFunc.mk 19 2 [(.t 4)] (.seq (.region [(oI 4 (.mov (.c (.f (.int .i64 0)))))] []) (.seq (.seq (.region [(oI 6 (.mov (.t 0))), (oI 7 (.len (.t 6))), (oI 8 (.mov (.c (.f (.int .i64 0)))))] []) (.block 0 (.loop 0 [(0, .no), (1, .no), (7, .no), (8, .no)] b_slices_IndexFunc_int_minsat_Check_1_0))) r_slices_IndexFunc_int_minsat_Check_1_0))
def tb_slices_IndexFunc_int_minsat_Check_1 : Tbl
  | 0 => ([(0, .no), (1, .no), (7, .no), (8, .no)], b_slices_IndexFunc_int_minsat_Check_1_0)
  | _ => ([], .skip)
theorem ok_slices_IndexFunc_int_minsat_Check_1 : compF Tryd.prog [26, 27] Tryd.f38 = some c_slices_IndexFunc_int_minsat_Check_1.strip := by kernel_rfl
theorem tk_slices_IndexFunc_int_minsat_Check_1 : TblOk tb_slices_IndexFunc_int_minsat_Check_1 c_slices_IndexFunc_int_minsat_Check_1.body := ⟨trivial, ⟨⟨trivial, ⟨rfl, ⟨trivial, ⟨⟨trivial, trivial⟩, ⟨⟨trivial, ⟨trivial, ⟨⟨trivial, trivial⟩, trivial⟩⟩⟩, trivial⟩⟩⟩⟩⟩, ⟨trivial, trivial⟩⟩⟩
def k_slices_IndexFunc_int_minsat_Check_1_0 (Q : Int × Unit → Prop) : K := (kBlock 0 (kSeq (evC G_slices_IndexFunc_int_minsat_Check_1 (Lfp G_slices_IndexFunc_int_minsat_Check_1 tb_slices_IndexFunc_int_minsat_Check_1) r_slices_IndexFunc_int_minsat_Check_1_0) (kDone c_slices_IndexFunc_int_minsat_Check_1 (dq e_slices_IndexFunc_int_minsat_Check_1.R Q))))
def s_slices_IndexFunc_int_minsat_Check_1_0 (s : List Ti64T) (f_0 : Int) (v0 : Int) : St := ⟨[(0, [], .f (.fs Ti64S s)), (1, [], .f (.fn 31 [.fpt [.int .i64 f_0] 0])), (7, [], .f (.int .i64 (s.length : Int))), (8, [], .f (.int .i64 v0))], []⟩
def L_slices_IndexFunc_int_minsat_Check_1_0 (s : List Ti64T) (f_0 : Int) (v0 : Int) (Q : Int × Unit → Prop) : Prop := Lfp G_slices_IndexFunc_int_minsat_Check_1 tb_slices_IndexFunc_int_minsat_Check_1 0 (s_slices_IndexFunc_int_minsat_Check_1_0 s f_0 v0) (k_slices_IndexFunc_int_minsat_Check_1_0 Q)
theorem in_slices_IndexFunc_int_minsat_Check_1 (s : List Ti64T) (f_0 : Int) (Q : Int × Unit → Prop) : evF G_slices_IndexFunc_int_minsat_Check_1 (Lfp G_slices_IndexFunc_int_minsat_Check_1 tb_slices_IndexFunc_int_minsat_Check_1) c_slices_IndexFunc_int_minsat_Check_1 (VSs.enc e_slices_IndexFunc_int_minsat_Check_1.A (s, ((f_0, ()), ()), ())) (dq e_slices_IndexFunc_int_minsat_Check_1.R Q) = (
  L_slices_IndexFunc_int_minsat_Check_1_0 s f_0 0 Q) := by kernel_rfl
theorem rd_slices_IndexFunc_int_minsat_Check_1_0 (s : List Ti64T) (f_0 : Int) (v0 : Int) (Q : Int × Unit → Prop) (h :
  cond (decide (v0 < (s.length : Int)))
  (cond ((okIx v0 (s.length : Int)) && true)
    (cond (g_minsat_Check_1 (List.getD s (Int.toNat v0) Ti64D).1 (f_0, ()))
      (Q (v0, ()))
      (L_slices_IndexFunc_int_minsat_Check_1_0 s f_0 (IntKind.wrap .i64 (v0 + 1)) Q))
    False)
  (Q ((-1), ()))) : L_slices_IndexFunc_int_minsat_Check_1_0 s f_0 v0 Q := Lfp.step (Eq.mpr (by kernel_rfl) h)
theorem lp_slices_IndexFunc_int_minsat_Check_1_0 (s : List Ti64T) (f_0 : Int) (Q : Int × Unit → Prop) (hw : VSs.wf e_slices_IndexFunc_int_minsat_Check_1.A (s, ((f_0, ()), ()), ()))  : (fun y : Int => Q (y, ())) (S_slices_IndexFunc_int_minsat_Check_1_0 s f_0) → L_slices_IndexFunc_int_minsat_Check_1_0 s f_0 0 Q := by
  have _ := hw
  let FF := (fun y : Int => Q (y, ()))
  refine upV_loop (F := FF) (k := .i64) (n := s.length) (L := (fun c0 : Int => L_slices_IndexFunc_int_minsat_Check_1_0 s f_0 c0 Q)) (wrap_i64n (show _ ≤ _ from (hw.1).1)) (fun c0 hc0 hF => rd_slices_IndexFunc_int_minsat_Check_1_0 s f_0 (c0 : Int) Q (cond_ge (n := s.length) rfl hc0 (id hF))) (fun c0 _ hc0 next0 hn0 hF => rd_slices_IndexFunc_int_minsat_Check_1_0 s f_0 (c0 : Int) Q (cond_lt (n := s.length) rfl hc0 ((vc_f (F := FF) (by first | ((repeat' (first | rfl | exact nn_d64 _ | exact okIx_nat hc0 | refine and_t ?_ ?_ | refine or_l ?_)); done) | (simp [-List.getD_eq_getElem?_getD, okIx_nat hc0, nn_u64, nn_u32]; done) | (have hry : roomy = 1048576 := rfl; simp [-List.getD_eq_getElem?_getD, okIx, okSlc, okApp, len_slcL, len_segL] <;> omega)) /- 1 -/ (cond_f (F := FF) (fun h0 => id) (fun h0 => hn0))) hF)))
theorem ct_slices_IndexFunc_int_minsat_Check_1 (s : List Ti64T) (f_0 : Int) (hw : VSs.wf e_slices_IndexFunc_int_minsat_Check_1.A (s, ((f_0, ()), ()), ())) (Q : Int × Unit → Prop) (hq : Q (e_slices_IndexFunc_int_minsat_Check_1.g (s, ((f_0, ()), ()), ()))) : EvF G_slices_IndexFunc_int_minsat_Check_1 tb_slices_IndexFunc_int_minsat_Check_1 c_slices_IndexFunc_int_minsat_Check_1 (VSs.enc e_slices_IndexFunc_int_minsat_Check_1.A (s, ((f_0, ()), ()), ())) (dq e_slices_IndexFunc_int_minsat_Check_1.R Q) := by
  have _ := hw
  let FF := (fun y : Int => Q (y, ()))
  refine EvF.of (in_slices_IndexFunc_int_minsat_Check_1 s f_0 Q) ?_
  exact (lp_slices_IndexFunc_int_minsat_Check_1_0 s f_0 Q hw) hq
/-! netverify/minsat.Core$1 -/
def G_minsat_Core_1 : Env := ⟨[], []⟩
def c_minsat_Core_1 : AFunc := AFunc.mk 7 1 [(.t 3)] (.seq (.region [(oI 3 (.mov (.c (.f (.bool false)))))] []) (.seq (.region [(oI 4 (.mov (.t 0))), (oI 5 (.load false 1 (.t 1))), (oI 6 (.bin .eql (.t 4) (.t 5))), (oI 3 (.mov (.t 6)))] []) .ret))
def tb_minsat_Core_1 : Tbl := fun _ => ([], .skip)
theorem ok_minsat_Core_1 : compF Tryd.prog [26, 27] Tryd.f28 = some c_minsat_Core_1.strip := by kernel_rfl
theorem tk_minsat_Core_1 : TblOk tb_minsat_Core_1 c_minsat_Core_1.body := ⟨trivial, ⟨trivial, trivial⟩⟩
theorem in_minsat_Core_1 (x0 : Int) (c1 : Ti64T) (Q : Bool × Unit → Prop) : evF G_minsat_Core_1 (Lfp G_minsat_Core_1 tb_minsat_Core_1) c_minsat_Core_1 (VSs.enc e_minsat_Core_1.A (x0, c1, ())) (dq e_minsat_Core_1.R Q) = (
  Q ((x0 == c1.1), ())) := by kernel_rfl
theorem au_minsat_Core_1 (x0 : Int) (c1 : Ti64T) (Q : Bool × Unit → Prop) : evF G_minsat_Core_1 (Lfp G_minsat_Core_1 tb_minsat_Core_1) c_minsat_Core_1 (VSs.enc e_minsat_Core_1.A (x0, c1, ())) (dq e_minsat_Core_1.R Q) = Q (e_minsat_Core_1.g (x0, c1, ())) := (in_minsat_Core_1 x0 c1 Q).trans rfl
/-! slices.IndexFunc(()int,int) -/
def G_slices_IndexFunc_int_minsat_Core_1 : Env := ⟨[e_minsat_Core_1], []⟩
def b_slices_IndexFunc_int_minsat_Core_1_0 : ACode := (.seq (.region [(oI 9 (.bin .lss (.t 8) (.t 7)))] []) (.seq (.cond 9 .skip (.exit 0)) (.seq (.block 1 (.seq (.region [(oI 10 (.mov (.t 8))), (oI 5 (.mov (.t 10)))] []) (.seq (.region [(oI 11 (.mov (.t 1))), (oI 12 (.mov (.t 0))), (oI 13 (.mov (.t 5))), (oI 14 (.ixa 1 (.t 12) (.t 13))), (oI 15 (.load false 1 (.t 14))), (oI 16 (.callv (.t 11) [(.t 15)]))] []) (.cond 16 (.seq (.region [(oI 17 (.mov (.t 5))), (oI 4 (.mov (.t 17)))] []) .ret) .skip)))) (.region [(oI 18 (.bin .add (.t 8) (.c (.f (.int .i64 1))))), (oI 8 (.mov (.t 18)))] []))))
def r_slices_IndexFunc_int_minsat_Core_1_0 : ACode := (.seq (.region [(oI 4 (.mov (.c (.f (.int .i64 (-1))))))] []) .ret)
def c_slices_IndexFunc_int_minsat_Core_1 : AFunc := AFunc.mk 19 2 [(.t 4)] (.seq (.region [(oI 4 (.mov (.c (.f (.int .i64 0)))))] []) (.seq (.seq (.region [(oI 6 (.mov (.t 0))), (oI 7 (.len (.t 6))), (oI 8 (.mov (.c (.f (.int .i64 0)))))] []) (.block 0 (.loop 0 [(0, .no), (1, .no), (7, .no), (8, .no)] b_slices_IndexFunc_int_minsat_Core_1_0))) r_slices_IndexFunc_int_minsat_Core_1_0))
def tb_slices_IndexFunc_int_minsat_Core_1 : Tbl
  | 0 => ([(0, .no), (1, .no), (7, .no), (8, .no)], b_slices_IndexFunc_int_minsat_Core_1_0)
  | _ => ([], .skip)
theorem ok_slices_IndexFunc_int_minsat_Core_1 : compF Tryd.prog [26, 27] Tryd.f38 = some c_slices_IndexFunc_int_minsat_Core_1.strip := by kernel_rfl
theorem tk_slices_IndexFunc_int_minsat_Core_1 : TblOk tb_slices_IndexFunc_int_minsat_Core_1 c_slices_IndexFunc_int_minsat_Core_1.body := ⟨trivial, ⟨⟨trivial, ⟨rfl, ⟨trivial, ⟨⟨trivial, trivial⟩, ⟨⟨trivial, ⟨trivial, ⟨⟨trivial, trivial⟩, trivial⟩⟩⟩, trivial⟩⟩⟩⟩⟩, ⟨trivial, trivial⟩⟩⟩
def k_slices_IndexFunc_int_minsat_Core_1_0 (Q : Int × Unit → Prop) : K := (kBlock 0 (kSeq (evC G_slices_IndexFunc_int_minsat_Core_1 (Lfp G_slices_IndexFunc_int_minsat_Core_1 tb_slices_IndexFunc_int_minsat_Core_1) r_slices_IndexFunc_int_minsat_Core_1_0) (kDone c_slices_IndexFunc_int_minsat_Core_1 (dq e_slices_IndexFunc_int_minsat_Core_1.R Q))))
def s_slices_IndexFunc_int_minsat_Core_1_0 (s : List Ti64T) (f_0 : Int) (v0 : Int) : St := ⟨[(0, [], .f (.fs Ti64S s)), (1, [], .f (.fn 28 [.fpt [.int .i64 f_0] 0])), (7, [], .f (.int .i64 (s.length : Int))), (8, [], .f (.int .i64 v0))], []⟩
def L_slices_IndexFunc_int_minsat_Core_1_0 (s : List Ti64T) (f_0 : Int) (v0 : Int) (Q : Int × Unit → Prop) : Prop := Lfp G_slices_IndexFunc_int_minsat_Core_1 tb_slices_IndexFunc_int_minsat_Core_1 0 (s_slices_IndexFunc_int_minsat_Core_1_0 s f_0 v0) (k_slices_IndexFunc_int_minsat_Core_1_0 Q)
theorem in_slices_IndexFunc_int_minsat_Core_1 (s : List Ti64T) (f_0 : Int) (Q : Int × Unit → Prop) : evF G_slices_IndexFunc_int_minsat_Core_1 (Lfp G_slices_IndexFunc_int_minsat_Core_1 tb_slices_IndexFunc_int_minsat_Core_1) c_slices_IndexFunc_int_minsat_Core_1 (VSs.enc e_slices_IndexFunc_int_minsat_Core_1.A (s, ((f_0, ()), ()), ())) (dq e_slices_IndexFunc_int_minsat_Core_1.R Q) = (
  L_slices_IndexFunc_int_minsat_Core_1_0 s f_0 0 Q) := by kernel_rfl
theorem rd_slices_IndexFunc_int_minsat_Core_1_0 (s : List Ti64T) (f_0 : Int) (v0 : Int) (Q : Int × Unit → Prop) (h :
  cond (decide (v0 < (s.length : Int)))
  (cond ((okIx v0 (s.length : Int)) && true)
    (cond (g_minsat_Core_1 (List.getD s (Int.toNat v0) Ti64D).1 (f_0, ()))
      (Q (v0, ()))
      (L_slices_IndexFunc_int_minsat_Core_1_0 s f_0 (IntKind.wrap .i64 (v0 + 1)) Q))
    False)
  (Q ((-1), ()))) : L_slices_IndexFunc_int_minsat_Core_1_0 s f_0 v0 Q := Lfp.step (Eq.mpr (by kernel_rfl) h)
theorem lp_slices_IndexFunc_int_minsat_Core_1_0 (s : List Ti64T) (f_0 : Int) (Q : Int × Unit → Prop) (hw : VSs.wf e_slices_IndexFunc_int_minsat_Core_1.A (s, ((f_0, ()), ()), ()))  : (fun y : Int => Q (y, ())) (S_slices_IndexFunc_int_minsat_Core_1_0 s f_0) → L_slices_IndexFunc_int_minsat_Core_1_0 s f_0 0 Q := by
  have _ := hw
  let FF := (fun y : Int => Q (y, ()))
  refine upV_loop (F := FF) (k := .i64) (n := s.length) (L := (fun c0 : Int => L_slices_IndexFunc_int_minsat_Core_1_0 s f_0 c0 Q)) (wrap_i64n (show _ ≤ _ from (hw.1).1)) (fun c0 hc0 hF => rd_slices_IndexFunc_int_minsat_Core_1_0 s f_0 (c0 : Int) Q (cond_ge (n := s.length) rfl hc0 (id hF))) (fun c0 _ hc0 next0 hn0 hF => rd_slices_IndexFunc_int_minsat_Core_1_0 s f_0 (c0 : Int) Q (cond_lt (n := s.length) rfl hc0 ((vc_f (F := FF) (by first | ((repeat' (first | rfl | exact nn_d64 _ | exact okIx_nat hc0 | refine and_t ?_ ?_ | refine or_l ?_)); done) | (simp [-List.getD_eq_getElem?_getD, okIx_nat hc0, nn_u64, nn_u32]; done) | (have hry : roomy = 1048576 := rfl; simp [-List.getD_eq_getElem?_getD, okIx, okSlc, okApp, len_slcL, len_segL] <;> omega)) /- 1 -/ (cond_f (F := FF) (fun h0 => id) (fun h0 => hn0))) hF)))
theorem ct_slices_IndexFunc_int_minsat_Core_1 (s : List Ti64T) (f_0 : Int) (hw : VSs.wf e_slices_IndexFunc_int_minsat_Core_1.A (s, ((f_0, ()), ()), ())) (Q : Int × Unit → Prop) (hq : Q (e_slices_IndexFunc_int_minsat_Core_1.g (s, ((f_0, ()), ()), ()))) : EvF G_slices_IndexFunc_int_minsat_Core_1 tb_slices_IndexFunc_int_minsat_Core_1 c_slices_IndexFunc_int_minsat_Core_1 (VSs.enc e_slices_IndexFunc_int_minsat_Core_1.A (s, ((f_0, ()), ()), ())) (dq e_slices_IndexFunc_int_minsat_Core_1.R Q) := by
  have _ := hw
  let FF := (fun y : Int => Q (y, ()))
  refine EvF.of (in_slices_IndexFunc_int_minsat_Core_1 s f_0 Q) ?_
  exact (lp_slices_IndexFunc_int_minsat_Core_1_0 s f_0 Q hw) hq
/-! slices.ContainsFunc(()int,int) -/
def G_slices_ContainsFunc_int_minsat_Check_1 : Env := ⟨[e_slices_IndexFunc_int_minsat_Check_1], []⟩
def c_slices_ContainsFunc_int_minsat_Check_1 : AFunc := AFunc.mk 9 2 [(.t 4)] (.seq (.region [(oI 4 (.mov (.c (.f (.bool false)))))] []) (.seq (.region [(oI 5 (.mov (.t 0))), (oI 6 (.mov (.t 1))), (oI 7 (.call 38 [(.t 5), (.t 6)])), (oI 8 (.bin .geq (.t 7) (.c (.f (.int .i64 0))))), (oI 4 (.mov (.t 8)))] []) .ret))
def tb_slices_ContainsFunc_int_minsat_Check_1 : Tbl := fun _ => ([], .skip)
theorem ok_slices_ContainsFunc_int_minsat_Check_1 : compF Tryd.prog [26, 27] Tryd.f32 = some c_slices_ContainsFunc_int_minsat_Check_1.strip := by kernel_rfl
theorem tk_slices_ContainsFunc_int_minsat_Check_1 : TblOk tb_slices_ContainsFunc_int_minsat_Check_1 c_slices_ContainsFunc_int_minsat_Check_1.body := ⟨trivial, ⟨trivial, trivial⟩⟩
theorem in_slices_ContainsFunc_int_minsat_Check_1 (s : List Ti64T) (f_0 : Int) (Q : Bool × Unit → Prop) : evF G_slices_ContainsFunc_int_minsat_Check_1 (Lfp G_slices_ContainsFunc_int_minsat_Check_1 tb_slices_ContainsFunc_int_minsat_Check_1) c_slices_ContainsFunc_int_minsat_Check_1 (VSs.enc e_slices_ContainsFunc_int_minsat_Check_1.A (s, ((f_0, ()), ()), ())) (dq e_slices_ContainsFunc_int_minsat_Check_1.R Q) = (
  Q ((decide ((g_slices_IndexFunc_int_minsat_Check_1 s f_0) ≥ 0)), ())) := by kernel_rfl
theorem au_slices_ContainsFunc_int_minsat_Check_1 (s : List Ti64T) (f_0 : Int) (Q : Bool × Unit → Prop) : evF G_slices_ContainsFunc_int_minsat_Check_1 (Lfp G_slices_ContainsFunc_int_minsat_Check_1 tb_slices_ContainsFunc_int_minsat_Check_1) c_slices_ContainsFunc_int_minsat_Check_1 (VSs.enc e_slices_ContainsFunc_int_minsat_Check_1.A (s, ((f_0, ()), ()), ())) (dq e_slices_ContainsFunc_int_minsat_Check_1.R Q) = Q (e_slices_ContainsFunc_int_minsat_Check_1.g (s, ((f_0, ()), ()), ())) := (in_slices_ContainsFunc_int_minsat_Check_1 s f_0 Q).trans rfl
/-! netverify/minsat.Check -/
def G_minsat_Check : Env := ⟨[e_slices_ContainsFunc_int_minsat_Check_1], []⟩
def b_minsat_Check_0 : ACode := (.seq (.region [(oI 21 (.bin .lss (.t 20) (.t 19)))] []) (.seq (.cond 21 .skip (.exit 0)) (.seq (.block 1 (.seq (.region [(oI 22 (.ixa 2 (.t 18) (.t 20))), (oI 23 (.load true 2 (.t 22))), (oI 7 (.alloc [(.f .nils), (.f .nils)])), (.mk none none (.store 2 (.t 7) (.t 23)))] []) (.seq (.region [(oI 24 (.fld 0 (.t 7))), (oI 25 (.load false 1 (.t 24))), (oI 26 (.mov (.t 5))), (oI 27 (.call 32 [(.t 25), (.t 26)])), (oI 28 (.mov (.t 27))), (.mk (some 29) (some (28, false)) (.fld 1 (.t 7))), (.mk (some 30) (some (28, false)) (.load false 1 (.t 29))), (.mk (some 31) (some (28, false)) (.mov (.t 5))), (.mk (some 32) (some (28, false)) (.call 32 [(.t 30), (.t 31)])), (oI 33 (.pick 28 (.c (.f (.bool true))) (.t 32)))] []) (.cond 33 (.seq (.region [(oI 4 (.mov (.c (.f (.int .i64 1)))))] []) .ret) .skip)))) (.region [(oI 34 (.bin .add (.t 20) (.c (.f (.int .i64 1))))), (oI 20 (.mov (.t 34)))] []))))
def r_minsat_Check_0 : ACode := (.seq (.region [(oI 4 (.mov (.c (.f (.int .i64 0)))))] []) .ret)
def c_minsat_Check : AFunc := AFunc.mk 35 2 [(.t 4)] (.seq (.region [(oI 2 (.box (.t 0))), (oI 4 (.mov (.c (.f (.int .i64 0)))))] []) (.seq (.seq (.region [(oI 8 (.load false 1 (.t 2))), (oI 9 (.bin .lss (.t 8) (.c (.f (.int .i64 0)))))] []) (.cond 9 (.seq (.region [(oI 4 (.mov (.c (.f (.int .i64 1)))))] []) .ret) .skip)) (.seq (.seq (.region [(oI 10 (.load false 1 (.t 2))), (oI 11 (.bin .gtr (.t 10) (.c (.f (.int .i64 24))))), (oI 12 (.mov (.t 11))), (.mk (some 13) (some (12, false)) (.mov (.t 1))), (.mk (some 14) (some (12, false)) (.len (.t 13))), (.mk (some 15) (some (12, false)) (.bin .gtr (.t 14) (.c (.f (.int .i64 64))))), (oI 16 (.pick 12 (.c (.f (.bool true))) (.t 15)))] []) (.cond 16 (.seq (.region [(oI 4 (.mov (.c (.f (.int .i64 7)))))] []) .ret) .skip)) (.seq (.region [(oI 17 (.mkfn 31 [(.t 2)])), (oI 5 (.mov (.t 17)))] []) (.seq (.seq (.region [(oI 18 (.mov (.t 1))), (oI 19 (.len (.t 18))), (oI 20 (.mov (.c (.f (.int .i64 0)))))] []) (.block 0 (.loop 0 [(5, .no), (18, .no), (19, .no), (20, .no)] b_minsat_Check_0))) r_minsat_Check_0)))))
def tb_minsat_Check : Tbl
  | 0 => ([(5, .no), (18, .no), (19, .no), (20, .no)], b_minsat_Check_0)
  | _ => ([], .skip)
theorem ok_minsat_Check : compF Tryd.prog [26, 27] Tryd.f19 = some c_minsat_Check.strip := by kernel_rfl
theorem tk_minsat_Check : TblOk tb_minsat_Check c_minsat_Check.body := ⟨trivial, ⟨⟨trivial, ⟨⟨trivial, trivial⟩, trivial⟩⟩, ⟨⟨trivial, ⟨⟨trivial, trivial⟩, trivial⟩⟩, ⟨trivial, ⟨⟨trivial, ⟨rfl, ⟨trivial, ⟨⟨trivial, trivial⟩, ⟨⟨trivial, ⟨trivial, ⟨⟨trivial, trivial⟩, trivial⟩⟩⟩, trivial⟩⟩⟩⟩⟩, ⟨trivial, trivial⟩⟩⟩⟩⟩⟩
def k_minsat_Check_0 (Q : Int × Unit → Prop) : K := (kBlock 0 (kSeq (evC G_minsat_Check (Lfp G_minsat_Check tb_minsat_Check) r_minsat_Check_0) (kDone c_minsat_Check (dq e_minsat_Check.R Q))))
def s_minsat_Check_0 (n : Int) (cs : List ConstraintT) (v0 : Int) : St := ⟨[(5, [], .fn 31 [.ptr 0 0]), (18, [], .f (.fs ConstraintS cs)), (19, [], .f (.int .i64 (cs.length : Int))), (20, [], .f (.int .i64 v0))], [.box none [.f (.int .i64 n)]]⟩
def L_minsat_Check_0 (n : Int) (cs : List ConstraintT) (v0 : Int) (Q : Int × Unit → Prop) : Prop := Lfp G_minsat_Check tb_minsat_Check 0 (s_minsat_Check_0 n cs v0) (k_minsat_Check_0 Q)
theorem in_minsat_Check (n : Int) (cs : List ConstraintT) (Q : Int × Unit → Prop) : evF G_minsat_Check (Lfp G_minsat_Check tb_minsat_Check) c_minsat_Check (VSs.enc e_minsat_Check.A (n, cs, ())) (dq e_minsat_Check.R Q) = (
  cond (decide (n < 0))
  (Q (1, ()))
  (cond ((decide (n > 24)) || (decide ((cs.length : Int) > 64)))
    (Q (7, ()))
    (L_minsat_Check_0 n cs 0 Q))) := by kernel_rfl
theorem rd_minsat_Check_0 (n : Int) (cs : List ConstraintT) (v0 : Int) (Q : Int × Unit → Prop) (h :
  cond (decide (v0 < (cs.length : Int)))
  (cond (okIx v0 (cs.length : Int))
    (cond ((g_slices_ContainsFunc_int_minsat_Check_1 (List.getD cs (Int.toNat v0) ConstraintD).1 n) || (g_slices_ContainsFunc_int_minsat_Check_1 (List.getD cs (Int.toNat v0) ConstraintD).2.1 n))
      (Q (1, ()))
      (L_minsat_Check_0 n cs (IntKind.wrap .i64 (v0 + 1)) Q))
    False)
  (Q (0, ()))) : L_minsat_Check_0 n cs v0 Q := Lfp.step (Eq.mpr (by kernel_rfl) h)
theorem lp_minsat_Check_0 (n : Int) (cs : List ConstraintT) (Q : Int × Unit → Prop) (hw : VSs.wf e_minsat_Check.A (n, cs, ()))  (g0 : (decide (n < 0)) = false) (g1 : ((decide (n > 24)) || (decide ((cs.length : Int) > 64))) = false) : (fun y : Int => Q (y, ())) (S_minsat_Check_0 n cs) → L_minsat_Check_0 n cs 0 Q := by
  have _ := hw
  have _ := g0
  have _ := g1
  let FF := (fun y : Int => Q (y, ()))
  refine upV_loop (F := FF) (k := .i64) (n := cs.length) (L := (fun c0 : Int => L_minsat_Check_0 n cs c0 Q)) (wrap_i64n (show _ ≤ _ from (hw.2.1).1)) (fun c0 hc0 hF => rd_minsat_Check_0 n cs (c0 : Int) Q (cond_ge (n := cs.length) rfl hc0 (id hF))) (fun c0 _ hc0 next0 hn0 hF => rd_minsat_Check_0 n cs (c0 : Int) Q (cond_lt (n := cs.length) rfl hc0 ((vc_f (F := FF) (by first | ((repeat' (first | rfl | exact nn_d64 _ | exact okIx_nat hc0 | refine and_t ?_ ?_ | refine or_l ?_)); done) | (simp [-List.getD_eq_getElem?_getD, okIx_nat hc0, nn_u64, nn_u32]; done) | (simp [-List.getD_eq_getElem?_getD, okIx_nat hc0, nn_u64, nn_u32, g0, g1]; done) | (have hry : roomy = 1048576 := rfl; simp [-List.getD_eq_getElem?_getD, okIx, okSlc, okApp, len_slcL, len_segL] at g0 g1 ⊢ <;> omega)) /- 1 -/ (cond_f (F := FF) (fun h2 => id) (fun h2 => hn0))) hF)))
theorem ct_minsat_Check (n : Int) (cs : List ConstraintT) (hw : VSs.wf e_minsat_Check.A (n, cs, ())) (Q : Int × Unit → Prop) (hq : Q (e_minsat_Check.g (n, cs, ()))) : EvF G_minsat_Check tb_minsat_Check c_minsat_Check (VSs.enc e_minsat_Check.A (n, cs, ())) (dq e_minsat_Check.R Q) := by
  have _ := hw
  let FF := (fun y : Int => Q (y, ()))
  refine EvF.of (in_minsat_Check n cs Q) ?_
  exact (cond_f (F := FF) (fun h0 => id) (fun h0 => (cond_f (F := FF) (fun h1 => id) (fun h1 => (lp_minsat_Check_0 n cs Q hw h0 h1))))) hq
/-! netverify/minsat.mask -/
def G_minsat_mask : Env := ⟨[], []⟩
def b_minsat_mask_0 : ACode := (.seq (.region [(oI 9 (.bin .lss (.t 8) (.t 7)))] []) (.seq (.cond 9 .skip (.exit 0)) (.seq (.block 1 (.seq (.region [(oI 10 (.ixa 1 (.t 6) (.t 8))), (oI 11 (.load false 1 (.t 10))), (oI 5 (.mov (.t 11)))] []) (.region [(oI 12 (.mov (.t 3))), (oI 13 (.mov (.t 5))), (oI 14 (.bin .shl (.c (.f (.int .u32 1))) (.t 13))), (oI 15 (.bin .or (.t 12) (.t 14))), (oI 3 (.mov (.t 15)))] []))) (.region [(oI 16 (.bin .add (.t 8) (.c (.f (.int .i64 1))))), (oI 8 (.mov (.t 16)))] []))))
def r_minsat_mask_0 : ACode := (.seq (.region [(oI 17 (.mov (.t 3))), (oI 2 (.mov (.t 17)))] []) .ret)
def c_minsat_mask : AFunc := AFunc.mk 18 1 [(.t 2)] (.seq (.region [(oI 2 (.mov (.c (.f (.int .u32 0)))))] []) (.seq (.region [(oI 3 (.mov (.c (.f (.int .u32 0)))))] []) (.seq (.seq (.region [(oI 6 (.mov (.t 0))), (oI 7 (.len (.t 6))), (oI 8 (.mov (.c (.f (.int .i64 0)))))] []) (.block 0 (.loop 0 [(3, .no), (6, .no), (7, .no), (8, .no)] b_minsat_mask_0))) r_minsat_mask_0)))
def tb_minsat_mask : Tbl
  | 0 => ([(3, .no), (6, .no), (7, .no), (8, .no)], b_minsat_mask_0)
  | _ => ([], .skip)
theorem ok_minsat_mask : compF Tryd.prog [26, 27] Tryd.f35 = some c_minsat_mask.strip := by kernel_rfl
theorem tk_minsat_mask : TblOk tb_minsat_mask c_minsat_mask.body := ⟨trivial, ⟨trivial, ⟨⟨trivial, ⟨rfl, ⟨trivial, ⟨⟨trivial, trivial⟩, ⟨⟨trivial, trivial⟩, trivial⟩⟩⟩⟩⟩, ⟨trivial, trivial⟩⟩⟩⟩
def k_minsat_mask_0 (Q : Int × Unit → Prop) : K := (kBlock 0 (kSeq (evC G_minsat_mask (Lfp G_minsat_mask tb_minsat_mask) r_minsat_mask_0) (kDone c_minsat_mask (dq e_minsat_mask.R Q))))
def s_minsat_mask_0 (l : List Ti64T) (v0 : Int) (v1 : Int) : St := ⟨[(3, [], .f (.int .u32 v0)), (6, [], .f (.fs Ti64S l)), (7, [], .f (.int .i64 (l.length : Int))), (8, [], .f (.int .i64 v1))], []⟩
def L_minsat_mask_0 (l : List Ti64T) (v0 : Int) (v1 : Int) (Q : Int × Unit → Prop) : Prop := Lfp G_minsat_mask tb_minsat_mask 0 (s_minsat_mask_0 l v0 v1) (k_minsat_mask_0 Q)
theorem in_minsat_mask (l : List Ti64T) (Q : Int × Unit → Prop) : evF G_minsat_mask (Lfp G_minsat_mask tb_minsat_mask) c_minsat_mask (VSs.enc e_minsat_mask.A (l, ())) (dq e_minsat_mask.R Q) = (
  L_minsat_mask_0 l 0 0 Q) := by kernel_rfl
theorem rd_minsat_mask_0 (l : List Ti64T) (v0 : Int) (v1 : Int) (Q : Int × Unit → Prop) (h :
  cond (decide (v1 < (l.length : Int)))
  (cond (okIx v1 (l.length : Int))
    (cond (decide (0 ≤ (List.getD l (Int.toNat v1) Ti64D).1))
      (L_minsat_mask_0 l (ior .u32 v0 (ishl .u32 1 (List.getD l (Int.toNat v1) Ti64D).1)) (IntKind.wrap .i64 (v1 + 1)) Q)
      False)
    False)
  (Q (v0, ()))) : L_minsat_mask_0 l v0 v1 Q := Lfp.step (Eq.mpr (by kernel_rfl) h)
theorem lp_minsat_mask_0 (l : List Ti64T) (v00 : Int) (Q : Int × Unit → Prop) (hw : VSs.wf e_minsat_mask.A (l, ())) (hp : p_minsat_mask l = true)  : (fun y : Int => Q (y, ())) (S_minsat_mask_0 l v00) → L_minsat_mask_0 l v00 0 Q := by
  have _ := hw
  have _ := hp
  let FF := (fun y : Int => Q (y, ()))
  refine upS_loop (F := FF) (k := .i64) (n := l.length) (I := fun _ _ => True) (L := (fun (c0 : Int) (s0 : Int) => L_minsat_mask_0 l s0 c0 Q)) (wrap_i64n (show _ ≤ _ from (hw.1).1)) (fun c0 hc0 s0 hI hF => rd_minsat_mask_0 l s0 (c0 : Int) Q (cond_ge (n := l.length) rfl hc0 (id hF))) (fun c0 _ hc0 next0 hn0 s0 hI hF => rd_minsat_mask_0 l s0 (c0 : Int) Q (cond_lt (n := l.length) rfl hc0 ((vc_f (F := FF) (by first | ((simp [-List.getD_eq_getElem?_getD, okIx_nat hc0, mask_at hp hc0]); done) | ((exact mask_at hp hc0); done) | ((repeat' (first | rfl | exact nn_d64 _ | exact okIx_nat hc0 | refine and_t ?_ ?_ | refine or_l ?_)); done) | (simp [-List.getD_eq_getElem?_getD, okIx_nat hc0, nn_u64, nn_u32]; done) | (have hry : roomy = 1048576 := rfl; simp [-List.getD_eq_getElem?_getD, okIx, okSlc, okApp, len_slcL, len_segL] <;> omega)) /- 1 -/ (vc_f (F := FF) (by first | ((simp [-List.getD_eq_getElem?_getD, okIx_nat hc0, mask_at hp hc0]); done) | ((exact mask_at hp hc0); done) | ((repeat' (first | rfl | exact nn_d64 _ | exact okIx_nat hc0 | refine and_t ?_ ?_ | refine or_l ?_)); done) | (simp [-List.getD_eq_getElem?_getD, okIx_nat hc0, nn_u64, nn_u32]; done) | (have hry : roomy = 1048576 := rfl; simp [-List.getD_eq_getElem?_getD, okIx, okSlc, okApp, len_slcL, len_segL] <;> omega)) /- 2 -/ (hn0 _ trivial))) hF))) v00 trivial
theorem ct_minsat_mask (l : List Ti64T) (hw : VSs.wf e_minsat_mask.A (l, ())) (hp : p_minsat_mask l = true) (Q : Int × Unit → Prop) (hq : Q (e_minsat_mask.g (l, ()))) : EvF G_minsat_mask tb_minsat_mask c_minsat_mask (VSs.enc e_minsat_mask.A (l, ())) (dq e_minsat_mask.R Q) := by
  have _ := hw
  let FF := (fun y : Int => Q (y, ()))
  refine EvF.of (in_minsat_mask l Q) ?_
  exact (lp_minsat_mask_0 l _ Q hw hp) hq
/-! netverify/minsat.clauses -/
def G_minsat_clauses : Env := ⟨[e_minsat_mask], []⟩
def b_minsat_clauses_0 : ACode := (.seq (.region [(oI 12 (.bin .lss (.t 11) (.t 10)))] []) (.seq (.cond 12 .skip (.exit 0)) (.seq (.block 1 (.seq (.region [(oI 13 (.mov (.t 11))), (oI 14 (.ixa 2 (.t 9) (.t 11))), (oI 15 (.load true 2 (.t 14))), (oI 5 (.alloc [(.f .nils), (.f .nils)])), (oI 4 (.mov (.t 13))), (.mk none none (.store 2 (.t 5) (.t 15)))] []) (.region [(oI 16 (.mov (.t 3))), (oI 17 (.mov (.t 4))), (oI 18 (.fld 0 (.t 5))), (oI 19 (.load false 1 (.t 18))), (oI 20 (.call 35 [(.t 19)])), (oI 21 (.fld 1 (.t 5))), (oI 22 (.load false 1 (.t 21))), (oI 23 (.call 35 [(.t 22)])), (oI 24 (.build [(.f (.int .u32 0)), (.f (.int .u32 0))] [(0, (1, (.t 20))), (1, (1, (.t 23)))])), (oI 25 (.ixa 2 (.t 16) (.t 17))), (.mk none none (.store 2 (.t 25) (.t 24)))] []))) (.region [(oI 26 (.bin .add (.t 11) (.c (.f (.int .i64 1))))), (oI 11 (.mov (.t 26)))] []))))
def r_minsat_clauses_0 : ACode := (.seq (.region [(oI 27 (.mov (.t 3))), (oI 2 (.mov (.t 27)))] []) .ret)
def c_minsat_clauses : AFunc := AFunc.mk 28 1 [(.t 2)] (.seq (.region [(oI 2 (.mov (.c (.f .nils))))] []) (.seq (.region [(oI 6 (.mov (.t 0))), (oI 7 (.len (.t 6))), (oI 8 (.mks clauseS (.t 7))), (oI 3 (.mov (.t 8)))] []) (.seq (.seq (.region [(oI 9 (.mov (.t 0))), (oI 10 (.len (.t 9))), (oI 11 (.mov (.c (.f (.int .i64 0)))))] []) (.block 0 (.loop 0 [(3, .no), (9, .no), (10, .no), (11, .no)] b_minsat_clauses_0))) r_minsat_clauses_0)))
def tb_minsat_clauses : Tbl
  | 0 => ([(3, .no), (9, .no), (10, .no), (11, .no)], b_minsat_clauses_0)
  | _ => ([], .skip)
theorem ok_minsat_clauses : compF Tryd.prog [26, 27] Tryd.f21 = some c_minsat_clauses.strip := by kernel_rfl
theorem tk_minsat_clauses : TblOk tb_minsat_clauses c_minsat_clauses.body := ⟨trivial, ⟨trivial, ⟨⟨trivial, ⟨rfl, ⟨trivial, ⟨⟨trivial, trivial⟩, ⟨⟨trivial, trivial⟩, trivial⟩⟩⟩⟩⟩, ⟨trivial, trivial⟩⟩⟩⟩
def k_minsat_clauses_0 (Q : (List clauseT) × Unit → Prop) : K := (kBlock 0 (kSeq (evC G_minsat_clauses (Lfp G_minsat_clauses tb_minsat_clauses) r_minsat_clauses_0) (kDone c_minsat_clauses (dq e_minsat_clauses.R Q))))
def s_minsat_clauses_0 (cs : List ConstraintT) (v0 : Int) (v1 : List clauseT) : St := ⟨[(3, [], .sl 0 2 0 (Int.toNat (cs.length : Int))), (9, [], .f (.fs ConstraintS cs)), (10, [], .f (.int .i64 (cs.length : Int))), (11, [], .f (.int .i64 v0))], [.row clauseS v1]⟩
def L_minsat_clauses_0 (cs : List ConstraintT) (v0 : Int) (v1 : List clauseT) (Q : (List clauseT) × Unit → Prop) : Prop := Lfp G_minsat_clauses tb_minsat_clauses 0 (s_minsat_clauses_0 cs v0 v1) (k_minsat_clauses_0 Q)
theorem in_minsat_clauses (cs : List ConstraintT) (Q : (List clauseT) × Unit → Prop) : evF G_minsat_clauses (Lfp G_minsat_clauses tb_minsat_clauses) c_minsat_clauses (VSs.enc e_minsat_clauses.A (cs, ())) (dq e_minsat_clauses.R Q) = (
  cond ((decide (0 ≤ (cs.length : Int))) && (decide ((cs.length : Int) ≤ (roomy : Int))))
  (L_minsat_clauses_0 cs 0 (List.replicate (Int.toNat (cs.length : Int)) clauseD) Q)
  False) := by kernel_rfl
theorem rd_minsat_clauses_0 (cs : List ConstraintT) (v0 : Int) (v1 : List clauseT) (Q : (List clauseT) × Unit → Prop) (h :
  cond (decide (v0 < (cs.length : Int)))
  (cond (okIx v0 (cs.length : Int))
    (cond (((p_minsat_mask (List.getD cs (Int.toNat v0) ConstraintD).1) && (p_minsat_mask (List.getD cs (Int.toNat v0) ConstraintD).2.1)) && (okIx v0 ((Int.toNat (cs.length : Int)) : Int)))
      (L_minsat_clauses_0 cs (IntKind.wrap .i64 (v0 + 1)) (List.set v1 (0 + (Int.toNat v0)) ((g_minsat_mask (List.getD cs (Int.toNat v0) ConstraintD).1), (g_minsat_mask (List.getD cs (Int.toNat v0) ConstraintD).2.1), ())) Q)
      False)
    False)
  (Q ((segL v1 0 (Int.toNat (cs.length : Int))), ()))) : L_minsat_clauses_0 cs v0 v1 Q := Lfp.step (Eq.mpr (by kernel_rfl) h)
theorem lp_minsat_clauses_0 (cs : List ConstraintT) (v10 : List clauseT) (Q : (List clauseT) × Unit → Prop) (hw : VSs.wf e_minsat_clauses.A (cs, ())) (hp : p_minsat_clauses cs = true)  : (fun y : List clauseT => Q (y, ())) (S_minsat_clauses_0 cs v10) → L_minsat_clauses_0 cs 0 v10 Q := by
  have _ := hw
  have _ := hp
  let FF := (fun y : List clauseT => Q (y, ()))
  refine upS_loop (F := FF) (k := .i64) (n := cs.length) (I := fun _ _ => True) (L := (fun (c0 : Int) (s0 : (List clauseT)) => L_minsat_clauses_0 cs c0 s0 Q)) (wrap_i64n (show _ ≤ _ from (hw.1).1)) (fun c0 hc0 s0 hI hF => rd_minsat_clauses_0 cs (c0 : Int) s0 Q (cond_ge (n := cs.length) rfl hc0 (id hF))) (fun c0 _ hc0 next0 hn0 s0 hI hF => rd_minsat_clauses_0 cs (c0 : Int) s0 Q (by (try simp only [Nat.zero_add, Int.toNat_natCast]); exact (cond_lt (n := cs.length) rfl hc0 ((vc_f (F := FF) (by first | ((have h9 := clauses_len hp; have hry : roomy = 1048576 := rfl; simp [-List.getD_eq_getElem?_getD, hry]; omega); done) | ((simp [-List.getD_eq_getElem?_getD, okIx_nat hc0, clauses_at hp hc0]); done) | ((repeat' (first | rfl | exact nn_d64 _ | exact okIx_nat hc0 | refine and_t ?_ ?_ | refine or_l ?_)); done) | (simp [-List.getD_eq_getElem?_getD, okIx_nat hc0, nn_u64, nn_u32]; done) | (have hry : roomy = 1048576 := rfl; simp [-List.getD_eq_getElem?_getD, okIx, okSlc, okApp, len_slcL, len_segL] <;> omega)) /- 1 -/ (vc_f (F := FF) (by first | ((have h9 := clauses_len hp; have hry : roomy = 1048576 := rfl; simp [-List.getD_eq_getElem?_getD, hry]; omega); done) | ((simp [-List.getD_eq_getElem?_getD, okIx_nat hc0, clauses_at hp hc0]); done) | ((repeat' (first | rfl | exact nn_d64 _ | exact okIx_nat hc0 | refine and_t ?_ ?_ | refine or_l ?_)); done) | (simp [-List.getD_eq_getElem?_getD, okIx_nat hc0, nn_u64, nn_u32]; done) | (have hry : roomy = 1048576 := rfl; simp [-List.getD_eq_getElem?_getD, okIx, okSlc, okApp, len_slcL, len_segL] <;> omega)) /- 2 -/ (hn0 _ trivial))) hF)))) v10 trivial
theorem ct_minsat_clauses (cs : List ConstraintT) (hw : VSs.wf e_minsat_clauses.A (cs, ())) (hp : p_minsat_clauses cs = true) (Q : (List clauseT) × Unit → Prop) (hq : Q (e_minsat_clauses.g (cs, ()))) : EvF G_minsat_clauses tb_minsat_clauses c_minsat_clauses (VSs.enc e_minsat_clauses.A (cs, ())) (dq e_minsat_clauses.R Q) := by
  have _ := hw
  let FF := (fun y : List clauseT => Q (y, ()))
  refine EvF.of (in_minsat_clauses cs Q) ?_
  exact (vc_f (F := FF) (by first | ((have h9 := clauses_len hp; have hry : roomy = 1048576 := rfl; simp [-List.getD_eq_getElem?_getD, hry]; omega); done) | ((simp [-List.getD_eq_getElem?_getD, okIx_nat hc0, clauses_at hp hc0]); done) | ((repeat' (first | rfl | exact nn_d64 _ | refine and_t ?_ ?_ | refine or_l ?_)); done) | (simp [-List.getD_eq_getElem?_getD, nn_u64, nn_u32]; done) | (have hry : roomy = 1048576 := rfl; simp [-List.getD_eq_getElem?_getD, okIx, okSlc, okApp, len_slcL, len_segL] <;> omega)) /- 3 -/ (lp_minsat_clauses_0 cs _ Q hw hp)) hq
/-! math/bits.OnesCount32 -/
def G_bits_OnesCount32 : Env := ⟨[], []⟩
def c_bits_OnesCount32 : AFunc := AFunc.mk 21 1 [(.t 2)] (.seq (.region [(oI 2 (.mov (.c (.f (.int .i64 0)))))] []) (.seq (.region [(oI 3 (.mov (.t 0))), (oI 4 (.bin .shr (.t 3) (.c (.f (.int .u64 24))))), (oI 5 (.ixs (.c (.f (.str [0, 1, 1, 2, 1, 2, 2, 3, 1, 2, 2, 3, 2, 3, 3, 4, 1, 2, 2, 3, 2, 3, 3, 4, 2, 3, 3, 4, 3, 4, 4, 5, 1, 2, 2, 3, 2, 3, 3, 4, 2, 3, 3, 4, 3, 4, 4, 5, 2, 3, 3, 4, 3, 4, 4, 5, 3, 4, 4, 5, 4, 5, 5, 6, 1, 2, 2, 3, 2, 3, 3, 4, 2, 3, 3, 4, 3, 4, 4, 5, 2, 3, 3, 4, 3, 4, 4, 5, 3, 4, 4, 5, 4, 5, 5, 6, 2, 3, 3, 4, 3, 4, 4, 5, 3, 4, 4, 5, 4, 5, 5, 6, 3, 4, 4, 5, 4, 5, 5, 6, 4, 5, 5, 6, 5, 6, 6, 7, 1, 2, 2, 3, 2, 3, 3, 4, 2, 3, 3, 4, 3, 4, 4, 5, 2, 3, 3, 4, 3, 4, 4, 5, 3, 4, 4, 5, 4, 5, 5, 6, 2, 3, 3, 4, 3, 4, 4, 5, 3, 4, 4, 5, 4, 5, 5, 6, 3, 4, 4, 5, 4, 5, 5, 6, 4, 5, 5, 6, 5, 6, 6, 7, 2, 3, 3, 4, 3, 4, 4, 5, 3, 4, 4, 5, 4, 5, 5, 6, 3, 4, 4, 5, 4, 5, 5, 6, 4, 5, 5, 6, 5, 6, 6, 7, 3, 4, 4, 5, 4, 5, 5, 6, 4, 5, 5, 6, 5, 6, 6, 7, 4, 5, 5, 6, 5, 6, 6, 7, 5, 6, 6, 7, 6, 7, 7, 8]))) (.t 4))), (oI 6 (.mov (.t 0))), (oI 7 (.bin .shr (.t 6) (.c (.f (.int .u64 16))))), (oI 8 (.bin .and (.t 7) (.c (.f (.int .u32 255))))), (oI 9 (.ixs (.c (.f (.str [0, 1, 1, 2, 1, 2, 2, 3, 1, 2, 2, 3, 2, 3, 3, 4, 1, 2, 2, 3, 2, 3, 3, 4, 2, 3, 3, 4, 3, 4, 4, 5, 1, 2, 2, 3, 2, 3, 3, 4, 2, 3, 3, 4, 3, 4, 4, 5, 2, 3, 3, 4, 3, 4, 4, 5, 3, 4, 4, 5, 4, 5, 5, 6, 1, 2, 2, 3, 2, 3, 3, 4, 2, 3, 3, 4, 3, 4, 4, 5, 2, 3, 3, 4, 3, 4, 4, 5, 3, 4, 4, 5, 4, 5, 5, 6, 2, 3, 3, 4, 3, 4, 4, 5, 3, 4, 4, 5, 4, 5, 5, 6, 3, 4, 4, 5, 4, 5, 5, 6, 4, 5, 5, 6, 5, 6, 6, 7, 1, 2, 2, 3, 2, 3, 3, 4, 2, 3, 3, 4, 3, 4, 4, 5, 2, 3, 3, 4, 3, 4, 4, 5, 3, 4, 4, 5, 4, 5, 5, 6, 2, 3, 3, 4, 3, 4, 4, 5, 3, 4, 4, 5, 4, 5, 5, 6, 3, 4, 4, 5, 4, 5, 5, 6, 4, 5, 5, 6, 5, 6, 6, 7, 2, 3, 3, 4, 3, 4, 4, 5, 3, 4, 4, 5, 4, 5, 5, 6, 3, 4, 4, 5, 4, 5, 5, 6, 4, 5, 5, 6, 5, 6, 6, 7, 3, 4, 4, 5, 4, 5, 5, 6, 4, 5, 5, 6, 5, 6, 6, 7, 4, 5, 5, 6, 5, 6, 6, 7, 5, 6, 6, 7, 6, 7, 7, 8]))) (.t 8))), (oI 10 (.bin .add (.t 5) (.t 9))), (oI 11 (.mov (.t 0))), (oI 12 (.bin .shr (.t 11) (.c (.f (.int .u64 8))))), (oI 13 (.bin .and (.t 12) (.c (.f (.int .u32 255))))), (oI 14 (.ixs (.c (.f (.str [0, 1, 1, 2, 1, 2, 2, 3, 1, 2, 2, 3, 2, 3, 3, 4, 1, 2, 2, 3, 2, 3, 3, 4, 2, 3, 3, 4, 3, 4, 4, 5, 1, 2, 2, 3, 2, 3, 3, 4, 2, 3, 3, 4, 3, 4, 4, 5, 2, 3, 3, 4, 3, 4, 4, 5, 3, 4, 4, 5, 4, 5, 5, 6, 1, 2, 2, 3, 2, 3, 3, 4, 2, 3, 3, 4, 3, 4, 4, 5, 2, 3, 3, 4, 3, 4, 4, 5, 3, 4, 4, 5, 4, 5, 5, 6, 2, 3, 3, 4, 3, 4, 4, 5, 3, 4, 4, 5, 4, 5, 5, 6, 3, 4, 4, 5, 4, 5, 5, 6, 4, 5, 5, 6, 5, 6, 6, 7, 1, 2, 2, 3, 2, 3, 3, 4, 2, 3, 3, 4, 3, 4, 4, 5, 2, 3, 3, 4, 3, 4, 4, 5, 3, 4, 4, 5, 4, 5, 5, 6, 2, 3, 3, 4, 3, 4, 4, 5, 3, 4, 4, 5, 4, 5, 5, 6, 3, 4, 4, 5, 4, 5, 5, 6, 4, 5, 5, 6, 5, 6, 6, 7, 2, 3, 3, 4, 3, 4, 4, 5, 3, 4, 4, 5, 4, 5, 5, 6, 3, 4, 4, 5, 4, 5, 5, 6, 4, 5, 5, 6, 5, 6, 6, 7, 3, 4, 4, 5, 4, 5, 5, 6, 4, 5, 5, 6, 5, 6, 6, 7, 4, 5, 5, 6, 5, 6, 6, 7, 5, 6, 6, 7, 6, 7, 7, 8]))) (.t 13))), (oI 15 (.bin .add (.t 10) (.t 14))), (oI 16 (.mov (.t 0))), (oI 17 (.bin .and (.t 16) (.c (.f (.int .u32 255))))), (oI 18 (.ixs (.c (.f (.str [0, 1, 1, 2, 1, 2, 2, 3, 1, 2, 2, 3, 2, 3, 3, 4, 1, 2, 2, 3, 2, 3, 3, 4, 2, 3, 3, 4, 3, 4, 4, 5, 1, 2, 2, 3, 2, 3, 3, 4, 2, 3, 3, 4, 3, 4, 4, 5, 2, 3, 3, 4, 3, 4, 4, 5, 3, 4, 4, 5, 4, 5, 5, 6, 1, 2, 2, 3, 2, 3, 3, 4, 2, 3, 3, 4, 3, 4, 4, 5, 2, 3, 3, 4, 3, 4, 4, 5, 3, 4, 4, 5, 4, 5, 5, 6, 2, 3, 3, 4, 3, 4, 4, 5, 3, 4, 4, 5, 4, 5, 5, 6, 3, 4, 4, 5, 4, 5, 5, 6, 4, 5, 5, 6, 5, 6, 6, 7, 1, 2, 2, 3, 2, 3, 3, 4, 2, 3, 3, 4, 3, 4, 4, 5, 2, 3, 3, 4, 3, 4, 4, 5, 3, 4, 4, 5, 4, 5, 5, 6, 2, 3, 3, 4, 3, 4, 4, 5, 3, 4, 4, 5, 4, 5, 5, 6, 3, 4, 4, 5, 4, 5, 5, 6, 4, 5, 5, 6, 5, 6, 6, 7, 2, 3, 3, 4, 3, 4, 4, 5, 3, 4, 4, 5, 4, 5, 5, 6, 3, 4, 4, 5, 4, 5, 5, 6, 4, 5, 5, 6, 5, 6, 6, 7, 3, 4, 4, 5, 4, 5, 5, 6, 4, 5, 5, 6, 5, 6, 6, 7, 4, 5, 5, 6, 5, 6, 6, 7, 5, 6, 6, 7, 6, 7, 7, 8]))) (.t 17))), (oI 19 (.bin .add (.t 15) (.t 18))), (oI 20 (.conv .i64 (.t 19))), (oI 2 (.mov (.t 20)))] []) .ret))
def tb_bits_OnesCount32 : Tbl := fun _ => ([], .skip)
theorem ok_bits_OnesCount32 : compF Tryd.prog [26, 27] Tryd.f40 = some c_bits_OnesCount32.strip := by kernel_rfl
theorem tk_bits_OnesCount32 : TblOk tb_bits_OnesCount32 c_bits_OnesCount32.body := ⟨trivial, ⟨trivial, trivial⟩⟩
theorem in_bits_OnesCount32 (x0 : Int) (Q : Int × Unit → Prop) : evF G_bits_OnesCount32 (Lfp G_bits_OnesCount32 tb_bits_OnesCount32) c_bits_OnesCount32 (VSs.enc e_bits_OnesCount32.A (x0, ())) (dq e_bits_OnesCount32.R Q) = (
  cond ((((((okIx (ishr .u32 x0 24) 256) && true) && (okIx (iand .u32 (ishr .u32 x0 16) 255) 256)) && true) && (okIx (iand .u32 (ishr .u32 x0 8) 255) 256)) && (okIx (iand .u32 x0 255) 256))
  (Q ((IntKind.wrap .i64 (IntKind.wrap .u8 ((IntKind.wrap .u8 ((IntKind.wrap .u8 ((byteAt [0, 1, 1, 2, 1, 2, 2, 3, 1, 2, 2, 3, 2, 3, 3, 4, 1, 2, 2, 3, 2, 3, 3, 4, 2, 3, 3, 4, 3, 4, 4, 5, 1, 2, 2, 3, 2, 3, 3, 4, 2, 3, 3, 4, 3, 4, 4, 5, 2, 3, 3, 4, 3, 4, 4, 5, 3, 4, 4, 5, 4, 5, 5, 6, 1, 2, 2, 3, 2, 3, 3, 4, 2, 3, 3, 4, 3, 4, 4, 5, 2, 3, 3, 4, 3, 4, 4, 5, 3, 4, 4, 5, 4, 5, 5, 6, 2, 3, 3, 4, 3, 4, 4, 5, 3, 4, 4, 5, 4, 5, 5, 6, 3, 4, 4, 5, 4, 5, 5, 6, 4, 5, 5, 6, 5, 6, 6, 7, 1, 2, 2, 3, 2, 3, 3, 4, 2, 3, 3, 4, 3, 4, 4, 5, 2, 3, 3, 4, 3, 4, 4, 5, 3, 4, 4, 5, 4, 5, 5, 6, 2, 3, 3, 4, 3, 4, 4, 5, 3, 4, 4, 5, 4, 5, 5, 6, 3, 4, 4, 5, 4, 5, 5, 6, 4, 5, 5, 6, 5, 6, 6, 7, 2, 3, 3, 4, 3, 4, 4, 5, 3, 4, 4, 5, 4, 5, 5, 6, 3, 4, 4, 5, 4, 5, 5, 6, 4, 5, 5, 6, 5, 6, 6, 7, 3, 4, 4, 5, 4, 5, 5, 6, 4, 5, 5, 6, 5, 6, 6, 7, 4, 5, 5, 6, 5, 6, 6, 7, 5, 6, 6, 7, 6, 7, 7, 8] (ishr .u32 x0 24)) + (byteAt [0, 1, 1, 2, 1, 2, 2, 3, 1, 2, 2, 3, 2, 3, 3, 4, 1, 2, 2, 3, 2, 3, 3, 4, 2, 3, 3, 4, 3, 4, 4, 5, 1, 2, 2, 3, 2, 3, 3, 4, 2, 3, 3, 4, 3, 4, 4, 5, 2, 3, 3, 4, 3, 4, 4, 5, 3, 4, 4, 5, 4, 5, 5, 6, 1, 2, 2, 3, 2, 3, 3, 4, 2, 3, 3, 4, 3, 4, 4, 5, 2, 3, 3, 4, 3, 4, 4, 5, 3, 4, 4, 5, 4, 5, 5, 6, 2, 3, 3, 4, 3, 4, 4, 5, 3, 4, 4, 5, 4, 5, 5, 6, 3, 4, 4, 5, 4, 5, 5, 6, 4, 5, 5, 6, 5, 6, 6, 7, 1, 2, 2, 3, 2, 3, 3, 4, 2, 3, 3, 4, 3, 4, 4, 5, 2, 3, 3, 4, 3, 4, 4, 5, 3, 4, 4, 5, 4, 5, 5, 6, 2, 3, 3, 4, 3, 4, 4, 5, 3, 4, 4, 5, 4, 5, 5, 6, 3, 4, 4, 5, 4, 5, 5, 6, 4, 5, 5, 6, 5, 6, 6, 7, 2, 3, 3, 4, 3, 4, 4, 5, 3, 4, 4, 5, 4, 5, 5, 6, 3, 4, 4, 5, 4, 5, 5, 6, 4, 5, 5, 6, 5, 6, 6, 7, 3, 4, 4, 5, 4, 5, 5, 6, 4, 5, 5, 6, 5, 6, 6, 7, 4, 5, 5, 6, 5, 6, 6, 7, 5, 6, 6, 7, 6, 7, 7, 8] (iand .u32 (ishr .u32 x0 16) 255)))) + (byteAt [0, 1, 1, 2, 1, 2, 2, 3, 1, 2, 2, 3, 2, 3, 3, 4, 1, 2, 2, 3, 2, 3, 3, 4, 2, 3, 3, 4, 3, 4, 4, 5, 1, 2, 2, 3, 2, 3, 3, 4, 2, 3, 3, 4, 3, 4, 4, 5, 2, 3, 3, 4, 3, 4, 4, 5, 3, 4, 4, 5, 4, 5, 5, 6, 1, 2, 2, 3, 2, 3, 3, 4, 2, 3, 3, 4, 3, 4, 4, 5, 2, 3, 3, 4, 3, 4, 4, 5, 3, 4, 4, 5, 4, 5, 5, 6, 2, 3, 3, 4, 3, 4, 4, 5, 3, 4, 4, 5, 4, 5, 5, 6, 3, 4, 4, 5, 4, 5, 5, 6, 4, 5, 5, 6, 5, 6, 6, 7, 1, 2, 2, 3, 2, 3, 3, 4, 2, 3, 3, 4, 3, 4, 4, 5, 2, 3, 3, 4, 3, 4, 4, 5, 3, 4, 4, 5, 4, 5, 5, 6, 2, 3, 3, 4, 3, 4, 4, 5, 3, 4, 4, 5, 4, 5, 5, 6, 3, 4, 4, 5, 4, 5, 5, 6, 4, 5, 5, 6, 5, 6, 6, 7, 2, 3, 3, 4, 3, 4, 4, 5, 3, 4, 4, 5, 4, 5, 5, 6, 3, 4, 4, 5, 4, 5, 5, 6, 4, 5, 5, 6, 5, 6, 6, 7, 3, 4, 4, 5, 4, 5, 5, 6, 4, 5, 5, 6, 5, 6, 6, 7, 4, 5, 5, 6, 5, 6, 6, 7, 5, 6, 6, 7, 6, 7, 7, 8] (iand .u32 (ishr .u32 x0 8) 255)))) + (byteAt [0, 1, 1, 2, 1, 2, 2, 3, 1, 2, 2, 3, 2, 3, 3, 4, 1, 2, 2, 3, 2, 3, 3, 4, 2, 3, 3, 4, 3, 4, 4, 5, 1, 2, 2, 3, 2, 3, 3, 4, 2, 3, 3, 4, 3, 4, 4, 5, 2, 3, 3, 4, 3, 4, 4, 5, 3, 4, 4, 5, 4, 5, 5, 6, 1, 2, 2, 3, 2, 3, 3, 4, 2, 3, 3, 4, 3, 4, 4, 5, 2, 3, 3, 4, 3, 4, 4, 5, 3, 4, 4, 5, 4, 5, 5, 6, 2, 3, 3, 4, 3, 4, 4, 5, 3, 4, 4, 5, 4, 5, 5, 6, 3, 4, 4, 5, 4, 5, 5, 6, 4, 5, 5, 6, 5, 6, 6, 7, 1, 2, 2, 3, 2, 3, 3, 4, 2, 3, 3, 4, 3, 4, 4, 5, 2, 3, 3, 4, 3, 4, 4, 5, 3, 4, 4, 5, 4, 5, 5, 6, 2, 3, 3, 4, 3, 4, 4, 5, 3, 4, 4, 5, 4, 5, 5, 6, 3, 4, 4, 5, 4, 5, 5, 6, 4, 5, 5, 6, 5, 6, 6, 7, 2, 3, 3, 4, 3, 4, 4, 5, 3, 4, 4, 5, 4, 5, 5, 6, 3, 4, 4, 5, 4, 5, 5, 6, 4, 5, 5, 6, 5, 6, 6, 7, 3, 4, 4, 5, 4, 5, 5, 6, 4, 5, 5, 6, 5, 6, 6, 7, 4, 5, 5, 6, 5, 6, 6, 7, 5, 6, 6, 7, 6, 7, 7, 8] (iand .u32 x0 255))))), ()))
  False) := by kernel_rfl
theorem ct_bits_OnesCount32 (x0 : Int) (hw : VSs.wf e_bits_OnesCount32.A (x0, ())) (Q : Int × Unit → Prop) (hq : Q (e_bits_OnesCount32.g (x0, ()))) : EvF G_bits_OnesCount32 tb_bits_OnesCount32 c_bits_OnesCount32 (VSs.enc e_bits_OnesCount32.A (x0, ())) (dq e_bits_OnesCount32.R Q) := by
  have _ := hw
  let FF := (fun y : Int => Q (y, ()))
  refine EvF.of (in_bits_OnesCount32 x0 Q) ?_
  exact (vc_f (F := FF) (by have h := oc_ix (u32_of hw.1); simp [-List.getD_eq_getElem?_getD, h]) id) hq
/-! (netverify/minsat.search).propagate -/
def G_fn_36 : Env := ⟨[e_bits_OnesCount32], []⟩
def b_fn_36_1 : ACode := (.seq (.region [(oI 40 (.bin .lss (.t 39) (.t 38)))] []) (.seq (.cond 40 .skip (.exit 2)) (.seq (.block 3 (.seq (.region [(oI 41 (.ixa 2 (.t 37) (.t 39))), (oI 42 (.load true 2 (.t 41))), (oI 15 (.alloc [(.f (.int .u32 0)), (.f (.int .u32 0))])), (.mk none none (.store 2 (.t 15) (.t 42)))] []) (.seq (.seq (.region [(oI 43 (.fld 0 (.t 15))), (oI 44 (.load false 1 (.t 43))), (oI 45 (.mov (.t 1))), (oI 46 (.bin .and (.t 44) (.t 45))), (oI 47 (.bin .neq (.t 46) (.c (.f (.int .u32 0))))), (oI 48 (.mov (.t 47))), (.mk (some 49) (some (48, false)) (.fld 1 (.t 15))), (.mk (some 50) (some (48, false)) (.load false 1 (.t 49))), (.mk (some 51) (some (48, false)) (.mov (.t 2))), (.mk (some 52) (some (48, false)) (.bin .and (.t 50) (.t 51))), (.mk (some 53) (some (48, false)) (.bin .neq (.t 52) (.c (.f (.int .u32 0))))), (oI 54 (.pick 48 (.c (.f (.bool true))) (.t 53)))] []) (.cond 54 (.exit 3) .skip)) (.seq (.region [(oI 55 (.fld 0 (.t 15))), (oI 56 (.load false 1 (.t 55))), (oI 57 (.mov (.t 2))), (oI 58 (.bin .andNot (.t 56) (.t 57))), (oI 59 (.fld 1 (.t 15))), (oI 60 (.load false 1 (.t 59))), (oI 61 (.mov (.t 1))), (oI 62 (.bin .andNot (.t 60) (.t 61))), (oI 16 (.mov (.t 58))), (oI 17 (.mov (.t 62)))] []) (.seq (.region [(oI 63 (.mov (.t 16))), (oI 64 (.call 40 [(.t 63)])), (oI 65 (.mov (.t 17))), (oI 66 (.call 40 [(.t 65)])), (oI 67 (.bin .add (.t 64) (.t 66)))] []) (.block 4 (.seq (.region [(oI 69 (.bin .eql (.t 67) (.c (.f (.int .i64 0))))), (oI 68 (.mov (.t 69)))] []) (.cond 68 (.seq (.region [(oI 8 (.mov (.c (.f (.int .u32 0))))), (oI 9 (.mov (.c (.f (.int .u32 0))))), (oI 10 (.mov (.c (.f (.bool false)))))] []) .ret) (.seq (.region [(oI 71 (.bin .eql (.t 67) (.c (.f (.int .i64 1))))), (oI 70 (.mov (.t 71)))] []) (.cond 70 (.seq (.region [(oI 72 (.mov (.t 1))), (oI 73 (.mov (.t 16))), (oI 74 (.bin .or (.t 72) (.t 73))), (oI 1 (.mov (.t 74)))] []) (.region [(oI 75 (.mov (.t 2))), (oI 76 (.mov (.t 17))), (oI 77 (.bin .or (.t 75) (.t 76))), (oI 2 (.mov (.t 77)))] [])) .skip)))))))))) (.region [(oI 78 (.bin .add (.t 39) (.c (.f (.int .i64 1))))), (oI 39 (.mov (.t 78)))] []))))
def r_fn_36_0 : ACode := (.seq (.region [(oI 79 (.mov (.t 1))), (oI 80 (.mov (.t 2))), (oI 81 (.bin .or (.t 79) (.t 80))), (oI 82 (.mov (.t 13))), (oI 83 (.bin .eql (.t 81) (.t 82)))] []) (.cond 83 (.seq (.region [(oI 84 (.mov (.t 1))), (oI 85 (.mov (.t 2))), (oI 8 (.mov (.t 84))), (oI 9 (.mov (.t 85))), (oI 10 (.mov (.c (.f (.bool true)))))] []) .ret) .skip))
def b_fn_36_0 : ACode := (.block 1 (.seq (.region [(oI 22 (.mov (.t 1))), (oI 23 (.call 40 [(.t 22)])), (oI 12 (.mov (.t 23)))] []) (.seq (.seq (.region [(oI 24 (.mov (.t 12))), (oI 25 (.mov (.t 3))), (oI 26 (.bin .gtr (.t 24) (.t 25)))] []) (.cond 26 (.seq (.region [(oI 8 (.mov (.c (.f (.int .u32 0))))), (oI 9 (.mov (.c (.f (.int .u32 0))))), (oI 10 (.mov (.c (.f (.bool false)))))] []) .ret) .skip)) (.seq (.region [(oI 27 (.mov (.t 1))), (oI 28 (.mov (.t 2))), (oI 29 (.bin .or (.t 27) (.t 28))), (oI 13 (.mov (.t 29)))] []) (.seq (.seq (.region [(oI 30 (.mov (.t 12))), (oI 31 (.mov (.t 3))), (oI 32 (.bin .eql (.t 30) (.t 31)))] []) (.cond 32 (.region [(oI 33 (.mov (.t 11))), (oI 34 (.mov (.t 1))), (oI 35 (.bin .andNot (.t 33) (.t 34))), (oI 2 (.mov (.t 35)))] []) .skip)) (.seq (.seq (.region [(oI 36 (.fld 1 (.t 4))), (oI 37 (.load false 1 (.t 36))), (oI 38 (.len (.t 37))), (oI 39 (.mov (.c (.f (.int .i64 0)))))] []) (.block 2 (.loop 1 [(1, .no), (2, .no), (3, .no), (4, .no), (11, .no), (13, .no), (37, .no), (38, .no), (39, .no)] b_fn_36_1))) r_fn_36_0))))))
def c_fn_36 : AFunc := AFunc.mk 86 4 [(.t 8), (.t 9), (.t 10)] (.seq (.region [(oI 4 (.box (.t 0))), (oI 8 (.mov (.c (.f (.int .u32 0))))), (oI 9 (.mov (.c (.f (.int .u32 0))))), (oI 10 (.mov (.c (.f (.bool false)))))] []) (.seq (.region [(oI 18 (.fld 0 (.t 4))), (oI 19 (.load false 1 (.t 18))), (oI 20 (.bin .shl (.c (.f (.int .u32 1))) (.t 19))), (oI 21 (.bin .sub (.t 20) (.c (.f (.int .u32 1))))), (oI 11 (.mov (.t 21)))] []) (.block 0 (.loop 0 [(1, .no), (2, .no), (3, .no), (4, .no), (11, .no)] b_fn_36_0))))
def tb_fn_36 : Tbl
  | 0 => ([(1, .no), (2, .no), (3, .no), (4, .no), (11, .no)], b_fn_36_0)
  | 1 => ([(1, .no), (2, .no), (3, .no), (4, .no), (11, .no), (13, .no), (37, .no), (38, .no), (39, .no)], b_fn_36_1)
  | _ => ([], .skip)
theorem ok_fn_36 : compF Tryd.prog [26, 27] Tryd.f36 = some c_fn_36.strip := by kernel_rfl
theorem tk_fn_36 : TblOk tb_fn_36 c_fn_36.body := ⟨trivial, ⟨trivial, ⟨rfl, ⟨trivial, ⟨⟨trivial, ⟨⟨trivial, trivial⟩, trivial⟩⟩, ⟨trivial, ⟨⟨trivial, ⟨trivial, trivial⟩⟩, ⟨⟨trivial, ⟨rfl, ⟨trivial, ⟨⟨trivial, trivial⟩, ⟨⟨trivial, ⟨⟨trivial, ⟨trivial, trivial⟩⟩, ⟨trivial, ⟨trivial, ⟨trivial, ⟨⟨trivial, trivial⟩, ⟨trivial, ⟨⟨trivial, trivial⟩, trivial⟩⟩⟩⟩⟩⟩⟩⟩, trivial⟩⟩⟩⟩⟩, ⟨trivial, ⟨⟨trivial, trivial⟩, trivial⟩⟩⟩⟩⟩⟩⟩⟩⟩⟩
def k_fn_36_0 (Q : Int × Int × Bool × Unit → Prop) : K := (kBlock 0 (kDone c_fn_36 (dq e_fn_36.R Q)))
def s_fn_36_0 (s : searchT) (yes : Int) (no : Int) (most : Int) (v0 : Int) (v1 : Int) : St := ⟨[(1, [], .f (.int .u32 v1)), (2, [], .f (.int .u32 v0)), (3, [], .f (.int .i64 most)), (4, [], .ptr 0 0), (11, [], .f (.int .u32 (IntKind.wrap .u32 ((ishl .u32 1 s.1) - 1))))], [.box none [.f (.int .i64 s.1), .f (.fs clauseS s.2.1)]]⟩
def L_fn_36_0 (s : searchT) (yes : Int) (no : Int) (most : Int) (v0 : Int) (v1 : Int) (Q : Int × Int × Bool × Unit → Prop) : Prop := Lfp G_fn_36 tb_fn_36 0 (s_fn_36_0 s yes no most v0 v1) (k_fn_36_0 Q)
def k_fn_36_1 (Q : Int × Int × Bool × Unit → Prop) : K := (kBlock 2 (kSeq (evC G_fn_36 (Lfp G_fn_36 tb_fn_36) r_fn_36_0) (kBlock 1 (kLoop [(1, .no), (2, .no), (3, .no), (4, .no), (11, .no)] (Lfp G_fn_36 tb_fn_36 0) (k_fn_36_0 Q)))))
def s_fn_36_1 (s : searchT) (yes : Int) (no : Int) (most : Int) (v0 : Int) (v1 : Int) (v2 : Int) (v3 : Int) : St := ⟨[(1, [], .f (.int .u32 v2)), (2, [], .f (.int .u32 v0)), (3, [], .f (.int .i64 most)), (4, [], .ptr 0 0), (11, [], .f (.int .u32 (IntKind.wrap .u32 ((ishl .u32 1 s.1) - 1)))), (13, [], .f (.int .u32 v3)), (37, [], .f (.fs clauseS s.2.1)), (38, [], .f (.int .i64 (s.2.1.length : Int))), (39, [], .f (.int .i64 v1))], [.box none [.f (.int .i64 s.1), .f (.fs clauseS s.2.1)]]⟩
def L_fn_36_1 (s : searchT) (yes : Int) (no : Int) (most : Int) (v0 : Int) (v1 : Int) (v2 : Int) (v3 : Int) (Q : Int × Int × Bool × Unit → Prop) : Prop := Lfp G_fn_36 tb_fn_36 1 (s_fn_36_1 s yes no most v0 v1 v2 v3) (k_fn_36_1 Q)
theorem in_fn_36 (s : searchT) (yes : Int) (no : Int) (most : Int) (Q : Int × Int × Bool × Unit → Prop) : evF G_fn_36 (Lfp G_fn_36 tb_fn_36) c_fn_36 (VSs.enc e_fn_36.A (s, yes, no, most, ())) (dq e_fn_36.R Q) = (
  cond (decide (0 ≤ s.1))
  (L_fn_36_0 s yes no most no yes Q)
  False) := by kernel_rfl
theorem rd_fn_36_0 (s : searchT) (yes : Int) (no : Int) (most : Int) (v0 : Int) (v1 : Int) (Q : Int × Int × Bool × Unit → Prop) (h :
  cond (decide ((g_bits_OnesCount32 v1) > most))
  (Q (0, 0, false, ()))
  (cond ((g_bits_OnesCount32 v1) == most)
    (L_fn_36_1 s yes no most (iandnot .u32 (IntKind.wrap .u32 ((ishl .u32 1 s.1) - 1)) v1) 0 v1 (ior .u32 v1 v0) Q)
    (L_fn_36_1 s yes no most v0 0 v1 (ior .u32 v1 v0) Q))) : L_fn_36_0 s yes no most v0 v1 Q := Lfp.step (Eq.mpr (by kernel_rfl) h)
theorem rd_fn_36_1 (s : searchT) (yes : Int) (no : Int) (most : Int) (v0 : Int) (v1 : Int) (v2 : Int) (v3 : Int) (Q : Int × Int × Bool × Unit → Prop) (h :
  cond (decide (v1 < (s.2.1.length : Int)))
  (cond (okIx v1 (s.2.1.length : Int))
    (cond (((iand .u32 (List.getD s.2.1 (Int.toNat v1) clauseD).1 v2) != 0) || ((iand .u32 (List.getD s.2.1 (Int.toNat v1) clauseD).2.1 v0) != 0))
      (L_fn_36_1 s yes no most v0 (IntKind.wrap .i64 (v1 + 1)) v2 v3 Q)
      (cond ((IntKind.wrap .i64 ((g_bits_OnesCount32 (iandnot .u32 (List.getD s.2.1 (Int.toNat v1) clauseD).1 v0)) + (g_bits_OnesCount32 (iandnot .u32 (List.getD s.2.1 (Int.toNat v1) clauseD).2.1 v2)))) == 0)
        (Q (0, 0, false, ()))
        (cond ((IntKind.wrap .i64 ((g_bits_OnesCount32 (iandnot .u32 (List.getD s.2.1 (Int.toNat v1) clauseD).1 v0)) + (g_bits_OnesCount32 (iandnot .u32 (List.getD s.2.1 (Int.toNat v1) clauseD).2.1 v2)))) == 1)
          (L_fn_36_1 s yes no most (ior .u32 v0 (iandnot .u32 (List.getD s.2.1 (Int.toNat v1) clauseD).2.1 v2)) (IntKind.wrap .i64 (v1 + 1)) (ior .u32 v2 (iandnot .u32 (List.getD s.2.1 (Int.toNat v1) clauseD).1 v0)) v3 Q)
          (L_fn_36_1 s yes no most v0 (IntKind.wrap .i64 (v1 + 1)) v2 v3 Q))))
    False)
  (cond ((ior .u32 v2 v0) == v3)
    (Q (v2, v0, true, ()))
    (L_fn_36_0 s yes no most v0 v2 Q))) : L_fn_36_1 s yes no most v0 v1 v2 v3 Q := Lfp.step (Eq.mpr (by kernel_rfl) h)
theorem lp_fn_36_1 (s : searchT) (yes : Int) (no : Int) (most : Int) (c0 : Nat) (v3 : Int) (next0 : (Int × Int) → (Int × Int × Bool × Unit)) (v00 : Int) (v20 : Int) (Q : Int × Int × Bool × Unit → Prop) (hw : VSs.wf e_fn_36.A (s, yes, no, most, ())) (hp : p_fn_36 s yes no most = true) (hc0 : c0 < 33) (hn0 : ∀ s_ : Int × Int, (fun (c : Nat) (v : Int × Int) => Oks s v.2 v.1 ∧ c ≤ pc2 v.2 v.1) (c0 + 1) s_ → (fun y : Int × Int × Bool × Unit => Q y) (next0 s_) → L_fn_36_0 s yes no most s_.1 s_.2 Q) (hy1 : u32 v3 ∧ c0 ≤ pc v3) (hI0 : (fun (_ : Nat) (v : Int × Int) => Oks s v.2 v.1 ∧ ∀ i, bt v3 i = true → (bt v.2 i || bt v.1 i) = true) 0 (v00, v20)) : (fun y : Int × Int × Bool × Unit => Q y) (S_fn_36_1 s yes no most c0 v3 next0 v00 v20) → L_fn_36_1 s yes no most v00 0 v20 v3 Q := by
  have _ := hw
  have _ := hp
  have _ := hc0
  let FF := (fun y : Int × Int × Bool × Unit => Q y)
  refine upS_loop (F := FF) (k := .i64) (n := s.2.1.length) (I := (fun (_ : Nat) (v : Int × Int) => Oks s v.2 v.1 ∧ ∀ i, bt v3 i = true → (bt v.2 i || bt v.1 i) = true)) (L := (fun (c1 : Int) (s1 : Int × Int) => L_fn_36_1 s yes no most s1.1 c1 s1.2 v3 Q)) (wrap_i64n (show _ ≤ _ from (((hw.1).2).1).1)) (fun c1 hc1 s1 hI hF => rd_fn_36_1 s yes no most s1.1 (c1 : Int) s1.2 v3 Q (cond_ge (n := s.2.1.length) rfl hc1 ((cond_f (F := FF) (fun h0 => id) (fun h0 => (hn0 _ (by exact i36c hI hy1 (by assumption))))) hF))) (fun c1 _ hc1 next1 hn1 s1 hI hF => rd_fn_36_1 s yes no most s1.1 (c1 : Int) s1.2 v3 Q (cond_lt (n := s.2.1.length) rfl hc1 ((vc_f (F := FF) (by first | ((have hn0 := (p36.1 hp).1.n0; have h5 := okIx_nat hc1; simp [-List.getD_eq_getElem?_getD, hn0, h5]); done) | ((have hn0 := (p36.1 hp).1.n0; simp [-List.getD_eq_getElem?_getD, hn0]); done) | ((repeat' (first | rfl | exact nn_d64 _ | exact okIx_nat hc0 | exact okIx_nat hc1 | refine and_t ?_ ?_ | refine or_l ?_)); done) | (simp [-List.getD_eq_getElem?_getD, okIx_nat hc0, okIx_nat hc1, nn_u64, nn_u32]; done) | (have hry : roomy = 1048576 := rfl; simp [-List.getD_eq_getElem?_getD, okIx, okSlc, okApp, len_slcL, len_segL] at hI ⊢ <;> omega)) /- 1 -/ (cond_f (F := FF) (fun h0 => (hn1 _ (by first | exact hI | exact i36d (p36.1 hp).1 (getD_mem hc1 _) hI (by assumption)))) (fun h0 => (cond_f (F := FF) (fun h1 => id) (fun h1 => (cond_f (F := FF) (fun h2 => (hn1 _ (by first | exact hI | exact i36d (p36.1 hp).1 (getD_mem hc1 _) hI (by assumption)))) (fun h2 => (hn1 _ (by first | exact hI | exact i36d (p36.1 hp).1 (getD_mem hc1 _) hI (by assumption)))))))))) hF))) (v00, v20) hI0
theorem lp_fn_36_0 (s : searchT) (yes : Int) (no : Int) (most : Int) (v00 : Int) (v10 : Int) (Q : Int × Int × Bool × Unit → Prop) (hw : VSs.wf e_fn_36.A (s, yes, no, most, ())) (hp : p_fn_36 s yes no most = true)  (hI0 : (fun (c : Nat) (v : Int × Int) => Oks s v.2 v.1 ∧ c ≤ pc2 v.2 v.1) 0 (v00, v10)) : (fun y : Int × Int × Bool × Unit => Q y) (S_fn_36_0 s yes no most v00 v10) → L_fn_36_0 s yes no most v00 v10 Q := by
  have _ := hw
  have _ := hp
  let FF := (fun y : Int × Int × Bool × Unit => Q y)
  refine upF_loop (F := FF) (n := 33) (I := (fun (c : Nat) (v : Int × Int) => Oks s v.2 v.1 ∧ c ≤ pc2 v.2 v.1)) (L := (fun (s0 : Int × Int) => L_fn_36_0 s yes no most s0.1 s0.2 Q)) (fun s0 hI => (by have := pc_le (ior .u32 s0.2 s0.1); have h2 := hI.2; unfold pc2 at h2; omega)) (Nat.zero_le _) (fun c0 _ hc0 next0 hn0 s0 hI hF => rd_fn_36_0 s yes no most s0.1 s0.2 Q ((cond_f (F := FF) (fun h0 => id) (fun h0 => (cond_f (F := FF) (fun h1 => (lp_fn_36_1 s yes no most c0 _ _ _ _ Q hw hp hc0 hn0 (by exact ⟨u32_ior _ _, hI.2⟩) (by first | exact i36a (p36.1 hp).1 hI.1 rfl | exact i36b (p36.1 hp).1 hI.1 rfl))) (fun h1 => (lp_fn_36_1 s yes no most c0 _ _ _ _ Q hw hp hc0 hn0 (by exact ⟨u32_ior _ _, hI.2⟩) (by first | exact i36a (p36.1 hp).1 hI.1 rfl | exact i36b (p36.1 hp).1 hI.1 rfl)))))) hF)) (v00, v10) hI0
theorem ct_fn_36 (s : searchT) (yes : Int) (no : Int) (most : Int) (hw : VSs.wf e_fn_36.A (s, yes, no, most, ())) (hp : p_fn_36 s yes no most = true) (Q : Int × Int × Bool × Unit → Prop) (hq : Q (e_fn_36.g (s, yes, no, most, ()))) : EvF G_fn_36 tb_fn_36 c_fn_36 (VSs.enc e_fn_36.A (s, yes, no, most, ())) (dq e_fn_36.R Q) := by
  have _ := hw
  let FF := (fun y : Int × Int × Bool × Unit => Q y)
  refine EvF.of (in_fn_36 s yes no most Q) ?_
  exact (vc_f (F := FF) (by first | ((have hn0 := (p36.1 hp).1.n0; have h5 := okIx_nat hc1; simp [-List.getD_eq_getElem?_getD, hn0, h5]); done) | ((have hn0 := (p36.1 hp).1.n0; simp [-List.getD_eq_getElem?_getD, hn0]); done) | ((repeat' (first | rfl | exact nn_d64 _ | refine and_t ?_ ?_ | refine or_l ?_)); done) | (simp [-List.getD_eq_getElem?_getD, nn_u64, nn_u32]; done) | (have hry : roomy = 1048576 := rfl; simp [-List.getD_eq_getElem?_getD, okIx, okSlc, okApp, len_slcL, len_segL] <;> omega)) /- 2 -/ (lp_fn_36_0 s yes no most _ _ Q hw hp (by have hq := p36.1 hp; exact ⟨⟨u32_of hw.2.1, u32_of hw.2.2.1, hq.2.1, hq.2.2.1, hq.2.2.2⟩, Nat.zero_le _⟩))) hq
end Go.Proofs.YtilbcgklkdkkdaaDoor
