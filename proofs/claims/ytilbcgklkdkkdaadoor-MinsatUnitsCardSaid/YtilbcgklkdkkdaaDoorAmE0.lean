/-
  The codes and their equations.
-/
import Derived.Test.YtilbcgklkdkkdaaDoorAmG
import Derived.Test.YtilbcgklkdkkdaaDoorProg
import Derived.KernelRfl
namespace Go.Proofs.YtilbcgklkdkkdaaDoor
open Go Go.AM
set_option maxRecDepth 100000
/-! netverify/minsat.Check$1 -/
def G_minsat_Check_1 : Env := ⟨[], []⟩
def c_minsat_Check_1 : AFunc := AFunc.mk 11 1 [(.t 3)] (.seq (.region [(oI 3 (.mov (.c (.f (.bool false)))))] []) (.seq (.region [(oI 4 (.mov (.t 0))), (oI 5 (.bin .lss (.t 4) (.c (.f (.int .i64 0))))), (oI 6 (.mov (.t 5))), (.mk (some 7) (some (6, false)) (.mov (.t 0))), (.mk (some 8) (some (6, false)) (.load false 1 (.t 1))), (.mk (some 9) (some (6, false)) (.bin .geq (.t 7) (.t 8))), (oI 10 (.pick 6 (.c (.f (.bool true))) (.t 9))), (oI 3 (.mov (.t 10)))] []) .ret))
def tb_minsat_Check_1 : Tbl := fun _ => ([], .skip)
theorem ok_minsat_Check_1 : compF Tryd.prog [11, 23, 26, 27] Tryd.f31 = some c_minsat_Check_1.strip := by kernel_rfl
theorem tk_minsat_Check_1 : TblOk tb_minsat_Check_1 c_minsat_Check_1.body := ⟨trivial, ⟨trivial, trivial⟩⟩
theorem in_minsat_Check_1 (x0 : Int) (c1 : Ti64T) (Q : Bool × Unit → Prop) : evF G_minsat_Check_1 (Lfp G_minsat_Check_1 tb_minsat_Check_1) c_minsat_Check_1 (VSs.enc e_minsat_Check_1.A (x0, c1, ())) (dq e_minsat_Check_1.R Q) = (
  Q (((decide (x0 < 0)) || (decide (x0 ≥ c1.1))), ())) := by kernel_rfl
theorem au_minsat_Check_1 (x0 : Int) (c1 : Ti64T) (Q : Bool × Unit → Prop) : evF G_minsat_Check_1 (Lfp G_minsat_Check_1 tb_minsat_Check_1) c_minsat_Check_1 (VSs.enc e_minsat_Check_1.A (x0, c1, ())) (dq e_minsat_Check_1.R Q) = Q (e_minsat_Check_1.g (x0, c1, ())) := (in_minsat_Check_1 x0 c1 Q).trans rfl
/-! slices.IndexFunc(()int,int) -/
def G_slices_IndexFunc_int_minsat_Check_1 : Env := ⟨[e_minsat_Check_1], []⟩
def b_slices_IndexFunc_int_minsat_Check_1_0 : ACode := (.seq (.region [(oI 9 (.bin .lss (.t 8) (.t 7)))] []) (.seq (.cond 9 .skip (.exit 0)) (.seq (.block 1 (.seq (.region [(oI 10 (.mov (.t 8))), (oI 5 (.mov (.t 10)))] []) (.seq (.region [(oI 11 (.mov (.t 1))), (oI 12 (.mov (.t 0))), (oI 13 (.mov (.t 5))), (oI 14 (.ixa 1 (.t 12) (.t 13))), (oI 15 (.load false 1 (.t 14))), (oI 16 (.callv (.t 11) [(.t 15)]))] []) (.cond 16 (.seq (.region [(oI 17 (.mov (.t 5))), (oI 4 (.mov (.t 17)))] []) .ret) .skip)))) (.region [(oI 18 (.bin .add (.t 8) (.c (.f (.int .i64 1))))), (oI 8 (.mov (.t 18)))] []))))
def r_slices_IndexFunc_int_minsat_Check_1_0 : ACode := (.seq (.region [(oI 4 (.mov (.c (.f (.int .i64 (-1))))))] []) .ret)
def c_slices_IndexFunc_int_minsat_Check_1 : AFunc := AFunc.mk 19 2 [(.t 4)] (.seq (.region [(oI 4 (.mov (.c (.f (.int .i64 0)))))] []) (.seq (.seq (.region [(oI 6 (.mov (.t 0))), (oI 7 (.len (.t 6))), (oI 8 (.mov (.c (.f (.int .i64 0)))))] []) (.block 0 (.loop 0 [(0, .no), (1, .no), (7, .no), (8, .no)] b_slices_IndexFunc_int_minsat_Check_1_0))) r_slices_IndexFunc_int_minsat_Check_1_0))
def tb_slices_IndexFunc_int_minsat_Check_1 : Tbl
  | 0 => ([(0, .no), (1, .no), (7, .no), (8, .no)], b_slices_IndexFunc_int_minsat_Check_1_0)
  | _ => ([], .skip)
theorem ok_slices_IndexFunc_int_minsat_Check_1 : compF Tryd.prog [11, 23, 26, 27] Tryd.f38 = some c_slices_IndexFunc_int_minsat_Check_1.strip := by kernel_rfl
theorem tk_slices_IndexFunc_int_minsat_Check_1 : TblOk tb_slices_IndexFunc_int_minsat_Check_1 c_slices_IndexFunc_int_minsat_Check_1.body := ⟨trivial, ⟨⟨trivial, ⟨rfl, ⟨trivial, ⟨⟨trivial, trivial⟩, ⟨⟨trivial, ⟨trivial, ⟨⟨trivial, trivial⟩, trivial⟩⟩⟩, trivial⟩⟩⟩⟩⟩, ⟨trivial, trivial⟩⟩⟩
def k_slices_IndexFunc_int_minsat_Check_1_0 (Q : Int × Unit → Prop) : K := (kBlock 0 (kSeq (evC G_slices_IndexFunc_int_minsat_Check_1 (Lfp G_slices_IndexFunc_int_minsat_Check_1 tb_slices_IndexFunc_int_minsat_Check_1) r_slices_IndexFunc_int_minsat_Check_1_0) (kDone c_slices_IndexFunc_int_minsat_Check_1 (dq e_slices_IndexFunc_int_minsat_Check_1.R Q))))
def s_slices_IndexFunc_int_minsat_Check_1_0 (s : List Ti64T) (f_0 : Int) (v0 : Int) : St := ⟨[(0, [], .f (.fs Ti64S s)), (1, [], .f (.fn 31 [.fpt [.int .i64 f_0] 0])), (7, [], .f (.int .i64 (s.length : Int))), (8, [], .f (.int .i64 v0))], []⟩
def L_slices_IndexFunc_int_minsat_Check_1_0 (s : List Ti64T) (f_0 : Int) (v0 : Int) (Q : Int × Unit → Prop) : Prop := Lfp G_slices_IndexFunc_int_minsat_Check_1 tb_slices_IndexFunc_int_minsat_Check_1 0 (s_slices_IndexFunc_int_minsat_Check_1_0 s f_0 v0) (k_slices_IndexFunc_int_minsat_Check_1_0 Q)
theorem in_slices_IndexFunc_int_minsat_Check_1 (s : List Ti64T) (f_0 : Int) (Q : Int × Unit → Prop) : evF G_slices_IndexFunc_int_minsat_Check_1 (Lfp G_slices_IndexFunc_int_minsat_Check_1 tb_slices_IndexFunc_int_minsat_Check_1) c_slices_IndexFunc_int_minsat_Check_1 (VSs.enc e_slices_IndexFunc_int_minsat_Check_1.A (s, ((f_0, ()), ()), ())) (dq e_slices_IndexFunc_int_minsat_Check_1.R Q) = (
  L_slices_IndexFunc_int_minsat_Check_1_0 s f_0 0 Q) := by kernel_rfl
theorem rd_slices_IndexFunc_int_minsat_Check_1_0 (s : List Ti64T) (f_0 : Int) (v0 : Int) (Q : Int × Unit → Prop) (h :
  cond (decide (v0 < (s.length : Int)))
  (cond ((okIx v0 (s.length : Int)) && true)
    (cond (g_minsat_Check_1 (List.getD s (Int.toNat v0) Ti64D).1 (f_0, ()))
      (Q (v0, ()))
      (L_slices_IndexFunc_int_minsat_Check_1_0 s f_0 (IntKind.wrap .i64 (v0 + 1)) Q))
    False)
  (Q ((-1), ()))) : L_slices_IndexFunc_int_minsat_Check_1_0 s f_0 v0 Q := Lfp.step (Eq.mpr (by kernel_rfl) h)
theorem lp_slices_IndexFunc_int_minsat_Check_1_0 (s : List Ti64T) (f_0 : Int) (Q : Int × Unit → Prop) (hw : VSs.wf e_slices_IndexFunc_int_minsat_Check_1.A (s, ((f_0, ()), ()), ()))  : (fun y : Int => Q (y, ())) (S_slices_IndexFunc_int_minsat_Check_1_0 s f_0) → L_slices_IndexFunc_int_minsat_Check_1_0 s f_0 0 Q := by
  have _ := hw
  let FF := (fun y : Int => Q (y, ()))
  refine upV_loop (F := FF) (k := .i64) (n := s.length) (L := (fun c0 : Int => L_slices_IndexFunc_int_minsat_Check_1_0 s f_0 c0 Q)) (wrap_i64n (show _ ≤ _ from (hw.1).1)) (fun c0 hc0 hF => rd_slices_IndexFunc_int_minsat_Check_1_0 s f_0 (c0 : Int) Q (cond_ge (n := s.length) rfl hc0 (id hF))) (fun c0 _ hc0 next0 hn0 hF => rd_slices_IndexFunc_int_minsat_Check_1_0 s f_0 (c0 : Int) Q (cond_lt (n := s.length) rfl hc0 ((vc_f (F := FF) (by first | ((repeat' (first | rfl | exact nn_d64 _ | exact okIx_nat hc0 | refine and_t ?_ ?_ | refine or_l ?_)); done) | (simp [-List.getD_eq_getElem?_getD, okIx_nat hc0, nn_u64, nn_u32]; done) | (have hry : roomy = 1048576 := rfl; simp [-List.getD_eq_getElem?_getD, okIx, okSlc, okApp, len_slcL, len_segL] <;> omega)) /- 1 -/ (cond_f (F := FF) (fun h0 => id) (fun h0 => hn0))) hF)))
theorem ct_slices_IndexFunc_int_minsat_Check_1 (s : List Ti64T) (f_0 : Int) (hw : VSs.wf e_slices_IndexFunc_int_minsat_Check_1.A (s, ((f_0, ()), ()), ())) (Q : Int × Unit → Prop) (hq : Q (e_slices_IndexFunc_int_minsat_Check_1.g (s, ((f_0, ()), ()), ()))) : EvF G_slices_IndexFunc_int_minsat_Check_1 tb_slices_IndexFunc_int_minsat_Check_1 c_slices_IndexFunc_int_minsat_Check_1 (VSs.enc e_slices_IndexFunc_int_minsat_Check_1.A (s, ((f_0, ()), ()), ())) (dq e_slices_IndexFunc_int_minsat_Check_1.R Q) := by
  have _ := hw
  let FF := (fun y : Int => Q (y, ()))
  refine EvF.of (in_slices_IndexFunc_int_minsat_Check_1 s f_0 Q) ?_
  exact (lp_slices_IndexFunc_int_minsat_Check_1_0 s f_0 Q hw) hq
/-! netverify/minsat.Core$1 -/
def G_minsat_Core_1 : Env := ⟨[], []⟩
def c_minsat_Core_1 : AFunc := AFunc.mk 7 1 [(.t 3)] (.seq (.region [(oI 3 (.mov (.c (.f (.bool false)))))] []) (.seq (.region [(oI 4 (.mov (.t 0))), (oI 5 (.load false 1 (.t 1))), (oI 6 (.bin .eql (.t 4) (.t 5))), (oI 3 (.mov (.t 6)))] []) .ret))
def tb_minsat_Core_1 : Tbl := fun _ => ([], .skip)
theorem ok_minsat_Core_1 : compF Tryd.prog [11, 23, 26, 27] Tryd.f28 = some c_minsat_Core_1.strip := by kernel_rfl
theorem tk_minsat_Core_1 : TblOk tb_minsat_Core_1 c_minsat_Core_1.body := ⟨trivial, ⟨trivial, trivial⟩⟩
theorem in_minsat_Core_1 (x0 : Int) (c1 : Ti64T) (Q : Bool × Unit → Prop) : evF G_minsat_Core_1 (Lfp G_minsat_Core_1 tb_minsat_Core_1) c_minsat_Core_1 (VSs.enc e_minsat_Core_1.A (x0, c1, ())) (dq e_minsat_Core_1.R Q) = (
  Q ((x0 == c1.1), ())) := by kernel_rfl
theorem au_minsat_Core_1 (x0 : Int) (c1 : Ti64T) (Q : Bool × Unit → Prop) : evF G_minsat_Core_1 (Lfp G_minsat_Core_1 tb_minsat_Core_1) c_minsat_Core_1 (VSs.enc e_minsat_Core_1.A (x0, c1, ())) (dq e_minsat_Core_1.R Q) = Q (e_minsat_Core_1.g (x0, c1, ())) := (in_minsat_Core_1 x0 c1 Q).trans rfl
/-! slices.IndexFunc(()int,int) -/
def G_slices_IndexFunc_int_minsat_Core_1 : Env := ⟨[e_minsat_Core_1], []⟩
def b_slices_IndexFunc_int_minsat_Core_1_0 : ACode := (.seq (.region [(oI 9 (.bin .lss (.t 8) (.t 7)))] []) (.seq (.cond 9 .skip (.exit 0)) (.seq (.block 1 (.seq (.region [(oI 10 (.mov (.t 8))), (oI 5 (.mov (.t 10)))] []) (.seq (.region [(oI 11 (.mov (.t 1))), (oI 12 (.mov (.t 0))), (oI 13 (.mov (.t 5))), (oI 14 (.ixa 1 (.t 12) (.t 13))), (oI 15 (.load false 1 (.t 14))), (oI 16 (.callv (.t 11) [(.t 15)]))] []) (.cond 16 (.seq (.region [(oI 17 (.mov (.t 5))), (oI 4 (.mov (.t 17)))] []) .ret) .skip)))) (.region [(oI 18 (.bin .add (.t 8) (.c (.f (.int .i64 1))))), (oI 8 (.mov (.t 18)))] []))))
def r_slices_IndexFunc_int_minsat_Core_1_0 : ACode := (.seq (.region [(oI 4 (.mov (.c (.f (.int .i64 (-1))))))] []) .ret)
def c_slices_IndexFunc_int_minsat_Core_1 : AFunc := AFunc.mk 19 2 [(.t 4)] (.seq (.region [(oI 4 (.mov (.c (.f (.int .i64 0)))))] []) (.seq (.seq (.region [(oI 6 (.mov (.t 0))), (oI 7 (.len (.t 6))), (oI 8 (.mov (.c (.f (.int .i64 0)))))] []) (.block 0 (.loop 0 [(0, .no), (1, .no), (7, .no), (8, .no)] b_slices_IndexFunc_int_minsat_Core_1_0))) r_slices_IndexFunc_int_minsat_Core_1_0))
def tb_slices_IndexFunc_int_minsat_Core_1 : Tbl
  | 0 => ([(0, .no), (1, .no), (7, .no), (8, .no)], b_slices_IndexFunc_int_minsat_Core_1_0)
  | _ => ([], .skip)
theorem ok_slices_IndexFunc_int_minsat_Core_1 : compF Tryd.prog [11, 23, 26, 27] Tryd.f38 = some c_slices_IndexFunc_int_minsat_Core_1.strip := by kernel_rfl
theorem tk_slices_IndexFunc_int_minsat_Core_1 : TblOk tb_slices_IndexFunc_int_minsat_Core_1 c_slices_IndexFunc_int_minsat_Core_1.body := ⟨trivial, ⟨⟨trivial, ⟨rfl, ⟨trivial, ⟨⟨trivial, trivial⟩, ⟨⟨trivial, ⟨trivial, ⟨⟨trivial, trivial⟩, trivial⟩⟩⟩, trivial⟩⟩⟩⟩⟩, ⟨trivial, trivial⟩⟩⟩
def k_slices_IndexFunc_int_minsat_Core_1_0 (Q : Int × Unit → Prop) : K := (kBlock 0 (kSeq (evC G_slices_IndexFunc_int_minsat_Core_1 (Lfp G_slices_IndexFunc_int_minsat_Core_1 tb_slices_IndexFunc_int_minsat_Core_1) r_slices_IndexFunc_int_minsat_Core_1_0) (kDone c_slices_IndexFunc_int_minsat_Core_1 (dq e_slices_IndexFunc_int_minsat_Core_1.R Q))))
def s_slices_IndexFunc_int_minsat_Core_1_0 (s : List Ti64T) (f_0 : Int) (v0 : Int) : St := ⟨[(0, [], .f (.fs Ti64S s)), (1, [], .f (.fn 28 [.fpt [.int .i64 f_0] 0])), (7, [], .f (.int .i64 (s.length : Int))), (8, [], .f (.int .i64 v0))], []⟩
def L_slices_IndexFunc_int_minsat_Core_1_0 (s : List Ti64T) (f_0 : Int) (v0 : Int) (Q : Int × Unit → Prop) : Prop := Lfp G_slices_IndexFunc_int_minsat_Core_1 tb_slices_IndexFunc_int_minsat_Core_1 0 (s_slices_IndexFunc_int_minsat_Core_1_0 s f_0 v0) (k_slices_IndexFunc_int_minsat_Core_1_0 Q)
theorem in_slices_IndexFunc_int_minsat_Core_1 (s : List Ti64T) (f_0 : Int) (Q : Int × Unit → Prop) : evF G_slices_IndexFunc_int_minsat_Core_1 (Lfp G_slices_IndexFunc_int_minsat_Core_1 tb_slices_IndexFunc_int_minsat_Core_1) c_slices_IndexFunc_int_minsat_Core_1 (VSs.enc e_slices_IndexFunc_int_minsat_Core_1.A (s, ((f_0, ()), ()), ())) (dq e_slices_IndexFunc_int_minsat_Core_1.R Q) = (
  L_slices_IndexFunc_int_minsat_Core_1_0 s f_0 0 Q) := by kernel_rfl
theorem rd_slices_IndexFunc_int_minsat_Core_1_0 (s : List Ti64T) (f_0 : Int) (v0 : Int) (Q : Int × Unit → Prop) (h :
  cond (decide (v0 < (s.length : Int)))
  (cond ((okIx v0 (s.length : Int)) && true)
    (cond (g_minsat_Core_1 (List.getD s (Int.toNat v0) Ti64D).1 (f_0, ()))
      (Q (v0, ()))
      (L_slices_IndexFunc_int_minsat_Core_1_0 s f_0 (IntKind.wrap .i64 (v0 + 1)) Q))
    False)
  (Q ((-1), ()))) : L_slices_IndexFunc_int_minsat_Core_1_0 s f_0 v0 Q := Lfp.step (Eq.mpr (by kernel_rfl) h)
theorem lp_slices_IndexFunc_int_minsat_Core_1_0 (s : List Ti64T) (f_0 : Int) (Q : Int × Unit → Prop) (hw : VSs.wf e_slices_IndexFunc_int_minsat_Core_1.A (s, ((f_0, ()), ()), ()))  : (fun y : Int => Q (y, ())) (S_slices_IndexFunc_int_minsat_Core_1_0 s f_0) → L_slices_IndexFunc_int_minsat_Core_1_0 s f_0 0 Q := by
  have _ := hw
  let FF := (fun y : Int => Q (y, ()))
  refine upV_loop (F := FF) (k := .i64) (n := s.length) (L := (fun c0 : Int => L_slices_IndexFunc_int_minsat_Core_1_0 s f_0 c0 Q)) (wrap_i64n (show _ ≤ _ from (hw.1).1)) (fun c0 hc0 hF => rd_slices_IndexFunc_int_minsat_Core_1_0 s f_0 (c0 : Int) Q (cond_ge (n := s.length) rfl hc0 (id hF))) (fun c0 _ hc0 next0 hn0 hF => rd_slices_IndexFunc_int_minsat_Core_1_0 s f_0 (c0 : Int) Q (cond_lt (n := s.length) rfl hc0 ((vc_f (F := FF) (by first | ((repeat' (first | rfl | exact nn_d64 _ | exact okIx_nat hc0 | refine and_t ?_ ?_ | refine or_l ?_)); done) | (simp [-List.getD_eq_getElem?_getD, okIx_nat hc0, nn_u64, nn_u32]; done) | (have hry : roomy = 1048576 := rfl; simp [-List.getD_eq_getElem?_getD, okIx, okSlc, okApp, len_slcL, len_segL] <;> omega)) /- 1 -/ (cond_f (F := FF) (fun h0 => id) (fun h0 => hn0))) hF)))
theorem ct_slices_IndexFunc_int_minsat_Core_1 (s : List Ti64T) (f_0 : Int) (hw : VSs.wf e_slices_IndexFunc_int_minsat_Core_1.A (s, ((f_0, ()), ()), ())) (Q : Int × Unit → Prop) (hq : Q (e_slices_IndexFunc_int_minsat_Core_1.g (s, ((f_0, ()), ()), ()))) : EvF G_slices_IndexFunc_int_minsat_Core_1 tb_slices_IndexFunc_int_minsat_Core_1 c_slices_IndexFunc_int_minsat_Core_1 (VSs.enc e_slices_IndexFunc_int_minsat_Core_1.A (s, ((f_0, ()), ()), ())) (dq e_slices_IndexFunc_int_minsat_Core_1.R Q) := by
  have _ := hw
  let FF := (fun y : Int => Q (y, ()))
  refine EvF.of (in_slices_IndexFunc_int_minsat_Core_1 s f_0 Q) ?_
  exact (lp_slices_IndexFunc_int_minsat_Core_1_0 s f_0 Q hw) hq
/-! slices.ContainsFunc(()int,int) -/
def G_slices_ContainsFunc_int_minsat_Check_1 : Env := ⟨[e_slices_IndexFunc_int_minsat_Check_1], []⟩
def c_slices_ContainsFunc_int_minsat_Check_1 : AFunc := AFunc.mk 9 2 [(.t 4)] (.seq (.region [(oI 4 (.mov (.c (.f (.bool false)))))] []) (.seq (.region [(oI 5 (.mov (.t 0))), (oI 6 (.mov (.t 1))), (oI 7 (.call 38 [(.t 5), (.t 6)])), (oI 8 (.bin .geq (.t 7) (.c (.f (.int .i64 0))))), (oI 4 (.mov (.t 8)))] []) .ret))
def tb_slices_ContainsFunc_int_minsat_Check_1 : Tbl := fun _ => ([], .skip)
theorem ok_slices_ContainsFunc_int_minsat_Check_1 : compF Tryd.prog [11, 23, 26, 27] Tryd.f32 = some c_slices_ContainsFunc_int_minsat_Check_1.strip := by kernel_rfl
theorem tk_slices_ContainsFunc_int_minsat_Check_1 : TblOk tb_slices_ContainsFunc_int_minsat_Check_1 c_slices_ContainsFunc_int_minsat_Check_1.body := ⟨trivial, ⟨trivial, trivial⟩⟩
theorem in_slices_ContainsFunc_int_minsat_Check_1 (s : List Ti64T) (f_0 : Int) (Q : Bool × Unit → Prop) : evF G_slices_ContainsFunc_int_minsat_Check_1 (Lfp G_slices_ContainsFunc_int_minsat_Check_1 tb_slices_ContainsFunc_int_minsat_Check_1) c_slices_ContainsFunc_int_minsat_Check_1 (VSs.enc e_slices_ContainsFunc_int_minsat_Check_1.A (s, ((f_0, ()), ()), ())) (dq e_slices_ContainsFunc_int_minsat_Check_1.R Q) = (
  Q ((decide ((g_slices_IndexFunc_int_minsat_Check_1 s f_0) ≥ 0)), ())) := by kernel_rfl
theorem au_slices_ContainsFunc_int_minsat_Check_1 (s : List Ti64T) (f_0 : Int) (Q : Bool × Unit → Prop) : evF G_slices_ContainsFunc_int_minsat_Check_1 (Lfp G_slices_ContainsFunc_int_minsat_Check_1 tb_slices_ContainsFunc_int_minsat_Check_1) c_slices_ContainsFunc_int_minsat_Check_1 (VSs.enc e_slices_ContainsFunc_int_minsat_Check_1.A (s, ((f_0, ()), ()), ())) (dq e_slices_ContainsFunc_int_minsat_Check_1.R Q) = Q (e_slices_ContainsFunc_int_minsat_Check_1.g (s, ((f_0, ()), ()), ())) := (in_slices_ContainsFunc_int_minsat_Check_1 s f_0 Q).trans rfl
/-! netverify/minsat.Check -/
def G_minsat_Check : Env := ⟨[e_slices_ContainsFunc_int_minsat_Check_1], []⟩
def b_minsat_Check_0 : ACode := (.seq (.region [(oI 21 (.bin .lss (.t 20) (.t 19)))] []) (.seq (.cond 21 .skip (.exit 0)) (.seq (.block 1 (.seq (.region [(oI 22 (.ixa 2 (.t 18) (.t 20))), (oI 23 (.load true 2 (.t 22))), (oI 7 (.alloc [(.f .nils), (.f .nils)])), (.mk none none (.store 2 (.t 7) (.t 23)))] []) (.seq (.region [(oI 24 (.fld 0 (.t 7))), (oI 25 (.load false 1 (.t 24))), (oI 26 (.mov (.t 5))), (oI 27 (.call 32 [(.t 25), (.t 26)])), (oI 28 (.mov (.t 27))), (.mk (some 29) (some (28, false)) (.fld 1 (.t 7))), (.mk (some 30) (some (28, false)) (.load false 1 (.t 29))), (.mk (some 31) (some (28, false)) (.mov (.t 5))), (.mk (some 32) (some (28, false)) (.call 32 [(.t 30), (.t 31)])), (oI 33 (.pick 28 (.c (.f (.bool true))) (.t 32)))] []) (.cond 33 (.seq (.region [(oI 4 (.mov (.c (.f (.int .i64 1)))))] []) .ret) .skip)))) (.region [(oI 34 (.bin .add (.t 20) (.c (.f (.int .i64 1))))), (oI 20 (.mov (.t 34)))] []))))
def r_minsat_Check_0 : ACode := (.seq (.region [(oI 4 (.mov (.c (.f (.int .i64 0)))))] []) .ret)
def c_minsat_Check : AFunc := AFunc.mk 35 2 [(.t 4)] (.seq (.region [(oI 2 (.box (.t 0))), (oI 4 (.mov (.c (.f (.int .i64 0)))))] []) (.seq (.seq (.region [(oI 8 (.load false 1 (.t 2))), (oI 9 (.bin .lss (.t 8) (.c (.f (.int .i64 0)))))] []) (.cond 9 (.seq (.region [(oI 4 (.mov (.c (.f (.int .i64 1)))))] []) .ret) .skip)) (.seq (.seq (.region [(oI 10 (.load false 1 (.t 2))), (oI 11 (.bin .gtr (.t 10) (.c (.f (.int .i64 24))))), (oI 12 (.mov (.t 11))), (.mk (some 13) (some (12, false)) (.mov (.t 1))), (.mk (some 14) (some (12, false)) (.len (.t 13))), (.mk (some 15) (some (12, false)) (.bin .gtr (.t 14) (.c (.f (.int .i64 64))))), (oI 16 (.pick 12 (.c (.f (.bool true))) (.t 15)))] []) (.cond 16 (.seq (.region [(oI 4 (.mov (.c (.f (.int .i64 7)))))] []) .ret) .skip)) (.seq (.region [(oI 17 (.mkfn 31 [(.t 2)])), (oI 5 (.mov (.t 17)))] []) (.seq (.seq (.region [(oI 18 (.mov (.t 1))), (oI 19 (.len (.t 18))), (oI 20 (.mov (.c (.f (.int .i64 0)))))] []) (.block 0 (.loop 0 [(5, .no), (18, .no), (19, .no), (20, .no)] b_minsat_Check_0))) r_minsat_Check_0)))))
def tb_minsat_Check : Tbl
  | 0 => ([(5, .no), (18, .no), (19, .no), (20, .no)], b_minsat_Check_0)
  | _ => ([], .skip)
theorem ok_minsat_Check : compF Tryd.prog [11, 23, 26, 27] Tryd.f19 = some c_minsat_Check.strip := by kernel_rfl
theorem tk_minsat_Check : TblOk tb_minsat_Check c_minsat_Check.body := ⟨trivial, ⟨⟨trivial, ⟨⟨trivial, trivial⟩, trivial⟩⟩, ⟨⟨trivial, ⟨⟨trivial, trivial⟩, trivial⟩⟩, ⟨trivial, ⟨⟨trivial, ⟨rfl, ⟨trivial, ⟨⟨trivial, trivial⟩, ⟨⟨trivial, ⟨trivial, ⟨⟨trivial, trivial⟩, trivial⟩⟩⟩, trivial⟩⟩⟩⟩⟩, ⟨trivial, trivial⟩⟩⟩⟩⟩⟩
def k_minsat_Check_0 (Q : Int × Unit → Prop) : K := (kBlock 0 (kSeq (evC G_minsat_Check (Lfp G_minsat_Check tb_minsat_Check) r_minsat_Check_0) (kDone c_minsat_Check (dq e_minsat_Check.R Q))))
def s_minsat_Check_0 (n : Int) (cs : List ConstraintT) (v0 : Int) : St := ⟨[(5, [], .fn 31 [.ptr 0 0]), (18, [], .f (.fs ConstraintS cs)), (19, [], .f (.int .i64 (cs.length : Int))), (20, [], .f (.int .i64 v0))], [.box none [.f (.int .i64 n)]]⟩
def L_minsat_Check_0 (n : Int) (cs : List ConstraintT) (v0 : Int) (Q : Int × Unit → Prop) : Prop := Lfp G_minsat_Check tb_minsat_Check 0 (s_minsat_Check_0 n cs v0) (k_minsat_Check_0 Q)
theorem in_minsat_Check (n : Int) (cs : List ConstraintT) (Q : Int × Unit → Prop) : evF G_minsat_Check (Lfp G_minsat_Check tb_minsat_Check) c_minsat_Check (VSs.enc e_minsat_Check.A (n, cs, ())) (dq e_minsat_Check.R Q) = (
  cond (decide (n < 0))
  (Q (1, ()))
  (cond ((decide (n > 24)) || (decide ((cs.length : Int) > 64)))
    (Q (7, ()))
    (L_minsat_Check_0 n cs 0 Q))) := by kernel_rfl
theorem rd_minsat_Check_0 (n : Int) (cs : List ConstraintT) (v0 : Int) (Q : Int × Unit → Prop) (h :
  cond (decide (v0 < (cs.length : Int)))
  (cond (okIx v0 (cs.length : Int))
    (cond ((g_slices_ContainsFunc_int_minsat_Check_1 (List.getD cs (Int.toNat v0) ConstraintD).1 n) || (g_slices_ContainsFunc_int_minsat_Check_1 (List.getD cs (Int.toNat v0) ConstraintD).2.1 n))
      (Q (1, ()))
      (L_minsat_Check_0 n cs (IntKind.wrap .i64 (v0 + 1)) Q))
    False)
  (Q (0, ()))) : L_minsat_Check_0 n cs v0 Q := Lfp.step (Eq.mpr (by kernel_rfl) h)
theorem lp_minsat_Check_0 (n : Int) (cs : List ConstraintT) (Q : Int × Unit → Prop) (hw : VSs.wf e_minsat_Check.A (n, cs, ()))  (g0 : (decide (n < 0)) = false) (g1 : ((decide (n > 24)) || (decide ((cs.length : Int) > 64))) = false) : (fun y : Int => Q (y, ())) (S_minsat_Check_0 n cs) → L_minsat_Check_0 n cs 0 Q := by
  have _ := hw
  have _ := g0
  have _ := g1
  let FF := (fun y : Int => Q (y, ()))
  refine upV_loop (F := FF) (k := .i64) (n := cs.length) (L := (fun c0 : Int => L_minsat_Check_0 n cs c0 Q)) (wrap_i64n (show _ ≤ _ from (hw.2.1).1)) (fun c0 hc0 hF => rd_minsat_Check_0 n cs (c0 : Int) Q (cond_ge (n := cs.length) rfl hc0 (id hF))) (fun c0 _ hc0 next0 hn0 hF => rd_minsat_Check_0 n cs (c0 : Int) Q (cond_lt (n := cs.length) rfl hc0 ((vc_f (F := FF) (by first | ((repeat' (first | rfl | exact nn_d64 _ | exact okIx_nat hc0 | refine and_t ?_ ?_ | refine or_l ?_)); done) | (simp [-List.getD_eq_getElem?_getD, okIx_nat hc0, nn_u64, nn_u32]; done) | (simp [-List.getD_eq_getElem?_getD, okIx_nat hc0, nn_u64, nn_u32, g0, g1]; done) | (have hry : roomy = 1048576 := rfl; simp [-List.getD_eq_getElem?_getD, okIx, okSlc, okApp, len_slcL, len_segL] at g0 g1 ⊢ <;> omega)) /- 1 -/ (cond_f (F := FF) (fun h2 => id) (fun h2 => hn0))) hF)))
theorem ct_minsat_Check (n : Int) (cs : List ConstraintT) (hw : VSs.wf e_minsat_Check.A (n, cs, ())) (Q : Int × Unit → Prop) (hq : Q (e_minsat_Check.g (n, cs, ()))) : EvF G_minsat_Check tb_minsat_Check c_minsat_Check (VSs.enc e_minsat_Check.A (n, cs, ())) (dq e_minsat_Check.R Q) := by
  have _ := hw
  let FF := (fun y : Int => Q (y, ()))
  refine EvF.of (in_minsat_Check n cs Q) ?_
  exact (cond_f (F := FF) (fun h0 => id) (fun h0 => (cond_f (F := FF) (fun h1 => id) (fun h1 => (lp_minsat_Check_0 n cs Q hw h0 h1))))) hq
/-! netverify/minsat.mask -/
def G_minsat_mask : Env := ⟨[], []⟩
def b_minsat_mask_0 : ACode := (.seq (.region [(oI 9 (.bin .lss (.t 8) (.t 7)))] []) (.seq (.cond 9 .skip (.exit 0)) (.seq (.block 1 (.seq (.region [(oI 10 (.ixa 1 (.t 6) (.t 8))), (oI 11 (.load false 1 (.t 10))), (oI 5 (.mov (.t 11)))] []) (.region [(oI 12 (.mov (.t 3))), (oI 13 (.mov (.t 5))), (oI 14 (.bin .shl (.c (.f (.int .u32 1))) (.t 13))), (oI 15 (.bin .or (.t 12) (.t 14))), (oI 3 (.mov (.t 15)))] []))) (.region [(oI 16 (.bin .add (.t 8) (.c (.f (.int .i64 1))))), (oI 8 (.mov (.t 16)))] []))))
def r_minsat_mask_0 : ACode := (.seq (.region [(oI 17 (.mov (.t 3))), (oI 2 (.mov (.t 17)))] []) .ret)
def c_minsat_mask : AFunc := AFunc.mk 18 1 [(.t 2)] (.seq (.region [(oI 2 (.mov (.c (.f (.int .u32 0)))))] []) (.seq (.region [(oI 3 (.mov (.c (.f (.int .u32 0)))))] []) (.seq (.seq (.region [(oI 6 (.mov (.t 0))), (oI 7 (.len (.t 6))), (oI 8 (.mov (.c (.f (.int .i64 0)))))] []) (.block 0 (.loop 0 [(3, .no), (6, .no), (7, .no), (8, .no)] b_minsat_mask_0))) r_minsat_mask_0)))
def tb_minsat_mask : Tbl
  | 0 => ([(3, .no), (6, .no), (7, .no), (8, .no)], b_minsat_mask_0)
  | _ => ([], .skip)
theorem ok_minsat_mask : compF Tryd.prog [11, 23, 26, 27] Tryd.f35 = some c_minsat_mask.strip := by kernel_rfl
theorem tk_minsat_mask : TblOk tb_minsat_mask c_minsat_mask.body := ⟨trivial, ⟨trivial, ⟨⟨trivial, ⟨rfl, ⟨trivial, ⟨⟨trivial, trivial⟩, ⟨⟨trivial, trivial⟩, trivial⟩⟩⟩⟩⟩, ⟨trivial, trivial⟩⟩⟩⟩
def k_minsat_mask_0 (Q : Int × Unit → Prop) : K := (kBlock 0 (kSeq (evC G_minsat_mask (Lfp G_minsat_mask tb_minsat_mask) r_minsat_mask_0) (kDone c_minsat_mask (dq e_minsat_mask.R Q))))
def s_minsat_mask_0 (l : List Ti64T) (v0 : Int) (v1 : Int) : St := ⟨[(3, [], .f (.int .u32 v0)), (6, [], .f (.fs Ti64S l)), (7, [], .f (.int .i64 (l.length : Int))), (8, [], .f (.int .i64 v1))], []⟩
def L_minsat_mask_0 (l : List Ti64T) (v0 : Int) (v1 : Int) (Q : Int × Unit → Prop) : Prop := Lfp G_minsat_mask tb_minsat_mask 0 (s_minsat_mask_0 l v0 v1) (k_minsat_mask_0 Q)
theorem in_minsat_mask (l : List Ti64T) (Q : Int × Unit → Prop) : evF G_minsat_mask (Lfp G_minsat_mask tb_minsat_mask) c_minsat_mask (VSs.enc e_minsat_mask.A (l, ())) (dq e_minsat_mask.R Q) = (
  L_minsat_mask_0 l 0 0 Q) := by kernel_rfl
theorem rd_minsat_mask_0 (l : List Ti64T) (v0 : Int) (v1 : Int) (Q : Int × Unit → Prop) (h :
  cond (decide (v1 < (l.length : Int)))
  (cond (okIx v1 (l.length : Int))
    (cond (decide (0 ≤ (List.getD l (Int.toNat v1) Ti64D).1))
      (L_minsat_mask_0 l (ior .u32 v0 (ishl .u32 1 (List.getD l (Int.toNat v1) Ti64D).1)) (IntKind.wrap .i64 (v1 + 1)) Q)
      False)
    False)
  (Q (v0, ()))) : L_minsat_mask_0 l v0 v1 Q := Lfp.step (Eq.mpr (by kernel_rfl) h)
theorem lp_minsat_mask_0 (l : List Ti64T) (v00 : Int) (Q : Int × Unit → Prop) (hw : VSs.wf e_minsat_mask.A (l, ())) (hp : p_minsat_mask l = true)  : (fun y : Int => Q (y, ())) (S_minsat_mask_0 l v00) → L_minsat_mask_0 l v00 0 Q := by
  have _ := hw
  have _ := hp
  let FF := (fun y : Int => Q (y, ()))
  refine upS_loop (F := FF) (k := .i64) (n := l.length) (I := fun _ _ => True) (L := (fun (c0 : Int) (s0 : Int) => L_minsat_mask_0 l s0 c0 Q)) (wrap_i64n (show _ ≤ _ from (hw.1).1)) (fun c0 hc0 s0 hI hF => rd_minsat_mask_0 l s0 (c0 : Int) Q (cond_ge (n := l.length) rfl hc0 (id hF))) (fun c0 _ hc0 next0 hn0 s0 hI hF => rd_minsat_mask_0 l s0 (c0 : Int) Q (cond_lt (n := l.length) rfl hc0 ((vc_f (F := FF) (by first | ((simp [-List.getD_eq_getElem?_getD, okIx_nat hc0, mask_at hp hc0]); done) | ((exact mask_at hp hc0); done) | ((repeat' (first | rfl | exact nn_d64 _ | exact okIx_nat hc0 | refine and_t ?_ ?_ | refine or_l ?_)); done) | (simp [-List.getD_eq_getElem?_getD, okIx_nat hc0, nn_u64, nn_u32]; done) | (have hry : roomy = 1048576 := rfl; simp [-List.getD_eq_getElem?_getD, okIx, okSlc, okApp, len_slcL, len_segL] <;> omega)) /- 1 -/ (vc_f (F := FF) (by first | ((simp [-List.getD_eq_getElem?_getD, okIx_nat hc0, mask_at hp hc0]); done) | ((exact mask_at hp hc0); done) | ((repeat' (first | rfl | exact nn_d64 _ | exact okIx_nat hc0 | refine and_t ?_ ?_ | refine or_l ?_)); done) | (simp [-List.getD_eq_getElem?_getD, okIx_nat hc0, nn_u64, nn_u32]; done) | (have hry : roomy = 1048576 := rfl; simp [-List.getD_eq_getElem?_getD, okIx, okSlc, okApp, len_slcL, len_segL] <;> omega)) /- 2 -/ (hn0 _ trivial))) hF))) v00 trivial
theorem ct_minsat_mask (l : List Ti64T) (hw : VSs.wf e_minsat_mask.A (l, ())) (hp : p_minsat_mask l = true) (Q : Int × Unit → Prop) (hq : Q (e_minsat_mask.g (l, ()))) : EvF G_minsat_mask tb_minsat_mask c_minsat_mask (VSs.enc e_minsat_mask.A (l, ())) (dq e_minsat_mask.R Q) := by
  have _ := hw
  let FF := (fun y : Int => Q (y, ()))
  refine EvF.of (in_minsat_mask l Q) ?_
  exact (lp_minsat_mask_0 l _ Q hw hp) hq
/-! netverify/minsat.clauses -/
def G_minsat_clauses : Env := ⟨[e_minsat_mask], []⟩
def b_minsat_clauses_0 : ACode := (.seq (.region [(oI 12 (.bin .lss (.t 11) (.t 10)))] []) (.seq (.cond 12 .skip (.exit 0)) (.seq (.block 1 (.seq (.region [(oI 13 (.mov (.t 11))), (oI 14 (.ixa 2 (.t 9) (.t 11))), (oI 15 (.load true 2 (.t 14))), (oI 5 (.alloc [(.f .nils), (.f .nils)])), (oI 4 (.mov (.t 13))), (.mk none none (.store 2 (.t 5) (.t 15)))] []) (.region [(oI 16 (.mov (.t 3))), (oI 17 (.mov (.t 4))), (oI 18 (.fld 0 (.t 5))), (oI 19 (.load false 1 (.t 18))), (oI 20 (.call 35 [(.t 19)])), (oI 21 (.fld 1 (.t 5))), (oI 22 (.load false 1 (.t 21))), (oI 23 (.call 35 [(.t 22)])), (oI 24 (.build [(.f (.int .u32 0)), (.f (.int .u32 0))] [(0, (1, (.t 20))), (1, (1, (.t 23)))])), (oI 25 (.ixa 2 (.t 16) (.t 17))), (.mk none none (.store 2 (.t 25) (.t 24)))] []))) (.region [(oI 26 (.bin .add (.t 11) (.c (.f (.int .i64 1))))), (oI 11 (.mov (.t 26)))] []))))
def r_minsat_clauses_0 : ACode := (.seq (.region [(oI 27 (.mov (.t 3))), (oI 2 (.mov (.t 27)))] []) .ret)
def c_minsat_clauses : AFunc := AFunc.mk 28 1 [(.t 2)] (.seq (.region [(oI 2 (.mov (.c (.f .nils))))] []) (.seq (.region [(oI 6 (.mov (.t 0))), (oI 7 (.len (.t 6))), (oI 8 (.mks clauseS (.t 7))), (oI 3 (.mov (.t 8)))] []) (.seq (.seq (.region [(oI 9 (.mov (.t 0))), (oI 10 (.len (.t 9))), (oI 11 (.mov (.c (.f (.int .i64 0)))))] []) (.block 0 (.loop 0 [(3, .no), (9, .no), (10, .no), (11, .no)] b_minsat_clauses_0))) r_minsat_clauses_0)))
def tb_minsat_clauses : Tbl
  | 0 => ([(3, .no), (9, .no), (10, .no), (11, .no)], b_minsat_clauses_0)
  | _ => ([], .skip)
theorem ok_minsat_clauses : compF Tryd.prog [11, 23, 26, 27] Tryd.f21 = some c_minsat_clauses.strip := by kernel_rfl
theorem tk_minsat_clauses : TblOk tb_minsat_clauses c_minsat_clauses.body := ⟨trivial, ⟨trivial, ⟨⟨trivial, ⟨rfl, ⟨trivial, ⟨⟨trivial, trivial⟩, ⟨⟨trivial, trivial⟩, trivial⟩⟩⟩⟩⟩, ⟨trivial, trivial⟩⟩⟩⟩
def k_minsat_clauses_0 (Q : (List clauseT) × Unit → Prop) : K := (kBlock 0 (kSeq (evC G_minsat_clauses (Lfp G_minsat_clauses tb_minsat_clauses) r_minsat_clauses_0) (kDone c_minsat_clauses (dq e_minsat_clauses.R Q))))
def s_minsat_clauses_0 (cs : List ConstraintT) (v0 : Int) (v1 : List clauseT) : St := ⟨[(3, [], .sl 0 2 0 (Int.toNat (cs.length : Int))), (9, [], .f (.fs ConstraintS cs)), (10, [], .f (.int .i64 (cs.length : Int))), (11, [], .f (.int .i64 v0))], [.row clauseS v1]⟩
def L_minsat_clauses_0 (cs : List ConstraintT) (v0 : Int) (v1 : List clauseT) (Q : (List clauseT) × Unit → Prop) : Prop := Lfp G_minsat_clauses tb_minsat_clauses 0 (s_minsat_clauses_0 cs v0 v1) (k_minsat_clauses_0 Q)
theorem in_minsat_clauses (cs : List ConstraintT) (Q : (List clauseT) × Unit → Prop) : evF G_minsat_clauses (Lfp G_minsat_clauses tb_minsat_clauses) c_minsat_clauses (VSs.enc e_minsat_clauses.A (cs, ())) (dq e_minsat_clauses.R Q) = (
  cond ((decide (0 ≤ (cs.length : Int))) && (decide ((cs.length : Int) ≤ (roomy : Int))))
  (L_minsat_clauses_0 cs 0 (List.replicate (Int.toNat (cs.length : Int)) clauseD) Q)
  False) := by kernel_rfl
theorem rd_minsat_clauses_0 (cs : List ConstraintT) (v0 : Int) (v1 : List clauseT) (Q : (List clauseT) × Unit → Prop) (h :
  cond (decide (v0 < (cs.length : Int)))
  (cond (okIx v0 (cs.length : Int))
    (cond (((p_minsat_mask (List.getD cs (Int.toNat v0) ConstraintD).1) && (p_minsat_mask (List.getD cs (Int.toNat v0) ConstraintD).2.1)) && (okIx v0 ((Int.toNat (cs.length : Int)) : Int)))
      (L_minsat_clauses_0 cs (IntKind.wrap .i64 (v0 + 1)) (List.set v1 (0 + (Int.toNat v0)) ((g_minsat_mask (List.getD cs (Int.toNat v0) ConstraintD).1), (g_minsat_mask (List.getD cs (Int.toNat v0) ConstraintD).2.1), ())) Q)
      False)
    False)
  (Q ((segL v1 0 (Int.toNat (cs.length : Int))), ()))) : L_minsat_clauses_0 cs v0 v1 Q := Lfp.step (Eq.mpr (by kernel_rfl) h)
theorem lp_minsat_clauses_0 (cs : List ConstraintT) (v10 : List clauseT) (Q : (List clauseT) × Unit → Prop) (hw : VSs.wf e_minsat_clauses.A (cs, ())) (hp : p_minsat_clauses cs = true)  : (fun y : List clauseT => Q (y, ())) (S_minsat_clauses_0 cs v10) → L_minsat_clauses_0 cs 0 v10 Q := by
  have _ := hw
  have _ := hp
  let FF := (fun y : List clauseT => Q (y, ()))
  refine upS_loop (F := FF) (k := .i64) (n := cs.length) (I := fun _ _ => True) (L := (fun (c0 : Int) (s0 : (List clauseT)) => L_minsat_clauses_0 cs c0 s0 Q)) (wrap_i64n (show _ ≤ _ from (hw.1).1)) (fun c0 hc0 s0 hI hF => rd_minsat_clauses_0 cs (c0 : Int) s0 Q (cond_ge (n := cs.length) rfl hc0 (id hF))) (fun c0 _ hc0 next0 hn0 s0 hI hF => rd_minsat_clauses_0 cs (c0 : Int) s0 Q (by (try simp only [Nat.zero_add, Int.toNat_natCast]); exact (cond_lt (n := cs.length) rfl hc0 ((vc_f (F := FF) (by first | ((have h9 := clauses_len hp; have hry : roomy = 1048576 := rfl; simp [-List.getD_eq_getElem?_getD, hry]; omega); done) | ((simp [-List.getD_eq_getElem?_getD, okIx_nat hc0, clauses_at hp hc0]); done) | ((repeat' (first | rfl | exact nn_d64 _ | exact okIx_nat hc0 | refine and_t ?_ ?_ | refine or_l ?_)); done) | (simp [-List.getD_eq_getElem?_getD, okIx_nat hc0, nn_u64, nn_u32]; done) | (have hry : roomy = 1048576 := rfl; simp [-List.getD_eq_getElem?_getD, okIx, okSlc, okApp, len_slcL, len_segL] <;> omega)) /- 1 -/ (vc_f (F := FF) (by first | ((have h9 := clauses_len hp; have hry : roomy = 1048576 := rfl; simp [-List.getD_eq_getElem?_getD, hry]; omega); done) | ((simp [-List.getD_eq_getElem?_getD, okIx_nat hc0, clauses_at hp hc0]); done) | ((repeat' (first | rfl | exact nn_d64 _ | exact okIx_nat hc0 | refine and_t ?_ ?_ | refine or_l ?_)); done) | (simp [-List.getD_eq_getElem?_getD, okIx_nat hc0, nn_u64, nn_u32]; done) | (have hry : roomy = 1048576 := rfl; simp [-List.getD_eq_getElem?_getD, okIx, okSlc, okApp, len_slcL, len_segL] <;> omega)) /- 2 -/ (hn0 _ trivial))) hF)))) v10 trivial
theorem ct_minsat_clauses (cs : List ConstraintT) (hw : VSs.wf e_minsat_clauses.A (cs, ())) (hp : p_minsat_clauses cs = true) (Q : (List clauseT) × Unit → Prop) (hq : Q (e_minsat_clauses.g (cs, ()))) : EvF G_minsat_clauses tb_minsat_clauses c_minsat_clauses (VSs.enc e_minsat_clauses.A (cs, ())) (dq e_minsat_clauses.R Q) := by
  have _ := hw
  let FF := (fun y : List clauseT => Q (y, ()))
  refine EvF.of (in_minsat_clauses cs Q) ?_
  exact (vc_f (F := FF) (by first | ((have h9 := clauses_len hp; have hry : roomy = 1048576 := rfl; simp [-List.getD_eq_getElem?_getD, hry]; omega); done) | ((simp [-List.getD_eq_getElem?_getD, okIx_nat hc0, clauses_at hp hc0]); done) | ((repeat' (first | rfl | exact nn_d64 _ | refine and_t ?_ ?_ | refine or_l ?_)); done) | (simp [-List.getD_eq_getElem?_getD, nn_u64, nn_u32]; done) | (have hry : roomy = 1048576 := rfl; simp [-List.getD_eq_getElem?_getD, okIx, okSlc, okApp, len_slcL, len_segL] <;> omega)) /- 3 -/ (lp_minsat_clauses_0 cs _ Q hw hp)) hq
/-! math/bits.OnesCount32 -/
def G_bits_OnesCount32 : Env := ⟨[], []⟩
def c_bits_OnesCount32 : AFunc := AFunc.mk 21 1 [(.t 2)] (.seq (.region [(oI 2 (.mov (.c (.f (.int .i64 0)))))] []) (.seq (.region [(oI 3 (.mov (.t 0))), (oI 4 (.bin .shr (.t 3) (.c (.f (.int .u64 24))))), (oI 5 (.ixs (.c (.f (.str [0, 1, 1, 2, 1, 2, 2, 3, 1, 2, 2, 3, 2, 3, 3, 4, 1, 2, 2, 3, 2, 3, 3, 4, 2, 3, 3, 4, 3, 4, 4, 5, 1, 2, 2, 3, 2, 3, 3, 4, 2, 3, 3, 4, 3, 4, 4, 5, 2, 3, 3, 4, 3, 4, 4, 5, 3, 4, 4, 5, 4, 5, 5, 6, 1, 2, 2, 3, 2, 3, 3, 4, 2, 3, 3, 4, 3, 4, 4, 5, 2, 3, 3, 4, 3, 4, 4, 5, 3, 4, 4, 5, 4, 5, 5, 6, 2, 3, 3, 4, 3, 4, 4, 5, 3, 4, 4, 5, 4, 5, 5, 6, 3, 4, 4, 5, 4, 5, 5, 6, 4, 5, 5, 6, 5, 6, 6, 7, 1, 2, 2, 3, 2, 3, 3, 4, 2, 3, 3, 4, 3, 4, 4, 5, 2, 3, 3, 4, 3, 4, 4, 5, 3, 4, 4, 5, 4, 5, 5, 6, 2, 3, 3, 4, 3, 4, 4, 5, 3, 4, 4, 5, 4, 5, 5, 6, 3, 4, 4, 5, 4, 5, 5, 6, 4, 5, 5, 6, 5, 6, 6, 7, 2, 3, 3, 4, 3, 4, 4, 5, 3, 4, 4, 5, 4, 5, 5, 6, 3, 4, 4, 5, 4, 5, 5, 6, 4, 5, 5, 6, 5, 6, 6, 7, 3, 4, 4, 5, 4, 5, 5, 6, 4, 5, 5, 6, 5, 6, 6, 7, 4, 5, 5, 6, 5, 6, 6, 7, 5, 6, 6, 7, 6, 7, 7, 8]))) (.t 4))), (oI 6 (.mov (.t 0))), (oI 7 (.bin .shr (.t 6) (.c (.f (.int .u64 16))))), (oI 8 (.bin .and (.t 7) (.c (.f (.int .u32 255))))), (oI 9 (.ixs (.c (.f (.str [0, 1, 1, 2, 1, 2, 2, 3, 1, 2, 2, 3, 2, 3, 3, 4, 1, 2, 2, 3, 2, 3, 3, 4, 2, 3, 3, 4, 3, 4, 4, 5, 1, 2, 2, 3, 2, 3, 3, 4, 2, 3, 3, 4, 3, 4, 4, 5, 2, 3, 3, 4, 3, 4, 4, 5, 3, 4, 4, 5, 4, 5, 5, 6, 1, 2, 2, 3, 2, 3, 3, 4, 2, 3, 3, 4, 3, 4, 4, 5, 2, 3, 3, 4, 3, 4, 4, 5, 3, 4, 4, 5, 4, 5, 5, 6, 2, 3, 3, 4, 3, 4, 4, 5, 3, 4, 4, 5, 4, 5, 5, 6, 3, 4, 4, 5, 4, 5, 5, 6, 4, 5, 5, 6, 5, 6, 6, 7, 1, 2, 2, 3, 2, 3, 3, 4, 2, 3, 3, 4, 3, 4, 4, 5, 2, 3, 3, 4, 3, 4, 4, 5, 3, 4, 4, 5, 4, 5, 5, 6, 2, 3, 3, 4, 3, 4, 4, 5, 3, 4, 4, 5, 4, 5, 5, 6, 3, 4, 4, 5, 4, 5, 5, 6, 4, 5, 5, 6, 5, 6, 6, 7, 2, 3, 3, 4, 3, 4, 4, 5, 3, 4, 4, 5, 4, 5, 5, 6, 3, 4, 4, 5, 4, 5, 5, 6, 4, 5, 5, 6, 5, 6, 6, 7, 3, 4, 4, 5, 4, 5, 5, 6, 4, 5, 5, 6, 5, 6, 6, 7, 4, 5, 5, 6, 5, 6, 6, 7, 5, 6, 6, 7, 6, 7, 7, 8]))) (.t 8))), (oI 10 (.bin .add (.t 5) (.t 9))), (oI 11 (.mov (.t 0))), (oI 12 (.bin .shr (.t 11) (.c (.f (.int .u64 8))))), (oI 13 (.bin .and (.t 12) (.c (.f (.int .u32 255))))), (oI 14 (.ixs (.c (.f (.str [0, 1, 1, 2, 1, 2, 2, 3, 1, 2, 2, 3, 2, 3, 3, 4, 1, 2, 2, 3, 2, 3, 3, 4, 2, 3, 3, 4, 3, 4, 4, 5, 1, 2, 2, 3, 2, 3, 3, 4, 2, 3, 3, 4, 3, 4, 4, 5, 2, 3, 3, 4, 3, 4, 4, 5, 3, 4, 4, 5, 4, 5, 5, 6, 1, 2, 2, 3, 2, 3, 3, 4, 2, 3, 3, 4, 3, 4, 4, 5, 2, 3, 3, 4, 3, 4, 4, 5, 3, 4, 4, 5, 4, 5, 5, 6, 2, 3, 3, 4, 3, 4, 4, 5, 3, 4, 4, 5, 4, 5, 5, 6, 3, 4, 4, 5, 4, 5, 5, 6, 4, 5, 5, 6, 5, 6, 6, 7, 1, 2, 2, 3, 2, 3, 3, 4, 2, 3, 3, 4, 3, 4, 4, 5, 2, 3, 3, 4, 3, 4, 4, 5, 3, 4, 4, 5, 4, 5, 5, 6, 2, 3, 3, 4, 3, 4, 4, 5, 3, 4, 4, 5, 4, 5, 5, 6, 3, 4, 4, 5, 4, 5, 5, 6, 4, 5, 5, 6, 5, 6, 6, 7, 2, 3, 3, 4, 3, 4, 4, 5, 3, 4, 4, 5, 4, 5, 5, 6, 3, 4, 4, 5, 4, 5, 5, 6, 4, 5, 5, 6, 5, 6, 6, 7, 3, 4, 4, 5, 4, 5, 5, 6, 4, 5, 5, 6, 5, 6, 6, 7, 4, 5, 5, 6, 5, 6, 6, 7, 5, 6, 6, 7, 6, 7, 7, 8]))) (.t 13))), (oI 15 (.bin .add (.t 10) (.t 14))), (oI 16 (.mov (.t 0))), (oI 17 (.bin .and (.t 16) (.c (.f (.int .u32 255))))), (oI 18 (.ixs (.c (.f (.str [0, 1, 1, 2, 1, 2, 2, 3, 1, 2, 2, 3, 2, 3, 3, 4, 1, 2, 2, 3, 2, 3, 3, 4, 2, 3, 3, 4, 3, 4, 4, 5, 1, 2, 2, 3, 2, 3, 3, 4, 2, 3, 3, 4, 3, 4, 4, 5, 2, 3, 3, 4, 3, 4, 4, 5, 3, 4, 4, 5, 4, 5, 5, 6, 1, 2, 2, 3, 2, 3, 3, 4, 2, 3, 3, 4, 3, 4, 4, 5, 2, 3, 3, 4, 3, 4, 4, 5, 3, 4, 4, 5, 4, 5, 5, 6, 2, 3, 3, 4, 3, 4, 4, 5, 3, 4, 4, 5, 4, 5, 5, 6, 3, 4, 4, 5, 4, 5, 5, 6, 4, 5, 5, 6, 5, 6, 6, 7, 1, 2, 2, 3, 2, 3, 3, 4, 2, 3, 3, 4, 3, 4, 4, 5, 2, 3, 3, 4, 3, 4, 4, 5, 3, 4, 4, 5, 4, 5, 5, 6, 2, 3, 3, 4, 3, 4, 4, 5, 3, 4, 4, 5, 4, 5, 5, 6, 3, 4, 4, 5, 4, 5, 5, 6, 4, 5, 5, 6, 5, 6, 6, 7, 2, 3, 3, 4, 3, 4, 4, 5, 3, 4, 4, 5, 4, 5, 5, 6, 3, 4, 4, 5, 4, 5, 5, 6, 4, 5, 5, 6, 5, 6, 6, 7, 3, 4, 4, 5, 4, 5, 5, 6, 4, 5, 5, 6, 5, 6, 6, 7, 4, 5, 5, 6, 5, 6, 6, 7, 5, 6, 6, 7, 6, 7, 7, 8]))) (.t 17))), (oI 19 (.bin .add (.t 15) (.t 18))), (oI 20 (.conv .i64 (.t 19))), (oI 2 (.mov (.t 20)))] []) .ret))
def tb_bits_OnesCount32 : Tbl := fun _ => ([], .skip)
theorem ok_bits_OnesCount32 : compF Tryd.prog [11, 23, 26, 27] Tryd.f40 = some c_bits_OnesCount32.strip := by kernel_rfl
theorem tk_bits_OnesCount32 : TblOk tb_bits_OnesCount32 c_bits_OnesCount32.body := ⟨trivial, ⟨trivial, trivial⟩⟩
theorem in_bits_OnesCount32 (x0 : Int) (Q : Int × Unit → Prop) : evF G_bits_OnesCount32 (Lfp G_bits_OnesCount32 tb_bits_OnesCount32) c_bits_OnesCount32 (VSs.enc e_bits_OnesCount32.A (x0, ())) (dq e_bits_OnesCount32.R Q) = (
  cond ((((((okIx (ishr .u32 x0 24) 256) && true) && (okIx (iand .u32 (ishr .u32 x0 16) 255) 256)) && true) && (okIx (iand .u32 (ishr .u32 x0 8) 255) 256)) && (okIx (iand .u32 x0 255) 256))
  (Q ((IntKind.wrap .i64 (IntKind.wrap .u8 ((IntKind.wrap .u8 ((IntKind.wrap .u8 ((byteAt [0, 1, 1, 2, 1, 2, 2, 3, 1, 2, 2, 3, 2, 3, 3, 4, 1, 2, 2, 3, 2, 3, 3, 4, 2, 3, 3, 4, 3, 4, 4, 5, 1, 2, 2, 3, 2, 3, 3, 4, 2, 3, 3, 4, 3, 4, 4, 5, 2, 3, 3, 4, 3, 4, 4, 5, 3, 4, 4, 5, 4, 5, 5, 6, 1, 2, 2, 3, 2, 3, 3, 4, 2, 3, 3, 4, 3, 4, 4, 5, 2, 3, 3, 4, 3, 4, 4, 5, 3, 4, 4, 5, 4, 5, 5, 6, 2, 3, 3, 4, 3, 4, 4, 5, 3, 4, 4, 5, 4, 5, 5, 6, 3, 4, 4, 5, 4, 5, 5, 6, 4, 5, 5, 6, 5, 6, 6, 7, 1, 2, 2, 3, 2, 3, 3, 4, 2, 3, 3, 4, 3, 4, 4, 5, 2, 3, 3, 4, 3, 4, 4, 5, 3, 4, 4, 5, 4, 5, 5, 6, 2, 3, 3, 4, 3, 4, 4, 5, 3, 4, 4, 5, 4, 5, 5, 6, 3, 4, 4, 5, 4, 5, 5, 6, 4, 5, 5, 6, 5, 6, 6, 7, 2, 3, 3, 4, 3, 4, 4, 5, 3, 4, 4, 5, 4, 5, 5, 6, 3, 4, 4, 5, 4, 5, 5, 6, 4, 5, 5, 6, 5, 6, 6, 7, 3, 4, 4, 5, 4, 5, 5, 6, 4, 5, 5, 6, 5, 6, 6, 7, 4, 5, 5, 6, 5, 6, 6, 7, 5, 6, 6, 7, 6, 7, 7, 8] (ishr .u32 x0 24)) + (byteAt [0, 1, 1, 2, 1, 2, 2, 3, 1, 2, 2, 3, 2, 3, 3, 4, 1, 2, 2, 3, 2, 3, 3, 4, 2, 3, 3, 4, 3, 4, 4, 5, 1, 2, 2, 3, 2, 3, 3, 4, 2, 3, 3, 4, 3, 4, 4, 5, 2, 3, 3, 4, 3, 4, 4, 5, 3, 4, 4, 5, 4, 5, 5, 6, 1, 2, 2, 3, 2, 3, 3, 4, 2, 3, 3, 4, 3, 4, 4, 5, 2, 3, 3, 4, 3, 4, 4, 5, 3, 4, 4, 5, 4, 5, 5, 6, 2, 3, 3, 4, 3, 4, 4, 5, 3, 4, 4, 5, 4, 5, 5, 6, 3, 4, 4, 5, 4, 5, 5, 6, 4, 5, 5, 6, 5, 6, 6, 7, 1, 2, 2, 3, 2, 3, 3, 4, 2, 3, 3, 4, 3, 4, 4, 5, 2, 3, 3, 4, 3, 4, 4, 5, 3, 4, 4, 5, 4, 5, 5, 6, 2, 3, 3, 4, 3, 4, 4, 5, 3, 4, 4, 5, 4, 5, 5, 6, 3, 4, 4, 5, 4, 5, 5, 6, 4, 5, 5, 6, 5, 6, 6, 7, 2, 3, 3, 4, 3, 4, 4, 5, 3, 4, 4, 5, 4, 5, 5, 6, 3, 4, 4, 5, 4, 5, 5, 6, 4, 5, 5, 6, 5, 6, 6, 7, 3, 4, 4, 5, 4, 5, 5, 6, 4, 5, 5, 6, 5, 6, 6, 7, 4, 5, 5, 6, 5, 6, 6, 7, 5, 6, 6, 7, 6, 7, 7, 8] (iand .u32 (ishr .u32 x0 16) 255)))) + (byteAt [0, 1, 1, 2, 1, 2, 2, 3, 1, 2, 2, 3, 2, 3, 3, 4, 1, 2, 2, 3, 2, 3, 3, 4, 2, 3, 3, 4, 3, 4, 4, 5, 1, 2, 2, 3, 2, 3, 3, 4, 2, 3, 3, 4, 3, 4, 4, 5, 2, 3, 3, 4, 3, 4, 4, 5, 3, 4, 4, 5, 4, 5, 5, 6, 1, 2, 2, 3, 2, 3, 3, 4, 2, 3, 3, 4, 3, 4, 4, 5, 2, 3, 3, 4, 3, 4, 4, 5, 3, 4, 4, 5, 4, 5, 5, 6, 2, 3, 3, 4, 3, 4, 4, 5, 3, 4, 4, 5, 4, 5, 5, 6, 3, 4, 4, 5, 4, 5, 5, 6, 4, 5, 5, 6, 5, 6, 6, 7, 1, 2, 2, 3, 2, 3, 3, 4, 2, 3, 3, 4, 3, 4, 4, 5, 2, 3, 3, 4, 3, 4, 4, 5, 3, 4, 4, 5, 4, 5, 5, 6, 2, 3, 3, 4, 3, 4, 4, 5, 3, 4, 4, 5, 4, 5, 5, 6, 3, 4, 4, 5, 4, 5, 5, 6, 4, 5, 5, 6, 5, 6, 6, 7, 2, 3, 3, 4, 3, 4, 4, 5, 3, 4, 4, 5, 4, 5, 5, 6, 3, 4, 4, 5, 4, 5, 5, 6, 4, 5, 5, 6, 5, 6, 6, 7, 3, 4, 4, 5, 4, 5, 5, 6, 4, 5, 5, 6, 5, 6, 6, 7, 4, 5, 5, 6, 5, 6, 6, 7, 5, 6, 6, 7, 6, 7, 7, 8] (iand .u32 (ishr .u32 x0 8) 255)))) + (byteAt [0, 1, 1, 2, 1, 2, 2, 3, 1, 2, 2, 3, 2, 3, 3, 4, 1, 2, 2, 3, 2, 3, 3, 4, 2, 3, 3, 4, 3, 4, 4, 5, 1, 2, 2, 3, 2, 3, 3, 4, 2, 3, 3, 4, 3, 4, 4, 5, 2, 3, 3, 4, 3, 4, 4, 5, 3, 4, 4, 5, 4, 5, 5, 6, 1, 2, 2, 3, 2, 3, 3, 4, 2, 3, 3, 4, 3, 4, 4, 5, 2, 3, 3, 4, 3, 4, 4, 5, 3, 4, 4, 5, 4, 5, 5, 6, 2, 3, 3, 4, 3, 4, 4, 5, 3, 4, 4, 5, 4, 5, 5, 6, 3, 4, 4, 5, 4, 5, 5, 6, 4, 5, 5, 6, 5, 6, 6, 7, 1, 2, 2, 3, 2, 3, 3, 4, 2, 3, 3, 4, 3, 4, 4, 5, 2, 3, 3, 4, 3, 4, 4, 5, 3, 4, 4, 5, 4, 5, 5, 6, 2, 3, 3, 4, 3, 4, 4, 5, 3, 4, 4, 5, 4, 5, 5, 6, 3, 4, 4, 5, 4, 5, 5, 6, 4, 5, 5, 6, 5, 6, 6, 7, 2, 3, 3, 4, 3, 4, 4, 5, 3, 4, 4, 5, 4, 5, 5, 6, 3, 4, 4, 5, 4, 5, 5, 6, 4, 5, 5, 6, 5, 6, 6, 7, 3, 4, 4, 5, 4, 5, 5, 6, 4, 5, 5, 6, 5, 6, 6, 7, 4, 5, 5, 6, 5, 6, 6, 7, 5, 6, 6, 7, 6, 7, 7, 8] (iand .u32 x0 255))))), ()))
  False) := by kernel_rfl
theorem ct_bits_OnesCount32 (x0 : Int) (hw : VSs.wf e_bits_OnesCount32.A (x0, ())) (Q : Int × Unit → Prop) (hq : Q (e_bits_OnesCount32.g (x0, ()))) : EvF G_bits_OnesCount32 tb_bits_OnesCount32 c_bits_OnesCount32 (VSs.enc e_bits_OnesCount32.A (x0, ())) (dq e_bits_OnesCount32.R Q) := by
  have _ := hw
  let FF := (fun y : Int => Q (y, ()))
  refine EvF.of (in_bits_OnesCount32 x0 Q) ?_
  exact (vc_f (F := FF) (by have h := oc_ix (u32_of hw.1); simp [-List.getD_eq_getElem?_getD, h]) id) hq
end Go.Proofs.YtilbcgklkdkkdaaDoor
