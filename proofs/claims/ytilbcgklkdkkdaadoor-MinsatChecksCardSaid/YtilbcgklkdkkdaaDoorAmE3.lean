/-
  The codes and their equations.
-/
import Derived.Test.YtilbcgklkdkkdaaDoorAmG
import Derived.Test.YtilbcgklkdkkdaaDoorProg
import Derived.KernelRfl
namespace Go.Proofs.YtilbcgklkdkkdaaDoor
open Go Go.AM
set_option maxRecDepth 100000
/-! netverify/netverifyref42.has -/
def G_r42_has : Env := ⟨[], []⟩
def b_r42_has_0 : ACode := (.seq (.seq (.region [(oI 6 (.mov (.t 5))), (oI 7 (.mov (.t 0))), (oI 8 (.len (.t 7))), (oI 9 (.bin .lss (.t 6) (.t 8)))] []) (.cond 9 .skip (.exit 0))) (.seq (.block 1 (.seq (.region [(oI 12 (.mov (.t 0))), (oI 13 (.mov (.t 5))), (oI 14 (.ixa 1 (.t 12) (.t 13))), (oI 15 (.load false 1 (.t 14))), (oI 16 (.mov (.t 1))), (oI 17 (.bin .eql (.t 15) (.t 16)))] []) (.cond 17 (.seq (.region [(oI 4 (.mov (.c (.f (.bool true)))))] []) .ret) .skip))) (.region [(oI 10 (.mov (.t 5))), (oI 11 (.bin .add (.t 10) (.c (.f (.int .i64 1))))), (oI 5 (.mov (.t 11)))] [])))
def r_r42_has_0 : ACode := (.seq (.region [(oI 4 (.mov (.c (.f (.bool false)))))] []) .ret)
def c_r42_has : AFunc := AFunc.mk 18 2 [(.t 4)] (.seq (.region [(oI 4 (.mov (.c (.f (.bool false)))))] []) (.seq (.seq (.region [(oI 5 (.mov (.c (.f (.int .i64 0)))))] []) (.block 0 (.loop 0 [(0, .no), (1, .no), (5, .no)] b_r42_has_0))) r_r42_has_0))
def tb_r42_has : Tbl
  | 0 => ([(0, .no), (1, .no), (5, .no)], b_r42_has_0)
  | _ => ([], .skip)
theorem ok_r42_has : compF Tryd.prog [26, 27] Tryd.f39 = some c_r42_has.strip := by kernel_rfl
theorem tk_r42_has : TblOk tb_r42_has c_r42_has.body := ⟨trivial, ⟨⟨trivial, ⟨rfl, ⟨⟨trivial, ⟨trivial, trivial⟩⟩, ⟨⟨trivial, ⟨⟨trivial, trivial⟩, trivial⟩⟩, trivial⟩⟩⟩⟩, ⟨trivial, trivial⟩⟩⟩
def k_r42_has_0 (Q : Bool × Unit → Prop) : K := (kBlock 0 (kSeq (evC G_r42_has (Lfp G_r42_has tb_r42_has) r_r42_has_0) (kDone c_r42_has (dq e_r42_has.R Q))))
def s_r42_has_0 (l : List Ti64T) (x0 : Int) (v0 : Int) : St := ⟨[(0, [], .f (.fs Ti64S l)), (1, [], .f (.int .i64 x0)), (5, [], .f (.int .i64 v0))], []⟩
def L_r42_has_0 (l : List Ti64T) (x0 : Int) (v0 : Int) (Q : Bool × Unit → Prop) : Prop := Lfp G_r42_has tb_r42_has 0 (s_r42_has_0 l x0 v0) (k_r42_has_0 Q)
theorem in_r42_has (l : List Ti64T) (x0 : Int) (Q : Bool × Unit → Prop) : evF G_r42_has (Lfp G_r42_has tb_r42_has) c_r42_has (VSs.enc e_r42_has.A (l, x0, ())) (dq e_r42_has.R Q) = (
  L_r42_has_0 l x0 0 Q) := by kernel_rfl
theorem rd_r42_has_0 (l : List Ti64T) (x0 : Int) (v0 : Int) (Q : Bool × Unit → Prop) (h :
  cond (decide (v0 < (l.length : Int)))
  (cond (okIx v0 (l.length : Int))
    (cond ((List.getD l (Int.toNat v0) Ti64D).1 == x0)
      (Q (true, ()))
      (L_r42_has_0 l x0 (IntKind.wrap .i64 (v0 + 1)) Q))
    False)
  (Q (false, ()))) : L_r42_has_0 l x0 v0 Q := Lfp.step (Eq.mpr (by kernel_rfl) h)
theorem lp_r42_has_0 (l : List Ti64T) (x0 : Int) (Q : Bool × Unit → Prop) (hw : VSs.wf e_r42_has.A (l, x0, ()))  : (fun y : Bool => Q (y, ())) (S_r42_has_0 l x0) → L_r42_has_0 l x0 0 Q := by
  have _ := hw
  let FF := (fun y : Bool => Q (y, ()))
  refine upV_loop (F := FF) (k := .i64) (n := l.length) (L := (fun c0 : Int => L_r42_has_0 l x0 c0 Q)) (wrap_i64n (show _ ≤ _ from (hw.1).1)) (fun c0 hc0 hF => rd_r42_has_0 l x0 (c0 : Int) Q (cond_ge (n := l.length) rfl hc0 (id hF))) (fun c0 _ hc0 next0 hn0 hF => rd_r42_has_0 l x0 (c0 : Int) Q (cond_lt (n := l.length) rfl hc0 ((vc_f (F := FF) (by first | ((repeat' (first | rfl | exact nn_d64 _ | exact okIx_nat hc0 | refine and_t ?_ ?_ | refine or_l ?_)); done) | (simp [-List.getD_eq_getElem?_getD, okIx_nat hc0, nn_u64, nn_u32]; done) | (have hry : roomy = 1048576 := rfl; simp [-List.getD_eq_getElem?_getD, okIx, okSlc, okApp, len_slcL, len_segL] <;> omega)) /- 1 -/ (cond_f (F := FF) (fun h0 => id) (fun h0 => hn0))) hF)))
theorem ct_r42_has (l : List Ti64T) (x0 : Int) (hw : VSs.wf e_r42_has.A (l, x0, ())) (Q : Bool × Unit → Prop) (hq : Q (e_r42_has.g (l, x0, ()))) : EvF G_r42_has tb_r42_has c_r42_has (VSs.enc e_r42_has.A (l, x0, ())) (dq e_r42_has.R Q) := by
  have _ := hw
  let FF := (fun y : Bool => Q (y, ()))
  refine EvF.of (in_r42_has l x0 Q) ?_
  exact (lp_r42_has_0 l x0 Q hw) hq
/-! netverify/netverifyref42.Satisfied -/
def G_r42_Satisfied : Env := ⟨[e_r42_has], []⟩
def b_r42_Satisfied_0 : ACode := (.seq (.seq (.region [(oI 7 (.mov (.t 5))), (oI 8 (.fld 0 (.t 3))), (oI 9 (.load false 1 (.t 8))), (oI 10 (.len (.t 9))), (oI 11 (.bin .lss (.t 7) (.t 10)))] []) (.cond 11 .skip (.exit 0))) (.seq (.block 1 (.seq (.region [(oI 14 (.mov (.t 0))), (oI 15 (.fld 0 (.t 3))), (oI 16 (.load false 1 (.t 15))), (oI 17 (.mov (.t 5))), (oI 18 (.ixa 1 (.t 16) (.t 17))), (oI 19 (.load false 1 (.t 18))), (oI 20 (.call 39 [(.t 14), (.t 19)]))] []) (.cond 20 (.seq (.region [(oI 4 (.mov (.c (.f (.bool true)))))] []) .ret) .skip))) (.region [(oI 12 (.mov (.t 5))), (oI 13 (.bin .add (.t 12) (.c (.f (.int .i64 1))))), (oI 5 (.mov (.t 13)))] [])))
def b_r42_Satisfied_1 : ACode := (.seq (.seq (.region [(oI 21 (.mov (.t 6))), (oI 22 (.fld 1 (.t 3))), (oI 23 (.load false 1 (.t 22))), (oI 24 (.len (.t 23))), (oI 25 (.bin .lss (.t 21) (.t 24)))] []) (.cond 25 .skip (.exit 2))) (.seq (.block 3 (.seq (.region [(oI 28 (.mov (.t 0))), (oI 29 (.fld 1 (.t 3))), (oI 30 (.load false 1 (.t 29))), (oI 31 (.mov (.t 6))), (oI 32 (.ixa 1 (.t 30) (.t 31))), (oI 33 (.load false 1 (.t 32))), (oI 34 (.call 39 [(.t 28), (.t 33)])), (oI 35 (.un .not (.t 34)))] []) (.cond 35 (.seq (.region [(oI 4 (.mov (.c (.f (.bool true)))))] []) .ret) .skip))) (.region [(oI 26 (.mov (.t 6))), (oI 27 (.bin .add (.t 26) (.c (.f (.int .i64 1))))), (oI 6 (.mov (.t 27)))] [])))
def r_r42_Satisfied_1 : ACode := (.seq (.region [(oI 4 (.mov (.c (.f (.bool false)))))] []) .ret)
def r_r42_Satisfied_0 : ACode := (.seq (.seq (.region [(oI 6 (.mov (.c (.f (.int .i64 0)))))] []) (.block 2 (.loop 1 [(0, .no), (3, .no), (6, .no)] b_r42_Satisfied_1))) r_r42_Satisfied_1)
def c_r42_Satisfied : AFunc := AFunc.mk 36 2 [(.t 4)] (.seq (.region [(oI 3 (.box (.t 1))), (oI 4 (.mov (.c (.f (.bool false)))))] []) (.seq (.seq (.region [(oI 5 (.mov (.c (.f (.int .i64 0)))))] []) (.block 0 (.loop 0 [(0, .no), (3, .no), (5, .no)] b_r42_Satisfied_0))) r_r42_Satisfied_0))
def tb_r42_Satisfied : Tbl
  | 0 => ([(0, .no), (3, .no), (5, .no)], b_r42_Satisfied_0)
  | 1 => ([(0, .no), (3, .no), (6, .no)], b_r42_Satisfied_1)
  | _ => ([], .skip)
theorem ok_r42_Satisfied : compF Tryd.prog [26, 27] Tryd.f30 = some c_r42_Satisfied.strip := by kernel_rfl
theorem tk_r42_Satisfied : TblOk tb_r42_Satisfied c_r42_Satisfied.body := ⟨trivial, ⟨⟨trivial, ⟨rfl, ⟨⟨trivial, ⟨trivial, trivial⟩⟩, ⟨⟨trivial, ⟨⟨trivial, trivial⟩, trivial⟩⟩, trivial⟩⟩⟩⟩, ⟨⟨trivial, ⟨rfl, ⟨⟨trivial, ⟨trivial, trivial⟩⟩, ⟨⟨trivial, ⟨⟨trivial, trivial⟩, trivial⟩⟩, trivial⟩⟩⟩⟩, ⟨trivial, trivial⟩⟩⟩⟩
def k_r42_Satisfied_0 (Q : Bool × Unit → Prop) : K := (kBlock 0 (kSeq (evC G_r42_Satisfied (Lfp G_r42_Satisfied tb_r42_Satisfied) r_r42_Satisfied_0) (kDone c_r42_Satisfied (dq e_r42_Satisfied.R Q))))
def s_r42_Satisfied_0 (set : List Ti64T) (c : ConstraintT) (v0 : Int) : St := ⟨[(0, [], .f (.fs Ti64S set)), (3, [], .ptr 0 0), (5, [], .f (.int .i64 v0))], [.box none [.f (.fs Ti64S c.1), .f (.fs Ti64S c.2.1)]]⟩
def L_r42_Satisfied_0 (set : List Ti64T) (c : ConstraintT) (v0 : Int) (Q : Bool × Unit → Prop) : Prop := Lfp G_r42_Satisfied tb_r42_Satisfied 0 (s_r42_Satisfied_0 set c v0) (k_r42_Satisfied_0 Q)
def k_r42_Satisfied_1 (Q : Bool × Unit → Prop) : K := (kBlock 2 (kSeq (evC G_r42_Satisfied (Lfp G_r42_Satisfied tb_r42_Satisfied) r_r42_Satisfied_1) (kDone c_r42_Satisfied (dq e_r42_Satisfied.R Q))))
def s_r42_Satisfied_1 (set : List Ti64T) (c : ConstraintT) (v0 : Int) : St := ⟨[(0, [], .f (.fs Ti64S set)), (3, [], .ptr 0 0), (6, [], .f (.int .i64 v0))], [.box none [.f (.fs Ti64S c.1), .f (.fs Ti64S c.2.1)]]⟩
def L_r42_Satisfied_1 (set : List Ti64T) (c : ConstraintT) (v0 : Int) (Q : Bool × Unit → Prop) : Prop := Lfp G_r42_Satisfied tb_r42_Satisfied 1 (s_r42_Satisfied_1 set c v0) (k_r42_Satisfied_1 Q)
theorem in_r42_Satisfied (set : List Ti64T) (c : ConstraintT) (Q : Bool × Unit → Prop) : evF G_r42_Satisfied (Lfp G_r42_Satisfied tb_r42_Satisfied) c_r42_Satisfied (VSs.enc e_r42_Satisfied.A (set, c, ())) (dq e_r42_Satisfied.R Q) = (
  L_r42_Satisfied_0 set c 0 Q) := by kernel_rfl
theorem rd_r42_Satisfied_0 (set : List Ti64T) (c : ConstraintT) (v0 : Int) (Q : Bool × Unit → Prop) (h :
  cond (decide (v0 < (c.1.length : Int)))
  (cond ((okIx v0 (c.1.length : Int)) && true)
    (cond (g_r42_has set (List.getD c.1 (Int.toNat v0) Ti64D).1)
      (Q (true, ()))
      (L_r42_Satisfied_0 set c (IntKind.wrap .i64 (v0 + 1)) Q))
    False)
  (L_r42_Satisfied_1 set c 0 Q)) : L_r42_Satisfied_0 set c v0 Q := Lfp.step (Eq.mpr (by kernel_rfl) h)
theorem rd_r42_Satisfied_1 (set : List Ti64T) (c : ConstraintT) (v0 : Int) (Q : Bool × Unit → Prop) (h :
  cond (decide (v0 < (c.2.1.length : Int)))
  (cond ((okIx v0 (c.2.1.length : Int)) && true)
    (cond (!(g_r42_has set (List.getD c.2.1 (Int.toNat v0) Ti64D).1))
      (Q (true, ()))
      (L_r42_Satisfied_1 set c (IntKind.wrap .i64 (v0 + 1)) Q))
    False)
  (Q (false, ()))) : L_r42_Satisfied_1 set c v0 Q := Lfp.step (Eq.mpr (by kernel_rfl) h)
theorem lp_r42_Satisfied_1 (set : List Ti64T) (c : ConstraintT) (Q : Bool × Unit → Prop) (hw : VSs.wf e_r42_Satisfied.A (set, c, ()))  : (fun y : Bool => Q (y, ())) (S_r42_Satisfied_1 set c) → L_r42_Satisfied_1 set c 0 Q := by
  have _ := hw
  let FF := (fun y : Bool => Q (y, ()))
  refine upV_loop (F := FF) (k := .i64) (n := c.2.1.length) (L := (fun c1 : Int => L_r42_Satisfied_1 set c c1 Q)) (wrap_i64n (show _ ≤ _ from (((hw.2.1).2).1).1)) (fun c1 hc1 hF => rd_r42_Satisfied_1 set c (c1 : Int) Q (cond_ge (n := c.2.1.length) rfl hc1 (id hF))) (fun c1 _ hc1 next1 hn1 hF => rd_r42_Satisfied_1 set c (c1 : Int) Q (cond_lt (n := c.2.1.length) rfl hc1 ((vc_f (F := FF) (by first | ((repeat' (first | rfl | exact nn_d64 _ | exact okIx_nat hc1 | refine and_t ?_ ?_ | refine or_l ?_)); done) | (simp [-List.getD_eq_getElem?_getD, okIx_nat hc1, nn_u64, nn_u32]; done) | (have hry : roomy = 1048576 := rfl; simp [-List.getD_eq_getElem?_getD, okIx, okSlc, okApp, len_slcL, len_segL] <;> omega)) /- 1 -/ (cond_f (F := FF) (fun h0 => id) (fun h0 => hn1))) hF)))
theorem lp_r42_Satisfied_0 (set : List Ti64T) (c : ConstraintT) (Q : Bool × Unit → Prop) (hw : VSs.wf e_r42_Satisfied.A (set, c, ()))  : (fun y : Bool => Q (y, ())) (S_r42_Satisfied_0 set c) → L_r42_Satisfied_0 set c 0 Q := by
  have _ := hw
  let FF := (fun y : Bool => Q (y, ()))
  refine upV_loop (F := FF) (k := .i64) (n := c.1.length) (L := (fun c0 : Int => L_r42_Satisfied_0 set c c0 Q)) (wrap_i64n (show _ ≤ _ from ((hw.2.1).1).1)) (fun c0 hc0 hF => rd_r42_Satisfied_0 set c (c0 : Int) Q (cond_ge (n := c.1.length) rfl hc0 ((lp_r42_Satisfied_1 set c Q hw) hF))) (fun c0 _ hc0 next0 hn0 hF => rd_r42_Satisfied_0 set c (c0 : Int) Q (cond_lt (n := c.1.length) rfl hc0 ((vc_f (F := FF) (by first | ((repeat' (first | rfl | exact nn_d64 _ | exact okIx_nat hc0 | refine and_t ?_ ?_ | refine or_l ?_)); done) | (simp [-List.getD_eq_getElem?_getD, okIx_nat hc0, nn_u64, nn_u32]; done) | (have hry : roomy = 1048576 := rfl; simp [-List.getD_eq_getElem?_getD, okIx, okSlc, okApp, len_slcL, len_segL] <;> omega)) /- 2 -/ (cond_f (F := FF) (fun h0 => id) (fun h0 => hn0))) hF)))
theorem ct_r42_Satisfied (set : List Ti64T) (c : ConstraintT) (hw : VSs.wf e_r42_Satisfied.A (set, c, ())) (Q : Bool × Unit → Prop) (hq : Q (e_r42_Satisfied.g (set, c, ()))) : EvF G_r42_Satisfied tb_r42_Satisfied c_r42_Satisfied (VSs.enc e_r42_Satisfied.A (set, c, ())) (dq e_r42_Satisfied.R Q) := by
  have _ := hw
  let FF := (fun y : Bool => Q (y, ()))
  refine EvF.of (in_r42_Satisfied set c Q) ?_
  exact (lp_r42_Satisfied_0 set c Q hw) hq
/-! netverify/netverifyref42.Satisfies -/
def G_r42_Satisfies : Env := ⟨[e_r42_Satisfied], []⟩
def b_r42_Satisfies_0 : ACode := (.seq (.seq (.region [(oI 6 (.mov (.t 5))), (oI 7 (.mov (.t 1))), (oI 8 (.len (.t 7))), (oI 9 (.bin .lss (.t 6) (.t 8)))] []) (.cond 9 .skip (.exit 0))) (.seq (.block 1 (.seq (.region [(oI 12 (.mov (.t 0))), (oI 13 (.mov (.t 1))), (oI 14 (.mov (.t 5))), (oI 15 (.ixa 2 (.t 13) (.t 14))), (oI 16 (.load true 2 (.t 15))), (oI 17 (.call 30 [(.t 12), (.t 16)])), (oI 18 (.un .not (.t 17)))] []) (.cond 18 (.seq (.region [(oI 4 (.mov (.c (.f (.bool false)))))] []) .ret) .skip))) (.region [(oI 10 (.mov (.t 5))), (oI 11 (.bin .add (.t 10) (.c (.f (.int .i64 1))))), (oI 5 (.mov (.t 11)))] [])))
def r_r42_Satisfies_0 : ACode := (.seq (.region [(oI 4 (.mov (.c (.f (.bool true)))))] []) .ret)
def c_r42_Satisfies : AFunc := AFunc.mk 19 2 [(.t 4)] (.seq (.region [(oI 4 (.mov (.c (.f (.bool false)))))] []) (.seq (.seq (.region [(oI 5 (.mov (.c (.f (.int .i64 0)))))] []) (.block 0 (.loop 0 [(0, .no), (1, .no), (5, .no)] b_r42_Satisfies_0))) r_r42_Satisfies_0))
def tb_r42_Satisfies : Tbl
  | 0 => ([(0, .no), (1, .no), (5, .no)], b_r42_Satisfies_0)
  | _ => ([], .skip)
theorem ok_r42_Satisfies : compF Tryd.prog [26, 27] Tryd.f17 = some c_r42_Satisfies.strip := by kernel_rfl
theorem tk_r42_Satisfies : TblOk tb_r42_Satisfies c_r42_Satisfies.body := ⟨trivial, ⟨⟨trivial, ⟨rfl, ⟨⟨trivial, ⟨trivial, trivial⟩⟩, ⟨⟨trivial, ⟨⟨trivial, trivial⟩, trivial⟩⟩, trivial⟩⟩⟩⟩, ⟨trivial, trivial⟩⟩⟩
def k_r42_Satisfies_0 (Q : Bool × Unit → Prop) : K := (kBlock 0 (kSeq (evC G_r42_Satisfies (Lfp G_r42_Satisfies tb_r42_Satisfies) r_r42_Satisfies_0) (kDone c_r42_Satisfies (dq e_r42_Satisfies.R Q))))
def s_r42_Satisfies_0 (set : List Ti64T) (cs : List ConstraintT) (v0 : Int) : St := ⟨[(0, [], .f (.fs Ti64S set)), (1, [], .f (.fs ConstraintS cs)), (5, [], .f (.int .i64 v0))], []⟩
def L_r42_Satisfies_0 (set : List Ti64T) (cs : List ConstraintT) (v0 : Int) (Q : Bool × Unit → Prop) : Prop := Lfp G_r42_Satisfies tb_r42_Satisfies 0 (s_r42_Satisfies_0 set cs v0) (k_r42_Satisfies_0 Q)
theorem in_r42_Satisfies (set : List Ti64T) (cs : List ConstraintT) (Q : Bool × Unit → Prop) : evF G_r42_Satisfies (Lfp G_r42_Satisfies tb_r42_Satisfies) c_r42_Satisfies (VSs.enc e_r42_Satisfies.A (set, cs, ())) (dq e_r42_Satisfies.R Q) = (
  L_r42_Satisfies_0 set cs 0 Q) := by kernel_rfl
theorem rd_r42_Satisfies_0 (set : List Ti64T) (cs : List ConstraintT) (v0 : Int) (Q : Bool × Unit → Prop) (h :
  cond (decide (v0 < (cs.length : Int)))
  (cond ((okIx v0 (cs.length : Int)) && true)
    (cond (!(g_r42_Satisfied set (List.getD cs (Int.toNat v0) ConstraintD)))
      (Q (false, ()))
      (L_r42_Satisfies_0 set cs (IntKind.wrap .i64 (v0 + 1)) Q))
    False)
  (Q (true, ()))) : L_r42_Satisfies_0 set cs v0 Q := Lfp.step (Eq.mpr (by kernel_rfl) h)
theorem lp_r42_Satisfies_0 (set : List Ti64T) (cs : List ConstraintT) (Q : Bool × Unit → Prop) (hw : VSs.wf e_r42_Satisfies.A (set, cs, ()))  : (fun y : Bool => Q (y, ())) (S_r42_Satisfies_0 set cs) → L_r42_Satisfies_0 set cs 0 Q := by
  have _ := hw
  let FF := (fun y : Bool => Q (y, ()))
  refine upV_loop (F := FF) (k := .i64) (n := cs.length) (L := (fun c0 : Int => L_r42_Satisfies_0 set cs c0 Q)) (wrap_i64n (show _ ≤ _ from (hw.2.1).1)) (fun c0 hc0 hF => rd_r42_Satisfies_0 set cs (c0 : Int) Q (cond_ge (n := cs.length) rfl hc0 (id hF))) (fun c0 _ hc0 next0 hn0 hF => rd_r42_Satisfies_0 set cs (c0 : Int) Q (cond_lt (n := cs.length) rfl hc0 ((vc_f (F := FF) (by first | ((repeat' (first | rfl | exact nn_d64 _ | exact okIx_nat hc0 | refine and_t ?_ ?_ | refine or_l ?_)); done) | (simp [-List.getD_eq_getElem?_getD, okIx_nat hc0, nn_u64, nn_u32]; done) | (have hry : roomy = 1048576 := rfl; simp [-List.getD_eq_getElem?_getD, okIx, okSlc, okApp, len_slcL, len_segL] <;> omega)) /- 1 -/ (cond_f (F := FF) (fun h0 => id) (fun h0 => hn0))) hF)))
theorem ct_r42_Satisfies (set : List Ti64T) (cs : List ConstraintT) (hw : VSs.wf e_r42_Satisfies.A (set, cs, ())) (Q : Bool × Unit → Prop) (hq : Q (e_r42_Satisfies.g (set, cs, ()))) : EvF G_r42_Satisfies tb_r42_Satisfies c_r42_Satisfies (VSs.enc e_r42_Satisfies.A (set, cs, ())) (dq e_r42_Satisfies.R Q) := by
  have _ := hw
  let FF := (fun y : Bool => Q (y, ()))
  refine EvF.of (in_r42_Satisfies set cs Q) ?_
  exact (lp_r42_Satisfies_0 set cs Q hw) hq
/-! netverify/minsat.Satisfies -/
def G_minsat_Satisfies : Env := ⟨[e_slices_ContainsFunc_int_minsat_Satisfies_1, e_slices_ContainsFunc_int_minsat_Satisfies_2], []⟩
def b_minsat_Satisfies_0 : ACode := (.seq (.region [(oI 18 (.bin .lss (.t 17) (.t 16)))] []) (.seq (.cond 18 .skip (.exit 0)) (.seq (.block 1 (.seq (.region [(oI 19 (.ixa 1 (.t 15) (.t 17))), (oI 20 (.load false 1 (.t 19))), (oI 7 (.mov (.t 20)))] []) (.region [(oI 21 (.load false 1 (.t 5))), (oI 22 (.mov (.t 7))), (.mk none none (.mput (.t 21) (.t 22)))] []))) (.region [(oI 23 (.bin .add (.t 17) (.c (.f (.int .i64 1))))), (oI 17 (.mov (.t 23)))] []))))
def b_minsat_Satisfies_1 : ACode := (.seq (.region [(oI 27 (.bin .lss (.t 26) (.t 25)))] []) (.seq (.cond 27 .skip (.exit 2)) (.seq (.block 3 (.seq (.region [(oI 28 (.ixa 2 (.t 24) (.t 26))), (oI 29 (.load true 2 (.t 28))), (oI 9 (.alloc [(.f .nils), (.f .nils)])), (.mk none none (.store 2 (.t 9) (.t 29)))] []) (.seq (.region [(oI 30 (.fld 0 (.t 9))), (oI 31 (.load false 1 (.t 30))), (oI 32 (.mkfn 33 [(.t 5)])), (oI 33 (.call 32 [(.t 31), (.t 32)])), (oI 10 (.mov (.t 33)))] []) (.seq (.region [(oI 34 (.fld 1 (.t 9))), (oI 35 (.load false 1 (.t 34))), (oI 36 (.mkfn 34 [(.t 5)])), (oI 37 (.call 32 [(.t 35), (.t 36)])), (oI 11 (.mov (.t 37)))] []) (.seq (.region [(oI 38 (.mov (.t 10))), (oI 39 (.un .not (.t 38))), (oI 40 (.mov (.t 39))), (.mk (some 41) (some (40, true)) (.mov (.t 11))), (.mk (some 42) (some (40, true)) (.un .not (.t 41))), (oI 43 (.pick 40 (.t 42) (.c (.f (.bool false)))))] []) (.cond 43 (.seq (.region [(oI 4 (.mov (.c (.f (.bool false)))))] []) .ret) .skip)))))) (.region [(oI 44 (.bin .add (.t 26) (.c (.f (.int .i64 1))))), (oI 26 (.mov (.t 44)))] []))))
def r_minsat_Satisfies_1 : ACode := (.seq (.region [(oI 4 (.mov (.c (.f (.bool true)))))] []) .ret)
def r_minsat_Satisfies_0 : ACode := (.seq (.seq (.region [(oI 24 (.mov (.t 1))), (oI 25 (.len (.t 24))), (oI 26 (.mov (.c (.f (.int .i64 0)))))] []) (.block 2 (.loop 1 [(5, .no), (24, .no), (25, .no), (26, .no)] b_minsat_Satisfies_1))) r_minsat_Satisfies_1)
def c_minsat_Satisfies : AFunc := AFunc.mk 45 2 [(.t 4)] (.seq (.region [(oI 4 (.mov (.c (.f (.bool false)))))] []) (.seq (.region [(oI 12 (.mov (.t 0))), (oI 13 (.len (.t 12))), (oI 14 (.mkm (.t 13))), (oI 5 (.alloc [(.f (.fmap []))])), (.mk none none (.store 1 (.t 5) (.t 14)))] []) (.seq (.seq (.region [(oI 15 (.mov (.t 0))), (oI 16 (.len (.t 15))), (oI 17 (.mov (.c (.f (.int .i64 0)))))] []) (.block 0 (.loop 0 [(1, .no), (5, .no), (15, .no), (16, .no), (17, .no)] b_minsat_Satisfies_0))) r_minsat_Satisfies_0)))
def tb_minsat_Satisfies : Tbl
  | 0 => ([(1, .no), (5, .no), (15, .no), (16, .no), (17, .no)], b_minsat_Satisfies_0)
  | 1 => ([(5, .no), (24, .no), (25, .no), (26, .no)], b_minsat_Satisfies_1)
  | _ => ([], .skip)
theorem ok_minsat_Satisfies : compF Tryd.prog [26, 27] Tryd.f20 = some c_minsat_Satisfies.strip := by kernel_rfl
theorem tk_minsat_Satisfies : TblOk tb_minsat_Satisfies c_minsat_Satisfies.body := ⟨trivial, ⟨trivial, ⟨⟨trivial, ⟨rfl, ⟨trivial, ⟨⟨trivial, trivial⟩, ⟨⟨trivial, trivial⟩, trivial⟩⟩⟩⟩⟩, ⟨⟨trivial, ⟨rfl, ⟨trivial, ⟨⟨trivial, trivial⟩, ⟨⟨trivial, ⟨trivial, ⟨trivial, ⟨trivial, ⟨⟨trivial, trivial⟩, trivial⟩⟩⟩⟩⟩, trivial⟩⟩⟩⟩⟩, ⟨trivial, trivial⟩⟩⟩⟩⟩
def k_minsat_Satisfies_0 (Q : Bool × Unit → Prop) : K := (kBlock 0 (kSeq (evC G_minsat_Satisfies (Lfp G_minsat_Satisfies tb_minsat_Satisfies) r_minsat_Satisfies_0) (kDone c_minsat_Satisfies (dq e_minsat_Satisfies.R Q))))
def s_minsat_Satisfies_0 (set : List Ti64T) (cs : List ConstraintT) (v0 : Int) (v1 : List Int) : St := ⟨[(1, [], .f (.fs ConstraintS cs)), (5, [], .ptr 0 0), (15, [], .f (.fs Ti64S set)), (16, [], .f (.int .i64 (set.length : Int))), (17, [], .f (.int .i64 v0))], [.box none [.mp 1], .mset v1]⟩
def L_minsat_Satisfies_0 (set : List Ti64T) (cs : List ConstraintT) (v0 : Int) (v1 : List Int) (Q : Bool × Unit → Prop) : Prop := Lfp G_minsat_Satisfies tb_minsat_Satisfies 0 (s_minsat_Satisfies_0 set cs v0 v1) (k_minsat_Satisfies_0 Q)
def k_minsat_Satisfies_1 (Q : Bool × Unit → Prop) : K := (kBlock 2 (kSeq (evC G_minsat_Satisfies (Lfp G_minsat_Satisfies tb_minsat_Satisfies) r_minsat_Satisfies_1) (kDone c_minsat_Satisfies (dq e_minsat_Satisfies.R Q))))
def s_minsat_Satisfies_1 (set : List Ti64T) (cs : List ConstraintT) (v0 : Int) (v1 : List Int) : St := ⟨[(5, [], .ptr 0 0), (24, [], .f (.fs ConstraintS cs)), (25, [], .f (.int .i64 (cs.length : Int))), (26, [], .f (.int .i64 v0))], [.box none [.mp 1], .mset v1]⟩
def L_minsat_Satisfies_1 (set : List Ti64T) (cs : List ConstraintT) (v0 : Int) (v1 : List Int) (Q : Bool × Unit → Prop) : Prop := Lfp G_minsat_Satisfies tb_minsat_Satisfies 1 (s_minsat_Satisfies_1 set cs v0 v1) (k_minsat_Satisfies_1 Q)
theorem in_minsat_Satisfies (set : List Ti64T) (cs : List ConstraintT) (Q : Bool × Unit → Prop) : evF G_minsat_Satisfies (Lfp G_minsat_Satisfies tb_minsat_Satisfies) c_minsat_Satisfies (VSs.enc e_minsat_Satisfies.A (set, cs, ())) (dq e_minsat_Satisfies.R Q) = (
  L_minsat_Satisfies_0 set cs 0 [] Q) := by kernel_rfl
theorem rd_minsat_Satisfies_0 (set : List Ti64T) (cs : List ConstraintT) (v0 : Int) (v1 : List Int) (Q : Bool × Unit → Prop) (h :
  cond (decide (v0 < (set.length : Int)))
  (cond (okIx v0 (set.length : Int))
    (L_minsat_Satisfies_0 set cs (IntKind.wrap .i64 (v0 + 1)) (v1 ++ [(List.getD set (Int.toNat v0) Ti64D).1]) Q)
    False)
  (L_minsat_Satisfies_1 set cs 0 v1 Q)) : L_minsat_Satisfies_0 set cs v0 v1 Q := Lfp.step (Eq.mpr (by kernel_rfl) h)
theorem rd_minsat_Satisfies_1 (set : List Ti64T) (cs : List ConstraintT) (v0 : Int) (v1 : List Int) (Q : Bool × Unit → Prop) (h :
  cond (decide (v0 < (cs.length : Int)))
  (cond (okIx v0 (cs.length : Int))
    (cond ((!(g_slices_ContainsFunc_int_minsat_Satisfies_1 (List.getD cs (Int.toNat v0) ConstraintD).1 v1)) && (!(g_slices_ContainsFunc_int_minsat_Satisfies_2 (List.getD cs (Int.toNat v0) ConstraintD).2.1 v1)))
      (Q (false, ()))
      (L_minsat_Satisfies_1 set cs (IntKind.wrap .i64 (v0 + 1)) v1 Q))
    False)
  (Q (true, ()))) : L_minsat_Satisfies_1 set cs v0 v1 Q := Lfp.step (Eq.mpr (by kernel_rfl) h)
theorem lp_minsat_Satisfies_1 (set : List Ti64T) (cs : List ConstraintT) (v1 : List Int) (Q : Bool × Unit → Prop) (hw : VSs.wf e_minsat_Satisfies.A (set, cs, ()))  : (fun y : Bool => Q (y, ())) (S_minsat_Satisfies_1 set cs v1) → L_minsat_Satisfies_1 set cs 0 v1 Q := by
  have _ := hw
  let FF := (fun y : Bool => Q (y, ()))
  refine upV_loop (F := FF) (k := .i64) (n := cs.length) (L := (fun c1 : Int => L_minsat_Satisfies_1 set cs c1 v1 Q)) (wrap_i64n (show _ ≤ _ from (hw.2.1).1)) (fun c1 hc1 hF => rd_minsat_Satisfies_1 set cs (c1 : Int) v1 Q (cond_ge (n := cs.length) rfl hc1 (id hF))) (fun c1 _ hc1 next1 hn1 hF => rd_minsat_Satisfies_1 set cs (c1 : Int) v1 Q (cond_lt (n := cs.length) rfl hc1 ((vc_f (F := FF) (by first | ((repeat' (first | rfl | exact nn_d64 _ | exact okIx_nat hc1 | refine and_t ?_ ?_ | refine or_l ?_)); done) | (simp [-List.getD_eq_getElem?_getD, okIx_nat hc1, nn_u64, nn_u32]; done) | (have hry : roomy = 1048576 := rfl; simp [-List.getD_eq_getElem?_getD, okIx, okSlc, okApp, len_slcL, len_segL] <;> omega)) /- 1 -/ (cond_f (F := FF) (fun h0 => id) (fun h0 => hn1))) hF)))
theorem lp_minsat_Satisfies_0 (set : List Ti64T) (cs : List ConstraintT) (v10 : List Int) (Q : Bool × Unit → Prop) (hw : VSs.wf e_minsat_Satisfies.A (set, cs, ()))  : (fun y : Bool => Q (y, ())) (S_minsat_Satisfies_0 set cs v10) → L_minsat_Satisfies_0 set cs 0 v10 Q := by
  have _ := hw
  let FF := (fun y : Bool => Q (y, ()))
  refine upS_loop (F := FF) (k := .i64) (n := set.length) (I := fun _ _ => True) (L := (fun (c0 : Int) (s0 : (List Int)) => L_minsat_Satisfies_0 set cs c0 s0 Q)) (wrap_i64n (show _ ≤ _ from (hw.1).1)) (fun c0 hc0 s0 hI hF => rd_minsat_Satisfies_0 set cs (c0 : Int) s0 Q (cond_ge (n := set.length) rfl hc0 ((lp_minsat_Satisfies_1 set cs _ Q hw) hF))) (fun c0 _ hc0 next0 hn0 s0 hI hF => rd_minsat_Satisfies_0 set cs (c0 : Int) s0 Q (cond_lt (n := set.length) rfl hc0 ((vc_f (F := FF) (by first | ((repeat' (first | rfl | exact nn_d64 _ | exact okIx_nat hc0 | refine and_t ?_ ?_ | refine or_l ?_)); done) | (simp [-List.getD_eq_getElem?_getD, okIx_nat hc0, nn_u64, nn_u32]; done) | (have hry : roomy = 1048576 := rfl; simp [-List.getD_eq_getElem?_getD, okIx, okSlc, okApp, len_slcL, len_segL] <;> omega)) /- 2 -/ (hn0 _ trivial)) hF))) v10 trivial
theorem ct_minsat_Satisfies (set : List Ti64T) (cs : List ConstraintT) (hw : VSs.wf e_minsat_Satisfies.A (set, cs, ())) (Q : Bool × Unit → Prop) (hq : Q (e_minsat_Satisfies.g (set, cs, ()))) : EvF G_minsat_Satisfies tb_minsat_Satisfies c_minsat_Satisfies (VSs.enc e_minsat_Satisfies.A (set, cs, ())) (dq e_minsat_Satisfies.R Q) := by
  have _ := hw
  let FF := (fun y : Bool => Q (y, ()))
  refine EvF.of (in_minsat_Satisfies set cs Q) ?_
  exact (lp_minsat_Satisfies_0 set cs _ Q hw) hq
/-! netverify/netverifylaw43.MinsatChecks -/
def G_law43_MinsatChecks : Env := ⟨[e_law43_awake, e_r42_Check, e_r42_Satisfies, e_minsat_Check, e_minsat_Satisfies], []⟩
def b_law43_MinsatChecks_0 : ACode := (.seq (.seq (.region [(oI 18 (.mov (.t 7))), (oI 19 (.mov (.t 1))), (oI 20 (.len (.t 19))), (oI 21 (.bin .lss (.t 18) (.t 20)))] []) (.cond 21 .skip (.exit 0))) (.seq (.block 1 (.seq (.region [(oI 24 (.mov (.t 1))), (oI 25 (.mov (.t 7))), (oI 26 (.ixa 2 (.t 24) (.t 25))), (oI 27 (.fld 0 (.t 26))), (oI 28 (.load false 1 (.t 27))), (oI 29 (.len (.t 28))), (oI 30 (.bin .gtr (.t 29) (.c (.f (.int .i64 40))))), (oI 31 (.mov (.t 30))), (.mk (some 32) (some (31, false)) (.mov (.t 1))), (.mk (some 33) (some (31, false)) (.mov (.t 7))), (.mk (some 34) (some (31, false)) (.ixa 2 (.t 32) (.t 33))), (.mk (some 35) (some (31, false)) (.fld 1 (.t 34))), (.mk (some 36) (some (31, false)) (.load false 1 (.t 35))), (.mk (some 37) (some (31, false)) (.len (.t 36))), (.mk (some 38) (some (31, false)) (.bin .gtr (.t 37) (.c (.f (.int .i64 40))))), (oI 39 (.pick 31 (.c (.f (.bool true))) (.t 38)))] []) (.cond 39 (.seq (.region [(oI 6 (.mov (.c (.f (.bool true)))))] []) .ret) .skip))) (.region [(oI 22 (.mov (.t 7))), (oI 23 (.bin .add (.t 22) (.c (.f (.int .i64 1))))), (oI 7 (.mov (.t 23)))] [])))
def r_law43_MinsatChecks_0 : ACode := (.seq (.region [(oI 40 (.mov (.t 0))), (oI 41 (.mov (.t 1))), (oI 42 (.call 19 [(.t 40), (.t 41)])), (oI 43 (.mov (.t 0))), (oI 44 (.mov (.t 1))), (oI 45 (.call 12 [(.t 43), (.t 44)])), (oI 46 (.bin .eql (.t 42) (.t 45))), (oI 47 (.mov (.t 46))), (.mk (some 48) (some (47, true)) (.mov (.t 2))), (.mk (some 49) (some (47, true)) (.app Ti64S 8 (.c (.f .nils)) (.t 48))), (.mk (some 50) (some (47, true)) (.mov (.t 1))), (.mk (some 51) (some (47, true)) (.call 20 [(.t 49), (.t 50)])), (.mk (some 52) (some (47, true)) (.mov (.t 2))), (.mk (some 53) (some (47, true)) (.mov (.t 1))), (.mk (some 54) (some (47, true)) (.call 17 [(.t 52), (.t 53)])), (.mk (some 55) (some (47, true)) (.eqb false (.t 51) (.t 54))), (oI 56 (.pick 47 (.t 55) (.c (.f (.bool false))))), (oI 6 (.mov (.t 56)))] []) .ret)
def c_law43_MinsatChecks : AFunc := AFunc.mk 57 3 [(.t 6)] (.seq (.region [(oI 6 (.mov (.c (.f (.bool false)))))] []) (.seq (.seq (.region [(oI 8 (.call 8 [])), (oI 9 (.un .not (.t 8)))] []) (.cond 9 (.seq (.region [(oI 6 (.mov (.c (.f (.bool false)))))] []) .ret) .skip)) (.seq (.seq (.region [(oI 10 (.mov (.t 1))), (oI 11 (.len (.t 10))), (oI 12 (.bin .gtr (.t 11) (.c (.f (.int .i64 100))))), (oI 13 (.mov (.t 12))), (.mk (some 14) (some (13, false)) (.mov (.t 2))), (.mk (some 15) (some (13, false)) (.len (.t 14))), (.mk (some 16) (some (13, false)) (.bin .gtr (.t 15) (.c (.f (.int .i64 40))))), (oI 17 (.pick 13 (.c (.f (.bool true))) (.t 16)))] []) (.cond 17 (.seq (.region [(oI 6 (.mov (.c (.f (.bool true)))))] []) .ret) .skip)) (.seq (.seq (.region [(oI 7 (.mov (.c (.f (.int .i64 0)))))] []) (.block 0 (.loop 0 [(0, .no), (1, .no), (2, .no), (7, .no)] b_law43_MinsatChecks_0))) r_law43_MinsatChecks_0))))
def tb_law43_MinsatChecks : Tbl
  | 0 => ([(0, .no), (1, .no), (2, .no), (7, .no)], b_law43_MinsatChecks_0)
  | _ => ([], .skip)
theorem ok_law43_MinsatChecks : compF Tryd.prog [26, 27] Tryd.f7 = some c_law43_MinsatChecks.strip := by kernel_rfl
theorem tk_law43_MinsatChecks : TblOk tb_law43_MinsatChecks c_law43_MinsatChecks.body := ⟨trivial, ⟨⟨trivial, ⟨⟨trivial, trivial⟩, trivial⟩⟩, ⟨⟨trivial, ⟨⟨trivial, trivial⟩, trivial⟩⟩, ⟨⟨trivial, ⟨rfl, ⟨⟨trivial, ⟨trivial, trivial⟩⟩, ⟨⟨trivial, ⟨⟨trivial, trivial⟩, trivial⟩⟩, trivial⟩⟩⟩⟩, ⟨trivial, trivial⟩⟩⟩⟩⟩
def k_law43_MinsatChecks_0 (Q : Bool × Unit → Prop) : K := (kBlock 0 (kSeq (evC G_law43_MinsatChecks (Lfp G_law43_MinsatChecks tb_law43_MinsatChecks) r_law43_MinsatChecks_0) (kDone c_law43_MinsatChecks (dq e_law43_MinsatChecks.R Q))))
def s_law43_MinsatChecks_0 (n : Int) (cs : List ConstraintT) (set : List Ti64T) (v0 : Int) : St := ⟨[(0, [], .f (.int .i64 n)), (1, [], .f (.fs ConstraintS cs)), (2, [], .f (.fs Ti64S set)), (7, [], .f (.int .i64 v0))], []⟩
def L_law43_MinsatChecks_0 (n : Int) (cs : List ConstraintT) (set : List Ti64T) (v0 : Int) (Q : Bool × Unit → Prop) : Prop := Lfp G_law43_MinsatChecks tb_law43_MinsatChecks 0 (s_law43_MinsatChecks_0 n cs set v0) (k_law43_MinsatChecks_0 Q)
theorem in_law43_MinsatChecks (n : Int) (cs : List ConstraintT) (set : List Ti64T) (Q : Bool × Unit → Prop) : evF G_law43_MinsatChecks (Lfp G_law43_MinsatChecks tb_law43_MinsatChecks) c_law43_MinsatChecks (VSs.enc e_law43_MinsatChecks.A (n, cs, set, ())) (dq e_law43_MinsatChecks.R Q) = (
  cond (!g_law43_awake)
  (Q (false, ()))
  (cond ((decide ((cs.length : Int) > 100)) || (decide ((set.length : Int) > 40)))
    (Q (true, ()))
    (L_law43_MinsatChecks_0 n cs set 0 Q))) := by kernel_rfl
theorem rd_law43_MinsatChecks_0 (n : Int) (cs : List ConstraintT) (set : List Ti64T) (v0 : Int) (Q : Bool × Unit → Prop) (h :
  cond (decide (v0 < (cs.length : Int)))
  (cond ((okIx v0 (cs.length : Int)) && ((okIx v0 (cs.length : Int)) || (!(((decide (((List.getD cs (Int.toNat v0) ConstraintD).1.length : Int) > 40)) == false) && true))))
    (cond ((decide (((List.getD cs (Int.toNat v0) ConstraintD).1.length : Int) > 40)) || (decide (((List.getD cs (Int.toNat v0) ConstraintD).2.1.length : Int) > 40)))
      (Q (true, ()))
      (L_law43_MinsatChecks_0 n cs set (IntKind.wrap .i64 (v0 + 1)) Q))
    False)
  (cond ((((decide (set.length ≤ roomy)) || (!((((g_minsat_Check n cs) == (g_r42_Check n cs)) == true) && true))) && true) && true)
    (Q ((((g_minsat_Check n cs) == (g_r42_Check n cs)) && ((g_minsat_Satisfies (segL set 0 set.length) cs) == (g_r42_Satisfies set cs))), ()))
    False)) : L_law43_MinsatChecks_0 n cs set v0 Q := Lfp.step (Eq.mpr (by kernel_rfl) h)
theorem lp_law43_MinsatChecks_0 (n : Int) (cs : List ConstraintT) (set : List Ti64T) (Q : Bool × Unit → Prop) (hw : VSs.wf e_law43_MinsatChecks.A (n, cs, set, ()))  (g0 : (!g_law43_awake) = false) (g1 : ((decide ((cs.length : Int) > 100)) || (decide ((set.length : Int) > 40))) = false) : (fun y : Bool => Q (y, ())) (S_law43_MinsatChecks_0 n cs set) → L_law43_MinsatChecks_0 n cs set 0 Q := by
  have _ := hw
  have _ := g0
  have _ := g1
  let FF := (fun y : Bool => Q (y, ()))
  refine upV_loop (F := FF) (k := .i64) (n := cs.length) (L := (fun c0 : Int => L_law43_MinsatChecks_0 n cs set c0 Q)) (wrap_i64n (show _ ≤ _ from (hw.2.1).1)) (fun c0 hc0 hF => rd_law43_MinsatChecks_0 n cs set (c0 : Int) Q (cond_ge (n := cs.length) rfl hc0 ((vc_f (F := FF) (by first | ((repeat' (first | rfl | exact nn_d64 _ | exact okIx_nat hc0 | refine and_t ?_ ?_ | refine or_l ?_)); done) | (simp [-List.getD_eq_getElem?_getD, okIx_nat hc0, nn_u64, nn_u32]; done) | (simp [-List.getD_eq_getElem?_getD, okIx_nat hc0, nn_u64, nn_u32, g0, g1]; done) | (have hry : roomy = 1048576 := rfl; simp [-List.getD_eq_getElem?_getD, okIx, okSlc, okApp, len_slcL, len_segL] at g0 g1 ⊢ <;> omega)) /- 2 -/ id) hF))) (fun c0 _ hc0 next0 hn0 hF => rd_law43_MinsatChecks_0 n cs set (c0 : Int) Q (cond_lt (n := cs.length) rfl hc0 ((vc_f (F := FF) (by first | ((repeat' (first | rfl | exact nn_d64 _ | exact okIx_nat hc0 | refine and_t ?_ ?_ | refine or_l ?_)); done) | (simp [-List.getD_eq_getElem?_getD, okIx_nat hc0, nn_u64, nn_u32]; done) | (simp [-List.getD_eq_getElem?_getD, okIx_nat hc0, nn_u64, nn_u32, g0, g1]; done) | (have hry : roomy = 1048576 := rfl; simp [-List.getD_eq_getElem?_getD, okIx, okSlc, okApp, len_slcL, len_segL] at g0 g1 ⊢ <;> omega)) /- 1 -/ (cond_f (F := FF) (fun h2 => id) (fun h2 => hn0))) hF)))
theorem ct_law43_MinsatChecks (n : Int) (cs : List ConstraintT) (set : List Ti64T) (hw : VSs.wf e_law43_MinsatChecks.A (n, cs, set, ())) (Q : Bool × Unit → Prop) (hq : Q (e_law43_MinsatChecks.g (n, cs, set, ()))) : EvF G_law43_MinsatChecks tb_law43_MinsatChecks c_law43_MinsatChecks (VSs.enc e_law43_MinsatChecks.A (n, cs, set, ())) (dq e_law43_MinsatChecks.R Q) := by
  have _ := hw
  let FF := (fun y : Bool => Q (y, ()))
  refine EvF.of (in_law43_MinsatChecks n cs set Q) ?_
  exact (cond_f (F := FF) (fun h0 => id) (fun h0 => (cond_f (F := FF) (fun h1 => id) (fun h1 => (lp_law43_MinsatChecks_0 n cs set Q hw h0 h1))))) hq
end Go.Proofs.YtilbcgklkdkkdaaDoor
