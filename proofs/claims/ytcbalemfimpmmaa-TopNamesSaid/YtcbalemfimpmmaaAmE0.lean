/-
  The codes and their equations.
-/
import Derived.Test.YtcbalemfimpmmaaAmG
import Derived.Test.YtcbalemfimpmmaaProg
import Derived.KernelRfl
namespace Go.Proofs.Ytcbalemfimpmmaa
open Go Go.AM
set_option maxRecDepth 100000
/-! netverify/netverifytop.equal -/
def G_top_equal : Env := ⟨[], []⟩
def b_top_equal_0 : ACode := (.seq (.seq (.region [(.mk (some 4) none (.mov (.t 3))), (.mk (some 5) none (.mov (.t 0))), (.mk (some 6) none (.len (.t 5))), (.mk (some 7) none (.bin .lss (.t 4) (.t 6)))] []) (.cond 7 .skip (.exit 0))) (.seq (.block 1 (.seq (.region [(.mk (some 10) none (.mov (.t 0))), (.mk (some 11) none (.mov (.t 3))), (.mk (some 12) none (.ixa 2 (.t 10) (.t 11))), (.mk (some 13) none (.fld 0 (.t 12))), (.mk (some 14) none (.load false 1 (.t 13))), (.mk (some 15) none (.mov (.t 0))), (.mk (some 16) none (.mov (.t 3))), (.mk (some 17) none (.ixa 2 (.t 15) (.t 16))), (.mk (some 18) none (.fld 1 (.t 17))), (.mk (some 19) none (.load false 1 (.t 18))), (.mk (some 20) none (.bin .neq (.t 14) (.t 19)))] []) (.cond 20 (.seq (.region [(.mk (some 2) none (.mov (.c (.f (.bool false)))))] []) .ret) .skip))) (.region [(.mk (some 8) none (.mov (.t 3))), (.mk (some 9) none (.bin .add (.t 8) (.c (.f (.int .i64 1))))), (.mk (some 3) none (.mov (.t 9)))] [])))
def r_top_equal_0 : ACode := (.seq (.region [(.mk (some 2) none (.mov (.c (.f (.bool true)))))] []) .ret)
def c_top_equal : AFunc := AFunc.mk 21 1 [(.t 2)] (.seq (.region [(.mk (some 2) none (.mov (.c (.f (.bool false)))))] []) (.seq (.seq (.region [(.mk (some 3) none (.mov (.c (.f (.int .i64 0)))))] []) (.block 0 (.loop 0 [(0, .no), (3, .no)] b_top_equal_0))) r_top_equal_0))
def tb_top_equal : Tbl
  | 0 => ([(0, .no), (3, .no)], b_top_equal_0)
  | _ => ([], .skip)
theorem ok_top_equal : compF Try.prog [] Try.f10 = some c_top_equal.strip := by kernel_rfl
theorem tk_top_equal : TblOk tb_top_equal c_top_equal.body := ⟨trivial, ⟨⟨trivial, ⟨rfl, ⟨⟨trivial, ⟨trivial, trivial⟩⟩, ⟨⟨trivial, ⟨⟨trivial, trivial⟩, trivial⟩⟩, trivial⟩⟩⟩⟩, ⟨trivial, trivial⟩⟩⟩
def k_top_equal_0 (Q : Bool × Unit → Prop) : K := (kBlock 0 (kSeq (evC G_top_equal (Lfp G_top_equal tb_top_equal) r_top_equal_0) (kDone c_top_equal (dq e_top_equal.R Q))))
def s_top_equal_0 (l : List Ti64i64T) (v0 : Int) : St := ⟨[(0, [], .f (.fs Ti64i64S l)), (3, [], .f (.int .i64 v0))], []⟩
def L_top_equal_0 (l : List Ti64i64T) (v0 : Int) (Q : Bool × Unit → Prop) : Prop := Lfp G_top_equal tb_top_equal 0 (s_top_equal_0 l v0) (k_top_equal_0 Q)
theorem in_top_equal (l : List Ti64i64T) (Q : Bool × Unit → Prop) : evF G_top_equal (Lfp G_top_equal tb_top_equal) c_top_equal (VSs.enc e_top_equal.A (l, ())) (dq e_top_equal.R Q) = (
  L_top_equal_0 l 0 Q) := by kernel_rfl
theorem rd_top_equal_0 (l : List Ti64i64T) (v0 : Int) (Q : Bool × Unit → Prop) (h :
  cond (decide (v0 < (l.length : Int)))
  (cond ((okIx v0 (l.length : Int)) && (okIx v0 (l.length : Int)))
    (cond ((List.getD l (Int.toNat v0) Ti64i64D).1 != (List.getD l (Int.toNat v0) Ti64i64D).2.1)
      (Q (false, ()))
      (L_top_equal_0 l (IntKind.wrap .i64 (v0 + 1)) Q))
    False)
  (Q (true, ()))) : L_top_equal_0 l v0 Q := Lfp.step ((by kernel_rfl : evC G_top_equal (Lfp G_top_equal tb_top_equal) (tb_top_equal 0).2 (s_top_equal_0 l v0) (kLoop (tb_top_equal 0).1 (Lfp G_top_equal tb_top_equal 0) (k_top_equal_0 Q)) = (
  cond (decide (v0 < (l.length : Int)))
  (cond ((okIx v0 (l.length : Int)) && (okIx v0 (l.length : Int)))
    (cond ((List.getD l (Int.toNat v0) Ti64i64D).1 != (List.getD l (Int.toNat v0) Ti64i64D).2.1)
      (Q (false, ()))
      (L_top_equal_0 l (IntKind.wrap .i64 (v0 + 1)) Q))
    False)
  (Q (true, ())))).symm ▸ h)
theorem lp_top_equal_0 (l : List Ti64i64T) (Q : Bool × Unit → Prop) (hw : VSs.wf e_top_equal.A (l, ()))  : (fun y : Bool => Q (y, ())) (S_top_equal_0 l) → L_top_equal_0 l 0 Q := by
  have _ := hw
  let FF := (fun y : Bool => Q (y, ()))
  refine upV_loop (F := FF) (k := .i64) (n := l.length) (L := (fun c0 : Int => L_top_equal_0 l c0 Q)) (wrap_i64n (show _ ≤ _ from (hw.1).1)) (fun c0 hc0 hF => rd_top_equal_0 l (c0 : Int) Q (cond_ge (n := l.length) rfl hc0 (id hF))) (fun c0 _ hc0 next0 hn0 hF => rd_top_equal_0 l (c0 : Int) Q (cond_lt (n := l.length) rfl hc0 ((vc_f (F := FF) (by first | ((repeat' (first | rfl | exact nn_d64 _ | exact okIx_nat hc0 | refine and_t ?_ ?_ | refine or_l ?_)); done) | (simp [-List.getD_eq_getElem?_getD, okIx_nat hc0, nn_u64, nn_u32]; done) | (have hry : roomy = 1048576 := rfl; simp [-List.getD_eq_getElem?_getD, okIx, okSlc, okApp, len_slcL, len_segL] <;> omega)) /- 1 -/ (cond_f (F := FF) (fun h0 => id) (fun h0 => hn0))) hF)))
theorem ct_top_equal (l : List Ti64i64T) (hw : VSs.wf e_top_equal.A (l, ())) (Q : Bool × Unit → Prop) (hq : Q (e_top_equal.g (l, ()))) : EvF G_top_equal tb_top_equal c_top_equal (VSs.enc e_top_equal.A (l, ())) (dq e_top_equal.R Q) := by
  have _ := hw
  let FF := (fun y : Bool => Q (y, ()))
  refine EvF.of (in_top_equal l Q) ?_
  exact (lp_top_equal_0 l Q hw) hq
/-! netverify/netverifytop.first -/
def G_top_first : Env := ⟨[e_top_equal], []⟩
def c_top_first : AFunc := AFunc.mk 24 0 [(.t 0)] (.seq (.region [(.mk (some 0) none (.mov (.c (.f (.bool false)))))] []) (.seq (.region [(.mk (some 1) none (.build [(.f (.int .i64 0)), (.f (.int .i64 0))] [(0, (1, (.c (.f (.int .i64 0))))), (1, (1, (.c (.f (.int .i64 0)))))])), (.mk (some 2) none (.build [(.f (.int .i64 0)), (.f (.int .i64 0))] [(0, (1, (.c (.f (.int .i64 1))))), (1, (1, (.c (.f (.int .i64 1)))))])), (.mk (some 3) none (.build [(.f (.int .i64 0)), (.f (.int .i64 0))] [(0, (1, (.c (.f (.int .i64 2))))), (1, (1, (.c (.f (.int .i64 2)))))])), (.mk (some 4) none (.build [(.f (.int .i64 0)), (.f (.int .i64 0))] [(0, (1, (.c (.f (.int .i64 3))))), (1, (1, (.c (.f (.int .i64 3)))))])), (.mk (some 5) none (.build [(.f (.int .i64 0)), (.f (.int .i64 0))] [(0, (1, (.c (.f (.int .i64 4))))), (1, (1, (.c (.f (.int .i64 4)))))])), (.mk (some 6) none (.build [(.f (.int .i64 0)), (.f (.int .i64 0))] [(0, (1, (.c (.f (.int .i64 5))))), (1, (1, (.c (.f (.int .i64 5)))))])), (.mk (some 7) none (.build [(.f (.int .i64 0)), (.f (.int .i64 0))] [(0, (1, (.c (.f (.int .i64 6))))), (1, (1, (.c (.f (.int .i64 6)))))])), (.mk (some 8) none (.build [(.f (.int .i64 0)), (.f (.int .i64 0))] [(0, (1, (.c (.f (.int .i64 7))))), (1, (1, (.c (.f (.int .i64 7)))))])), (.mk (some 9) none (.build [(.f (.int .i64 0)), (.f (.int .i64 0))] [(0, (1, (.c (.f (.int .i64 8))))), (1, (1, (.c (.f (.int .i64 8)))))])), (.mk (some 10) none (.build [(.f (.int .i64 0)), (.f (.int .i64 0))] [(0, (1, (.c (.f (.int .i64 9))))), (1, (1, (.c (.f (.int .i64 9)))))])), (.mk (some 11) none (.build [(.f (.int .i64 0)), (.f (.int .i64 0))] [(0, (1, (.c (.f (.int .i64 10))))), (1, (1, (.c (.f (.int .i64 10)))))])), (.mk (some 12) none (.build [(.f (.int .i64 0)), (.f (.int .i64 0))] [(0, (1, (.c (.f (.int .i64 65536))))), (1, (1, (.c (.f (.int .i64 65536)))))])), (.mk (some 13) none (.build [(.f (.int .i64 0)), (.f (.int .i64 0))] [(0, (1, (.c (.f (.int .i64 15))))), (1, (1, (.c (.f (.int .i64 15)))))])), (.mk (some 14) none (.build [(.f (.int .i64 0)), (.f (.int .i64 0))] [(0, (1, (.c (.f (.int .i64 8))))), (1, (1, (.c (.f (.int .i64 8)))))])), (.mk (some 15) none (.build [(.f (.int .i64 0)), (.f (.int .i64 0))] [(0, (1, (.c (.f (.int .i64 8))))), (1, (1, (.c (.f (.int .i64 8)))))])), (.mk (some 16) none (.build [(.f (.int .i64 0)), (.f (.int .i64 0))] [(0, (1, (.c (.f (.int .i64 8))))), (1, (1, (.c (.f (.int .i64 8)))))])), (.mk (some 17) none (.build [(.f (.int .i64 0)), (.f (.int .i64 0))] [(0, (1, (.c (.f (.int .i64 16))))), (1, (1, (.c (.f (.int .i64 16)))))])), (.mk (some 18) none (.build [(.f (.int .i64 0)), (.f (.int .i64 0))] [(0, (1, (.c (.f (.int .i64 8))))), (1, (1, (.c (.f (.int .i64 8)))))])), (.mk (some 19) none (.build [(.f (.int .i64 0)), (.f (.int .i64 0))] [(0, (1, (.c (.f (.int .i64 8))))), (1, (1, (.c (.f (.int .i64 8)))))])), (.mk (some 20) none (.build [(.f (.int .i64 0)), (.f (.int .i64 0))] [(0, (1, (.c (.f (.int .i64 8))))), (1, (1, (.c (.f (.int .i64 8)))))])), (.mk (some 21) none (.build [(.f (.int .i64 0)), (.f (.int .i64 0))] [(0, (1, (.c (.f (.int .i64 16))))), (1, (1, (.c (.f (.int .i64 16)))))])), (.mk (some 22) none (.bslice Ti64i64S 16 [(.f (.int .i64 0)), (.f (.int .i64 0))] 21 [(0, (.t 1)), (1, (.t 2)), (2, (.t 3)), (3, (.t 4)), (4, (.t 5)), (5, (.t 6)), (6, (.t 7)), (7, (.t 8)), (8, (.t 9)), (9, (.t 10)), (10, (.t 11)), (11, (.t 12)), (12, (.t 13)), (13, (.t 14)), (14, (.t 15)), (15, (.t 16)), (16, (.t 17)), (17, (.t 18)), (18, (.t 19)), (19, (.t 20)), (20, (.t 21))])), (.mk (some 23) none (.call 10 [(.t 22)])), (.mk (some 0) none (.mov (.t 23)))] []) .ret))
def tb_top_first : Tbl := fun _ => ([], .skip)
theorem ok_top_first : compF Try.prog [] Try.f4 = some c_top_first.strip := by kernel_rfl
theorem tk_top_first : TblOk tb_top_first c_top_first.body := ⟨trivial, ⟨trivial, trivial⟩⟩
theorem in_top_first (Q : Bool × Unit → Prop) : evF G_top_first (Lfp G_top_first tb_top_first) c_top_first (VSs.enc e_top_first.A (())) (dq e_top_first.R Q) = (
  Q ((g_top_equal [(0, 0, ()), (1, 1, ()), (2, 2, ()), (3, 3, ()), (4, 4, ()), (5, 5, ()), (6, 6, ()), (7, 7, ()), (8, 8, ()), (9, 9, ()), (10, 10, ()), (65536, 65536, ()), (15, 15, ()), (8, 8, ()), (8, 8, ()), (8, 8, ()), (16, 16, ()), (8, 8, ()), (8, 8, ()), (8, 8, ()), (16, 16, ())]), ())) := by kernel_rfl
theorem au_top_first (Q : Bool × Unit → Prop) : evF G_top_first (Lfp G_top_first tb_top_first) c_top_first (VSs.enc e_top_first.A (())) (dq e_top_first.R Q) = Q (e_top_first.g (())) := (in_top_first  Q).trans rfl
end Go.Proofs.Ytcbalemfimpmmaa
