/-
  The codes and their equations.
-/
import Derived.Test.YtilbcgklkdkkdaaDoorAmG
import Derived.Test.YtilbcgklkdkkdaaDoorProg
import Derived.KernelRfl
namespace Go.Proofs.YtilbcgklkdkkdaaDoor
open Go Go.AM
set_option maxRecDepth 100000
/-! netverify/netverifylaw43.awake -/
def G_law43_awake : Env := ⟨[e_minsat_Minimum, e_keep_Ints, e_minsat_Core], []⟩
def c_law43_awake : AFunc := AFunc.mk 46 0 [(.t 0)] (.seq (.region [(oI 0 (.mov (.c (.f (.bool false)))))] []) (.seq (.region [(oI 6 (.bslF Ti64S [(.f (.int .i64 0))] 2 [(0, (.c (.f (.int .i64 0)))), (1, (.c (.f (.int .i64 1))))])), (oI 7 (.build [(.f .nils), (.f .nils)] [(0, (1, (.t 6)))])), (oI 8 (.bslF Ti64S [(.f (.int .i64 0))] 2 [(0, (.c (.f (.int .i64 1)))), (1, (.c (.f (.int .i64 2))))])), (oI 9 (.build [(.f .nils), (.f .nils)] [(0, (1, (.t 8)))])), (oI 10 (.bslF Ti64S [(.f (.int .i64 0))] 1 [(0, (.c (.f (.int .i64 2))))])), (oI 11 (.bslF Ti64S [(.f (.int .i64 0))] 1 [(0, (.c (.f (.int .i64 1))))])), (oI 12 (.build [(.f .nils), (.f .nils)] [(0, (1, (.t 10))), (1, (1, (.t 11)))])), (oI 13 (.bslF ConstraintS [(.f .nils), (.f .nils)] 3 [(0, (.t 7)), (1, (.t 9)), (2, (.t 12))])), (oI 1 (.mov (.t 13)))] []) (.seq (.region [(oI 15 (.mov (.t 1))), (oI 16 (.call 11 [(.c (.f (.int .i64 3))), (.t 15)])), (oI 14 (.mov (.t 16))), (oI 17 (.ext 0 (.t 14))), (oI 18 (.ext 1 (.t 14))), (oI 2 (.mov (.t 17))), (oI 3 (.mov (.t 18)))] []) (.seq (.region [(oI 20 (.bslF Ti64S [(.f (.int .i64 0))] 1 [(0, (.c (.f (.int .i64 0))))])), (oI 21 (.build [(.f .nils), (.f .nils)] [(0, (1, (.t 20)))])), (oI 22 (.bslF Ti64S [(.f (.int .i64 0))] 1 [(0, (.c (.f (.int .i64 1))))])), (oI 23 (.build [(.f .nils), (.f .nils)] [(0, (1, (.t 22)))])), (oI 24 (.bslF Ti64S [(.f (.int .i64 0))] 1 [(0, (.c (.f (.int .i64 0))))])), (oI 25 (.build [(.f .nils), (.f .nils)] [(1, (1, (.t 24)))])), (oI 26 (.bslF ConstraintS [(.f .nils), (.f .nils)] 3 [(0, (.t 21)), (1, (.t 23)), (2, (.t 25))])), (oI 27 (.call 15 [(.c (.f (.int .i64 2))), (.t 26)])), (oI 19 (.mov (.t 27))), (oI 28 (.ext 0 (.t 19))), (oI 29 (.ext 1 (.t 19))), (oI 4 (.mov (.t 28))), (oI 5 (.mov (.t 29)))] []) (.seq (.region [(oI 30 (.mov (.t 3))), (oI 31 (.bin .eql (.t 30) (.c (.f (.int .i64 0))))), (oI 32 (.mov (.t 31))), (.mk (some 33) (some (32, true)) (.mov (.t 2))), (.mk (some 34) (some (32, true)) (.bslF Ti64S [(.f (.int .i64 0))] 2 [(0, (.c (.f (.int .i64 0)))), (1, (.c (.f (.int .i64 2))))])), (.mk (some 35) (some (32, true)) (.call 14 [(.t 33), (.t 34)])), (oI 36 (.pick 32 (.t 35) (.c (.f (.bool false))))), (oI 37 (.mov (.t 36))), (.mk (some 38) (some (37, true)) (.mov (.t 5))), (.mk (some 39) (some (37, true)) (.bin .eql (.t 38) (.c (.f (.int .i64 0))))), (oI 40 (.pick 37 (.t 39) (.c (.f (.bool false))))), (oI 41 (.mov (.t 40))), (.mk (some 42) (some (41, true)) (.mov (.t 4))), (.mk (some 43) (some (41, true)) (.bslF Ti64S [(.f (.int .i64 0))] 2 [(0, (.c (.f (.int .i64 0)))), (1, (.c (.f (.int .i64 2))))])), (.mk (some 44) (some (41, true)) (.call 14 [(.t 42), (.t 43)])), (oI 45 (.pick 41 (.t 44) (.c (.f (.bool false))))), (oI 0 (.mov (.t 45)))] []) .ret)))))
def tb_law43_awake : Tbl := fun _ => ([], .skip)
theorem ok_law43_awake : compF Tryd.prog [26, 27, 1000000] Tryd.f8 = some c_law43_awake.strip := by kernel_rfl
theorem tk_law43_awake : TblOk tb_law43_awake c_law43_awake.body := ⟨trivial, ⟨trivial, ⟨trivial, ⟨trivial, ⟨trivial, trivial⟩⟩⟩⟩⟩
theorem in_law43_awake (Q : Bool × Unit → Prop) : evF G_law43_awake (Lfp G_law43_awake tb_law43_awake) c_law43_awake (VSs.enc e_law43_awake.A (())) (dq e_law43_awake.R Q) = (
  Q ((((((g_minsat_Minimum 3 ([([(0, ()), (1, ())], [], ()), ([(1, ()), (2, ())], [], ()), ([(2, ())], [(1, ())], ())])).2.1 == 0) && (g_keep_Ints (g_minsat_Minimum 3 ([([(0, ()), (1, ())], [], ()), ([(1, ()), (2, ())], [], ()), ([(2, ())], [(1, ())], ())])).1 [(0, ()), (2, ())])) && ((g_minsat_Core 2 ([([(0, ())], [], ()), ([(1, ())], [], ()), ([], [(0, ())], ())])).2.1 == 0)) && (g_keep_Ints (g_minsat_Core 2 ([([(0, ())], [], ()), ([(1, ())], [], ()), ([], [(0, ())], ())])).1 [(0, ()), (2, ())])), ())) := by kernel_rfl
theorem au_law43_awake (Q : Bool × Unit → Prop) : evF G_law43_awake (Lfp G_law43_awake tb_law43_awake) c_law43_awake (VSs.enc e_law43_awake.A (())) (dq e_law43_awake.R Q) = Q (e_law43_awake.g (())) := (in_law43_awake  Q).trans rfl
/-! netverify/netverifylaw43.small -/
def G_law43_small : Env := ⟨[], []⟩
def b_law43_small_0 : ACode := (.seq (.seq (.region [(oI 13 (.mov (.t 5))), (oI 14 (.mov (.t 1))), (oI 15 (.len (.t 14))), (oI 16 (.bin .lss (.t 13) (.t 15)))] []) (.cond 16 .skip (.exit 0))) (.seq (.block 1 (.seq (.region [(oI 19 (.mov (.t 1))), (oI 20 (.mov (.t 5))), (oI 21 (.ixa 2 (.t 19) (.t 20))), (oI 22 (.fld 0 (.t 21))), (oI 23 (.load false 1 (.t 22))), (oI 24 (.len (.t 23))), (oI 25 (.bin .gtr (.t 24) (.c (.f (.int .i64 12))))), (oI 26 (.mov (.t 25))), (.mk (some 27) (some (26, false)) (.mov (.t 1))), (.mk (some 28) (some (26, false)) (.mov (.t 5))), (.mk (some 29) (some (26, false)) (.ixa 2 (.t 27) (.t 28))), (.mk (some 30) (some (26, false)) (.fld 1 (.t 29))), (.mk (some 31) (some (26, false)) (.load false 1 (.t 30))), (.mk (some 32) (some (26, false)) (.len (.t 31))), (.mk (some 33) (some (26, false)) (.bin .gtr (.t 32) (.c (.f (.int .i64 12))))), (oI 34 (.pick 26 (.c (.f (.bool true))) (.t 33)))] []) (.cond 34 (.seq (.region [(oI 4 (.mov (.c (.f (.bool false)))))] []) .ret) .skip))) (.region [(oI 17 (.mov (.t 5))), (oI 18 (.bin .add (.t 17) (.c (.f (.int .i64 1))))), (oI 5 (.mov (.t 18)))] [])))
def r_law43_small_0 : ACode := (.seq (.region [(oI 4 (.mov (.c (.f (.bool true)))))] []) .ret)
def c_law43_small : AFunc := AFunc.mk 35 2 [(.t 4)] (.seq (.region [(oI 4 (.mov (.c (.f (.bool false)))))] []) (.seq (.seq (.region [(oI 6 (.mov (.t 0))), (oI 7 (.bin .gtr (.t 6) (.c (.f (.int .i64 9))))), (oI 8 (.mov (.t 7))), (.mk (some 9) (some (8, false)) (.mov (.t 1))), (.mk (some 10) (some (8, false)) (.len (.t 9))), (.mk (some 11) (some (8, false)) (.bin .gtr (.t 10) (.c (.f (.int .i64 14))))), (oI 12 (.pick 8 (.c (.f (.bool true))) (.t 11)))] []) (.cond 12 (.seq (.region [(oI 4 (.mov (.c (.f (.bool false)))))] []) .ret) .skip)) (.seq (.seq (.region [(oI 5 (.mov (.c (.f (.int .i64 0)))))] []) (.block 0 (.loop 0 [(1, .no), (5, .no)] b_law43_small_0))) r_law43_small_0)))
def tb_law43_small : Tbl
  | 0 => ([(1, .no), (5, .no)], b_law43_small_0)
  | _ => ([], .skip)
theorem ok_law43_small : compF Tryd.prog [26, 27] Tryd.f9 = some c_law43_small.strip := by kernel_rfl
theorem tk_law43_small : TblOk tb_law43_small c_law43_small.body := ⟨trivial, ⟨⟨trivial, ⟨⟨trivial, trivial⟩, trivial⟩⟩, ⟨⟨trivial, ⟨rfl, ⟨⟨trivial, ⟨trivial, trivial⟩⟩, ⟨⟨trivial, ⟨⟨trivial, trivial⟩, trivial⟩⟩, trivial⟩⟩⟩⟩, ⟨trivial, trivial⟩⟩⟩⟩
def k_law43_small_0 (Q : Bool × Unit → Prop) : K := (kBlock 0 (kSeq (evC G_law43_small (Lfp G_law43_small tb_law43_small) r_law43_small_0) (kDone c_law43_small (dq e_law43_small.R Q))))
def s_law43_small_0 (n : Int) (cs : List ConstraintT) (v0 : Int) : St := ⟨[(1, [], .f (.fs ConstraintS cs)), (5, [], .f (.int .i64 v0))], []⟩
def L_law43_small_0 (n : Int) (cs : List ConstraintT) (v0 : Int) (Q : Bool × Unit → Prop) : Prop := Lfp G_law43_small tb_law43_small 0 (s_law43_small_0 n cs v0) (k_law43_small_0 Q)
theorem in_law43_small (n : Int) (cs : List ConstraintT) (Q : Bool × Unit → Prop) : evF G_law43_small (Lfp G_law43_small tb_law43_small) c_law43_small (VSs.enc e_law43_small.A (n, cs, ())) (dq e_law43_small.R Q) = (
  cond ((decide (n > 9)) || (decide ((cs.length : Int) > 14)))
  (Q (false, ()))
  (L_law43_small_0 n cs 0 Q)) := by kernel_rfl
theorem rd_law43_small_0 (n : Int) (cs : List ConstraintT) (v0 : Int) (Q : Bool × Unit → Prop) (h :
  cond (decide (v0 < (cs.length : Int)))
  (cond ((okIx v0 (cs.length : Int)) && ((okIx v0 (cs.length : Int)) || (!(((decide (((List.getD cs (Int.toNat v0) ConstraintD).1.length : Int) > 12)) == false) && true))))
    (cond ((decide (((List.getD cs (Int.toNat v0) ConstraintD).1.length : Int) > 12)) || (decide (((List.getD cs (Int.toNat v0) ConstraintD).2.1.length : Int) > 12)))
      (Q (false, ()))
      (L_law43_small_0 n cs (IntKind.wrap .i64 (v0 + 1)) Q))
    False)
  (Q (true, ()))) : L_law43_small_0 n cs v0 Q := Lfp.step (Eq.mpr (by kernel_rfl) h)
theorem lp_law43_small_0 (n : Int) (cs : List ConstraintT) (Q : Bool × Unit → Prop) (hw : VSs.wf e_law43_small.A (n, cs, ()))  (g0 : ((decide (n > 9)) || (decide ((cs.length : Int) > 14))) = false) : (fun y : Bool => Q (y, ())) (S_law43_small_0 n cs) → L_law43_small_0 n cs 0 Q := by
  have _ := hw
  have _ := g0
  let FF := (fun y : Bool => Q (y, ()))
  refine upV_loop (F := FF) (k := .i64) (n := cs.length) (L := (fun c0 : Int => L_law43_small_0 n cs c0 Q)) (wrap_i64n (show _ ≤ _ from (hw.2.1).1)) (fun c0 hc0 hF => rd_law43_small_0 n cs (c0 : Int) Q (cond_ge (n := cs.length) rfl hc0 (id hF))) (fun c0 _ hc0 next0 hn0 hF => rd_law43_small_0 n cs (c0 : Int) Q (cond_lt (n := cs.length) rfl hc0 ((vc_f (F := FF) (by first | ((repeat' (first | rfl | exact nn_d64 _ | exact okIx_nat hc0 | refine and_t ?_ ?_ | refine or_l ?_)); done) | (simp [-List.getD_eq_getElem?_getD, okIx_nat hc0, nn_u64, nn_u32]; done) | (simp [-List.getD_eq_getElem?_getD, okIx_nat hc0, nn_u64, nn_u32, g0]; done) | (have hry : roomy = 1048576 := rfl; simp [-List.getD_eq_getElem?_getD, okIx, okSlc, okApp, len_slcL, len_segL] at g0 ⊢ <;> omega)) /- 1 -/ (cond_f (F := FF) (fun h1 => id) (fun h1 => hn0))) hF)))
theorem ct_law43_small (n : Int) (cs : List ConstraintT) (hw : VSs.wf e_law43_small.A (n, cs, ())) (Q : Bool × Unit → Prop) (hq : Q (e_law43_small.g (n, cs, ()))) : EvF G_law43_small tb_law43_small c_law43_small (VSs.enc e_law43_small.A (n, cs, ())) (dq e_law43_small.R Q) := by
  have _ := hw
  let FF := (fun y : Bool => Q (y, ()))
  refine EvF.of (in_law43_small n cs Q) ?_
  exact (cond_f (F := FF) (fun h0 => id) (fun h0 => (lp_law43_small_0 n cs Q hw h0))) hq
/-! netverify/netverifylaw43.fit -/
def G_law43_fit : Env := ⟨[], []⟩
def b_law43_fit_1 : ACode := (.seq (.seq (.region [(oI 16 (.mov (.t 8))), (oI 17 (.mov (.t 1))), (oI 18 (.mov (.t 6))), (oI 19 (.ixa 2 (.t 17) (.t 18))), (oI 20 (.fld 0 (.t 19))), (oI 21 (.load false 1 (.t 20))), (oI 22 (.len (.t 21))), (oI 23 (.bin .lss (.t 16) (.t 22)))] []) (.cond 23 .skip (.exit 2))) (.seq (.block 3 (.region [(oI 26 (.fld 0 (.t 7))), (oI 27 (.load false 1 (.t 26))), (oI 28 (.mov (.t 1))), (oI 29 (.mov (.t 6))), (oI 30 (.ixa 2 (.t 28) (.t 29))), (oI 31 (.fld 0 (.t 30))), (oI 32 (.load false 1 (.t 31))), (oI 33 (.mov (.t 8))), (oI 34 (.ixa 1 (.t 32) (.t 33))), (oI 35 (.load false 1 (.t 34))), (oI 36 (.conv .u64 (.t 35))), (oI 37 (.mov (.t 0))), (oI 38 (.conv .u64 (.t 37))), (oI 39 (.bin .rem (.t 36) (.t 38))), (oI 40 (.conv .i64 (.t 39))), (oI 41 (.bslice Ti64S 8 [(.f (.int .i64 0))] 1 [(0, (.t 40))])), (oI 42 (.app Ti64S 8 (.t 27) (.t 41))), (oI 43 (.fld 0 (.t 7))), (.mk none none (.store 1 (.t 43) (.t 42)))] [(1, 15)])) (.region [(oI 24 (.mov (.t 8))), (oI 25 (.bin .add (.t 24) (.c (.f (.int .i64 1))))), (oI 8 (.mov (.t 25)))] [])))
def b_law43_fit_2 : ACode := (.seq (.seq (.region [(oI 44 (.mov (.t 9))), (oI 45 (.mov (.t 1))), (oI 46 (.mov (.t 6))), (oI 47 (.ixa 2 (.t 45) (.t 46))), (oI 48 (.fld 1 (.t 47))), (oI 49 (.load false 1 (.t 48))), (oI 50 (.len (.t 49))), (oI 51 (.bin .lss (.t 44) (.t 50)))] []) (.cond 51 .skip (.exit 4))) (.seq (.block 5 (.region [(oI 54 (.fld 1 (.t 7))), (oI 55 (.load false 1 (.t 54))), (oI 56 (.mov (.t 1))), (oI 57 (.mov (.t 6))), (oI 58 (.ixa 2 (.t 56) (.t 57))), (oI 59 (.fld 1 (.t 58))), (oI 60 (.load false 1 (.t 59))), (oI 61 (.mov (.t 9))), (oI 62 (.ixa 1 (.t 60) (.t 61))), (oI 63 (.load false 1 (.t 62))), (oI 64 (.conv .u64 (.t 63))), (oI 65 (.mov (.t 0))), (oI 66 (.conv .u64 (.t 65))), (oI 67 (.bin .rem (.t 64) (.t 66))), (oI 68 (.conv .i64 (.t 67))), (oI 69 (.bslice Ti64S 8 [(.f (.int .i64 0))] 1 [(0, (.t 68))])), (oI 70 (.app Ti64S 8 (.t 55) (.t 69))), (oI 71 (.fld 1 (.t 7))), (.mk none none (.store 1 (.t 71) (.t 70)))] [(1, 15)])) (.region [(oI 52 (.mov (.t 9))), (oI 53 (.bin .add (.t 52) (.c (.f (.int .i64 1))))), (oI 9 (.mov (.t 53)))] [])))
def r_law43_fit_1 : ACode := (.region [(oI 72 (.mov (.t 5))), (oI 73 (.load true 2 (.t 7))), (oI 74 (.bslice ConstraintS 48 [(.f .nils), (.f .nils)] 1 [(0, (.t 73))])), (oI 75 (.app ConstraintS 48 (.t 72) (.t 74))), (oI 5 (.mov (.t 75)))] [])
def r_law43_fit_0 : ACode := (.seqP [7] [0, 1, 5, 6] (.seq (.region [(oI 9 (.mov (.c (.f (.int .i64 0)))))] []) (.block 4 (.loop 2 [(0, .no), (1, .no), (5, .no), (6, .no), (7, .no), (9, .no), (7, .cell 1 Ti64S)] b_law43_fit_2))) r_law43_fit_1)
def r_law43_fit_2 : ACode := (.region [(oI 14 (.mov (.t 6))), (oI 15 (.bin .add (.t 14) (.c (.f (.int .i64 1))))), (oI 6 (.mov (.t 15)))] [])
def b_law43_fit_0 : ACode := (.seq (.seq (.region [(oI 10 (.mov (.t 6))), (oI 11 (.mov (.t 1))), (oI 12 (.len (.t 11))), (oI 13 (.bin .lss (.t 10) (.t 12)))] []) (.cond 13 .skip (.exit 0))) (.seq (.block 1 (.seq (.region [(oI 7 (.alloc [(.f .nils), (.f .nils)]))] []) (.seq (.seq (.region [(oI 8 (.mov (.c (.f (.int .i64 0)))))] []) (.block 2 (.loop 1 [(0, .no), (1, .no), (5, .no), (6, .no), (7, .no), (8, .no), (7, .cell 0 Ti64S)] b_law43_fit_1))) r_law43_fit_0))) r_law43_fit_2))
def r_law43_fit_3 : ACode := (.seq (.region [(oI 76 (.mov (.t 5))), (oI 4 (.mov (.t 76)))] []) .ret)
def c_law43_fit : AFunc := AFunc.mk 77 2 [(.t 4)] (.seq (.region [(oI 4 (.mov (.c (.f .nils))))] []) (.seq (.region [(oI 5 (.mov (.c (.f .nils))))] []) (.seq (.seq (.region [(oI 6 (.mov (.c (.f (.int .i64 0)))))] []) (.block 0 (.loop 0 [(0, .no), (1, .no), (5, .own ConstraintS), (6, .no)] b_law43_fit_0))) r_law43_fit_3)))
def tb_law43_fit : Tbl
  | 0 => ([(0, .no), (1, .no), (5, .own ConstraintS), (6, .no)], b_law43_fit_0)
  | 1 => ([(0, .no), (1, .no), (5, .no), (6, .no), (7, .no), (8, .no), (7, .cell 0 Ti64S)], b_law43_fit_1)
  | 2 => ([(0, .no), (1, .no), (5, .no), (6, .no), (7, .no), (9, .no), (7, .cell 1 Ti64S)], b_law43_fit_2)
  | _ => ([], .skip)
theorem ok_law43_fit : compF Tryd.prog [26, 27] Tryd.f10 = some c_law43_fit.strip := by kernel_rfl
theorem tk_law43_fit : TblOk tb_law43_fit c_law43_fit.body := ⟨trivial, ⟨trivial, ⟨⟨trivial, ⟨rfl, ⟨⟨trivial, ⟨trivial, trivial⟩⟩, ⟨⟨trivial, ⟨⟨trivial, ⟨rfl, ⟨⟨trivial, ⟨trivial, trivial⟩⟩, ⟨trivial, trivial⟩⟩⟩⟩, ⟨⟨trivial, ⟨rfl, ⟨⟨trivial, ⟨trivial, trivial⟩⟩, ⟨trivial, trivial⟩⟩⟩⟩, trivial⟩⟩⟩, trivial⟩⟩⟩⟩, ⟨trivial, trivial⟩⟩⟩⟩
def k_law43_fit_0 (Q : (List ConstraintT) × Unit → Prop) : K := (kBlock 0 (kSeq (evC G_law43_fit (Lfp G_law43_fit tb_law43_fit) r_law43_fit_3) (kDone c_law43_fit (dq e_law43_fit.R Q))))
def s_law43_fit_0 (n : Int) (cs : List ConstraintT) (v0 : Nat) (v1 : Int) (v2 : List ConstraintT) : St := ⟨[(0, [], .f (.int .i64 n)), (1, [], .f (.fs ConstraintS cs)), (5, [], .sl 0 2 0 v0), (6, [], .f (.int .i64 v1))], [.row ConstraintS v2]⟩
def L_law43_fit_0 (n : Int) (cs : List ConstraintT) (v0 : Nat) (v1 : Int) (v2 : List ConstraintT) (Q : (List ConstraintT) × Unit → Prop) : Prop := Lfp G_law43_fit tb_law43_fit 0 (s_law43_fit_0 n cs v0 v1 v2) (k_law43_fit_0 Q)
def k_law43_fit_1 (Q : (List ConstraintT) × Unit → Prop) : K := (kBlock 2 (kSeq (evC G_law43_fit (Lfp G_law43_fit tb_law43_fit) r_law43_fit_0) (kBlock 1 (kSeq (evC G_law43_fit (Lfp G_law43_fit tb_law43_fit) r_law43_fit_2) (kLoop [(0, .no), (1, .no), (5, .own ConstraintS), (6, .no)] (Lfp G_law43_fit tb_law43_fit 0) (k_law43_fit_0 Q))))))
def s_law43_fit_1 (n : Int) (cs : List ConstraintT) (v0 : Int) (v1 : Nat) (v2 : List Ti64T) (v3 : Nat) (v4 : Int) (v5 : List ConstraintT) : St := ⟨[(0, [], .f (.int .i64 n)), (1, [], .f (.fs ConstraintS cs)), (5, [], .sl 0 2 0 v3), (6, [], .f (.int .i64 v4)), (7, [], .ptr 1 0), (8, [], .f (.int .i64 v0))], [.row ConstraintS v5, .box none [.sl 2 1 0 v1, .f (.nils)], .row Ti64S v2]⟩
def L_law43_fit_1 (n : Int) (cs : List ConstraintT) (v0 : Int) (v1 : Nat) (v2 : List Ti64T) (v3 : Nat) (v4 : Int) (v5 : List ConstraintT) (Q : (List ConstraintT) × Unit → Prop) : Prop := Lfp G_law43_fit tb_law43_fit 1 (s_law43_fit_1 n cs v0 v1 v2 v3 v4 v5) (k_law43_fit_1 Q)
def k_law43_fit_2 (Q : (List ConstraintT) × Unit → Prop) : K := (kBlock 4 (kSeq (kP [7] [0, 1, 5, 6] (evC G_law43_fit (Lfp G_law43_fit tb_law43_fit) r_law43_fit_1)) (kBlock 1 (kSeq (evC G_law43_fit (Lfp G_law43_fit tb_law43_fit) r_law43_fit_2) (kLoop [(0, .no), (1, .no), (5, .own ConstraintS), (6, .no)] (Lfp G_law43_fit tb_law43_fit 0) (k_law43_fit_0 Q))))))
def s_law43_fit_2 (n : Int) (cs : List ConstraintT) (v0 : Int) (v1 : Nat) (v2 : List Ti64T) (v3 : Nat) (v4 : Int) (v5 : List ConstraintT) (v6 : Nat) (v7 : List Ti64T) : St := ⟨[(0, [], .f (.int .i64 n)), (1, [], .f (.fs ConstraintS cs)), (5, [], .sl 0 2 0 v3), (6, [], .f (.int .i64 v4)), (7, [], .ptr 1 0), (9, [], .f (.int .i64 v0))], [.row ConstraintS v5, .box none [.sl 2 1 0 v6, .sl 3 1 0 v1], .row Ti64S v7, .row Ti64S v2]⟩
def L_law43_fit_2 (n : Int) (cs : List ConstraintT) (v0 : Int) (v1 : Nat) (v2 : List Ti64T) (v3 : Nat) (v4 : Int) (v5 : List ConstraintT) (v6 : Nat) (v7 : List Ti64T) (Q : (List ConstraintT) × Unit → Prop) : Prop := Lfp G_law43_fit tb_law43_fit 2 (s_law43_fit_2 n cs v0 v1 v2 v3 v4 v5 v6 v7) (k_law43_fit_2 Q)
theorem in_law43_fit (n : Int) (cs : List ConstraintT) (Q : (List ConstraintT) × Unit → Prop) : evF G_law43_fit (Lfp G_law43_fit tb_law43_fit) c_law43_fit (VSs.enc e_law43_fit.A (n, cs, ())) (dq e_law43_fit.R Q) = (
  L_law43_fit_0 n cs 0 0 [] Q) := by kernel_rfl
theorem rd_law43_fit_0 (n : Int) (cs : List ConstraintT) (v0 : Nat) (v1 : Int) (v2 : List ConstraintT) (Q : (List ConstraintT) × Unit → Prop) (h :
  cond (decide (v1 < (cs.length : Int)))
  (L_law43_fit_1 n cs 0 0 [] v0 v1 v2 Q)
  (Q ((segL v2 0 v0), ()))) : L_law43_fit_0 n cs v0 v1 v2 Q := Lfp.step (Eq.mpr (by kernel_rfl) h)
theorem rd_law43_fit_1 (n : Int) (cs : List ConstraintT) (v0 : Int) (v1 : Nat) (v2 : List Ti64T) (v3 : Nat) (v4 : Int) (v5 : List ConstraintT) (Q : (List ConstraintT) × Unit → Prop) (h :
  cond (okIx v4 (cs.length : Int))
  (cond (decide (v0 < ((List.getD cs (Int.toNat v4) ConstraintD).1.length : Int)))
    (cond ((((okIx v4 (cs.length : Int)) && (okIx v0 ((List.getD cs (Int.toNat v4) ConstraintD).1.length : Int))) && (!((IntKind.wrap .u64 n) == 0))) && (okApp v1 v2.length 1))
      (L_law43_fit_1 n cs (IntKind.wrap .i64 (v0 + 1)) (v1 + 1) (v2 ++ [((IntKind.wrap .i64 (Int.tmod (IntKind.wrap .u64 (List.getD (List.getD cs (Int.toNat v4) ConstraintD).1 (Int.toNat v0) Ti64D).1) (IntKind.wrap .u64 n))), ())]) v3 v4 v5 Q)
      False)
    (L_law43_fit_2 n cs 0 0 [] v3 v4 v5 v1 v2 Q))
  False) : L_law43_fit_1 n cs v0 v1 v2 v3 v4 v5 Q := Lfp.step (Eq.mpr (by kernel_rfl) h)
theorem rd_law43_fit_2 (n : Int) (cs : List ConstraintT) (v0 : Int) (v1 : Nat) (v2 : List Ti64T) (v3 : Nat) (v4 : Int) (v5 : List ConstraintT) (v6 : Nat) (v7 : List Ti64T) (Q : (List ConstraintT) × Unit → Prop) (h :
  cond (okIx v4 (cs.length : Int))
  (cond (decide (v0 < ((List.getD cs (Int.toNat v4) ConstraintD).2.1.length : Int)))
    (cond ((((okIx v4 (cs.length : Int)) && (okIx v0 ((List.getD cs (Int.toNat v4) ConstraintD).2.1.length : Int))) && (!((IntKind.wrap .u64 n) == 0))) && (okApp v1 v2.length 1))
      (L_law43_fit_2 n cs (IntKind.wrap .i64 (v0 + 1)) (v1 + 1) (v2 ++ [((IntKind.wrap .i64 (Int.tmod (IntKind.wrap .u64 (List.getD (List.getD cs (Int.toNat v4) ConstraintD).2.1 (Int.toNat v0) Ti64D).1) (IntKind.wrap .u64 n))), ())]) v3 v4 v5 v6 v7 Q)
      False)
    (cond (okApp v3 v5.length 1)
      (L_law43_fit_0 n cs (v3 + 1) (IntKind.wrap .i64 (v4 + 1)) (v5 ++ [((segL v7 0 v6), (segL v2 0 v1), ())]) Q)
      False))
  False) : L_law43_fit_2 n cs v0 v1 v2 v3 v4 v5 v6 v7 Q := Lfp.step (Eq.mpr (by kernel_rfl) h)
theorem lp_law43_fit_2 (n : Int) (cs : List ConstraintT) (c0 : Nat) (v5 : List ConstraintT) (v7 : List Ti64T) (next0 : (List ConstraintT) → (List ConstraintT)) (v20 : List Ti64T) (Q : (List ConstraintT) × Unit → Prop) (hw : VSs.wf e_law43_fit.A (n, cs, ())) (hp : p_law43_fit n cs = true) (hc0 : c0 < cs.length) (hn0 : ∀ s_ : (List ConstraintT), (fun (c : Nat) (v : List ConstraintT) => v.length ≤ c) (c0 + 1) s_ → (fun y : List ConstraintT => Q (y, ())) (next0 s_) → L_law43_fit_0 n cs (List.length s_) (IntKind.wrap .i64 ((c0 : Int) + 1)) s_ Q) (hy2 : v5.length ≤ c0) (hI0 : (fun (c : Nat) (v : List Ti64T) => v.length ≤ c) 0 v20) : (fun y : List ConstraintT => Q (y, ())) (S_law43_fit_2 n cs c0 v5 v7 next0 v20) → L_law43_fit_2 n cs 0 (List.length v20) v20 (List.length v5) (c0 : Int) v5 (List.length v7) v7 Q := by
  have _ := hw
  have _ := hp
  have _ := hc0
  let FF := (fun y : List ConstraintT => Q (y, ()))
  refine upS_loop (F := FF) (k := .i64) (n := (List.getD cs c0 ConstraintD).2.1.length) (I := (fun (c : Nat) (v : List Ti64T) => v.length ≤ c)) (L := (fun (c2 : Int) (s2 : (List Ti64T)) => L_law43_fit_2 n cs c2 (List.length s2) s2 (List.length v5) (c0 : Int) v5 (List.length v7) v7 Q)) (wrap_i64n (show _ ≤ _ from (((wf_getD (hw.2.1) _).2).1).1)) (fun c2 hc2 s2 hI hF => rd_law43_fit_2 n cs (c2 : Int) (List.length s2) s2 (List.length v5) (c0 : Int) v5 (List.length v7) v7 Q (vc_i (by first | ((have h3 := (pfit hp).len; have hry : roomy = 1048576 := rfl; simp [-List.getD_eq_getElem?_getD, okIx_nat hc0, okApp, hry]; omega); done) | ((have h3 := ((pfit hp).el c0 hc0).2; have hI2 : s2.length ≤ c2 := hI; have hry : roomy = 1048576 := rfl; simp [-List.getD_eq_getElem?_getD, okIx_nat hc0, okIx_nat hc2, fit_n hp hw.1, okApp, hry]; omega); done) | ((have h3 := ((pfit hp).el c0 hc0).1; have hI2 : s1.length ≤ c1 := hI; have hry : roomy = 1048576 := rfl; simp [-List.getD_eq_getElem?_getD, okIx_nat hc0, okIx_nat hc1, fit_n hp hw.1, okApp, hry]; omega); done) | ((repeat' (first | rfl | exact nn_d64 _ | exact okIx_nat hc0 | refine and_t ?_ ?_ | refine or_l ?_)); done) | (simp [-List.getD_eq_getElem?_getD, okIx_nat hc0, nn_u64, nn_u32]; done) | (have hry : roomy = 1048576 := rfl; simp [-List.getD_eq_getElem?_getD, okIx, okSlc, okApp, len_slcL, len_segL] at hI ⊢ <;> omega)) /- 3 -/ (cond_ge (n := (List.getD cs c0 ConstraintD).2.1.length) rfl hc2 ((vc_f (F := FF) (by first | ((have h3 := (pfit hp).len; have hry : roomy = 1048576 := rfl; simp [-List.getD_eq_getElem?_getD, okIx_nat hc0, okApp, hry]; omega); done) | ((have h3 := ((pfit hp).el c0 hc0).2; have hI2 : s2.length ≤ c2 := hI; have hry : roomy = 1048576 := rfl; simp [-List.getD_eq_getElem?_getD, okIx_nat hc0, okIx_nat hc2, fit_n hp hw.1, okApp, hry]; omega); done) | ((have h3 := ((pfit hp).el c0 hc0).1; have hI2 : s1.length ≤ c1 := hI; have hry : roomy = 1048576 := rfl; simp [-List.getD_eq_getElem?_getD, okIx_nat hc0, okIx_nat hc1, fit_n hp hw.1, okApp, hry]; omega); done) | ((repeat' (first | rfl | exact nn_d64 _ | exact okIx_nat hc0 | exact okIx_nat hc2 | refine and_t ?_ ?_ | refine or_l ?_)); done) | (simp [-List.getD_eq_getElem?_getD, okIx_nat hc0, okIx_nat hc2, nn_u64, nn_u32]; done) | (have hry : roomy = 1048576 := rfl; simp [-List.getD_eq_getElem?_getD, okIx, okSlc, okApp, len_slcL, len_segL] at hI ⊢ <;> omega)) /- 2 -/ (fun hF => by have hL := hn0 _ (by show List.length _ ≤ _; rw [List.length_append]; exact Nat.succ_le_succ hy2) hF; simpa only [List.length_append, List.length_cons, List.length_nil, List.length_set, Nat.zero_add, Int.toNat_natCast] using hL)) hF)))) (fun c2 _ hc2 next2 hn2 s2 hI hF => rd_law43_fit_2 n cs (c2 : Int) (List.length s2) s2 (List.length v5) (c0 : Int) v5 (List.length v7) v7 Q (vc_i (by first | ((have h3 := (pfit hp).len; have hry : roomy = 1048576 := rfl; simp [-List.getD_eq_getElem?_getD, okIx_nat hc0, okApp, hry]; omega); done) | ((have h3 := ((pfit hp).el c0 hc0).2; have hI2 : s2.length ≤ c2 := hI; have hry : roomy = 1048576 := rfl; simp [-List.getD_eq_getElem?_getD, okIx_nat hc0, okIx_nat hc2, fit_n hp hw.1, okApp, hry]; omega); done) | ((have h3 := ((pfit hp).el c0 hc0).1; have hI2 : s1.length ≤ c1 := hI; have hry : roomy = 1048576 := rfl; simp [-List.getD_eq_getElem?_getD, okIx_nat hc0, okIx_nat hc1, fit_n hp hw.1, okApp, hry]; omega); done) | ((repeat' (first | rfl | exact nn_d64 _ | exact okIx_nat hc0 | refine and_t ?_ ?_ | refine or_l ?_)); done) | (simp [-List.getD_eq_getElem?_getD, okIx_nat hc0, nn_u64, nn_u32]; done) | (have hry : roomy = 1048576 := rfl; simp [-List.getD_eq_getElem?_getD, okIx, okSlc, okApp, len_slcL, len_segL] at hI ⊢ <;> omega)) /- 4 -/ (cond_lt (n := (List.getD cs c0 ConstraintD).2.1.length) rfl hc2 ((vc_f (F := FF) (by first | ((have h3 := (pfit hp).len; have hry : roomy = 1048576 := rfl; simp [-List.getD_eq_getElem?_getD, okIx_nat hc0, okApp, hry]; omega); done) | ((have h3 := ((pfit hp).el c0 hc0).2; have hI2 : s2.length ≤ c2 := hI; have hry : roomy = 1048576 := rfl; simp [-List.getD_eq_getElem?_getD, okIx_nat hc0, okIx_nat hc2, fit_n hp hw.1, okApp, hry]; omega); done) | ((have h3 := ((pfit hp).el c0 hc0).1; have hI2 : s1.length ≤ c1 := hI; have hry : roomy = 1048576 := rfl; simp [-List.getD_eq_getElem?_getD, okIx_nat hc0, okIx_nat hc1, fit_n hp hw.1, okApp, hry]; omega); done) | ((repeat' (first | rfl | exact nn_d64 _ | exact okIx_nat hc0 | exact okIx_nat hc2 | refine and_t ?_ ?_ | refine or_l ?_)); done) | (simp [-List.getD_eq_getElem?_getD, okIx_nat hc0, okIx_nat hc2, nn_u64, nn_u32]; done) | (have hry : roomy = 1048576 := rfl; simp [-List.getD_eq_getElem?_getD, okIx, okSlc, okApp, len_slcL, len_segL] at hI ⊢ <;> omega)) /- 1 -/ (fun hF => by have hL := hn2 _ (by show List.length _ ≤ _; rw [List.length_append]; exact Nat.succ_le_succ hI) hF; simpa only [List.length_append, List.length_cons, List.length_nil, List.length_set, Nat.zero_add, Int.toNat_natCast] using hL)) hF)))) v20 hI0
theorem lp_law43_fit_1 (n : Int) (cs : List ConstraintT) (c0 : Nat) (v5 : List ConstraintT) (next0 : (List ConstraintT) → (List ConstraintT)) (v20 : List Ti64T) (Q : (List ConstraintT) × Unit → Prop) (hw : VSs.wf e_law43_fit.A (n, cs, ())) (hp : p_law43_fit n cs = true) (hc0 : c0 < cs.length) (hn0 : ∀ s_ : (List ConstraintT), (fun (c : Nat) (v : List ConstraintT) => v.length ≤ c) (c0 + 1) s_ → (fun y : List ConstraintT => Q (y, ())) (next0 s_) → L_law43_fit_0 n cs (List.length s_) (IntKind.wrap .i64 ((c0 : Int) + 1)) s_ Q) (hy1 : v5.length ≤ c0) (hI0 : (fun (c : Nat) (v : List Ti64T) => v.length ≤ c) 0 v20) : (fun y : List ConstraintT => Q (y, ())) (S_law43_fit_1 n cs c0 v5 next0 v20) → L_law43_fit_1 n cs 0 (List.length v20) v20 (List.length v5) (c0 : Int) v5 Q := by
  have _ := hw
  have _ := hp
  have _ := hc0
  let FF := (fun y : List ConstraintT => Q (y, ()))
  refine upS_loop (F := FF) (k := .i64) (n := (List.getD cs c0 ConstraintD).1.length) (I := (fun (c : Nat) (v : List Ti64T) => v.length ≤ c)) (L := (fun (c1 : Int) (s1 : (List Ti64T)) => L_law43_fit_1 n cs c1 (List.length s1) s1 (List.length v5) (c0 : Int) v5 Q)) (wrap_i64n (show _ ≤ _ from ((wf_getD (hw.2.1) _).1).1)) (fun c1 hc1 s1 hI hF => rd_law43_fit_1 n cs (c1 : Int) (List.length s1) s1 (List.length v5) (c0 : Int) v5 Q (vc_i (by first | ((have h3 := (pfit hp).len; have hry : roomy = 1048576 := rfl; simp [-List.getD_eq_getElem?_getD, okIx_nat hc0, okApp, hry]; omega); done) | ((have h3 := ((pfit hp).el c0 hc0).2; have hI2 : s2.length ≤ c2 := hI; have hry : roomy = 1048576 := rfl; simp [-List.getD_eq_getElem?_getD, okIx_nat hc0, okIx_nat hc2, fit_n hp hw.1, okApp, hry]; omega); done) | ((have h3 := ((pfit hp).el c0 hc0).1; have hI2 : s1.length ≤ c1 := hI; have hry : roomy = 1048576 := rfl; simp [-List.getD_eq_getElem?_getD, okIx_nat hc0, okIx_nat hc1, fit_n hp hw.1, okApp, hry]; omega); done) | ((repeat' (first | rfl | exact nn_d64 _ | exact okIx_nat hc0 | refine and_t ?_ ?_ | refine or_l ?_)); done) | (simp [-List.getD_eq_getElem?_getD, okIx_nat hc0, nn_u64, nn_u32]; done) | (have hry : roomy = 1048576 := rfl; simp [-List.getD_eq_getElem?_getD, okIx, okSlc, okApp, len_slcL, len_segL] at hI ⊢ <;> omega)) /- 6 -/ (cond_ge (n := (List.getD cs c0 ConstraintD).1.length) rfl hc1 ((lp_law43_fit_2 n cs c0 v5 s1 _ [] Q hw hp hc0 hn0 (by exact hy1) (by exact Nat.le_refl _)) hF)))) (fun c1 _ hc1 next1 hn1 s1 hI hF => rd_law43_fit_1 n cs (c1 : Int) (List.length s1) s1 (List.length v5) (c0 : Int) v5 Q (vc_i (by first | ((have h3 := (pfit hp).len; have hry : roomy = 1048576 := rfl; simp [-List.getD_eq_getElem?_getD, okIx_nat hc0, okApp, hry]; omega); done) | ((have h3 := ((pfit hp).el c0 hc0).2; have hI2 : s2.length ≤ c2 := hI; have hry : roomy = 1048576 := rfl; simp [-List.getD_eq_getElem?_getD, okIx_nat hc0, okIx_nat hc2, fit_n hp hw.1, okApp, hry]; omega); done) | ((have h3 := ((pfit hp).el c0 hc0).1; have hI2 : s1.length ≤ c1 := hI; have hry : roomy = 1048576 := rfl; simp [-List.getD_eq_getElem?_getD, okIx_nat hc0, okIx_nat hc1, fit_n hp hw.1, okApp, hry]; omega); done) | ((repeat' (first | rfl | exact nn_d64 _ | exact okIx_nat hc0 | refine and_t ?_ ?_ | refine or_l ?_)); done) | (simp [-List.getD_eq_getElem?_getD, okIx_nat hc0, nn_u64, nn_u32]; done) | (have hry : roomy = 1048576 := rfl; simp [-List.getD_eq_getElem?_getD, okIx, okSlc, okApp, len_slcL, len_segL] at hI ⊢ <;> omega)) /- 7 -/ (cond_lt (n := (List.getD cs c0 ConstraintD).1.length) rfl hc1 ((vc_f (F := FF) (by first | ((have h3 := (pfit hp).len; have hry : roomy = 1048576 := rfl; simp [-List.getD_eq_getElem?_getD, okIx_nat hc0, okApp, hry]; omega); done) | ((have h3 := ((pfit hp).el c0 hc0).2; have hI2 : s2.length ≤ c2 := hI; have hry : roomy = 1048576 := rfl; simp [-List.getD_eq_getElem?_getD, okIx_nat hc0, okIx_nat hc2, fit_n hp hw.1, okApp, hry]; omega); done) | ((have h3 := ((pfit hp).el c0 hc0).1; have hI2 : s1.length ≤ c1 := hI; have hry : roomy = 1048576 := rfl; simp [-List.getD_eq_getElem?_getD, okIx_nat hc0, okIx_nat hc1, fit_n hp hw.1, okApp, hry]; omega); done) | ((repeat' (first | rfl | exact nn_d64 _ | exact okIx_nat hc0 | exact okIx_nat hc1 | refine and_t ?_ ?_ | refine or_l ?_)); done) | (simp [-List.getD_eq_getElem?_getD, okIx_nat hc0, okIx_nat hc1, nn_u64, nn_u32]; done) | (have hry : roomy = 1048576 := rfl; simp [-List.getD_eq_getElem?_getD, okIx, okSlc, okApp, len_slcL, len_segL] at hI ⊢ <;> omega)) /- 5 -/ (fun hF => by have hL := hn1 _ (by show List.length _ ≤ _; rw [List.length_append]; exact Nat.succ_le_succ hI) hF; simpa only [List.length_append, List.length_cons, List.length_nil, List.length_set, Nat.zero_add, Int.toNat_natCast] using hL)) hF)))) v20 hI0
theorem lp_law43_fit_0 (n : Int) (cs : List ConstraintT) (v20 : List ConstraintT) (Q : (List ConstraintT) × Unit → Prop) (hw : VSs.wf e_law43_fit.A (n, cs, ())) (hp : p_law43_fit n cs = true)  (hI0 : (fun (c : Nat) (v : List ConstraintT) => v.length ≤ c) 0 v20) : (fun y : List ConstraintT => Q (y, ())) (S_law43_fit_0 n cs v20) → L_law43_fit_0 n cs (List.length v20) 0 v20 Q := by
  have _ := hw
  have _ := hp
  let FF := (fun y : List ConstraintT => Q (y, ()))
  refine upS_loop (F := FF) (k := .i64) (n := cs.length) (I := (fun (c : Nat) (v : List ConstraintT) => v.length ≤ c)) (L := (fun (c0 : Int) (s0 : (List ConstraintT)) => L_law43_fit_0 n cs (List.length s0) c0 s0 Q)) (wrap_i64n (show _ ≤ _ from (hw.2.1).1)) (fun c0 hc0 s0 hI hF => rd_law43_fit_0 n cs (List.length s0) (c0 : Int) s0 Q (cond_ge (n := cs.length) rfl hc0 (id hF))) (fun c0 _ hc0 next0 hn0 s0 hI hF => rd_law43_fit_0 n cs (List.length s0) (c0 : Int) s0 Q (cond_lt (n := cs.length) rfl hc0 ((lp_law43_fit_1 n cs c0 s0 _ [] Q hw hp hc0 hn0 (by exact hI) (by exact Nat.le_refl _)) hF))) v20 hI0
theorem ct_law43_fit (n : Int) (cs : List ConstraintT) (hw : VSs.wf e_law43_fit.A (n, cs, ())) (hp : p_law43_fit n cs = true) (Q : (List ConstraintT) × Unit → Prop) (hq : Q (e_law43_fit.g (n, cs, ()))) : EvF G_law43_fit tb_law43_fit c_law43_fit (VSs.enc e_law43_fit.A (n, cs, ())) (dq e_law43_fit.R Q) := by
  have _ := hw
  let FF := (fun y : List ConstraintT => Q (y, ()))
  refine EvF.of (in_law43_fit n cs Q) ?_
  exact (lp_law43_fit_0 n cs [] Q hw hp (by exact Nat.le_refl _)) hq
/-! netverify/netverifyref42.elements -/
def G_r42_elements : Env := ⟨[], []⟩
def b_r42_elements_0 : ACode := (.seq (.seq (.region [(oI 6 (.mov (.t 5))), (oI 7 (.mov (.t 0))), (oI 8 (.len (.t 7))), (oI 9 (.bin .lss (.t 6) (.t 8)))] []) (.cond 9 .skip (.exit 0))) (.seq (.block 1 (.seq (.region [(oI 12 (.mov (.t 0))), (oI 13 (.mov (.t 5))), (oI 14 (.ixa 1 (.t 12) (.t 13))), (oI 15 (.load false 1 (.t 14))), (oI 16 (.bin .lss (.t 15) (.c (.f (.int .i64 0))))), (oI 17 (.mov (.t 16))), (.mk (some 18) (some (17, false)) (.mov (.t 0))), (.mk (some 19) (some (17, false)) (.mov (.t 5))), (.mk (some 20) (some (17, false)) (.ixa 1 (.t 18) (.t 19))), (.mk (some 21) (some (17, false)) (.load false 1 (.t 20))), (.mk (some 22) (some (17, false)) (.mov (.t 1))), (.mk (some 23) (some (17, false)) (.bin .geq (.t 21) (.t 22))), (oI 24 (.pick 17 (.c (.f (.bool true))) (.t 23)))] []) (.cond 24 (.seq (.region [(oI 4 (.mov (.c (.f (.bool false)))))] []) .ret) .skip))) (.region [(oI 10 (.mov (.t 5))), (oI 11 (.bin .add (.t 10) (.c (.f (.int .i64 1))))), (oI 5 (.mov (.t 11)))] [])))
def r_r42_elements_0 : ACode := (.seq (.region [(oI 4 (.mov (.c (.f (.bool true)))))] []) .ret)
def c_r42_elements : AFunc := AFunc.mk 25 2 [(.t 4)] (.seq (.region [(oI 4 (.mov (.c (.f (.bool false)))))] []) (.seq (.seq (.region [(oI 5 (.mov (.c (.f (.int .i64 0)))))] []) (.block 0 (.loop 0 [(0, .no), (1, .no), (5, .no)] b_r42_elements_0))) r_r42_elements_0))
def tb_r42_elements : Tbl
  | 0 => ([(0, .no), (1, .no), (5, .no)], b_r42_elements_0)
  | _ => ([], .skip)
theorem ok_r42_elements : compF Tryd.prog [26, 27] Tryd.f24 = some c_r42_elements.strip := by kernel_rfl
theorem tk_r42_elements : TblOk tb_r42_elements c_r42_elements.body := ⟨trivial, ⟨⟨trivial, ⟨rfl, ⟨⟨trivial, ⟨trivial, trivial⟩⟩, ⟨⟨trivial, ⟨⟨trivial, trivial⟩, trivial⟩⟩, trivial⟩⟩⟩⟩, ⟨trivial, trivial⟩⟩⟩
def k_r42_elements_0 (Q : Bool × Unit → Prop) : K := (kBlock 0 (kSeq (evC G_r42_elements (Lfp G_r42_elements tb_r42_elements) r_r42_elements_0) (kDone c_r42_elements (dq e_r42_elements.R Q))))
def s_r42_elements_0 (l : List Ti64T) (n : Int) (v0 : Int) : St := ⟨[(0, [], .f (.fs Ti64S l)), (1, [], .f (.int .i64 n)), (5, [], .f (.int .i64 v0))], []⟩
def L_r42_elements_0 (l : List Ti64T) (n : Int) (v0 : Int) (Q : Bool × Unit → Prop) : Prop := Lfp G_r42_elements tb_r42_elements 0 (s_r42_elements_0 l n v0) (k_r42_elements_0 Q)
theorem in_r42_elements (l : List Ti64T) (n : Int) (Q : Bool × Unit → Prop) : evF G_r42_elements (Lfp G_r42_elements tb_r42_elements) c_r42_elements (VSs.enc e_r42_elements.A (l, n, ())) (dq e_r42_elements.R Q) = (
  L_r42_elements_0 l n 0 Q) := by kernel_rfl
theorem rd_r42_elements_0 (l : List Ti64T) (n : Int) (v0 : Int) (Q : Bool × Unit → Prop) (h :
  cond (decide (v0 < (l.length : Int)))
  (cond ((okIx v0 (l.length : Int)) && ((okIx v0 (l.length : Int)) || (!(((decide ((List.getD l (Int.toNat v0) Ti64D).1 < 0)) == false) && true))))
    (cond ((decide ((List.getD l (Int.toNat v0) Ti64D).1 < 0)) || (decide ((List.getD l (Int.toNat v0) Ti64D).1 ≥ n)))
      (Q (false, ()))
      (L_r42_elements_0 l n (IntKind.wrap .i64 (v0 + 1)) Q))
    False)
  (Q (true, ()))) : L_r42_elements_0 l n v0 Q := Lfp.step (Eq.mpr (by kernel_rfl) h)
theorem lp_r42_elements_0 (l : List Ti64T) (n : Int) (Q : Bool × Unit → Prop) (hw : VSs.wf e_r42_elements.A (l, n, ()))  : (fun y : Bool => Q (y, ())) (S_r42_elements_0 l n) → L_r42_elements_0 l n 0 Q := by
  have _ := hw
  let FF := (fun y : Bool => Q (y, ()))
  refine upV_loop (F := FF) (k := .i64) (n := l.length) (L := (fun c0 : Int => L_r42_elements_0 l n c0 Q)) (wrap_i64n (show _ ≤ _ from (hw.1).1)) (fun c0 hc0 hF => rd_r42_elements_0 l n (c0 : Int) Q (cond_ge (n := l.length) rfl hc0 (id hF))) (fun c0 _ hc0 next0 hn0 hF => rd_r42_elements_0 l n (c0 : Int) Q (cond_lt (n := l.length) rfl hc0 ((vc_f (F := FF) (by first | ((repeat' (first | rfl | exact nn_d64 _ | exact okIx_nat hc0 | refine and_t ?_ ?_ | refine or_l ?_)); done) | (simp [-List.getD_eq_getElem?_getD, okIx_nat hc0, nn_u64, nn_u32]; done) | (have hry : roomy = 1048576 := rfl; simp [-List.getD_eq_getElem?_getD, okIx, okSlc, okApp, len_slcL, len_segL] <;> omega)) /- 1 -/ (cond_f (F := FF) (fun h0 => id) (fun h0 => hn0))) hF)))
theorem ct_r42_elements (l : List Ti64T) (n : Int) (hw : VSs.wf e_r42_elements.A (l, n, ())) (Q : Bool × Unit → Prop) (hq : Q (e_r42_elements.g (l, n, ()))) : EvF G_r42_elements tb_r42_elements c_r42_elements (VSs.enc e_r42_elements.A (l, n, ())) (dq e_r42_elements.R Q) := by
  have _ := hw
  let FF := (fun y : Bool => Q (y, ()))
  refine EvF.of (in_r42_elements l n Q) ?_
  exact (lp_r42_elements_0 l n Q hw) hq
/-! netverify/netverifyref42.Check -/
def G_r42_Check : Env := ⟨[e_r42_elements], []⟩
def b_r42_Check_0 : ACode := (.seq (.seq (.region [(oI 15 (.mov (.t 5))), (oI 16 (.mov (.t 1))), (oI 17 (.len (.t 16))), (oI 18 (.bin .lss (.t 15) (.t 17)))] []) (.cond 18 .skip (.exit 0))) (.seq (.block 1 (.seq (.region [(oI 21 (.mov (.t 1))), (oI 22 (.mov (.t 5))), (oI 23 (.ixa 2 (.t 21) (.t 22))), (oI 24 (.fld 0 (.t 23))), (oI 25 (.load false 1 (.t 24))), (oI 26 (.mov (.t 0))), (oI 27 (.call 24 [(.t 25), (.t 26)])), (oI 28 (.un .not (.t 27))), (oI 29 (.mov (.t 28))), (.mk (some 30) (some (29, false)) (.mov (.t 1))), (.mk (some 31) (some (29, false)) (.mov (.t 5))), (.mk (some 32) (some (29, false)) (.ixa 2 (.t 30) (.t 31))), (.mk (some 33) (some (29, false)) (.fld 1 (.t 32))), (.mk (some 34) (some (29, false)) (.load false 1 (.t 33))), (.mk (some 35) (some (29, false)) (.mov (.t 0))), (.mk (some 36) (some (29, false)) (.call 24 [(.t 34), (.t 35)])), (.mk (some 37) (some (29, false)) (.un .not (.t 36))), (oI 38 (.pick 29 (.c (.f (.bool true))) (.t 37)))] []) (.cond 38 (.seq (.region [(oI 4 (.mov (.c (.f (.int .i64 1)))))] []) .ret) .skip))) (.region [(oI 19 (.mov (.t 5))), (oI 20 (.bin .add (.t 19) (.c (.f (.int .i64 1))))), (oI 5 (.mov (.t 20)))] [])))
def r_r42_Check_0 : ACode := (.seq (.region [(oI 4 (.mov (.c (.f (.int .i64 0)))))] []) .ret)
def c_r42_Check : AFunc := AFunc.mk 39 2 [(.t 4)] (.seq (.region [(oI 4 (.mov (.c (.f (.int .i64 0)))))] []) (.seq (.seq (.region [(oI 6 (.mov (.t 0))), (oI 7 (.bin .lss (.t 6) (.c (.f (.int .i64 0)))))] []) (.cond 7 (.seq (.region [(oI 4 (.mov (.c (.f (.int .i64 1)))))] []) .ret) .skip)) (.seq (.seq (.region [(oI 8 (.mov (.t 0))), (oI 9 (.bin .gtr (.t 8) (.c (.f (.int .i64 24))))), (oI 10 (.mov (.t 9))), (.mk (some 11) (some (10, false)) (.mov (.t 1))), (.mk (some 12) (some (10, false)) (.len (.t 11))), (.mk (some 13) (some (10, false)) (.bin .gtr (.t 12) (.c (.f (.int .i64 64))))), (oI 14 (.pick 10 (.c (.f (.bool true))) (.t 13)))] []) (.cond 14 (.seq (.region [(oI 4 (.mov (.c (.f (.int .i64 7)))))] []) .ret) .skip)) (.seq (.seq (.region [(oI 5 (.mov (.c (.f (.int .i64 0)))))] []) (.block 0 (.loop 0 [(0, .no), (1, .no), (5, .no)] b_r42_Check_0))) r_r42_Check_0))))
def tb_r42_Check : Tbl
  | 0 => ([(0, .no), (1, .no), (5, .no)], b_r42_Check_0)
  | _ => ([], .skip)
theorem ok_r42_Check : compF Tryd.prog [26, 27] Tryd.f12 = some c_r42_Check.strip := by kernel_rfl
theorem tk_r42_Check : TblOk tb_r42_Check c_r42_Check.body := ⟨trivial, ⟨⟨trivial, ⟨⟨trivial, trivial⟩, trivial⟩⟩, ⟨⟨trivial, ⟨⟨trivial, trivial⟩, trivial⟩⟩, ⟨⟨trivial, ⟨rfl, ⟨⟨trivial, ⟨trivial, trivial⟩⟩, ⟨⟨trivial, ⟨⟨trivial, trivial⟩, trivial⟩⟩, trivial⟩⟩⟩⟩, ⟨trivial, trivial⟩⟩⟩⟩⟩
def k_r42_Check_0 (Q : Int × Unit → Prop) : K := (kBlock 0 (kSeq (evC G_r42_Check (Lfp G_r42_Check tb_r42_Check) r_r42_Check_0) (kDone c_r42_Check (dq e_r42_Check.R Q))))
def s_r42_Check_0 (n : Int) (cs : List ConstraintT) (v0 : Int) : St := ⟨[(0, [], .f (.int .i64 n)), (1, [], .f (.fs ConstraintS cs)), (5, [], .f (.int .i64 v0))], []⟩
def L_r42_Check_0 (n : Int) (cs : List ConstraintT) (v0 : Int) (Q : Int × Unit → Prop) : Prop := Lfp G_r42_Check tb_r42_Check 0 (s_r42_Check_0 n cs v0) (k_r42_Check_0 Q)
theorem in_r42_Check (n : Int) (cs : List ConstraintT) (Q : Int × Unit → Prop) : evF G_r42_Check (Lfp G_r42_Check tb_r42_Check) c_r42_Check (VSs.enc e_r42_Check.A (n, cs, ())) (dq e_r42_Check.R Q) = (
  cond (decide (n < 0))
  (Q (1, ()))
  (cond ((decide (n > 24)) || (decide ((cs.length : Int) > 64)))
    (Q (7, ()))
    (L_r42_Check_0 n cs 0 Q))) := by kernel_rfl
theorem rd_r42_Check_0 (n : Int) (cs : List ConstraintT) (v0 : Int) (Q : Int × Unit → Prop) (h :
  cond (decide (v0 < (cs.length : Int)))
  (cond ((((okIx v0 (cs.length : Int)) && true) && ((okIx v0 (cs.length : Int)) || (!(((!(g_r42_elements (List.getD cs (Int.toNat v0) ConstraintD).1 n)) == false) && true)))) && true)
    (cond ((!(g_r42_elements (List.getD cs (Int.toNat v0) ConstraintD).1 n)) || (!(g_r42_elements (List.getD cs (Int.toNat v0) ConstraintD).2.1 n)))
      (Q (1, ()))
      (L_r42_Check_0 n cs (IntKind.wrap .i64 (v0 + 1)) Q))
    False)
  (Q (0, ()))) : L_r42_Check_0 n cs v0 Q := Lfp.step (Eq.mpr (by kernel_rfl) h)
theorem lp_r42_Check_0 (n : Int) (cs : List ConstraintT) (Q : Int × Unit → Prop) (hw : VSs.wf e_r42_Check.A (n, cs, ()))  (g0 : (decide (n < 0)) = false) (g1 : ((decide (n > 24)) || (decide ((cs.length : Int) > 64))) = false) : (fun y : Int => Q (y, ())) (S_r42_Check_0 n cs) → L_r42_Check_0 n cs 0 Q := by
  have _ := hw
  have _ := g0
  have _ := g1
  let FF := (fun y : Int => Q (y, ()))
  refine upV_loop (F := FF) (k := .i64) (n := cs.length) (L := (fun c0 : Int => L_r42_Check_0 n cs c0 Q)) (wrap_i64n (show _ ≤ _ from (hw.2.1).1)) (fun c0 hc0 hF => rd_r42_Check_0 n cs (c0 : Int) Q (cond_ge (n := cs.length) rfl hc0 (id hF))) (fun c0 _ hc0 next0 hn0 hF => rd_r42_Check_0 n cs (c0 : Int) Q (cond_lt (n := cs.length) rfl hc0 ((vc_f (F := FF) (by first | ((repeat' (first | rfl | exact nn_d64 _ | exact okIx_nat hc0 | refine and_t ?_ ?_ | refine or_l ?_)); done) | (simp [-List.getD_eq_getElem?_getD, okIx_nat hc0, nn_u64, nn_u32]; done) | (simp [-List.getD_eq_getElem?_getD, okIx_nat hc0, nn_u64, nn_u32, g0, g1]; done) | (have hry : roomy = 1048576 := rfl; simp [-List.getD_eq_getElem?_getD, okIx, okSlc, okApp, len_slcL, len_segL] at g0 g1 ⊢ <;> omega)) /- 1 -/ (cond_f (F := FF) (fun h2 => id) (fun h2 => hn0))) hF)))
theorem ct_r42_Check (n : Int) (cs : List ConstraintT) (hw : VSs.wf e_r42_Check.A (n, cs, ())) (Q : Int × Unit → Prop) (hq : Q (e_r42_Check.g (n, cs, ()))) : EvF G_r42_Check tb_r42_Check c_r42_Check (VSs.enc e_r42_Check.A (n, cs, ())) (dq e_r42_Check.R Q) := by
  have _ := hw
  let FF := (fun y : Int => Q (y, ()))
  refine EvF.of (in_r42_Check n cs Q) ?_
  exact (cond_f (F := FF) (fun h0 => id) (fun h0 => (cond_f (F := FF) (fun h1 => id) (fun h1 => (lp_r42_Check_0 n cs Q hw h0 h1))))) hq
/-! netverify/netverifyref42.has -/
def G_r42_has : Env := ⟨[], []⟩
def b_r42_has_0 : ACode := (.seq (.seq (.region [(oI 6 (.mov (.t 5))), (oI 7 (.mov (.t 0))), (oI 8 (.len (.t 7))), (oI 9 (.bin .lss (.t 6) (.t 8)))] []) (.cond 9 .skip (.exit 0))) (.seq (.block 1 (.seq (.region [(oI 12 (.mov (.t 0))), (oI 13 (.mov (.t 5))), (oI 14 (.ixa 1 (.t 12) (.t 13))), (oI 15 (.load false 1 (.t 14))), (oI 16 (.mov (.t 1))), (oI 17 (.bin .eql (.t 15) (.t 16)))] []) (.cond 17 (.seq (.region [(oI 4 (.mov (.c (.f (.bool true)))))] []) .ret) .skip))) (.region [(oI 10 (.mov (.t 5))), (oI 11 (.bin .add (.t 10) (.c (.f (.int .i64 1))))), (oI 5 (.mov (.t 11)))] [])))
def r_r42_has_0 : ACode := (.seq (.region [(oI 4 (.mov (.c (.f (.bool false)))))] []) .ret)
def c_r42_has : AFunc := AFunc.mk 18 2 [(.t 4)] (.seq (.region [(oI 4 (.mov (.c (.f (.bool false)))))] []) (.seq (.seq (.region [(oI 5 (.mov (.c (.f (.int .i64 0)))))] []) (.block 0 (.loop 0 [(0, .no), (1, .no), (5, .no)] b_r42_has_0))) r_r42_has_0))
def tb_r42_has : Tbl
  | 0 => ([(0, .no), (1, .no), (5, .no)], b_r42_has_0)
  | _ => ([], .skip)
theorem ok_r42_has : compF Tryd.prog [26, 27] Tryd.f39 = some c_r42_has.strip := by kernel_rfl
theorem tk_r42_has : TblOk tb_r42_has c_r42_has.body := ⟨trivial, ⟨⟨trivial, ⟨rfl, ⟨⟨trivial, ⟨trivial, trivial⟩⟩, ⟨⟨trivial, ⟨⟨trivial, trivial⟩, trivial⟩⟩, trivial⟩⟩⟩⟩, ⟨trivial, trivial⟩⟩⟩
def k_r42_has_0 (Q : Bool × Unit → Prop) : K := (kBlock 0 (kSeq (evC G_r42_has (Lfp G_r42_has tb_r42_has) r_r42_has_0) (kDone c_r42_has (dq e_r42_has.R Q))))
def s_r42_has_0 (l : List Ti64T) (x0 : Int) (v0 : Int) : St := ⟨[(0, [], .f (.fs Ti64S l)), (1, [], .f (.int .i64 x0)), (5, [], .f (.int .i64 v0))], []⟩
def L_r42_has_0 (l : List Ti64T) (x0 : Int) (v0 : Int) (Q : Bool × Unit → Prop) : Prop := Lfp G_r42_has tb_r42_has 0 (s_r42_has_0 l x0 v0) (k_r42_has_0 Q)
theorem in_r42_has (l : List Ti64T) (x0 : Int) (Q : Bool × Unit → Prop) : evF G_r42_has (Lfp G_r42_has tb_r42_has) c_r42_has (VSs.enc e_r42_has.A (l, x0, ())) (dq e_r42_has.R Q) = (
  L_r42_has_0 l x0 0 Q) := by kernel_rfl
theorem rd_r42_has_0 (l : List Ti64T) (x0 : Int) (v0 : Int) (Q : Bool × Unit → Prop) (h :
  cond (decide (v0 < (l.length : Int)))
  (cond (okIx v0 (l.length : Int))
    (cond ((List.getD l (Int.toNat v0) Ti64D).1 == x0)
      (Q (true, ()))
      (L_r42_has_0 l x0 (IntKind.wrap .i64 (v0 + 1)) Q))
    False)
  (Q (false, ()))) : L_r42_has_0 l x0 v0 Q := Lfp.step (Eq.mpr (by kernel_rfl) h)
theorem lp_r42_has_0 (l : List Ti64T) (x0 : Int) (Q : Bool × Unit → Prop) (hw : VSs.wf e_r42_has.A (l, x0, ()))  : (fun y : Bool => Q (y, ())) (S_r42_has_0 l x0) → L_r42_has_0 l x0 0 Q := by
  have _ := hw
  let FF := (fun y : Bool => Q (y, ()))
  refine upV_loop (F := FF) (k := .i64) (n := l.length) (L := (fun c0 : Int => L_r42_has_0 l x0 c0 Q)) (wrap_i64n (show _ ≤ _ from (hw.1).1)) (fun c0 hc0 hF => rd_r42_has_0 l x0 (c0 : Int) Q (cond_ge (n := l.length) rfl hc0 (id hF))) (fun c0 _ hc0 next0 hn0 hF => rd_r42_has_0 l x0 (c0 : Int) Q (cond_lt (n := l.length) rfl hc0 ((vc_f (F := FF) (by first | ((repeat' (first | rfl | exact nn_d64 _ | exact okIx_nat hc0 | refine and_t ?_ ?_ | refine or_l ?_)); done) | (simp [-List.getD_eq_getElem?_getD, okIx_nat hc0, nn_u64, nn_u32]; done) | (have hry : roomy = 1048576 := rfl; simp [-List.getD_eq_getElem?_getD, okIx, okSlc, okApp, len_slcL, len_segL] <;> omega)) /- 1 -/ (cond_f (F := FF) (fun h0 => id) (fun h0 => hn0))) hF)))
theorem ct_r42_has (l : List Ti64T) (x0 : Int) (hw : VSs.wf e_r42_has.A (l, x0, ())) (Q : Bool × Unit → Prop) (hq : Q (e_r42_has.g (l, x0, ()))) : EvF G_r42_has tb_r42_has c_r42_has (VSs.enc e_r42_has.A (l, x0, ())) (dq e_r42_has.R Q) := by
  have _ := hw
  let FF := (fun y : Bool => Q (y, ()))
  refine EvF.of (in_r42_has l x0 Q) ?_
  exact (lp_r42_has_0 l x0 Q hw) hq
/-! netverify/netverifyref42.Satisfied -/
def G_r42_Satisfied : Env := ⟨[e_r42_has], []⟩
def b_r42_Satisfied_0 : ACode := (.seq (.seq (.region [(oI 7 (.mov (.t 5))), (oI 8 (.fld 0 (.t 3))), (oI 9 (.load false 1 (.t 8))), (oI 10 (.len (.t 9))), (oI 11 (.bin .lss (.t 7) (.t 10)))] []) (.cond 11 .skip (.exit 0))) (.seq (.block 1 (.seq (.region [(oI 14 (.mov (.t 0))), (oI 15 (.fld 0 (.t 3))), (oI 16 (.load false 1 (.t 15))), (oI 17 (.mov (.t 5))), (oI 18 (.ixa 1 (.t 16) (.t 17))), (oI 19 (.load false 1 (.t 18))), (oI 20 (.call 39 [(.t 14), (.t 19)]))] []) (.cond 20 (.seq (.region [(oI 4 (.mov (.c (.f (.bool true)))))] []) .ret) .skip))) (.region [(oI 12 (.mov (.t 5))), (oI 13 (.bin .add (.t 12) (.c (.f (.int .i64 1))))), (oI 5 (.mov (.t 13)))] [])))
def b_r42_Satisfied_1 : ACode := (.seq (.seq (.region [(oI 21 (.mov (.t 6))), (oI 22 (.fld 1 (.t 3))), (oI 23 (.load false 1 (.t 22))), (oI 24 (.len (.t 23))), (oI 25 (.bin .lss (.t 21) (.t 24)))] []) (.cond 25 .skip (.exit 2))) (.seq (.block 3 (.seq (.region [(oI 28 (.mov (.t 0))), (oI 29 (.fld 1 (.t 3))), (oI 30 (.load false 1 (.t 29))), (oI 31 (.mov (.t 6))), (oI 32 (.ixa 1 (.t 30) (.t 31))), (oI 33 (.load false 1 (.t 32))), (oI 34 (.call 39 [(.t 28), (.t 33)])), (oI 35 (.un .not (.t 34)))] []) (.cond 35 (.seq (.region [(oI 4 (.mov (.c (.f (.bool true)))))] []) .ret) .skip))) (.region [(oI 26 (.mov (.t 6))), (oI 27 (.bin .add (.t 26) (.c (.f (.int .i64 1))))), (oI 6 (.mov (.t 27)))] [])))
def r_r42_Satisfied_1 : ACode := (.seq (.region [(oI 4 (.mov (.c (.f (.bool false)))))] []) .ret)
def r_r42_Satisfied_0 : ACode := (.seq (.seq (.region [(oI 6 (.mov (.c (.f (.int .i64 0)))))] []) (.block 2 (.loop 1 [(0, .no), (3, .no), (6, .no)] b_r42_Satisfied_1))) r_r42_Satisfied_1)
def c_r42_Satisfied : AFunc := AFunc.mk 36 2 [(.t 4)] (.seq (.region [(oI 3 (.box (.t 1))), (oI 4 (.mov (.c (.f (.bool false)))))] []) (.seq (.seq (.region [(oI 5 (.mov (.c (.f (.int .i64 0)))))] []) (.block 0 (.loop 0 [(0, .no), (3, .no), (5, .no)] b_r42_Satisfied_0))) r_r42_Satisfied_0))
def tb_r42_Satisfied : Tbl
  | 0 => ([(0, .no), (3, .no), (5, .no)], b_r42_Satisfied_0)
  | 1 => ([(0, .no), (3, .no), (6, .no)], b_r42_Satisfied_1)
  | _ => ([], .skip)
theorem ok_r42_Satisfied : compF Tryd.prog [26, 27] Tryd.f30 = some c_r42_Satisfied.strip := by kernel_rfl
theorem tk_r42_Satisfied : TblOk tb_r42_Satisfied c_r42_Satisfied.body := ⟨trivial, ⟨⟨trivial, ⟨rfl, ⟨⟨trivial, ⟨trivial, trivial⟩⟩, ⟨⟨trivial, ⟨⟨trivial, trivial⟩, trivial⟩⟩, trivial⟩⟩⟩⟩, ⟨⟨trivial, ⟨rfl, ⟨⟨trivial, ⟨trivial, trivial⟩⟩, ⟨⟨trivial, ⟨⟨trivial, trivial⟩, trivial⟩⟩, trivial⟩⟩⟩⟩, ⟨trivial, trivial⟩⟩⟩⟩
def k_r42_Satisfied_0 (Q : Bool × Unit → Prop) : K := (kBlock 0 (kSeq (evC G_r42_Satisfied (Lfp G_r42_Satisfied tb_r42_Satisfied) r_r42_Satisfied_0) (kDone c_r42_Satisfied (dq e_r42_Satisfied.R Q))))
def s_r42_Satisfied_0 (set : List Ti64T) (c : ConstraintT) (v0 : Int) : St := ⟨[(0, [], .f (.fs Ti64S set)), (3, [], .ptr 0 0), (5, [], .f (.int .i64 v0))], [.box none [.f (.fs Ti64S c.1), .f (.fs Ti64S c.2.1)]]⟩
def L_r42_Satisfied_0 (set : List Ti64T) (c : ConstraintT) (v0 : Int) (Q : Bool × Unit → Prop) : Prop := Lfp G_r42_Satisfied tb_r42_Satisfied 0 (s_r42_Satisfied_0 set c v0) (k_r42_Satisfied_0 Q)
def k_r42_Satisfied_1 (Q : Bool × Unit → Prop) : K := (kBlock 2 (kSeq (evC G_r42_Satisfied (Lfp G_r42_Satisfied tb_r42_Satisfied) r_r42_Satisfied_1) (kDone c_r42_Satisfied (dq e_r42_Satisfied.R Q))))
def s_r42_Satisfied_1 (set : List Ti64T) (c : ConstraintT) (v0 : Int) : St := ⟨[(0, [], .f (.fs Ti64S set)), (3, [], .ptr 0 0), (6, [], .f (.int .i64 v0))], [.box none [.f (.fs Ti64S c.1), .f (.fs Ti64S c.2.1)]]⟩
def L_r42_Satisfied_1 (set : List Ti64T) (c : ConstraintT) (v0 : Int) (Q : Bool × Unit → Prop) : Prop := Lfp G_r42_Satisfied tb_r42_Satisfied 1 (s_r42_Satisfied_1 set c v0) (k_r42_Satisfied_1 Q)
theorem in_r42_Satisfied (set : List Ti64T) (c : ConstraintT) (Q : Bool × Unit → Prop) : evF G_r42_Satisfied (Lfp G_r42_Satisfied tb_r42_Satisfied) c_r42_Satisfied (VSs.enc e_r42_Satisfied.A (set, c, ())) (dq e_r42_Satisfied.R Q) = (
  L_r42_Satisfied_0 set c 0 Q) := by kernel_rfl
theorem rd_r42_Satisfied_0 (set : List Ti64T) (c : ConstraintT) (v0 : Int) (Q : Bool × Unit → Prop) (h :
  cond (decide (v0 < (c.1.length : Int)))
  (cond ((okIx v0 (c.1.length : Int)) && true)
    (cond (g_r42_has set (List.getD c.1 (Int.toNat v0) Ti64D).1)
      (Q (true, ()))
      (L_r42_Satisfied_0 set c (IntKind.wrap .i64 (v0 + 1)) Q))
    False)
  (L_r42_Satisfied_1 set c 0 Q)) : L_r42_Satisfied_0 set c v0 Q := Lfp.step (Eq.mpr (by kernel_rfl) h)
theorem rd_r42_Satisfied_1 (set : List Ti64T) (c : ConstraintT) (v0 : Int) (Q : Bool × Unit → Prop) (h :
  cond (decide (v0 < (c.2.1.length : Int)))
  (cond ((okIx v0 (c.2.1.length : Int)) && true)
    (cond (!(g_r42_has set (List.getD c.2.1 (Int.toNat v0) Ti64D).1))
      (Q (true, ()))
      (L_r42_Satisfied_1 set c (IntKind.wrap .i64 (v0 + 1)) Q))
    False)
  (Q (false, ()))) : L_r42_Satisfied_1 set c v0 Q := Lfp.step (Eq.mpr (by kernel_rfl) h)
theorem lp_r42_Satisfied_1 (set : List Ti64T) (c : ConstraintT) (Q : Bool × Unit → Prop) (hw : VSs.wf e_r42_Satisfied.A (set, c, ()))  : (fun y : Bool => Q (y, ())) (S_r42_Satisfied_1 set c) → L_r42_Satisfied_1 set c 0 Q := by
  have _ := hw
  let FF := (fun y : Bool => Q (y, ()))
  refine upV_loop (F := FF) (k := .i64) (n := c.2.1.length) (L := (fun c1 : Int => L_r42_Satisfied_1 set c c1 Q)) (wrap_i64n (show _ ≤ _ from (((hw.2.1).2).1).1)) (fun c1 hc1 hF => rd_r42_Satisfied_1 set c (c1 : Int) Q (cond_ge (n := c.2.1.length) rfl hc1 (id hF))) (fun c1 _ hc1 next1 hn1 hF => rd_r42_Satisfied_1 set c (c1 : Int) Q (cond_lt (n := c.2.1.length) rfl hc1 ((vc_f (F := FF) (by first | ((repeat' (first | rfl | exact nn_d64 _ | exact okIx_nat hc1 | refine and_t ?_ ?_ | refine or_l ?_)); done) | (simp [-List.getD_eq_getElem?_getD, okIx_nat hc1, nn_u64, nn_u32]; done) | (have hry : roomy = 1048576 := rfl; simp [-List.getD_eq_getElem?_getD, okIx, okSlc, okApp, len_slcL, len_segL] <;> omega)) /- 1 -/ (cond_f (F := FF) (fun h0 => id) (fun h0 => hn1))) hF)))
theorem lp_r42_Satisfied_0 (set : List Ti64T) (c : ConstraintT) (Q : Bool × Unit → Prop) (hw : VSs.wf e_r42_Satisfied.A (set, c, ()))  : (fun y : Bool => Q (y, ())) (S_r42_Satisfied_0 set c) → L_r42_Satisfied_0 set c 0 Q := by
  have _ := hw
  let FF := (fun y : Bool => Q (y, ()))
  refine upV_loop (F := FF) (k := .i64) (n := c.1.length) (L := (fun c0 : Int => L_r42_Satisfied_0 set c c0 Q)) (wrap_i64n (show _ ≤ _ from ((hw.2.1).1).1)) (fun c0 hc0 hF => rd_r42_Satisfied_0 set c (c0 : Int) Q (cond_ge (n := c.1.length) rfl hc0 ((lp_r42_Satisfied_1 set c Q hw) hF))) (fun c0 _ hc0 next0 hn0 hF => rd_r42_Satisfied_0 set c (c0 : Int) Q (cond_lt (n := c.1.length) rfl hc0 ((vc_f (F := FF) (by first | ((repeat' (first | rfl | exact nn_d64 _ | exact okIx_nat hc0 | refine and_t ?_ ?_ | refine or_l ?_)); done) | (simp [-List.getD_eq_getElem?_getD, okIx_nat hc0, nn_u64, nn_u32]; done) | (have hry : roomy = 1048576 := rfl; simp [-List.getD_eq_getElem?_getD, okIx, okSlc, okApp, len_slcL, len_segL] <;> omega)) /- 2 -/ (cond_f (F := FF) (fun h0 => id) (fun h0 => hn0))) hF)))
theorem ct_r42_Satisfied (set : List Ti64T) (c : ConstraintT) (hw : VSs.wf e_r42_Satisfied.A (set, c, ())) (Q : Bool × Unit → Prop) (hq : Q (e_r42_Satisfied.g (set, c, ()))) : EvF G_r42_Satisfied tb_r42_Satisfied c_r42_Satisfied (VSs.enc e_r42_Satisfied.A (set, c, ())) (dq e_r42_Satisfied.R Q) := by
  have _ := hw
  let FF := (fun y : Bool => Q (y, ()))
  refine EvF.of (in_r42_Satisfied set c Q) ?_
  exact (lp_r42_Satisfied_0 set c Q hw) hq
end Go.Proofs.YtilbcgklkdkkdaaDoor
