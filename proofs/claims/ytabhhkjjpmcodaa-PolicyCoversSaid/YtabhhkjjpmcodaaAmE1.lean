/-
  The codes and their equations.
-/
import Derived.Test.YtabhhkjjpmcodaaAmG
import Derived.Test.YtabhhkjjpmcodaaProg
import Derived.KernelRfl
namespace Go.Proofs.Ytabhhkjjpmcodaa
open Go Go.AM
set_option maxRecDepth 100000
/-! netverify/model.PrefixList -/
def G_model_PrefixList : Env := ⟨[e_slices_IndexFunc_PrefixList], []⟩
def c_model_PrefixList : AFunc := AFunc.mk 9 2 [(.t 4)] (.seq (.region [(oI 2 (.box (.t 0))), (oI 3 (.box (.t 1))), (oI 4 (.mov (.c (.f (.int .i64 0)))))] []) (.seq (.region [(oI 5 (.fld 3 (.t 2))), (oI 6 (.load false 1 (.t 5))), (oI 7 (.mkfn 56 [(.t 3)])), (oI 8 (.call 55 [(.t 6), (.t 7)])), (oI 4 (.mov (.t 8)))] []) .ret))
def tb_model_PrefixList : Tbl := fun _ => ([], .skip)
theorem ok_model_PrefixList : compF Try.prog [] Try.f34 = some c_model_PrefixList.strip := by kernel_rfl
theorem tk_model_PrefixList : TblOk tb_model_PrefixList c_model_PrefixList.body := ⟨trivial, ⟨trivial, trivial⟩⟩
theorem in_model_PrefixList (r : RouterT) (name : List UInt8) (Q : Int × Unit → Prop) : evF G_model_PrefixList (Lfp G_model_PrefixList tb_model_PrefixList) c_model_PrefixList (VSs.enc e_model_PrefixList.A (r, name, ())) (dq e_model_PrefixList.R Q) = (
  Q ((g_slices_IndexFunc_PrefixList r.2.2.2.1 name), ())) := by kernel_rfl
theorem au_model_PrefixList (r : RouterT) (name : List UInt8) (Q : Int × Unit → Prop) : evF G_model_PrefixList (Lfp G_model_PrefixList tb_model_PrefixList) c_model_PrefixList (VSs.enc e_model_PrefixList.A (r, name, ())) (dq e_model_PrefixList.R Q) = Q (e_model_PrefixList.g (r, name, ())) := (in_model_PrefixList r name Q).trans rfl
/-! netverify/policy.Permits -/
def G_policy_Permits : Env := ⟨[e_policy_First, e_model_PrefixList], []⟩
def c_policy_Permits : AFunc := AFunc.mk 37 3 [(.t 6)] (.seq (.region [(oI 3 (.box (.t 0))), (oI 5 (.box (.t 2))), (oI 6 (.mov (.c (.f (.bool false)))))] []) (.seq (.seq (.region [(oI 9 (.mov (.t 1))), (oI 10 (.bin .eql (.t 9) (.c (.f (.str [])))))] []) (.cond 10 (.seq (.region [(oI 6 (.mov (.c (.f (.bool true)))))] []) .ret) .skip)) (.seq (.region [(oI 11 (.load true 25 (.t 3))), (oI 12 (.mov (.t 1))), (oI 13 (.call 34 [(.t 11), (.t 12)])), (oI 7 (.mov (.t 13)))] []) (.seq (.seq (.region [(oI 14 (.mov (.t 7))), (oI 15 (.bin .lss (.t 14) (.c (.f (.int .i64 0)))))] []) (.cond 15 (.seq (.region [(oI 6 (.mov (.c (.f (.bool false)))))] []) .ret) .skip)) (.seq (.region [(oI 16 (.fld 3 (.t 3))), (oI 17 (.load false 1 (.t 16))), (oI 18 (.mov (.t 7))), (oI 19 (.ixa 2 (.t 17) (.t 18))), (oI 20 (.load true 2 (.t 19))), (oI 21 (.load true 2 (.t 5))), (oI 22 (.call 13 [(.t 20), (.t 21)])), (oI 8 (.mov (.t 22)))] []) (.seq (.region [(oI 23 (.mov (.t 8))), (oI 24 (.bin .geq (.t 23) (.c (.f (.int .i64 0))))), (oI 25 (.mov (.t 24))), (.mk (some 26) (some (25, true)) (.fld 3 (.t 3))), (.mk (some 27) (some (25, true)) (.load false 1 (.t 26))), (.mk (some 28) (some (25, true)) (.mov (.t 7))), (.mk (some 29) (some (25, true)) (.ixa 2 (.t 27) (.t 28))), (.mk (some 30) (some (25, true)) (.fld 1 (.t 29))), (.mk (some 31) (some (25, true)) (.load false 1 (.t 30))), (.mk (some 32) (some (25, true)) (.mov (.t 8))), (.mk (some 33) (some (25, true)) (.ixa 5 (.t 31) (.t 32))), (.mk (some 34) (some (25, true)) (.fld 0 (.t 33))), (.mk (some 35) (some (25, true)) (.load false 1 (.t 34))), (oI 36 (.pick 25 (.t 35) (.c (.f (.bool false))))), (oI 6 (.mov (.t 36)))] []) .ret))))))
def tb_policy_Permits : Tbl := fun _ => ([], .skip)
theorem ok_policy_Permits : compF Try.prog [] Try.f18 = some c_policy_Permits.strip := by kernel_rfl
theorem tk_policy_Permits : TblOk tb_policy_Permits c_policy_Permits.body := ⟨trivial, ⟨⟨trivial, ⟨⟨trivial, trivial⟩, trivial⟩⟩, ⟨trivial, ⟨⟨trivial, ⟨⟨trivial, trivial⟩, trivial⟩⟩, ⟨trivial, ⟨trivial, trivial⟩⟩⟩⟩⟩⟩
theorem in_policy_Permits (r : RouterT) (name : List UInt8) (p : PrefixT) (Q : Bool × Unit → Prop) : evF G_policy_Permits (Lfp G_policy_Permits tb_policy_Permits) c_policy_Permits (VSs.enc e_policy_Permits.A (r, name, p, ())) (dq e_policy_Permits.R Q) = (
  cond (name == [])
  (Q (true, ()))
  (cond (decide ((g_model_PrefixList r name) < 0))
    (Q (false, ()))
    (cond ((okIx (g_model_PrefixList r name) (r.2.2.2.1.length : Int)) && true)
      (cond (((okIx (g_model_PrefixList r name) (r.2.2.2.1.length : Int)) || (!(((decide ((g_policy_First (List.getD r.2.2.2.1 (Int.toNat (g_model_PrefixList r name)) PrefixListD) p) ≥ 0)) == true) && true))) && ((okIx (g_policy_First (List.getD r.2.2.2.1 (Int.toNat (g_model_PrefixList r name)) PrefixListD) p) ((List.getD r.2.2.2.1 (Int.toNat (g_model_PrefixList r name)) PrefixListD).2.1.length : Int)) || (!(((decide ((g_policy_First (List.getD r.2.2.2.1 (Int.toNat (g_model_PrefixList r name)) PrefixListD) p) ≥ 0)) == true) && true))))
        (Q (((decide ((g_policy_First (List.getD r.2.2.2.1 (Int.toNat (g_model_PrefixList r name)) PrefixListD) p) ≥ 0)) && (List.getD (List.getD r.2.2.2.1 (Int.toNat (g_model_PrefixList r name)) PrefixListD).2.1 (Int.toNat (g_policy_First (List.getD r.2.2.2.1 (Int.toNat (g_model_PrefixList r name)) PrefixListD) p)) PrefixRuleD).1), ()))
        False)
      False))) := by kernel_rfl
theorem ct_policy_Permits (r : RouterT) (name : List UInt8) (p : PrefixT) (hw : VSs.wf e_policy_Permits.A (r, name, p, ())) (Q : Bool × Unit → Prop) (hq : Q (e_policy_Permits.g (r, name, p, ()))) : EvF G_policy_Permits tb_policy_Permits c_policy_Permits (VSs.enc e_policy_Permits.A (r, name, p, ())) (dq e_policy_Permits.R Q) := by
  have _ := hw
  let FF := (fun y : Bool => Q (y, ()))
  refine EvF.of (in_policy_Permits r name p Q) ?_
  exact (cond_f (F := FF) (fun h0 => id) (fun h0 => (cond_f (F := FF) (fun h1 => id) (fun h1 => (vc_f (F := FF) (by rcases ix_model_PrefixList r name with h | h <;> simp_all [-List.getD_eq_getElem?_getD]) (vc_f (F := FF) (by rcases ix_model_PrefixList r name with h | h <;> rcases ix_policy_First (List.getD r.2.2.2.1 (Int.toNat (g_model_PrefixList r name)) PrefixListD) p with h3 | h3 <;> simp_all [-List.getD_eq_getElem?_getD]) id)))))) hq
/-! slices.Clone(()int,int) -/
def G_slices_Clone_int : Env := ⟨[], []⟩
def c_slices_Clone_int : AFunc := AFunc.mk 8 1 [(.t 2)] (.seq (.region [(oI 2 (.mov (.c (.f .nils))))] []) (.seq (.seq (.region [(oI 3 (.mov (.t 0))), (oI 4 (.nilq false (.t 3)))] []) (.cond 4 (.seq (.region [(oI 2 (.mov (.c (.f .nils))))] []) .ret) .skip)) (.seq (.region [(oI 5 .nil0), (oI 6 (.mov (.t 0))), (oI 7 (.app Ti64S 8 (.t 5) (.t 6))), (oI 2 (.mov (.t 7)))] []) .ret)))
def tb_slices_Clone_int : Tbl := fun _ => ([], .skip)
theorem ok_slices_Clone_int : compF Try.prog [] Try.f36 = some c_slices_Clone_int.strip := by kernel_rfl
theorem tk_slices_Clone_int : TblOk tb_slices_Clone_int c_slices_Clone_int.body := ⟨trivial, ⟨⟨trivial, ⟨⟨trivial, trivial⟩, trivial⟩⟩, ⟨trivial, trivial⟩⟩⟩
theorem in_slices_Clone_int (s : List Ti64T) (Q : (List Ti64T) × Unit → Prop) : evF G_slices_Clone_int (Lfp G_slices_Clone_int tb_slices_Clone_int) c_slices_Clone_int (VSs.enc e_slices_Clone_int.A (s, ())) (dq e_slices_Clone_int.R Q) = (
  ((s = []) → Q ([], ())) ∧
  (True → cond (decide (s.length ≤ roomy))
    (Q ((segL s 0 s.length), ()))
    False)) := by kernel_rfl
/-! slices.Clone(()netverify/api.Hop,netverify/api.Hop) -/
def G_slices_Clone_Hop : Env := ⟨[], []⟩
def c_slices_Clone_Hop : AFunc := AFunc.mk 8 1 [(.t 2)] (.seq (.region [(oI 2 (.mov (.c (.f .nils))))] []) (.seq (.seq (.region [(oI 3 (.mov (.t 0))), (oI 4 (.nilq false (.t 3)))] []) (.cond 4 (.seq (.region [(oI 2 (.mov (.c (.f .nils))))] []) .ret) .skip)) (.seq (.region [(oI 5 .nil0), (oI 6 (.mov (.t 0))), (oI 7 (.app HopS 16 (.t 5) (.t 6))), (oI 2 (.mov (.t 7)))] []) .ret)))
def tb_slices_Clone_Hop : Tbl := fun _ => ([], .skip)
theorem ok_slices_Clone_Hop : compF Try.prog [] Try.f37 = some c_slices_Clone_Hop.strip := by kernel_rfl
theorem tk_slices_Clone_Hop : TblOk tb_slices_Clone_Hop c_slices_Clone_Hop.body := ⟨trivial, ⟨⟨trivial, ⟨⟨trivial, trivial⟩, trivial⟩⟩, ⟨trivial, trivial⟩⟩⟩
theorem in_slices_Clone_Hop (s : List HopT) (Q : (List HopT) × Unit → Prop) : evF G_slices_Clone_Hop (Lfp G_slices_Clone_Hop tb_slices_Clone_Hop) c_slices_Clone_Hop (VSs.enc e_slices_Clone_Hop.A (s, ())) (dq e_slices_Clone_Hop.R Q) = (
  ((s = []) → Q ([], ())) ∧
  (True → cond (decide (s.length ≤ roomy))
    (Q ((segL s 0 s.length), ()))
    False)) := by kernel_rfl
/-! netverify/model.RouteMap$1 -/
def G_model_RouteMap_1 : Env := ⟨[], []⟩
def c_model_RouteMap_1 : AFunc := AFunc.mk 8 1 [(.t 3)] (.seq (.region [(oI 2 (.box (.t 0))), (oI 3 (.mov (.c (.f (.bool false)))))] []) (.seq (.region [(oI 4 (.fld 0 (.t 2))), (oI 5 (.load false 1 (.t 4))), (oI 6 (.load false 1 (.t 1))), (oI 7 (.bin .eql (.t 5) (.t 6))), (oI 3 (.mov (.t 7)))] []) .ret))
def tb_model_RouteMap_1 : Tbl := fun _ => ([], .skip)
theorem ok_model_RouteMap_1 : compF Try.prog [] Try.f58 = some c_model_RouteMap_1.strip := by kernel_rfl
theorem tk_model_RouteMap_1 : TblOk tb_model_RouteMap_1 c_model_RouteMap_1.body := ⟨trivial, ⟨trivial, trivial⟩⟩
theorem in_model_RouteMap_1 (x0 : RouteMapT) (c1 : StrT) (Q : Bool × Unit → Prop) : evF G_model_RouteMap_1 (Lfp G_model_RouteMap_1 tb_model_RouteMap_1) c_model_RouteMap_1 (VSs.enc e_model_RouteMap_1.A (x0, c1, ())) (dq e_model_RouteMap_1.R Q) = (
  Q ((x0.1 == c1.1), ())) := by kernel_rfl
theorem au_model_RouteMap_1 (x0 : RouteMapT) (c1 : StrT) (Q : Bool × Unit → Prop) : evF G_model_RouteMap_1 (Lfp G_model_RouteMap_1 tb_model_RouteMap_1) c_model_RouteMap_1 (VSs.enc e_model_RouteMap_1.A (x0, c1, ())) (dq e_model_RouteMap_1.R Q) = Q (e_model_RouteMap_1.g (x0, c1, ())) := (in_model_RouteMap_1 x0 c1 Q).trans rfl
/-! slices.IndexFunc(()netverify/api.RouteMap,netverify/api.RouteMap) -/
def G_slices_IndexFunc_RouteMap : Env := ⟨[e_model_RouteMap_1], []⟩
def b_slices_IndexFunc_RouteMap_0 : ACode := (.seq (.region [(oI 9 (.bin .lss (.t 8) (.t 7)))] []) (.seq (.cond 9 .skip (.exit 0)) (.seq (.block 1 (.seq (.region [(oI 10 (.mov (.t 8))), (oI 5 (.mov (.t 10)))] []) (.seq (.region [(oI 11 (.mov (.t 1))), (oI 12 (.mov (.t 0))), (oI 13 (.mov (.t 5))), (oI 14 (.ixa 2 (.t 12) (.t 13))), (oI 15 (.load true 2 (.t 14))), (oI 16 (.callv (.t 11) [(.t 15)]))] []) (.cond 16 (.seq (.region [(oI 17 (.mov (.t 5))), (oI 4 (.mov (.t 17)))] []) .ret) .skip)))) (.region [(oI 18 (.bin .add (.t 8) (.c (.f (.int .i64 1))))), (oI 8 (.mov (.t 18)))] []))))
def r_slices_IndexFunc_RouteMap_0 : ACode := (.seq (.region [(oI 4 (.mov (.c (.f (.int .i64 (-1))))))] []) .ret)
def c_slices_IndexFunc_RouteMap : AFunc := AFunc.mk 19 2 [(.t 4)] (.seq (.region [(oI 4 (.mov (.c (.f (.int .i64 0)))))] []) (.seq (.seq (.region [(oI 6 (.mov (.t 0))), (oI 7 (.len (.t 6))), (oI 8 (.mov (.c (.f (.int .i64 0)))))] []) (.block 0 (.loop 0 [(0, .no), (1, .no), (7, .no), (8, .no)] b_slices_IndexFunc_RouteMap_0))) r_slices_IndexFunc_RouteMap_0))
def tb_slices_IndexFunc_RouteMap : Tbl
  | 0 => ([(0, .no), (1, .no), (7, .no), (8, .no)], b_slices_IndexFunc_RouteMap_0)
  | _ => ([], .skip)
theorem ok_slices_IndexFunc_RouteMap : compF Try.prog [] Try.f57 = some c_slices_IndexFunc_RouteMap.strip := by kernel_rfl
theorem tk_slices_IndexFunc_RouteMap : TblOk tb_slices_IndexFunc_RouteMap c_slices_IndexFunc_RouteMap.body := ⟨trivial, ⟨⟨trivial, ⟨rfl, ⟨trivial, ⟨⟨trivial, trivial⟩, ⟨⟨trivial, ⟨trivial, ⟨⟨trivial, trivial⟩, trivial⟩⟩⟩, trivial⟩⟩⟩⟩⟩, ⟨trivial, trivial⟩⟩⟩
def k_slices_IndexFunc_RouteMap_0 (Q : Int × Unit → Prop) : K := (kBlock 0 (kSeq (evC G_slices_IndexFunc_RouteMap (Lfp G_slices_IndexFunc_RouteMap tb_slices_IndexFunc_RouteMap) r_slices_IndexFunc_RouteMap_0) (kDone c_slices_IndexFunc_RouteMap (dq e_slices_IndexFunc_RouteMap.R Q))))
def s_slices_IndexFunc_RouteMap_0 (s : List RouteMapT) (f_0 : List UInt8) (v0 : Int) : St := ⟨[(0, [], .f (.fs RouteMapS s)), (1, [], .f (.fn 58 [.fpt [.str f_0] 0])), (7, [], .f (.int .i64 (s.length : Int))), (8, [], .f (.int .i64 v0))], []⟩
def L_slices_IndexFunc_RouteMap_0 (s : List RouteMapT) (f_0 : List UInt8) (v0 : Int) (Q : Int × Unit → Prop) : Prop := Lfp G_slices_IndexFunc_RouteMap tb_slices_IndexFunc_RouteMap 0 (s_slices_IndexFunc_RouteMap_0 s f_0 v0) (k_slices_IndexFunc_RouteMap_0 Q)
theorem in_slices_IndexFunc_RouteMap (s : List RouteMapT) (f_0 : List UInt8) (Q : Int × Unit → Prop) : evF G_slices_IndexFunc_RouteMap (Lfp G_slices_IndexFunc_RouteMap tb_slices_IndexFunc_RouteMap) c_slices_IndexFunc_RouteMap (VSs.enc e_slices_IndexFunc_RouteMap.A (s, ((f_0, ()), ()), ())) (dq e_slices_IndexFunc_RouteMap.R Q) = (
  L_slices_IndexFunc_RouteMap_0 s f_0 0 Q) := by kernel_rfl
theorem rd_slices_IndexFunc_RouteMap_0 (s : List RouteMapT) (f_0 : List UInt8) (v0 : Int) (Q : Int × Unit → Prop) (h :
  cond (decide (v0 < (s.length : Int)))
  (cond ((okIx v0 (s.length : Int)) && true)
    (cond (g_model_RouteMap_1 (List.getD s (Int.toNat v0) RouteMapD) (f_0, ()))
      (Q (v0, ()))
      (L_slices_IndexFunc_RouteMap_0 s f_0 (IntKind.wrap .i64 (v0 + 1)) Q))
    False)
  (Q ((-1), ()))) : L_slices_IndexFunc_RouteMap_0 s f_0 v0 Q := Lfp.step (Eq.mpr (by kernel_rfl) h)
theorem lp_slices_IndexFunc_RouteMap_0 (s : List RouteMapT) (f_0 : List UInt8) (Q : Int × Unit → Prop) (hw : VSs.wf e_slices_IndexFunc_RouteMap.A (s, ((f_0, ()), ()), ()))  : (fun y : Int => Q (y, ())) (S_slices_IndexFunc_RouteMap_0 s f_0) → L_slices_IndexFunc_RouteMap_0 s f_0 0 Q := by
  have _ := hw
  let FF := (fun y : Int => Q (y, ()))
  refine upV_loop (F := FF) (k := .i64) (n := s.length) (L := (fun c0 : Int => L_slices_IndexFunc_RouteMap_0 s f_0 c0 Q)) (wrap_i64n (show _ ≤ _ from (hw.1).1)) (fun c0 hc0 hF => rd_slices_IndexFunc_RouteMap_0 s f_0 (c0 : Int) Q (cond_ge (n := s.length) rfl hc0 (id hF))) (fun c0 _ hc0 next0 hn0 hF => rd_slices_IndexFunc_RouteMap_0 s f_0 (c0 : Int) Q (cond_lt (n := s.length) rfl hc0 ((vc_f (F := FF) (by first | ((repeat' (first | rfl | exact nn_d64 _ | exact okIx_nat hc0 | refine and_t ?_ ?_ | refine or_l ?_)); done) | (simp [-List.getD_eq_getElem?_getD, okIx_nat hc0, nn_u64, nn_u32]; done) | (have hry : roomy = 1048576 := rfl; simp [-List.getD_eq_getElem?_getD, okIx, okSlc, okApp, len_slcL, len_segL] <;> omega)) /- 1 -/ (cond_f (F := FF) (fun h0 => id) (fun h0 => hn0))) hF)))
theorem ct_slices_IndexFunc_RouteMap (s : List RouteMapT) (f_0 : List UInt8) (hw : VSs.wf e_slices_IndexFunc_RouteMap.A (s, ((f_0, ()), ()), ())) (Q : Int × Unit → Prop) (hq : Q (e_slices_IndexFunc_RouteMap.g (s, ((f_0, ()), ()), ()))) : EvF G_slices_IndexFunc_RouteMap tb_slices_IndexFunc_RouteMap c_slices_IndexFunc_RouteMap (VSs.enc e_slices_IndexFunc_RouteMap.A (s, ((f_0, ()), ()), ())) (dq e_slices_IndexFunc_RouteMap.R Q) := by
  have _ := hw
  let FF := (fun y : Int => Q (y, ()))
  refine EvF.of (in_slices_IndexFunc_RouteMap s f_0 Q) ?_
  exact (lp_slices_IndexFunc_RouteMap_0 s f_0 Q hw) hq
/-! netverify/model.RouteMap -/
def G_model_RouteMap : Env := ⟨[e_slices_IndexFunc_RouteMap], []⟩
def c_model_RouteMap : AFunc := AFunc.mk 9 2 [(.t 4)] (.seq (.region [(oI 2 (.box (.t 0))), (oI 3 (.box (.t 1))), (oI 4 (.mov (.c (.f (.int .i64 0)))))] []) (.seq (.region [(oI 5 (.fld 4 (.t 2))), (oI 6 (.load false 1 (.t 5))), (oI 7 (.mkfn 58 [(.t 3)])), (oI 8 (.call 57 [(.t 6), (.t 7)])), (oI 4 (.mov (.t 8)))] []) .ret))
def tb_model_RouteMap : Tbl := fun _ => ([], .skip)
theorem ok_model_RouteMap : compF Try.prog [] Try.f40 = some c_model_RouteMap.strip := by kernel_rfl
theorem tk_model_RouteMap : TblOk tb_model_RouteMap c_model_RouteMap.body := ⟨trivial, ⟨trivial, trivial⟩⟩
theorem in_model_RouteMap (r : RouterT) (name : List UInt8) (Q : Int × Unit → Prop) : evF G_model_RouteMap (Lfp G_model_RouteMap tb_model_RouteMap) c_model_RouteMap (VSs.enc e_model_RouteMap.A (r, name, ())) (dq e_model_RouteMap.R Q) = (
  Q ((g_slices_IndexFunc_RouteMap r.2.2.2.2.1 name), ())) := by kernel_rfl
theorem au_model_RouteMap (r : RouterT) (name : List UInt8) (Q : Int × Unit → Prop) : evF G_model_RouteMap (Lfp G_model_RouteMap tb_model_RouteMap) c_model_RouteMap (VSs.enc e_model_RouteMap.A (r, name, ())) (dq e_model_RouteMap.R Q) = Q (e_model_RouteMap.g (r, name, ())) := (in_model_RouteMap r name Q).trans rfl
/-! netverify/policy.Clause -/
def G_policy_Clause : Env := ⟨[e_policy_Permits, e_model_RouteMap], []⟩
def b_policy_Clause_0 : ACode := (.seq (.region [(oI 23 (.bin .lss (.t 22) (.t 21)))] []) (.seq (.cond 23 .skip (.exit 0)) (.seq (.block 1 (.seq (.region [(oI 24 (.mov (.t 22))), (oI 25 (.ixa 7 (.t 20) (.t 22))), (oI 26 (.load true 7 (.t 25))), (oI 9 (.alloc [(.f (.bool false)), (.f (.str [])), (.f (.int .i64 0)), (.f (.int .i64 0)), (.f (.int .i64 0)), (.f (.int .i64 0)), (.f (.int .i64 0))])), (oI 8 (.mov (.t 24))), (.mk none none (.store 7 (.t 9) (.t 26)))] []) (.seq (.region [(oI 27 (.load true 25 (.t 3))), (oI 28 (.fld 1 (.t 9))), (oI 29 (.load false 1 (.t 28))), (oI 30 (.fld 0 (.t 5))), (oI 31 (.load true 2 (.t 30))), (oI 32 (.call 18 [(.t 27), (.t 29), (.t 31)])), (oI 33 (.mov (.t 32))), (.mk (some 34) (some (33, true)) (.fld 2 (.t 9))), (.mk (some 35) (some (33, true)) (.load false 1 (.t 34))), (.mk (some 36) (some (33, true)) (.bin .eql (.t 35) (.c (.f (.int .i64 (-1)))))), (.mk (some 37) (some (33, true)) (.mov (.t 36))), (.mk (some 38) (some (37, false)) (.fld 2 (.t 9))), (.mk (some 39) (some (37, false)) (.load false 1 (.t 38))), (.mk (some 40) (some (37, false)) (.fld 7 (.t 5))), (.mk (some 41) (some (37, false)) (.load false 1 (.t 40))), (.mk (some 42) (some (37, false)) (.bin .eql (.t 39) (.t 41))), (.mk (some 43) (some (33, true)) (.pick 37 (.c (.f (.bool true))) (.t 42))), (oI 44 (.pick 33 (.t 43) (.c (.f (.bool false)))))] []) (.cond 44 (.seq (.region [(oI 45 (.mov (.t 8))), (oI 6 (.mov (.t 45)))] []) .ret) .skip)))) (.region [(oI 46 (.bin .add (.t 22) (.c (.f (.int .i64 1))))), (oI 22 (.mov (.t 46)))] []))))
def r_policy_Clause_0 : ACode := (.seq (.region [(oI 6 (.mov (.c (.f (.int .i64 (-1))))))] []) .ret)
def c_policy_Clause : AFunc := AFunc.mk 47 3 [(.t 6)] (.seq (.region [(oI 3 (.box (.t 0))), (oI 5 (.box (.t 2))), (oI 6 (.mov (.c (.f (.int .i64 0)))))] []) (.seq (.region [(oI 10 (.load true 25 (.t 3))), (oI 11 (.mov (.t 1))), (oI 12 (.call 40 [(.t 10), (.t 11)])), (oI 7 (.mov (.t 12)))] []) (.seq (.seq (.region [(oI 13 (.mov (.t 7))), (oI 14 (.bin .lss (.t 13) (.c (.f (.int .i64 0)))))] []) (.cond 14 (.seq (.region [(oI 6 (.mov (.c (.f (.int .i64 (-1))))))] []) .ret) .skip)) (.seq (.seq (.region [(oI 15 (.fld 4 (.t 3))), (oI 16 (.load false 1 (.t 15))), (oI 17 (.mov (.t 7))), (oI 18 (.ixa 2 (.t 16) (.t 17))), (oI 19 (.fld 1 (.t 18))), (oI 20 (.load false 1 (.t 19))), (oI 21 (.len (.t 20))), (oI 22 (.mov (.c (.f (.int .i64 0)))))] []) (.block 0 (.loop 0 [(3, .no), (5, .no), (20, .no), (21, .no), (22, .no)] b_policy_Clause_0))) r_policy_Clause_0))))
def tb_policy_Clause : Tbl
  | 0 => ([(3, .no), (5, .no), (20, .no), (21, .no), (22, .no)], b_policy_Clause_0)
  | _ => ([], .skip)
theorem ok_policy_Clause : compF Try.prog [] Try.f22 = some c_policy_Clause.strip := by kernel_rfl
theorem tk_policy_Clause : TblOk tb_policy_Clause c_policy_Clause.body := ⟨trivial, ⟨trivial, ⟨⟨trivial, ⟨⟨trivial, trivial⟩, trivial⟩⟩, ⟨⟨trivial, ⟨rfl, ⟨trivial, ⟨⟨trivial, trivial⟩, ⟨⟨trivial, ⟨trivial, ⟨⟨trivial, trivial⟩, trivial⟩⟩⟩, trivial⟩⟩⟩⟩⟩, ⟨trivial, trivial⟩⟩⟩⟩⟩
def k_policy_Clause_0 (Q : Int × Unit → Prop) : K := (kBlock 0 (kSeq (evC G_policy_Clause (Lfp G_policy_Clause tb_policy_Clause) r_policy_Clause_0) (kDone c_policy_Clause (dq e_policy_Clause.R Q))))
def s_policy_Clause_0 (r : RouterT) (name : List UInt8) (x0 : RouteT) (v0 : Int) : St := ⟨[(3, [], .ptr 0 0), (5, [], .ptr 1 0), (20, [], .f (.fs ClauseS (List.getD r.2.2.2.2.1 (Int.toNat (g_model_RouteMap r name)) RouteMapD).2.1)), (21, [], .f (.int .i64 ((List.getD r.2.2.2.2.1 (Int.toNat (g_model_RouteMap r name)) RouteMapD).2.1.length : Int))), (22, [], .f (.int .i64 v0))], [.box none [.f (.str r.1), .f (.int .i64 r.2.1), .f (.fs InterfaceS r.2.2.1), .f (.fs PrefixListS r.2.2.2.1), .f (.fs RouteMapS r.2.2.2.2.1), .f (.fs ACLS r.2.2.2.2.2.1), .f (.fs TranslationS r.2.2.2.2.2.2.1), .f (.fs StaticRouteS r.2.2.2.2.2.2.2.1), .f (.bool r.2.2.2.2.2.2.2.2.1), .f (.int .i64 r.2.2.2.2.2.2.2.2.2.1), .f (.fs AreaRangeS r.2.2.2.2.2.2.2.2.2.2.1), .f (.fs RedistS r.2.2.2.2.2.2.2.2.2.2.2.1), .f (.bool r.2.2.2.2.2.2.2.2.2.2.2.2.1), .f (.int .i64 r.2.2.2.2.2.2.2.2.2.2.2.2.2.1), .f (.str r.2.2.2.2.2.2.2.2.2.2.2.2.2.2.1), .f (.str r.2.2.2.2.2.2.2.2.2.2.2.2.2.2.2.1), .f (.fs RedistS r.2.2.2.2.2.2.2.2.2.2.2.2.2.2.2.2.1), .f (.bool r.2.2.2.2.2.2.2.2.2.2.2.2.2.2.2.2.2.1), .f (.int .i64 r.2.2.2.2.2.2.2.2.2.2.2.2.2.2.2.2.2.2.1), .f (.int .i64 r.2.2.2.2.2.2.2.2.2.2.2.2.2.2.2.2.2.2.2.1), .f (.fs NeighborS r.2.2.2.2.2.2.2.2.2.2.2.2.2.2.2.2.2.2.2.2.1), .f (.fs PrefixS r.2.2.2.2.2.2.2.2.2.2.2.2.2.2.2.2.2.2.2.2.2.1), .f (.fs AggregateS r.2.2.2.2.2.2.2.2.2.2.2.2.2.2.2.2.2.2.2.2.2.2.1), .f (.fs ConditionS r.2.2.2.2.2.2.2.2.2.2.2.2.2.2.2.2.2.2.2.2.2.2.2.1), .f (.fs RedistS r.2.2.2.2.2.2.2.2.2.2.2.2.2.2.2.2.2.2.2.2.2.2.2.2.1)], .box none [.f (.int .u32 x0.1), .f (.int .i64 x0.2.1), .f (.int .i64 x0.2.2.1), .f (.int .i64 x0.2.2.2.1), .f (.int .i64 x0.2.2.2.2.1), .f (.int .i64 x0.2.2.2.2.2.1), .f (.int .i64 x0.2.2.2.2.2.2.1), .f (.int .i64 x0.2.2.2.2.2.2.2.1), .f (.int .i64 x0.2.2.2.2.2.2.2.2.1), .f (.fs Ti64S x0.2.2.2.2.2.2.2.2.2.1), .f (.int .u32 x0.2.2.2.2.2.2.2.2.2.2.1), .f (.int .u32 x0.2.2.2.2.2.2.2.2.2.2.2.1), .f (.fs HopS x0.2.2.2.2.2.2.2.2.2.2.2.2.1), .f (.bool x0.2.2.2.2.2.2.2.2.2.2.2.2.2.1)]]⟩
def L_policy_Clause_0 (r : RouterT) (name : List UInt8) (x0 : RouteT) (v0 : Int) (Q : Int × Unit → Prop) : Prop := Lfp G_policy_Clause tb_policy_Clause 0 (s_policy_Clause_0 r name x0 v0) (k_policy_Clause_0 Q)
theorem in_policy_Clause (r : RouterT) (name : List UInt8) (x0 : RouteT) (Q : Int × Unit → Prop) : evF G_policy_Clause (Lfp G_policy_Clause tb_policy_Clause) c_policy_Clause (VSs.enc e_policy_Clause.A (r, name, x0, ())) (dq e_policy_Clause.R Q) = (
  cond (decide ((g_model_RouteMap r name) < 0))
  (Q ((-1), ()))
  (cond (okIx (g_model_RouteMap r name) (r.2.2.2.2.1.length : Int))
    (L_policy_Clause_0 r name x0 0 Q)
    False)) := by kernel_rfl
theorem rd_policy_Clause_0 (r : RouterT) (name : List UInt8) (x0 : RouteT) (v0 : Int) (Q : Int × Unit → Prop) (h :
  cond (decide (v0 < ((List.getD r.2.2.2.2.1 (Int.toNat (g_model_RouteMap r name)) RouteMapD).2.1.length : Int)))
  (cond (okIx v0 ((List.getD r.2.2.2.2.1 (Int.toNat (g_model_RouteMap r name)) RouteMapD).2.1.length : Int))
    (cond ((g_policy_Permits r (List.getD (List.getD r.2.2.2.2.1 (Int.toNat (g_model_RouteMap r name)) RouteMapD).2.1 (Int.toNat v0) ClauseD).2.1 (x0.1, x0.2.1, ())) && (((List.getD (List.getD r.2.2.2.2.1 (Int.toNat (g_model_RouteMap r name)) RouteMapD).2.1 (Int.toNat v0) ClauseD).2.2.1 == (-1)) || ((List.getD (List.getD r.2.2.2.2.1 (Int.toNat (g_model_RouteMap r name)) RouteMapD).2.1 (Int.toNat v0) ClauseD).2.2.1 == x0.2.2.2.2.2.2.2.1)))
      (Q (v0, ()))
      (L_policy_Clause_0 r name x0 (IntKind.wrap .i64 (v0 + 1)) Q))
    False)
  (Q ((-1), ()))) : L_policy_Clause_0 r name x0 v0 Q := Lfp.step (Eq.mpr (by kernel_rfl) h)
theorem lp_policy_Clause_0 (r : RouterT) (name : List UInt8) (x0 : RouteT) (Q : Int × Unit → Prop) (hw : VSs.wf e_policy_Clause.A (r, name, x0, ()))  (g0 : (decide ((g_model_RouteMap r name) < 0)) = false) : (fun y : Int => Q (y, ())) (S_policy_Clause_0 r name x0) → L_policy_Clause_0 r name x0 0 Q := by
  have _ := hw
  have _ := g0
  let FF := (fun y : Int => Q (y, ()))
  refine upV_loop (F := FF) (k := .i64) (n := (List.getD r.2.2.2.2.1 (Int.toNat (g_model_RouteMap r name)) RouteMapD).2.1.length) (L := (fun c0 : Int => L_policy_Clause_0 r name x0 c0 Q)) (wrap_i64n (show _ ≤ _ from (((wf_getD ((((((hw.1).2).2).2).2).1) _).2).1).1)) (fun c0 hc0 hF => rd_policy_Clause_0 r name x0 (c0 : Int) Q (cond_ge (n := (List.getD r.2.2.2.2.1 (Int.toNat (g_model_RouteMap r name)) RouteMapD).2.1.length) rfl hc0 (id hF))) (fun c0 _ hc0 next0 hn0 hF => rd_policy_Clause_0 r name x0 (c0 : Int) Q (cond_lt (n := (List.getD r.2.2.2.2.1 (Int.toNat (g_model_RouteMap r name)) RouteMapD).2.1.length) rfl hc0 ((vc_f (F := FF) (by first | ((rcases ix_model_RouteMap r name with h | h <;> simp_all [-List.getD_eq_getElem?_getD]); done) | ((repeat' (first | rfl | exact nn_d64 _ | exact okIx_nat hc0 | refine and_t ?_ ?_ | refine or_l ?_)); done) | (simp [-List.getD_eq_getElem?_getD, okIx_nat hc0, nn_u64, nn_u32]; done) | (simp [-List.getD_eq_getElem?_getD, okIx_nat hc0, nn_u64, nn_u32, g0]; done) | (have hry : roomy = 1048576 := rfl; simp [-List.getD_eq_getElem?_getD, okIx, okSlc, okApp, len_slcL, len_segL] at g0 ⊢ <;> omega)) /- 1 -/ (cond_f (F := FF) (fun h1 => id) (fun h1 => hn0))) hF)))
theorem ct_policy_Clause (r : RouterT) (name : List UInt8) (x0 : RouteT) (hw : VSs.wf e_policy_Clause.A (r, name, x0, ())) (Q : Int × Unit → Prop) (hq : Q (e_policy_Clause.g (r, name, x0, ()))) : EvF G_policy_Clause tb_policy_Clause c_policy_Clause (VSs.enc e_policy_Clause.A (r, name, x0, ())) (dq e_policy_Clause.R Q) := by
  have _ := hw
  let FF := (fun y : Int => Q (y, ()))
  refine EvF.of (in_policy_Clause r name x0 Q) ?_
  exact (cond_f (F := FF) (fun h0 => id) (fun h0 => (vc_f (F := FF) (by first | ((rcases ix_model_RouteMap r name with h | h <;> simp_all [-List.getD_eq_getElem?_getD]); done) | ((repeat' (first | rfl | exact nn_d64 _ | refine and_t ?_ ?_ | refine or_l ?_)); done) | (simp [-List.getD_eq_getElem?_getD, nn_u64, nn_u32]; done) | (simp [-List.getD_eq_getElem?_getD, nn_u64, nn_u32, h0]; done) | (have hry : roomy = 1048576 := rfl; simp [-List.getD_eq_getElem?_getD, okIx, okSlc, okApp, len_slcL, len_segL] at h0 ⊢ <;> omega)) /- 2 -/ (lp_policy_Clause_0 r name x0 Q hw h0)))) hq
end Go.Proofs.Ytabhhkjjpmcodaa
