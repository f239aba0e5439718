/-
  The codes and their equations.
-/
import Derived.Test.YtabhhkjjpmcodaaAmG
import Derived.Test.YtabhhkjjpmcodaaProg
import Derived.KernelRfl
namespace Go.Proofs.Ytabhhkjjpmcodaa
open Go Go.AM
set_option maxRecDepth 100000
/-! netverify/netverifyref8.prefixLists -/
def G_r8_prefixLists : List Ent := [e_r8_ValidPrefixRule, e_r4_Name]
def b_r8_prefixLists_1 : ACode := (.seq (.seq (.region [(.mk (some 22) none (.mov (.t 4))), (.mk (some 23) none (.mov (.t 3))), (.mk (some 24) none (.bin .lss (.t 22) (.t 23)))] []) (.cond 24 .skip (.exit 2))) (.seq (.block 3 (.seq (.region [(.mk (some 27) none (.mov (.t 0))), (.mk (some 28) none (.mov (.t 4))), (.mk (some 29) none (.ixa 2 (.t 27) (.t 28))), (.mk (some 30) none (.fld 0 (.t 29))), (.mk (some 31) none (.load false 1 (.t 30))), (.mk (some 32) none (.mov (.t 0))), (.mk (some 33) none (.mov (.t 3))), (.mk (some 34) none (.ixa 2 (.t 32) (.t 33))), (.mk (some 35) none (.fld 0 (.t 34))), (.mk (some 36) none (.load false 1 (.t 35))), (.mk (some 37) none (.bin .eql (.t 31) (.t 36)))] []) (.cond 37 (.seq (.region [(.mk (some 2) none (.mov (.c (.f (.int .i64 4)))))] []) .ret) .skip))) (.region [(.mk (some 25) none (.mov (.t 4))), (.mk (some 26) none (.bin .add (.t 25) (.c (.f (.int .i64 1))))), (.mk (some 4) none (.mov (.t 26)))] [])))
def b_r8_prefixLists_2 : ACode := (.seq (.seq (.region [(.mk (some 52) none (.mov (.t 5))), (.mk (some 53) none (.mov (.t 0))), (.mk (some 54) none (.mov (.t 3))), (.mk (some 55) none (.ixa 2 (.t 53) (.t 54))), (.mk (some 56) none (.fld 1 (.t 55))), (.mk (some 57) none (.load false 1 (.t 56))), (.mk (some 58) none (.len (.t 57))), (.mk (some 59) none (.bin .lss (.t 52) (.t 58)))] []) (.cond 59 .skip (.exit 4))) (.seq (.block 5 (.seq (.region [(.mk (some 62) none (.mov (.t 0))), (.mk (some 63) none (.mov (.t 3))), (.mk (some 64) none (.ixa 2 (.t 62) (.t 63))), (.mk (some 65) none (.fld 1 (.t 64))), (.mk (some 66) none (.load false 1 (.t 65))), (.mk (some 67) none (.mov (.t 5))), (.mk (some 68) none (.ixa 5 (.t 66) (.t 67))), (.mk (some 69) none (.load true 5 (.t 68))), (.mk (some 70) none (.call 10 [(.t 69)])), (.mk (some 71) none (.un .not (.t 70)))] []) (.cond 71 (.seq (.region [(.mk (some 2) none (.mov (.c (.f (.int .i64 1)))))] []) .ret) .skip))) (.region [(.mk (some 60) none (.mov (.t 5))), (.mk (some 61) none (.bin .add (.t 60) (.c (.f (.int .i64 1))))), (.mk (some 5) none (.mov (.t 61)))] [])))
def r_r8_prefixLists_0 : ACode := (.seq (.seq (.region [(.mk (some 38) none (.mov (.t 0))), (.mk (some 39) none (.mov (.t 3))), (.mk (some 40) none (.ixa 2 (.t 38) (.t 39))), (.mk (some 41) none (.fld 1 (.t 40))), (.mk (some 42) none (.load false 1 (.t 41))), (.mk (some 43) none (.len (.t 42))), (.mk (some 44) none (.bin .eql (.t 43) (.c (.f (.int .i64 0)))))] []) (.cond 44 (.seq (.region [(.mk (some 2) none (.mov (.c (.f (.int .i64 1)))))] []) .ret) .skip)) (.seq (.seq (.region [(.mk (some 45) none (.mov (.t 0))), (.mk (some 46) none (.mov (.t 3))), (.mk (some 47) none (.ixa 2 (.t 45) (.t 46))), (.mk (some 48) none (.fld 1 (.t 47))), (.mk (some 49) none (.load false 1 (.t 48))), (.mk (some 50) none (.len (.t 49))), (.mk (some 51) none (.bin .gtr (.t 50) (.c (.f (.int .i64 16)))))] []) (.cond 51 (.seq (.region [(.mk (some 2) none (.mov (.c (.f (.int .i64 7)))))] []) .ret) .skip)) (.seq (.region [(.mk (some 5) none (.mov (.c (.f (.int .i64 0)))))] []) (.block 4 (.loop 2 [(0, none), (3, none), (5, none)] b_r8_prefixLists_2)))))
def r_r8_prefixLists_1 : ACode := (.region [(.mk (some 13) none (.mov (.t 3))), (.mk (some 14) none (.bin .add (.t 13) (.c (.f (.int .i64 1))))), (.mk (some 3) none (.mov (.t 14)))] [])
def b_r8_prefixLists_0 : ACode := (.seq (.seq (.region [(.mk (some 9) none (.mov (.t 3))), (.mk (some 10) none (.mov (.t 0))), (.mk (some 11) none (.len (.t 10))), (.mk (some 12) none (.bin .lss (.t 9) (.t 11)))] []) (.cond 12 .skip (.exit 0))) (.seq (.block 1 (.seq (.seq (.region [(.mk (some 15) none (.mov (.t 0))), (.mk (some 16) none (.mov (.t 3))), (.mk (some 17) none (.ixa 2 (.t 15) (.t 16))), (.mk (some 18) none (.fld 0 (.t 17))), (.mk (some 19) none (.load false 1 (.t 18))), (.mk (some 20) none (.call 43 [(.t 19)])), (.mk (some 21) none (.un .not (.t 20)))] []) (.cond 21 (.seq (.region [(.mk (some 2) none (.mov (.c (.f (.int .i64 3)))))] []) .ret) .skip)) (.seq (.seq (.region [(.mk (some 4) none (.mov (.c (.f (.int .i64 0)))))] []) (.block 2 (.loop 1 [(0, none), (3, none), (4, none)] b_r8_prefixLists_1))) r_r8_prefixLists_0))) r_r8_prefixLists_1))
def r_r8_prefixLists_2 : ACode := (.seq (.region [(.mk (some 2) none (.mov (.c (.f (.int .i64 0)))))] []) .ret)
def c_r8_prefixLists : AFunc := AFunc.mk 72 1 [(.t 2)] (.seq (.region [(.mk (some 2) none (.mov (.c (.f (.int .i64 0)))))] []) (.seq (.seq (.region [(.mk (some 6) none (.mov (.t 0))), (.mk (some 7) none (.len (.t 6))), (.mk (some 8) none (.bin .gtr (.t 7) (.c (.f (.int .i64 8)))))] []) (.cond 8 (.seq (.region [(.mk (some 2) none (.mov (.c (.f (.int .i64 7)))))] []) .ret) .skip)) (.seq (.seq (.region [(.mk (some 3) none (.mov (.c (.f (.int .i64 0)))))] []) (.block 0 (.loop 0 [(0, none), (3, none)] b_r8_prefixLists_0))) r_r8_prefixLists_2)))
def tb_r8_prefixLists : Tbl
  | 0 => ([(0, none), (3, none)], b_r8_prefixLists_0)
  | 1 => ([(0, none), (3, none), (4, none)], b_r8_prefixLists_1)
  | 2 => ([(0, none), (3, none), (5, none)], b_r8_prefixLists_2)
  | _ => ([], .skip)
theorem ok_r8_prefixLists : compF Try.prog Try.f46 = some c_r8_prefixLists.strip := by kernel_rfl
theorem tk_r8_prefixLists : TblOk tb_r8_prefixLists c_r8_prefixLists.body := ⟨trivial, ⟨⟨trivial, ⟨⟨trivial, trivial⟩, trivial⟩⟩, ⟨⟨trivial, ⟨rfl, ⟨⟨trivial, ⟨trivial, trivial⟩⟩, ⟨⟨⟨trivial, ⟨⟨trivial, trivial⟩, trivial⟩⟩, ⟨⟨trivial, ⟨rfl, ⟨⟨trivial, ⟨trivial, trivial⟩⟩, ⟨⟨trivial, ⟨⟨trivial, trivial⟩, trivial⟩⟩, trivial⟩⟩⟩⟩, ⟨⟨trivial, ⟨⟨trivial, trivial⟩, trivial⟩⟩, ⟨⟨trivial, ⟨⟨trivial, trivial⟩, trivial⟩⟩, ⟨trivial, ⟨rfl, ⟨⟨trivial, ⟨trivial, trivial⟩⟩, ⟨⟨trivial, ⟨⟨trivial, trivial⟩, trivial⟩⟩, trivial⟩⟩⟩⟩⟩⟩⟩⟩, trivial⟩⟩⟩⟩, ⟨trivial, trivial⟩⟩⟩⟩
def k_r8_prefixLists_0 (Q : Int × Unit → Prop) : K := (kBlock 0 (kSeq (evC G_r8_prefixLists (Lfp G_r8_prefixLists tb_r8_prefixLists) r_r8_prefixLists_2) (kDone c_r8_prefixLists (dq e_r8_prefixLists.R Q))))
def s_r8_prefixLists_0 (l : List PrefixListT) (v0 : Int) : St := ⟨[(0, [], .f (.fs PrefixListS l)), (3, [], .f (.int .i64 v0))], []⟩
def L_r8_prefixLists_0 (l : List PrefixListT) (v0 : Int) (Q : Int × Unit → Prop) : Prop := Lfp G_r8_prefixLists tb_r8_prefixLists 0 (s_r8_prefixLists_0 l v0) (k_r8_prefixLists_0 Q)
def k_r8_prefixLists_1 (Q : Int × Unit → Prop) : K := (kBlock 2 (kSeq (evC G_r8_prefixLists (Lfp G_r8_prefixLists tb_r8_prefixLists) r_r8_prefixLists_0) (kBlock 1 (kSeq (evC G_r8_prefixLists (Lfp G_r8_prefixLists tb_r8_prefixLists) r_r8_prefixLists_1) (kLoop [(0, none), (3, none)] (Lfp G_r8_prefixLists tb_r8_prefixLists 0) (k_r8_prefixLists_0 Q))))))
def s_r8_prefixLists_1 (l : List PrefixListT) (v0 : Int) (v1 : Int) : St := ⟨[(0, [], .f (.fs PrefixListS l)), (3, [], .f (.int .i64 v0)), (4, [], .f (.int .i64 v1))], []⟩
def L_r8_prefixLists_1 (l : List PrefixListT) (v0 : Int) (v1 : Int) (Q : Int × Unit → Prop) : Prop := Lfp G_r8_prefixLists tb_r8_prefixLists 1 (s_r8_prefixLists_1 l v0 v1) (k_r8_prefixLists_1 Q)
def k_r8_prefixLists_2 (Q : Int × Unit → Prop) : K := (kBlock 4 (kBlock 1 (kSeq (evC G_r8_prefixLists (Lfp G_r8_prefixLists tb_r8_prefixLists) r_r8_prefixLists_1) (kLoop [(0, none), (3, none)] (Lfp G_r8_prefixLists tb_r8_prefixLists 0) (k_r8_prefixLists_0 Q)))))
def s_r8_prefixLists_2 (l : List PrefixListT) (v0 : Int) (v1 : Int) : St := ⟨[(0, [], .f (.fs PrefixListS l)), (3, [], .f (.int .i64 v1)), (5, [], .f (.int .i64 v0))], []⟩
def L_r8_prefixLists_2 (l : List PrefixListT) (v0 : Int) (v1 : Int) (Q : Int × Unit → Prop) : Prop := Lfp G_r8_prefixLists tb_r8_prefixLists 2 (s_r8_prefixLists_2 l v0 v1) (k_r8_prefixLists_2 Q)
theorem in_r8_prefixLists (l : List PrefixListT) (Q : Int × Unit → Prop) : evF G_r8_prefixLists (Lfp G_r8_prefixLists tb_r8_prefixLists) c_r8_prefixLists (VSs.enc e_r8_prefixLists.A (l, ())) (dq e_r8_prefixLists.R Q) = (
  cond (decide ((l.length : Int) > 8))
  (Q (7, ()))
  (L_r8_prefixLists_0 l 0 Q)) := by kernel_rfl
theorem rd_r8_prefixLists_0 (l : List PrefixListT) (v0 : Int) (Q : Int × Unit → Prop) (h :
  cond (decide (v0 < (l.length : Int)))
  (cond ((okIx v0 (l.length : Int)) && true)
    (cond (!(g_r4_Name (List.getD l (Int.toNat v0) PrefixListD).1))
      (Q (3, ()))
      (L_r8_prefixLists_1 l v0 0 Q))
    False)
  (Q (0, ()))) : L_r8_prefixLists_0 l v0 Q := Lfp.step ((by kernel_rfl : evC G_r8_prefixLists (Lfp G_r8_prefixLists tb_r8_prefixLists) (tb_r8_prefixLists 0).2 (s_r8_prefixLists_0 l v0) (kLoop (tb_r8_prefixLists 0).1 (Lfp G_r8_prefixLists tb_r8_prefixLists 0) (k_r8_prefixLists_0 Q)) = (
  cond (decide (v0 < (l.length : Int)))
  (cond ((okIx v0 (l.length : Int)) && true)
    (cond (!(g_r4_Name (List.getD l (Int.toNat v0) PrefixListD).1))
      (Q (3, ()))
      (L_r8_prefixLists_1 l v0 0 Q))
    False)
  (Q (0, ())))).symm ▸ h)
theorem rd_r8_prefixLists_1 (l : List PrefixListT) (v0 : Int) (v1 : Int) (Q : Int × Unit → Prop) (h :
  cond (decide (v1 < v0))
  (cond ((okIx v1 (l.length : Int)) && (okIx v0 (l.length : Int)))
    (cond ((List.getD l (Int.toNat v1) PrefixListD).1 == (List.getD l (Int.toNat v0) PrefixListD).1)
      (Q (4, ()))
      (L_r8_prefixLists_1 l v0 (IntKind.wrap .i64 (v1 + 1)) Q))
    False)
  (cond (okIx v0 (l.length : Int))
    (cond (((List.getD l (Int.toNat v0) PrefixListD).2.1.length : Int) == 0)
      (Q (1, ()))
      (cond (okIx v0 (l.length : Int))
        (cond (decide (((List.getD l (Int.toNat v0) PrefixListD).2.1.length : Int) > 16))
          (Q (7, ()))
          (L_r8_prefixLists_2 l 0 v0 Q))
        False))
    False)) : L_r8_prefixLists_1 l v0 v1 Q := Lfp.step ((by kernel_rfl : evC G_r8_prefixLists (Lfp G_r8_prefixLists tb_r8_prefixLists) (tb_r8_prefixLists 1).2 (s_r8_prefixLists_1 l v0 v1) (kLoop (tb_r8_prefixLists 1).1 (Lfp G_r8_prefixLists tb_r8_prefixLists 1) (k_r8_prefixLists_1 Q)) = (
  cond (decide (v1 < v0))
  (cond ((okIx v1 (l.length : Int)) && (okIx v0 (l.length : Int)))
    (cond ((List.getD l (Int.toNat v1) PrefixListD).1 == (List.getD l (Int.toNat v0) PrefixListD).1)
      (Q (4, ()))
      (L_r8_prefixLists_1 l v0 (IntKind.wrap .i64 (v1 + 1)) Q))
    False)
  (cond (okIx v0 (l.length : Int))
    (cond (((List.getD l (Int.toNat v0) PrefixListD).2.1.length : Int) == 0)
      (Q (1, ()))
      (cond (okIx v0 (l.length : Int))
        (cond (decide (((List.getD l (Int.toNat v0) PrefixListD).2.1.length : Int) > 16))
          (Q (7, ()))
          (L_r8_prefixLists_2 l 0 v0 Q))
        False))
    False))).symm ▸ h)
theorem rd_r8_prefixLists_2 (l : List PrefixListT) (v0 : Int) (v1 : Int) (Q : Int × Unit → Prop) (h :
  cond (okIx v1 (l.length : Int))
  (cond (decide (v0 < ((List.getD l (Int.toNat v1) PrefixListD).2.1.length : Int)))
    (cond (((okIx v1 (l.length : Int)) && (okIx v0 ((List.getD l (Int.toNat v1) PrefixListD).2.1.length : Int))) && true)
      (cond (!(g_r8_ValidPrefixRule (List.getD (List.getD l (Int.toNat v1) PrefixListD).2.1 (Int.toNat v0) PrefixRuleD)))
        (Q (1, ()))
        (L_r8_prefixLists_2 l (IntKind.wrap .i64 (v0 + 1)) v1 Q))
      False)
    (L_r8_prefixLists_0 l (IntKind.wrap .i64 (v1 + 1)) Q))
  False) : L_r8_prefixLists_2 l v0 v1 Q := Lfp.step ((by kernel_rfl : evC G_r8_prefixLists (Lfp G_r8_prefixLists tb_r8_prefixLists) (tb_r8_prefixLists 2).2 (s_r8_prefixLists_2 l v0 v1) (kLoop (tb_r8_prefixLists 2).1 (Lfp G_r8_prefixLists tb_r8_prefixLists 2) (k_r8_prefixLists_2 Q)) = (
  cond (okIx v1 (l.length : Int))
  (cond (decide (v0 < ((List.getD l (Int.toNat v1) PrefixListD).2.1.length : Int)))
    (cond (((okIx v1 (l.length : Int)) && (okIx v0 ((List.getD l (Int.toNat v1) PrefixListD).2.1.length : Int))) && true)
      (cond (!(g_r8_ValidPrefixRule (List.getD (List.getD l (Int.toNat v1) PrefixListD).2.1 (Int.toNat v0) PrefixRuleD)))
        (Q (1, ()))
        (L_r8_prefixLists_2 l (IntKind.wrap .i64 (v0 + 1)) v1 Q))
      False)
    (L_r8_prefixLists_0 l (IntKind.wrap .i64 (v1 + 1)) Q))
  False)).symm ▸ h)
theorem lp_r8_prefixLists_2 (l : List PrefixListT) (c0 : Nat) (next0 : Int) (Q : Int × Unit → Prop) (hw : VSs.wf e_r8_prefixLists.A (l, ())) (hc0 : c0 < l.length) (hn0 : (fun y : Int => Q (y, ())) next0 → L_r8_prefixLists_0 l (IntKind.wrap .i64 ((c0 : Int) + 1)) Q) (g0 : (decide ((l.length : Int) > 8)) = false) : (fun y : Int => Q (y, ())) (S_r8_prefixLists_2 l c0 next0) → L_r8_prefixLists_2 l 0 (c0 : Int) Q := by
  have _ := hw
  have _ := g0
  have _ := hc0
  let FF := (fun y : Int => Q (y, ()))
  refine upV_loop (F := FF) (k := .i64) (L := (fun c2 : Int => L_r8_prefixLists_2 l c2 (c0 : Int) Q)) (wrap_i64n (show _ ≤ _ from (((wf_getD (hw.1) _).2).1).1)) (fun c2 hc2 hF => rd_r8_prefixLists_2 l (c2 : Int) (c0 : Int) Q (vc_i (by first | ((repeat' (first | rfl | exact nn_d64 _ | exact okIx_nat hc0 | refine and_t ?_ ?_ | refine or_l ?_)); done) | (simp [-List.getD_eq_getElem?_getD, okIx_nat hc0, nn_u64, nn_u32]; done) | (simp [-List.getD_eq_getElem?_getD, okIx_nat hc0, nn_u64, nn_u32, g0]; done) | (have hry : roomy = 1048576 := rfl; simp [-List.getD_eq_getElem?_getD, okIx, okSlc, okApp, len_slcL, len_segL] at g0 ⊢ <;> omega)) /- 2 -/ (cond_ge (n := (List.getD l c0 PrefixListD).2.1.length) rfl hc2 (hn0 hF)))) (fun c2 _ hc2 next2 hn2 hF => rd_r8_prefixLists_2 l (c2 : Int) (c0 : Int) Q (vc_i (by first | ((repeat' (first | rfl | exact nn_d64 _ | exact okIx_nat hc0 | refine and_t ?_ ?_ | refine or_l ?_)); done) | (simp [-List.getD_eq_getElem?_getD, okIx_nat hc0, nn_u64, nn_u32]; done) | (simp [-List.getD_eq_getElem?_getD, okIx_nat hc0, nn_u64, nn_u32, g0]; done) | (have hry : roomy = 1048576 := rfl; simp [-List.getD_eq_getElem?_getD, okIx, okSlc, okApp, len_slcL, len_segL] at g0 ⊢ <;> omega)) /- 3 -/ (cond_lt (n := (List.getD l c0 PrefixListD).2.1.length) rfl hc2 ((vc_f (F := FF) (by first | ((repeat' (first | rfl | exact nn_d64 _ | exact okIx_nat hc0 | exact okIx_nat hc2 | refine and_t ?_ ?_ | refine or_l ?_)); done) | (simp [-List.getD_eq_getElem?_getD, okIx_nat hc0, okIx_nat hc2, nn_u64, nn_u32]; done) | (simp [-List.getD_eq_getElem?_getD, okIx_nat hc0, okIx_nat hc2, nn_u64, nn_u32, g0]; done) | (have hry : roomy = 1048576 := rfl; simp [-List.getD_eq_getElem?_getD, okIx, okSlc, okApp, len_slcL, len_segL] at g0 ⊢ <;> omega)) /- 1 -/ (cond_f (F := FF) (fun h1 => id) (fun h1 => hn2))) hF))))
theorem lp_r8_prefixLists_1 (l : List PrefixListT) (c0 : Nat) (next0 : Int) (Q : Int × Unit → Prop) (hw : VSs.wf e_r8_prefixLists.A (l, ())) (hc0 : c0 < l.length) (hn0 : (fun y : Int => Q (y, ())) next0 → L_r8_prefixLists_0 l (IntKind.wrap .i64 ((c0 : Int) + 1)) Q) (g0 : (decide ((l.length : Int) > 8)) = false) : (fun y : Int => Q (y, ())) (S_r8_prefixLists_1 l c0 next0) → L_r8_prefixLists_1 l (c0 : Int) 0 Q := by
  have _ := hw
  have _ := g0
  have _ := hc0
  let FF := (fun y : Int => Q (y, ()))
  refine upV_loop (F := FF) (k := .i64) (L := (fun c1 : Int => L_r8_prefixLists_1 l (c0 : Int) c1 Q)) (wrap_i64n (Nat.le_trans (Nat.le_of_lt hc0) (show _ ≤ _ from (hw.1).1))) (fun c1 hc1 hF => rd_r8_prefixLists_1 l (c0 : Int) (c1 : Int) Q (cond_ge (n := c0) rfl hc1 ((vc_f (F := FF) (by first | ((repeat' (first | rfl | exact nn_d64 _ | exact okIx_nat hc0 | exact okIx_nat hc1 | exact okIx_nat (Nat.lt_trans hc1 hc0) | refine and_t ?_ ?_ | refine or_l ?_)); done) | (simp [-List.getD_eq_getElem?_getD, okIx_nat hc0, okIx_nat hc1, okIx_nat (Nat.lt_trans hc1 hc0), nn_u64, nn_u32]; done) | (simp [-List.getD_eq_getElem?_getD, okIx_nat hc0, okIx_nat hc1, okIx_nat (Nat.lt_trans hc1 hc0), nn_u64, nn_u32, g0]; done) | (have hry : roomy = 1048576 := rfl; simp [-List.getD_eq_getElem?_getD, okIx, okSlc, okApp, len_slcL, len_segL] at g0 ⊢ <;> omega)) /- 5 -/ (cond_f (F := FF) (fun h1 => id) (fun h1 => (vc_f (F := FF) (by first | ((repeat' (first | rfl | exact nn_d64 _ | exact okIx_nat hc0 | exact okIx_nat hc1 | exact okIx_nat (Nat.lt_trans hc1 hc0) | refine and_t ?_ ?_ | refine or_l ?_)); done) | (simp [-List.getD_eq_getElem?_getD, okIx_nat hc0, okIx_nat hc1, okIx_nat (Nat.lt_trans hc1 hc0), nn_u64, nn_u32]; done) | (simp [-List.getD_eq_getElem?_getD, okIx_nat hc0, okIx_nat hc1, okIx_nat (Nat.lt_trans hc1 hc0), nn_u64, nn_u32, g0, h1]; done) | (have hry : roomy = 1048576 := rfl; simp [-List.getD_eq_getElem?_getD, okIx, okSlc, okApp, len_slcL, len_segL] at g0 h1 ⊢ <;> omega)) /- 6 -/ (cond_f (F := FF) (fun h2 => id) (fun h2 => (lp_r8_prefixLists_2 l c0 _ Q hw hc0 hn0 g0))))))) hF))) (fun c1 _ hc1 next1 hn1 hF => rd_r8_prefixLists_1 l (c0 : Int) (c1 : Int) Q (cond_lt (n := c0) rfl hc1 ((vc_f (F := FF) (by first | ((repeat' (first | rfl | exact nn_d64 _ | exact okIx_nat hc0 | exact okIx_nat hc1 | exact okIx_nat (Nat.lt_trans hc1 hc0) | refine and_t ?_ ?_ | refine or_l ?_)); done) | (simp [-List.getD_eq_getElem?_getD, okIx_nat hc0, okIx_nat hc1, okIx_nat (Nat.lt_trans hc1 hc0), nn_u64, nn_u32]; done) | (simp [-List.getD_eq_getElem?_getD, okIx_nat hc0, okIx_nat hc1, okIx_nat (Nat.lt_trans hc1 hc0), nn_u64, nn_u32, g0]; done) | (have hry : roomy = 1048576 := rfl; simp [-List.getD_eq_getElem?_getD, okIx, okSlc, okApp, len_slcL, len_segL] at g0 ⊢ <;> omega)) /- 4 -/ (cond_f (F := FF) (fun h1 => id) (fun h1 => hn1))) hF)))
theorem lp_r8_prefixLists_0 (l : List PrefixListT) (Q : Int × Unit → Prop) (hw : VSs.wf e_r8_prefixLists.A (l, ()))  (g0 : (decide ((l.length : Int) > 8)) = false) : (fun y : Int => Q (y, ())) (S_r8_prefixLists_0 l) → L_r8_prefixLists_0 l 0 Q := by
  have _ := hw
  have _ := g0
  let FF := (fun y : Int => Q (y, ()))
  refine upV_loop (F := FF) (k := .i64) (L := (fun c0 : Int => L_r8_prefixLists_0 l c0 Q)) (wrap_i64n (show _ ≤ _ from (hw.1).1)) (fun c0 hc0 hF => rd_r8_prefixLists_0 l (c0 : Int) Q (cond_ge (n := l.length) rfl hc0 (id hF))) (fun c0 _ hc0 next0 hn0 hF => rd_r8_prefixLists_0 l (c0 : Int) Q (cond_lt (n := l.length) rfl hc0 ((vc_f (F := FF) (by first | ((repeat' (first | rfl | exact nn_d64 _ | exact okIx_nat hc0 | refine and_t ?_ ?_ | refine or_l ?_)); done) | (simp [-List.getD_eq_getElem?_getD, okIx_nat hc0, nn_u64, nn_u32]; done) | (simp [-List.getD_eq_getElem?_getD, okIx_nat hc0, nn_u64, nn_u32, g0]; done) | (have hry : roomy = 1048576 := rfl; simp [-List.getD_eq_getElem?_getD, okIx, okSlc, okApp, len_slcL, len_segL] at g0 ⊢ <;> omega)) /- 7 -/ (cond_f (F := FF) (fun h1 => id) (fun h1 => (lp_r8_prefixLists_1 l c0 _ Q hw hc0 hn0 g0)))) hF)))
theorem ct_r8_prefixLists (l : List PrefixListT) (hw : VSs.wf e_r8_prefixLists.A (l, ())) (Q : Int × Unit → Prop) (hq : Q (e_r8_prefixLists.g (l, ()))) : EvF G_r8_prefixLists tb_r8_prefixLists c_r8_prefixLists (VSs.enc e_r8_prefixLists.A (l, ())) (dq e_r8_prefixLists.R Q) := by
  have _ := hw
  let FF := (fun y : Int => Q (y, ()))
  refine EvF.of (in_r8_prefixLists l Q) ?_
  exact (cond_f (F := FF) (fun h0 => id) (fun h0 => (lp_r8_prefixLists_0 l Q hw h0))) hq
/-! netverify/netverifyref8.PrefixList -/
def G_r8_PrefixList : List Ent := []
def b_r8_PrefixList_0 : ACode := (.seq (.seq (.region [(.mk (some 6) none (.mov (.t 5))), (.mk (some 7) none (.fld 3 (.t 2))), (.mk (some 8) none (.load false 1 (.t 7))), (.mk (some 9) none (.len (.t 8))), (.mk (some 10) none (.bin .lss (.t 6) (.t 9)))] []) (.cond 10 .skip (.exit 0))) (.seq (.block 1 (.seq (.region [(.mk (some 13) none (.fld 3 (.t 2))), (.mk (some 14) none (.load false 1 (.t 13))), (.mk (some 15) none (.mov (.t 5))), (.mk (some 16) none (.ixa 2 (.t 14) (.t 15))), (.mk (some 17) none (.fld 0 (.t 16))), (.mk (some 18) none (.load false 1 (.t 17))), (.mk (some 19) none (.mov (.t 1))), (.mk (some 20) none (.bin .eql (.t 18) (.t 19)))] []) (.cond 20 (.seq (.region [(.mk (some 21) none (.mov (.t 5))), (.mk (some 4) none (.mov (.t 21)))] []) .ret) .skip))) (.region [(.mk (some 11) none (.mov (.t 5))), (.mk (some 12) none (.bin .add (.t 11) (.c (.f (.int .i64 1))))), (.mk (some 5) none (.mov (.t 12)))] [])))
def r_r8_PrefixList_0 : ACode := (.seq (.region [(.mk (some 4) none (.mov (.c (.f (.int .i64 (-1))))))] []) .ret)
def c_r8_PrefixList : AFunc := AFunc.mk 22 2 [(.t 4)] (.seq (.region [(.mk (some 2) none (.box (.t 0))), (.mk (some 4) none (.mov (.c (.f (.int .i64 0)))))] []) (.seq (.seq (.region [(.mk (some 5) none (.mov (.c (.f (.int .i64 0)))))] []) (.block 0 (.loop 0 [(1, none), (2, none), (5, none)] b_r8_PrefixList_0))) r_r8_PrefixList_0))
def tb_r8_PrefixList : Tbl
  | 0 => ([(1, none), (2, none), (5, none)], b_r8_PrefixList_0)
  | _ => ([], .skip)
theorem ok_r8_PrefixList : compF Try.prog Try.f35 = some c_r8_PrefixList.strip := by kernel_rfl
theorem tk_r8_PrefixList : TblOk tb_r8_PrefixList c_r8_PrefixList.body := ⟨trivial, ⟨⟨trivial, ⟨rfl, ⟨⟨trivial, ⟨trivial, trivial⟩⟩, ⟨⟨trivial, ⟨⟨trivial, trivial⟩, trivial⟩⟩, trivial⟩⟩⟩⟩, ⟨trivial, trivial⟩⟩⟩
def k_r8_PrefixList_0 (Q : Int × Unit → Prop) : K := (kBlock 0 (kSeq (evC G_r8_PrefixList (Lfp G_r8_PrefixList tb_r8_PrefixList) r_r8_PrefixList_0) (kDone c_r8_PrefixList (dq e_r8_PrefixList.R Q))))
def s_r8_PrefixList_0 (r : RouterT) (name : List UInt8) (v0 : Int) : St := ⟨[(1, [], .f (.str name)), (2, [], .ptr 0 0), (5, [], .f (.int .i64 v0))], [.box [.f (.str r.1), .f (.int .i64 r.2.1), .f (.fs InterfaceS r.2.2.1), .f (.fs PrefixListS r.2.2.2.1), .f (.fs RouteMapS r.2.2.2.2.1), .f (.fs ACLS r.2.2.2.2.2.1), .f (.fs TranslationS r.2.2.2.2.2.2.1), .f (.fs StaticRouteS r.2.2.2.2.2.2.2.1), .f (.bool r.2.2.2.2.2.2.2.2.1), .f (.int .i64 r.2.2.2.2.2.2.2.2.2.1), .f (.fs AreaRangeS r.2.2.2.2.2.2.2.2.2.2.1), .f (.fs RedistS r.2.2.2.2.2.2.2.2.2.2.2.1), .f (.bool r.2.2.2.2.2.2.2.2.2.2.2.2.1), .f (.int .i64 r.2.2.2.2.2.2.2.2.2.2.2.2.2.1), .f (.str r.2.2.2.2.2.2.2.2.2.2.2.2.2.2.1), .f (.str r.2.2.2.2.2.2.2.2.2.2.2.2.2.2.2.1), .f (.fs RedistS r.2.2.2.2.2.2.2.2.2.2.2.2.2.2.2.2.1), .f (.bool r.2.2.2.2.2.2.2.2.2.2.2.2.2.2.2.2.2.1), .f (.int .i64 r.2.2.2.2.2.2.2.2.2.2.2.2.2.2.2.2.2.2.1), .f (.int .i64 r.2.2.2.2.2.2.2.2.2.2.2.2.2.2.2.2.2.2.2.1), .f (.fs NeighborS r.2.2.2.2.2.2.2.2.2.2.2.2.2.2.2.2.2.2.2.2.1), .f (.fs PrefixS r.2.2.2.2.2.2.2.2.2.2.2.2.2.2.2.2.2.2.2.2.2.1), .f (.fs AggregateS r.2.2.2.2.2.2.2.2.2.2.2.2.2.2.2.2.2.2.2.2.2.2.1), .f (.fs ConditionS r.2.2.2.2.2.2.2.2.2.2.2.2.2.2.2.2.2.2.2.2.2.2.2.1), .f (.fs RedistS r.2.2.2.2.2.2.2.2.2.2.2.2.2.2.2.2.2.2.2.2.2.2.2.2.1)]]⟩
def L_r8_PrefixList_0 (r : RouterT) (name : List UInt8) (v0 : Int) (Q : Int × Unit → Prop) : Prop := Lfp G_r8_PrefixList tb_r8_PrefixList 0 (s_r8_PrefixList_0 r name v0) (k_r8_PrefixList_0 Q)
theorem in_r8_PrefixList (r : RouterT) (name : List UInt8) (Q : Int × Unit → Prop) : evF G_r8_PrefixList (Lfp G_r8_PrefixList tb_r8_PrefixList) c_r8_PrefixList (VSs.enc e_r8_PrefixList.A (r, name, ())) (dq e_r8_PrefixList.R Q) = (
  L_r8_PrefixList_0 r name 0 Q) := by kernel_rfl
theorem rd_r8_PrefixList_0 (r : RouterT) (name : List UInt8) (v0 : Int) (Q : Int × Unit → Prop) (h :
  cond (decide (v0 < (r.2.2.2.1.length : Int)))
  (cond (okIx v0 (r.2.2.2.1.length : Int))
    (cond ((List.getD r.2.2.2.1 (Int.toNat v0) PrefixListD).1 == name)
      (Q (v0, ()))
      (L_r8_PrefixList_0 r name (IntKind.wrap .i64 (v0 + 1)) Q))
    False)
  (Q ((-1), ()))) : L_r8_PrefixList_0 r name v0 Q := Lfp.step ((by kernel_rfl : evC G_r8_PrefixList (Lfp G_r8_PrefixList tb_r8_PrefixList) (tb_r8_PrefixList 0).2 (s_r8_PrefixList_0 r name v0) (kLoop (tb_r8_PrefixList 0).1 (Lfp G_r8_PrefixList tb_r8_PrefixList 0) (k_r8_PrefixList_0 Q)) = (
  cond (decide (v0 < (r.2.2.2.1.length : Int)))
  (cond (okIx v0 (r.2.2.2.1.length : Int))
    (cond ((List.getD r.2.2.2.1 (Int.toNat v0) PrefixListD).1 == name)
      (Q (v0, ()))
      (L_r8_PrefixList_0 r name (IntKind.wrap .i64 (v0 + 1)) Q))
    False)
  (Q ((-1), ())))).symm ▸ h)
theorem lp_r8_PrefixList_0 (r : RouterT) (name : List UInt8) (Q : Int × Unit → Prop) (hw : VSs.wf e_r8_PrefixList.A (r, name, ()))  : (fun y : Int => Q (y, ())) (S_r8_PrefixList_0 r name) → L_r8_PrefixList_0 r name 0 Q := by
  have _ := hw
  let FF := (fun y : Int => Q (y, ()))
  refine upV_loop (F := FF) (k := .i64) (L := (fun c0 : Int => L_r8_PrefixList_0 r name c0 Q)) (wrap_i64n (show _ ≤ _ from (((((hw.1).2).2).2).1).1)) (fun c0 hc0 hF => rd_r8_PrefixList_0 r name (c0 : Int) Q (cond_ge (n := r.2.2.2.1.length) rfl hc0 (id hF))) (fun c0 _ hc0 next0 hn0 hF => rd_r8_PrefixList_0 r name (c0 : Int) Q (cond_lt (n := r.2.2.2.1.length) rfl hc0 ((vc_f (F := FF) (by first | ((repeat' (first | rfl | exact nn_d64 _ | exact okIx_nat hc0 | refine and_t ?_ ?_ | refine or_l ?_)); done) | (simp [-List.getD_eq_getElem?_getD, okIx_nat hc0, nn_u64, nn_u32]; done) | (have hry : roomy = 1048576 := rfl; simp [-List.getD_eq_getElem?_getD, okIx, okSlc, okApp, len_slcL, len_segL] <;> omega)) /- 1 -/ (cond_f (F := FF) (fun h0 => id) (fun h0 => hn0))) hF)))
theorem ct_r8_PrefixList (r : RouterT) (name : List UInt8) (hw : VSs.wf e_r8_PrefixList.A (r, name, ())) (Q : Int × Unit → Prop) (hq : Q (e_r8_PrefixList.g (r, name, ()))) : EvF G_r8_PrefixList tb_r8_PrefixList c_r8_PrefixList (VSs.enc e_r8_PrefixList.A (r, name, ())) (dq e_r8_PrefixList.R Q) := by
  have _ := hw
  let FF := (fun y : Int => Q (y, ()))
  refine EvF.of (in_r8_PrefixList r name Q) ?_
  exact (lp_r8_PrefixList_0 r name Q hw) hq
/-! netverify/netverifyref8.routeMaps -/
def G_r8_routeMaps : List Ent := [e_r8_PrefixList, e_r4_Name, e_r8_within]
def b_r8_routeMaps_1 : ACode := (.seq (.seq (.region [(.mk (some 26) none (.mov (.t 5))), (.mk (some 27) none (.mov (.t 4))), (.mk (some 28) none (.bin .lss (.t 26) (.t 27)))] []) (.cond 28 .skip (.exit 2))) (.seq (.block 3 (.seq (.region [(.mk (some 31) none (.mov (.t 3))), (.mk (some 32) none (.mov (.t 5))), (.mk (some 33) none (.ixa 2 (.t 31) (.t 32))), (.mk (some 34) none (.fld 0 (.t 33))), (.mk (some 35) none (.load false 1 (.t 34))), (.mk (some 36) none (.mov (.t 3))), (.mk (some 37) none (.mov (.t 4))), (.mk (some 38) none (.ixa 2 (.t 36) (.t 37))), (.mk (some 39) none (.fld 0 (.t 38))), (.mk (some 40) none (.load false 1 (.t 39))), (.mk (some 41) none (.bin .eql (.t 35) (.t 40)))] []) (.cond 41 (.seq (.region [(.mk (some 2) none (.mov (.c (.f (.int .i64 4)))))] []) .ret) .skip))) (.region [(.mk (some 29) none (.mov (.t 5))), (.mk (some 30) none (.bin .add (.t 29) (.c (.f (.int .i64 1))))), (.mk (some 5) none (.mov (.t 30)))] [])))
def b_r8_routeMaps_2 : ACode := (.seq (.seq (.region [(.mk (some 56) none (.mov (.t 6))), (.mk (some 57) none (.mov (.t 3))), (.mk (some 58) none (.mov (.t 4))), (.mk (some 59) none (.ixa 2 (.t 57) (.t 58))), (.mk (some 60) none (.fld 1 (.t 59))), (.mk (some 61) none (.load false 1 (.t 60))), (.mk (some 62) none (.len (.t 61))), (.mk (some 63) none (.bin .lss (.t 56) (.t 62)))] []) (.cond 63 .skip (.exit 4))) (.seq (.block 5 (.seq (.region [(.mk (some 66) none (.mov (.t 3))), (.mk (some 67) none (.mov (.t 4))), (.mk (some 68) none (.ixa 2 (.t 66) (.t 67))), (.mk (some 69) none (.fld 1 (.t 68))), (.mk (some 70) none (.load false 1 (.t 69))), (.mk (some 71) none (.mov (.t 6))), (.mk (some 72) none (.ixa 7 (.t 70) (.t 71))), (.mk (some 73) none (.load true 7 (.t 72))), (.mk (some 7) none (.alloc [(.f (.bool false)), (.f (.str [])), (.f (.int .i64 0)), (.f (.int .i64 0)), (.f (.int .i64 0)), (.f (.int .i64 0)), (.f (.int .i64 0))])), (.mk none none (.store 7 (.t 7) (.t 73)))] []) (.seq (.seq (.region [(.mk (some 74) none (.fld 1 (.t 7))), (.mk (some 75) none (.load false 1 (.t 74))), (.mk (some 76) none (.bin .neq (.t 75) (.c (.f (.str []))))), (.mk (some 77) none (.mov (.t 76))), (.mk (some 78) (some (77, true)) (.load true 25 (.t 1))), (.mk (some 79) (some (77, true)) (.fld 1 (.t 7))), (.mk (some 80) (some (77, true)) (.load false 1 (.t 79))), (.mk (some 81) (some (77, true)) (.call 35 [(.t 78), (.t 80)])), (.mk (some 82) (some (77, true)) (.bin .lss (.t 81) (.c (.f (.int .i64 0))))), (.mk (some 83) none (.pick 77 (.t 82) (.c (.f (.bool false)))))] []) (.cond 83 (.seq (.region [(.mk (some 2) none (.mov (.c (.f (.int .i64 5)))))] []) .ret) .skip)) (.seq (.region [(.mk (some 84) none (.fld 2 (.t 7))), (.mk (some 85) none (.load false 1 (.t 84))), (.mk (some 86) none (.call 44 [(.t 85), (.c (.f (.int .i64 (-1)))), (.c (.f (.int .i64 65535)))])), (.mk (some 87) none (.un .not (.t 86))), (.mk (some 88) none (.mov (.t 87))), (.mk (some 89) (some (88, false)) (.fld 4 (.t 7))), (.mk (some 90) (some (88, false)) (.load false 1 (.t 89))), (.mk (some 91) (some (88, false)) (.call 44 [(.t 90), (.c (.f (.int .i64 (-1)))), (.c (.f (.int .i64 65535)))])), (.mk (some 92) (some (88, false)) (.un .not (.t 91))), (.mk (some 93) none (.pick 88 (.c (.f (.bool true))) (.t 92))), (.mk (some 94) none (.mov (.t 93))), (.mk (some 95) (some (94, false)) (.fld 3 (.t 7))), (.mk (some 96) (some (94, false)) (.load false 1 (.t 95))), (.mk (some 97) (some (94, false)) (.call 44 [(.t 96), (.c (.f (.int .i64 (-1)))), (.c (.f (.int .i64 16777215)))])), (.mk (some 98) (some (94, false)) (.un .not (.t 97))), (.mk (some 99) none (.pick 94 (.c (.f (.bool true))) (.t 98))), (.mk (some 100) none (.mov (.t 99))), (.mk (some 101) (some (100, false)) (.fld 5 (.t 7))), (.mk (some 102) (some (100, false)) (.load false 1 (.t 101))), (.mk (some 103) (some (100, false)) (.call 44 [(.t 102), (.c (.f (.int .i64 (-1)))), (.c (.f (.int .i64 1000000)))])), (.mk (some 104) (some (100, false)) (.un .not (.t 103))), (.mk (some 105) none (.pick 100 (.c (.f (.bool true))) (.t 104))), (.mk (some 106) none (.mov (.t 105))), (.mk (some 107) (some (106, false)) (.fld 6 (.t 7))), (.mk (some 108) (some (106, false)) (.load false 1 (.t 107))), (.mk (some 109) (some (106, false)) (.call 44 [(.t 108), (.c (.f (.int .i64 0))), (.c (.f (.int .i64 8)))])), (.mk (some 110) (some (106, false)) (.un .not (.t 109))), (.mk (some 111) none (.pick 106 (.c (.f (.bool true))) (.t 110)))] []) (.cond 111 (.seq (.region [(.mk (some 2) none (.mov (.c (.f (.int .i64 1)))))] []) .ret) .skip))))) (.region [(.mk (some 64) none (.mov (.t 6))), (.mk (some 65) none (.bin .add (.t 64) (.c (.f (.int .i64 1))))), (.mk (some 6) none (.mov (.t 65)))] [])))
def r_r8_routeMaps_0 : ACode := (.seq (.seq (.region [(.mk (some 42) none (.mov (.t 3))), (.mk (some 43) none (.mov (.t 4))), (.mk (some 44) none (.ixa 2 (.t 42) (.t 43))), (.mk (some 45) none (.fld 1 (.t 44))), (.mk (some 46) none (.load false 1 (.t 45))), (.mk (some 47) none (.len (.t 46))), (.mk (some 48) none (.bin .eql (.t 47) (.c (.f (.int .i64 0)))))] []) (.cond 48 (.seq (.region [(.mk (some 2) none (.mov (.c (.f (.int .i64 1)))))] []) .ret) .skip)) (.seq (.seq (.region [(.mk (some 49) none (.mov (.t 3))), (.mk (some 50) none (.mov (.t 4))), (.mk (some 51) none (.ixa 2 (.t 49) (.t 50))), (.mk (some 52) none (.fld 1 (.t 51))), (.mk (some 53) none (.load false 1 (.t 52))), (.mk (some 54) none (.len (.t 53))), (.mk (some 55) none (.bin .gtr (.t 54) (.c (.f (.int .i64 8)))))] []) (.cond 55 (.seq (.region [(.mk (some 2) none (.mov (.c (.f (.int .i64 7)))))] []) .ret) .skip)) (.seq (.region [(.mk (some 6) none (.mov (.c (.f (.int .i64 0)))))] []) (.block 4 (.loop 2 [(1, none), (3, none), (4, none), (6, none)] b_r8_routeMaps_2)))))
def r_r8_routeMaps_1 : ACode := (.region [(.mk (some 17) none (.mov (.t 4))), (.mk (some 18) none (.bin .add (.t 17) (.c (.f (.int .i64 1))))), (.mk (some 4) none (.mov (.t 18)))] [])
def b_r8_routeMaps_0 : ACode := (.seq (.seq (.region [(.mk (some 13) none (.mov (.t 4))), (.mk (some 14) none (.mov (.t 3))), (.mk (some 15) none (.len (.t 14))), (.mk (some 16) none (.bin .lss (.t 13) (.t 15)))] []) (.cond 16 .skip (.exit 0))) (.seq (.block 1 (.seq (.seq (.region [(.mk (some 19) none (.mov (.t 3))), (.mk (some 20) none (.mov (.t 4))), (.mk (some 21) none (.ixa 2 (.t 19) (.t 20))), (.mk (some 22) none (.fld 0 (.t 21))), (.mk (some 23) none (.load false 1 (.t 22))), (.mk (some 24) none (.call 43 [(.t 23)])), (.mk (some 25) none (.un .not (.t 24)))] []) (.cond 25 (.seq (.region [(.mk (some 2) none (.mov (.c (.f (.int .i64 3)))))] []) .ret) .skip)) (.seq (.seq (.region [(.mk (some 5) none (.mov (.c (.f (.int .i64 0)))))] []) (.block 2 (.loop 1 [(1, none), (3, none), (4, none), (5, none)] b_r8_routeMaps_1))) r_r8_routeMaps_0))) r_r8_routeMaps_1))
def r_r8_routeMaps_2 : ACode := (.seq (.region [(.mk (some 2) none (.mov (.c (.f (.int .i64 0)))))] []) .ret)
def c_r8_routeMaps : AFunc := AFunc.mk 112 1 [(.t 2)] (.seq (.region [(.mk (some 1) none (.box (.t 0))), (.mk (some 2) none (.mov (.c (.f (.int .i64 0)))))] []) (.seq (.region [(.mk (some 8) none (.fld 4 (.t 1))), (.mk (some 9) none (.load false 1 (.t 8))), (.mk (some 3) none (.mov (.t 9)))] []) (.seq (.seq (.region [(.mk (some 10) none (.mov (.t 3))), (.mk (some 11) none (.len (.t 10))), (.mk (some 12) none (.bin .gtr (.t 11) (.c (.f (.int .i64 8)))))] []) (.cond 12 (.seq (.region [(.mk (some 2) none (.mov (.c (.f (.int .i64 7)))))] []) .ret) .skip)) (.seq (.seq (.region [(.mk (some 4) none (.mov (.c (.f (.int .i64 0)))))] []) (.block 0 (.loop 0 [(1, none), (3, none), (4, none)] b_r8_routeMaps_0))) r_r8_routeMaps_2))))
def tb_r8_routeMaps : Tbl
  | 0 => ([(1, none), (3, none), (4, none)], b_r8_routeMaps_0)
  | 1 => ([(1, none), (3, none), (4, none), (5, none)], b_r8_routeMaps_1)
  | 2 => ([(1, none), (3, none), (4, none), (6, none)], b_r8_routeMaps_2)
  | _ => ([], .skip)
theorem ok_r8_routeMaps : compF Try.prog Try.f47 = some c_r8_routeMaps.strip := by kernel_rfl
theorem tk_r8_routeMaps : TblOk tb_r8_routeMaps c_r8_routeMaps.body := ⟨trivial, ⟨trivial, ⟨⟨trivial, ⟨⟨trivial, trivial⟩, trivial⟩⟩, ⟨⟨trivial, ⟨rfl, ⟨⟨trivial, ⟨trivial, trivial⟩⟩, ⟨⟨⟨trivial, ⟨⟨trivial, trivial⟩, trivial⟩⟩, ⟨⟨trivial, ⟨rfl, ⟨⟨trivial, ⟨trivial, trivial⟩⟩, ⟨⟨trivial, ⟨⟨trivial, trivial⟩, trivial⟩⟩, trivial⟩⟩⟩⟩, ⟨⟨trivial, ⟨⟨trivial, trivial⟩, trivial⟩⟩, ⟨⟨trivial, ⟨⟨trivial, trivial⟩, trivial⟩⟩, ⟨trivial, ⟨rfl, ⟨⟨trivial, ⟨trivial, trivial⟩⟩, ⟨⟨trivial, ⟨⟨trivial, ⟨⟨trivial, trivial⟩, trivial⟩⟩, ⟨trivial, ⟨⟨trivial, trivial⟩, trivial⟩⟩⟩⟩, trivial⟩⟩⟩⟩⟩⟩⟩⟩, trivial⟩⟩⟩⟩, ⟨trivial, trivial⟩⟩⟩⟩⟩
def k_r8_routeMaps_0 (Q : Int × Unit → Prop) : K := (kBlock 0 (kSeq (evC G_r8_routeMaps (Lfp G_r8_routeMaps tb_r8_routeMaps) r_r8_routeMaps_2) (kDone c_r8_routeMaps (dq e_r8_routeMaps.R Q))))
def s_r8_routeMaps_0 (r : RouterT) (v0 : Int) : St := ⟨[(1, [], .ptr 0 0), (3, [], .f (.fs RouteMapS r.2.2.2.2.1)), (4, [], .f (.int .i64 v0))], [.box [.f (.str r.1), .f (.int .i64 r.2.1), .f (.fs InterfaceS r.2.2.1), .f (.fs PrefixListS r.2.2.2.1), .f (.fs RouteMapS r.2.2.2.2.1), .f (.fs ACLS r.2.2.2.2.2.1), .f (.fs TranslationS r.2.2.2.2.2.2.1), .f (.fs StaticRouteS r.2.2.2.2.2.2.2.1), .f (.bool r.2.2.2.2.2.2.2.2.1), .f (.int .i64 r.2.2.2.2.2.2.2.2.2.1), .f (.fs AreaRangeS r.2.2.2.2.2.2.2.2.2.2.1), .f (.fs RedistS r.2.2.2.2.2.2.2.2.2.2.2.1), .f (.bool r.2.2.2.2.2.2.2.2.2.2.2.2.1), .f (.int .i64 r.2.2.2.2.2.2.2.2.2.2.2.2.2.1), .f (.str r.2.2.2.2.2.2.2.2.2.2.2.2.2.2.1), .f (.str r.2.2.2.2.2.2.2.2.2.2.2.2.2.2.2.1), .f (.fs RedistS r.2.2.2.2.2.2.2.2.2.2.2.2.2.2.2.2.1), .f (.bool r.2.2.2.2.2.2.2.2.2.2.2.2.2.2.2.2.2.1), .f (.int .i64 r.2.2.2.2.2.2.2.2.2.2.2.2.2.2.2.2.2.2.1), .f (.int .i64 r.2.2.2.2.2.2.2.2.2.2.2.2.2.2.2.2.2.2.2.1), .f (.fs NeighborS r.2.2.2.2.2.2.2.2.2.2.2.2.2.2.2.2.2.2.2.2.1), .f (.fs PrefixS r.2.2.2.2.2.2.2.2.2.2.2.2.2.2.2.2.2.2.2.2.2.1), .f (.fs AggregateS r.2.2.2.2.2.2.2.2.2.2.2.2.2.2.2.2.2.2.2.2.2.2.1), .f (.fs ConditionS r.2.2.2.2.2.2.2.2.2.2.2.2.2.2.2.2.2.2.2.2.2.2.2.1), .f (.fs RedistS r.2.2.2.2.2.2.2.2.2.2.2.2.2.2.2.2.2.2.2.2.2.2.2.2.1)]]⟩
def L_r8_routeMaps_0 (r : RouterT) (v0 : Int) (Q : Int × Unit → Prop) : Prop := Lfp G_r8_routeMaps tb_r8_routeMaps 0 (s_r8_routeMaps_0 r v0) (k_r8_routeMaps_0 Q)
def k_r8_routeMaps_1 (Q : Int × Unit → Prop) : K := (kBlock 2 (kSeq (evC G_r8_routeMaps (Lfp G_r8_routeMaps tb_r8_routeMaps) r_r8_routeMaps_0) (kBlock 1 (kSeq (evC G_r8_routeMaps (Lfp G_r8_routeMaps tb_r8_routeMaps) r_r8_routeMaps_1) (kLoop [(1, none), (3, none), (4, none)] (Lfp G_r8_routeMaps tb_r8_routeMaps 0) (k_r8_routeMaps_0 Q))))))
def s_r8_routeMaps_1 (r : RouterT) (v0 : Int) (v1 : Int) : St := ⟨[(1, [], .ptr 0 0), (3, [], .f (.fs RouteMapS r.2.2.2.2.1)), (4, [], .f (.int .i64 v0)), (5, [], .f (.int .i64 v1))], [.box [.f (.str r.1), .f (.int .i64 r.2.1), .f (.fs InterfaceS r.2.2.1), .f (.fs PrefixListS r.2.2.2.1), .f (.fs RouteMapS r.2.2.2.2.1), .f (.fs ACLS r.2.2.2.2.2.1), .f (.fs TranslationS r.2.2.2.2.2.2.1), .f (.fs StaticRouteS r.2.2.2.2.2.2.2.1), .f (.bool r.2.2.2.2.2.2.2.2.1), .f (.int .i64 r.2.2.2.2.2.2.2.2.2.1), .f (.fs AreaRangeS r.2.2.2.2.2.2.2.2.2.2.1), .f (.fs RedistS r.2.2.2.2.2.2.2.2.2.2.2.1), .f (.bool r.2.2.2.2.2.2.2.2.2.2.2.2.1), .f (.int .i64 r.2.2.2.2.2.2.2.2.2.2.2.2.2.1), .f (.str r.2.2.2.2.2.2.2.2.2.2.2.2.2.2.1), .f (.str r.2.2.2.2.2.2.2.2.2.2.2.2.2.2.2.1), .f (.fs RedistS r.2.2.2.2.2.2.2.2.2.2.2.2.2.2.2.2.1), .f (.bool r.2.2.2.2.2.2.2.2.2.2.2.2.2.2.2.2.2.1), .f (.int .i64 r.2.2.2.2.2.2.2.2.2.2.2.2.2.2.2.2.2.2.1), .f (.int .i64 r.2.2.2.2.2.2.2.2.2.2.2.2.2.2.2.2.2.2.2.1), .f (.fs NeighborS r.2.2.2.2.2.2.2.2.2.2.2.2.2.2.2.2.2.2.2.2.1), .f (.fs PrefixS r.2.2.2.2.2.2.2.2.2.2.2.2.2.2.2.2.2.2.2.2.2.1), .f (.fs AggregateS r.2.2.2.2.2.2.2.2.2.2.2.2.2.2.2.2.2.2.2.2.2.2.1), .f (.fs ConditionS r.2.2.2.2.2.2.2.2.2.2.2.2.2.2.2.2.2.2.2.2.2.2.2.1), .f (.fs RedistS r.2.2.2.2.2.2.2.2.2.2.2.2.2.2.2.2.2.2.2.2.2.2.2.2.1)]]⟩
def L_r8_routeMaps_1 (r : RouterT) (v0 : Int) (v1 : Int) (Q : Int × Unit → Prop) : Prop := Lfp G_r8_routeMaps tb_r8_routeMaps 1 (s_r8_routeMaps_1 r v0 v1) (k_r8_routeMaps_1 Q)
def k_r8_routeMaps_2 (Q : Int × Unit → Prop) : K := (kBlock 4 (kBlock 1 (kSeq (evC G_r8_routeMaps (Lfp G_r8_routeMaps tb_r8_routeMaps) r_r8_routeMaps_1) (kLoop [(1, none), (3, none), (4, none)] (Lfp G_r8_routeMaps tb_r8_routeMaps 0) (k_r8_routeMaps_0 Q)))))
def s_r8_routeMaps_2 (r : RouterT) (v0 : Int) (v1 : Int) : St := ⟨[(1, [], .ptr 0 0), (3, [], .f (.fs RouteMapS r.2.2.2.2.1)), (4, [], .f (.int .i64 v1)), (6, [], .f (.int .i64 v0))], [.box [.f (.str r.1), .f (.int .i64 r.2.1), .f (.fs InterfaceS r.2.2.1), .f (.fs PrefixListS r.2.2.2.1), .f (.fs RouteMapS r.2.2.2.2.1), .f (.fs ACLS r.2.2.2.2.2.1), .f (.fs TranslationS r.2.2.2.2.2.2.1), .f (.fs StaticRouteS r.2.2.2.2.2.2.2.1), .f (.bool r.2.2.2.2.2.2.2.2.1), .f (.int .i64 r.2.2.2.2.2.2.2.2.2.1), .f (.fs AreaRangeS r.2.2.2.2.2.2.2.2.2.2.1), .f (.fs RedistS r.2.2.2.2.2.2.2.2.2.2.2.1), .f (.bool r.2.2.2.2.2.2.2.2.2.2.2.2.1), .f (.int .i64 r.2.2.2.2.2.2.2.2.2.2.2.2.2.1), .f (.str r.2.2.2.2.2.2.2.2.2.2.2.2.2.2.1), .f (.str r.2.2.2.2.2.2.2.2.2.2.2.2.2.2.2.1), .f (.fs RedistS r.2.2.2.2.2.2.2.2.2.2.2.2.2.2.2.2.1), .f (.bool r.2.2.2.2.2.2.2.2.2.2.2.2.2.2.2.2.2.1), .f (.int .i64 r.2.2.2.2.2.2.2.2.2.2.2.2.2.2.2.2.2.2.1), .f (.int .i64 r.2.2.2.2.2.2.2.2.2.2.2.2.2.2.2.2.2.2.2.1), .f (.fs NeighborS r.2.2.2.2.2.2.2.2.2.2.2.2.2.2.2.2.2.2.2.2.1), .f (.fs PrefixS r.2.2.2.2.2.2.2.2.2.2.2.2.2.2.2.2.2.2.2.2.2.1), .f (.fs AggregateS r.2.2.2.2.2.2.2.2.2.2.2.2.2.2.2.2.2.2.2.2.2.2.1), .f (.fs ConditionS r.2.2.2.2.2.2.2.2.2.2.2.2.2.2.2.2.2.2.2.2.2.2.2.1), .f (.fs RedistS r.2.2.2.2.2.2.2.2.2.2.2.2.2.2.2.2.2.2.2.2.2.2.2.2.1)]]⟩
def L_r8_routeMaps_2 (r : RouterT) (v0 : Int) (v1 : Int) (Q : Int × Unit → Prop) : Prop := Lfp G_r8_routeMaps tb_r8_routeMaps 2 (s_r8_routeMaps_2 r v0 v1) (k_r8_routeMaps_2 Q)
theorem in_r8_routeMaps (r : RouterT) (Q : Int × Unit → Prop) : evF G_r8_routeMaps (Lfp G_r8_routeMaps tb_r8_routeMaps) c_r8_routeMaps (VSs.enc e_r8_routeMaps.A (r, ())) (dq e_r8_routeMaps.R Q) = (
  cond (decide ((r.2.2.2.2.1.length : Int) > 8))
  (Q (7, ()))
  (L_r8_routeMaps_0 r 0 Q)) := by kernel_rfl
theorem rd_r8_routeMaps_0 (r : RouterT) (v0 : Int) (Q : Int × Unit → Prop) (h :
  cond (decide (v0 < (r.2.2.2.2.1.length : Int)))
  (cond ((okIx v0 (r.2.2.2.2.1.length : Int)) && true)
    (cond (!(g_r4_Name (List.getD r.2.2.2.2.1 (Int.toNat v0) RouteMapD).1))
      (Q (3, ()))
      (L_r8_routeMaps_1 r v0 0 Q))
    False)
  (Q (0, ()))) : L_r8_routeMaps_0 r v0 Q := Lfp.step ((by kernel_rfl : evC G_r8_routeMaps (Lfp G_r8_routeMaps tb_r8_routeMaps) (tb_r8_routeMaps 0).2 (s_r8_routeMaps_0 r v0) (kLoop (tb_r8_routeMaps 0).1 (Lfp G_r8_routeMaps tb_r8_routeMaps 0) (k_r8_routeMaps_0 Q)) = (
  cond (decide (v0 < (r.2.2.2.2.1.length : Int)))
  (cond ((okIx v0 (r.2.2.2.2.1.length : Int)) && true)
    (cond (!(g_r4_Name (List.getD r.2.2.2.2.1 (Int.toNat v0) RouteMapD).1))
      (Q (3, ()))
      (L_r8_routeMaps_1 r v0 0 Q))
    False)
  (Q (0, ())))).symm ▸ h)
theorem rd_r8_routeMaps_1 (r : RouterT) (v0 : Int) (v1 : Int) (Q : Int × Unit → Prop) (h :
  cond (decide (v1 < v0))
  (cond ((okIx v1 (r.2.2.2.2.1.length : Int)) && (okIx v0 (r.2.2.2.2.1.length : Int)))
    (cond ((List.getD r.2.2.2.2.1 (Int.toNat v1) RouteMapD).1 == (List.getD r.2.2.2.2.1 (Int.toNat v0) RouteMapD).1)
      (Q (4, ()))
      (L_r8_routeMaps_1 r v0 (IntKind.wrap .i64 (v1 + 1)) Q))
    False)
  (cond (okIx v0 (r.2.2.2.2.1.length : Int))
    (cond (((List.getD r.2.2.2.2.1 (Int.toNat v0) RouteMapD).2.1.length : Int) == 0)
      (Q (1, ()))
      (cond (okIx v0 (r.2.2.2.2.1.length : Int))
        (cond (decide (((List.getD r.2.2.2.2.1 (Int.toNat v0) RouteMapD).2.1.length : Int) > 8))
          (Q (7, ()))
          (L_r8_routeMaps_2 r 0 v0 Q))
        False))
    False)) : L_r8_routeMaps_1 r v0 v1 Q := Lfp.step ((by kernel_rfl : evC G_r8_routeMaps (Lfp G_r8_routeMaps tb_r8_routeMaps) (tb_r8_routeMaps 1).2 (s_r8_routeMaps_1 r v0 v1) (kLoop (tb_r8_routeMaps 1).1 (Lfp G_r8_routeMaps tb_r8_routeMaps 1) (k_r8_routeMaps_1 Q)) = (
  cond (decide (v1 < v0))
  (cond ((okIx v1 (r.2.2.2.2.1.length : Int)) && (okIx v0 (r.2.2.2.2.1.length : Int)))
    (cond ((List.getD r.2.2.2.2.1 (Int.toNat v1) RouteMapD).1 == (List.getD r.2.2.2.2.1 (Int.toNat v0) RouteMapD).1)
      (Q (4, ()))
      (L_r8_routeMaps_1 r v0 (IntKind.wrap .i64 (v1 + 1)) Q))
    False)
  (cond (okIx v0 (r.2.2.2.2.1.length : Int))
    (cond (((List.getD r.2.2.2.2.1 (Int.toNat v0) RouteMapD).2.1.length : Int) == 0)
      (Q (1, ()))
      (cond (okIx v0 (r.2.2.2.2.1.length : Int))
        (cond (decide (((List.getD r.2.2.2.2.1 (Int.toNat v0) RouteMapD).2.1.length : Int) > 8))
          (Q (7, ()))
          (L_r8_routeMaps_2 r 0 v0 Q))
        False))
    False))).symm ▸ h)
theorem rd_r8_routeMaps_2 (r : RouterT) (v0 : Int) (v1 : Int) (Q : Int × Unit → Prop) (h :
  cond (okIx v1 (r.2.2.2.2.1.length : Int))
  (cond (decide (v0 < ((List.getD r.2.2.2.2.1 (Int.toNat v1) RouteMapD).2.1.length : Int)))
    (cond ((okIx v1 (r.2.2.2.2.1.length : Int)) && (okIx v0 ((List.getD r.2.2.2.2.1 (Int.toNat v1) RouteMapD).2.1.length : Int)))
      (cond ((!((List.getD (List.getD r.2.2.2.2.1 (Int.toNat v1) RouteMapD).2.1 (Int.toNat v0) ClauseD).2.1 == [])) && (decide ((g_r8_PrefixList r (List.getD (List.getD r.2.2.2.2.1 (Int.toNat v1) RouteMapD).2.1 (Int.toNat v0) ClauseD).2.1) < 0)))
        (Q (5, ()))
        (cond (((((!(g_r8_within (List.getD (List.getD r.2.2.2.2.1 (Int.toNat v1) RouteMapD).2.1 (Int.toNat v0) ClauseD).2.2.1 (-1) 65535)) || (!(g_r8_within (List.getD (List.getD r.2.2.2.2.1 (Int.toNat v1) RouteMapD).2.1 (Int.toNat v0) ClauseD).2.2.2.2.1 (-1) 65535))) || (!(g_r8_within (List.getD (List.getD r.2.2.2.2.1 (Int.toNat v1) RouteMapD).2.1 (Int.toNat v0) ClauseD).2.2.2.1 (-1) 16777215))) || (!(g_r8_within (List.getD (List.getD r.2.2.2.2.1 (Int.toNat v1) RouteMapD).2.1 (Int.toNat v0) ClauseD).2.2.2.2.2.1 (-1) 1000000))) || (!(g_r8_within (List.getD (List.getD r.2.2.2.2.1 (Int.toNat v1) RouteMapD).2.1 (Int.toNat v0) ClauseD).2.2.2.2.2.2.1 0 8)))
          (Q (1, ()))
          (L_r8_routeMaps_2 r (IntKind.wrap .i64 (v0 + 1)) v1 Q)))
      False)
    (L_r8_routeMaps_0 r (IntKind.wrap .i64 (v1 + 1)) Q))
  False) : L_r8_routeMaps_2 r v0 v1 Q := Lfp.step ((by kernel_rfl : evC G_r8_routeMaps (Lfp G_r8_routeMaps tb_r8_routeMaps) (tb_r8_routeMaps 2).2 (s_r8_routeMaps_2 r v0 v1) (kLoop (tb_r8_routeMaps 2).1 (Lfp G_r8_routeMaps tb_r8_routeMaps 2) (k_r8_routeMaps_2 Q)) = (
  cond (okIx v1 (r.2.2.2.2.1.length : Int))
  (cond (decide (v0 < ((List.getD r.2.2.2.2.1 (Int.toNat v1) RouteMapD).2.1.length : Int)))
    (cond ((okIx v1 (r.2.2.2.2.1.length : Int)) && (okIx v0 ((List.getD r.2.2.2.2.1 (Int.toNat v1) RouteMapD).2.1.length : Int)))
      (cond ((!((List.getD (List.getD r.2.2.2.2.1 (Int.toNat v1) RouteMapD).2.1 (Int.toNat v0) ClauseD).2.1 == [])) && (decide ((g_r8_PrefixList r (List.getD (List.getD r.2.2.2.2.1 (Int.toNat v1) RouteMapD).2.1 (Int.toNat v0) ClauseD).2.1) < 0)))
        (Q (5, ()))
        (cond (((((!(g_r8_within (List.getD (List.getD r.2.2.2.2.1 (Int.toNat v1) RouteMapD).2.1 (Int.toNat v0) ClauseD).2.2.1 (-1) 65535)) || (!(g_r8_within (List.getD (List.getD r.2.2.2.2.1 (Int.toNat v1) RouteMapD).2.1 (Int.toNat v0) ClauseD).2.2.2.2.1 (-1) 65535))) || (!(g_r8_within (List.getD (List.getD r.2.2.2.2.1 (Int.toNat v1) RouteMapD).2.1 (Int.toNat v0) ClauseD).2.2.2.1 (-1) 16777215))) || (!(g_r8_within (List.getD (List.getD r.2.2.2.2.1 (Int.toNat v1) RouteMapD).2.1 (Int.toNat v0) ClauseD).2.2.2.2.2.1 (-1) 1000000))) || (!(g_r8_within (List.getD (List.getD r.2.2.2.2.1 (Int.toNat v1) RouteMapD).2.1 (Int.toNat v0) ClauseD).2.2.2.2.2.2.1 0 8)))
          (Q (1, ()))
          (L_r8_routeMaps_2 r (IntKind.wrap .i64 (v0 + 1)) v1 Q)))
      False)
    (L_r8_routeMaps_0 r (IntKind.wrap .i64 (v1 + 1)) Q))
  False)).symm ▸ h)
theorem lp_r8_routeMaps_2 (r : RouterT) (c0 : Nat) (next0 : Int) (Q : Int × Unit → Prop) (hw : VSs.wf e_r8_routeMaps.A (r, ())) (hc0 : c0 < r.2.2.2.2.1.length) (hn0 : (fun y : Int => Q (y, ())) next0 → L_r8_routeMaps_0 r (IntKind.wrap .i64 ((c0 : Int) + 1)) Q) (g0 : (decide ((r.2.2.2.2.1.length : Int) > 8)) = false) : (fun y : Int => Q (y, ())) (S_r8_routeMaps_2 r c0 next0) → L_r8_routeMaps_2 r 0 (c0 : Int) Q := by
  have _ := hw
  have _ := g0
  have _ := hc0
  let FF := (fun y : Int => Q (y, ()))
  refine upV_loop (F := FF) (k := .i64) (L := (fun c2 : Int => L_r8_routeMaps_2 r c2 (c0 : Int) Q)) (wrap_i64n (show _ ≤ _ from (((wf_getD ((((((hw.1).2).2).2).2).1) _).2).1).1)) (fun c2 hc2 hF => rd_r8_routeMaps_2 r (c2 : Int) (c0 : Int) Q (vc_i (by first | ((repeat' (first | rfl | exact nn_d64 _ | exact okIx_nat hc0 | refine and_t ?_ ?_ | refine or_l ?_)); done) | (simp [-List.getD_eq_getElem?_getD, okIx_nat hc0, nn_u64, nn_u32]; done) | (simp [-List.getD_eq_getElem?_getD, okIx_nat hc0, nn_u64, nn_u32, g0]; done) | (have hry : roomy = 1048576 := rfl; simp [-List.getD_eq_getElem?_getD, okIx, okSlc, okApp, len_slcL, len_segL] at g0 ⊢ <;> omega)) /- 2 -/ (cond_ge (n := (List.getD r.2.2.2.2.1 c0 RouteMapD).2.1.length) rfl hc2 (hn0 hF)))) (fun c2 _ hc2 next2 hn2 hF => rd_r8_routeMaps_2 r (c2 : Int) (c0 : Int) Q (vc_i (by first | ((repeat' (first | rfl | exact nn_d64 _ | exact okIx_nat hc0 | refine and_t ?_ ?_ | refine or_l ?_)); done) | (simp [-List.getD_eq_getElem?_getD, okIx_nat hc0, nn_u64, nn_u32]; done) | (simp [-List.getD_eq_getElem?_getD, okIx_nat hc0, nn_u64, nn_u32, g0]; done) | (have hry : roomy = 1048576 := rfl; simp [-List.getD_eq_getElem?_getD, okIx, okSlc, okApp, len_slcL, len_segL] at g0 ⊢ <;> omega)) /- 3 -/ (cond_lt (n := (List.getD r.2.2.2.2.1 c0 RouteMapD).2.1.length) rfl hc2 ((vc_f (F := FF) (by first | ((repeat' (first | rfl | exact nn_d64 _ | exact okIx_nat hc0 | exact okIx_nat hc2 | refine and_t ?_ ?_ | refine or_l ?_)); done) | (simp [-List.getD_eq_getElem?_getD, okIx_nat hc0, okIx_nat hc2, nn_u64, nn_u32]; done) | (simp [-List.getD_eq_getElem?_getD, okIx_nat hc0, okIx_nat hc2, nn_u64, nn_u32, g0]; done) | (have hry : roomy = 1048576 := rfl; simp [-List.getD_eq_getElem?_getD, okIx, okSlc, okApp, len_slcL, len_segL] at g0 ⊢ <;> omega)) /- 1 -/ (cond_f (F := FF) (fun h1 => id) (fun h1 => (cond_f (F := FF) (fun h2 => id) (fun h2 => hn2))))) hF))))
theorem lp_r8_routeMaps_1 (r : RouterT) (c0 : Nat) (next0 : Int) (Q : Int × Unit → Prop) (hw : VSs.wf e_r8_routeMaps.A (r, ())) (hc0 : c0 < r.2.2.2.2.1.length) (hn0 : (fun y : Int => Q (y, ())) next0 → L_r8_routeMaps_0 r (IntKind.wrap .i64 ((c0 : Int) + 1)) Q) (g0 : (decide ((r.2.2.2.2.1.length : Int) > 8)) = false) : (fun y : Int => Q (y, ())) (S_r8_routeMaps_1 r c0 next0) → L_r8_routeMaps_1 r (c0 : Int) 0 Q := by
  have _ := hw
  have _ := g0
  have _ := hc0
  let FF := (fun y : Int => Q (y, ()))
  refine upV_loop (F := FF) (k := .i64) (L := (fun c1 : Int => L_r8_routeMaps_1 r (c0 : Int) c1 Q)) (wrap_i64n (Nat.le_trans (Nat.le_of_lt hc0) (show _ ≤ _ from ((((((hw.1).2).2).2).2).1).1))) (fun c1 hc1 hF => rd_r8_routeMaps_1 r (c0 : Int) (c1 : Int) Q (cond_ge (n := c0) rfl hc1 ((vc_f (F := FF) (by first | ((repeat' (first | rfl | exact nn_d64 _ | exact okIx_nat hc0 | exact okIx_nat hc1 | exact okIx_nat (Nat.lt_trans hc1 hc0) | refine and_t ?_ ?_ | refine or_l ?_)); done) | (simp [-List.getD_eq_getElem?_getD, okIx_nat hc0, okIx_nat hc1, okIx_nat (Nat.lt_trans hc1 hc0), nn_u64, nn_u32]; done) | (simp [-List.getD_eq_getElem?_getD, okIx_nat hc0, okIx_nat hc1, okIx_nat (Nat.lt_trans hc1 hc0), nn_u64, nn_u32, g0]; done) | (have hry : roomy = 1048576 := rfl; simp [-List.getD_eq_getElem?_getD, okIx, okSlc, okApp, len_slcL, len_segL] at g0 ⊢ <;> omega)) /- 5 -/ (cond_f (F := FF) (fun h1 => id) (fun h1 => (vc_f (F := FF) (by first | ((repeat' (first | rfl | exact nn_d64 _ | exact okIx_nat hc0 | exact okIx_nat hc1 | exact okIx_nat (Nat.lt_trans hc1 hc0) | refine and_t ?_ ?_ | refine or_l ?_)); done) | (simp [-List.getD_eq_getElem?_getD, okIx_nat hc0, okIx_nat hc1, okIx_nat (Nat.lt_trans hc1 hc0), nn_u64, nn_u32]; done) | (simp [-List.getD_eq_getElem?_getD, okIx_nat hc0, okIx_nat hc1, okIx_nat (Nat.lt_trans hc1 hc0), nn_u64, nn_u32, g0, h1]; done) | (have hry : roomy = 1048576 := rfl; simp [-List.getD_eq_getElem?_getD, okIx, okSlc, okApp, len_slcL, len_segL] at g0 h1 ⊢ <;> omega)) /- 6 -/ (cond_f (F := FF) (fun h2 => id) (fun h2 => (lp_r8_routeMaps_2 r c0 _ Q hw hc0 hn0 g0))))))) hF))) (fun c1 _ hc1 next1 hn1 hF => rd_r8_routeMaps_1 r (c0 : Int) (c1 : Int) Q (cond_lt (n := c0) rfl hc1 ((vc_f (F := FF) (by first | ((repeat' (first | rfl | exact nn_d64 _ | exact okIx_nat hc0 | exact okIx_nat hc1 | exact okIx_nat (Nat.lt_trans hc1 hc0) | refine and_t ?_ ?_ | refine or_l ?_)); done) | (simp [-List.getD_eq_getElem?_getD, okIx_nat hc0, okIx_nat hc1, okIx_nat (Nat.lt_trans hc1 hc0), nn_u64, nn_u32]; done) | (simp [-List.getD_eq_getElem?_getD, okIx_nat hc0, okIx_nat hc1, okIx_nat (Nat.lt_trans hc1 hc0), nn_u64, nn_u32, g0]; done) | (have hry : roomy = 1048576 := rfl; simp [-List.getD_eq_getElem?_getD, okIx, okSlc, okApp, len_slcL, len_segL] at g0 ⊢ <;> omega)) /- 4 -/ (cond_f (F := FF) (fun h1 => id) (fun h1 => hn1))) hF)))
theorem lp_r8_routeMaps_0 (r : RouterT) (Q : Int × Unit → Prop) (hw : VSs.wf e_r8_routeMaps.A (r, ()))  (g0 : (decide ((r.2.2.2.2.1.length : Int) > 8)) = false) : (fun y : Int => Q (y, ())) (S_r8_routeMaps_0 r) → L_r8_routeMaps_0 r 0 Q := by
  have _ := hw
  have _ := g0
  let FF := (fun y : Int => Q (y, ()))
  refine upV_loop (F := FF) (k := .i64) (L := (fun c0 : Int => L_r8_routeMaps_0 r c0 Q)) (wrap_i64n (show _ ≤ _ from ((((((hw.1).2).2).2).2).1).1)) (fun c0 hc0 hF => rd_r8_routeMaps_0 r (c0 : Int) Q (cond_ge (n := r.2.2.2.2.1.length) rfl hc0 (id hF))) (fun c0 _ hc0 next0 hn0 hF => rd_r8_routeMaps_0 r (c0 : Int) Q (cond_lt (n := r.2.2.2.2.1.length) rfl hc0 ((vc_f (F := FF) (by first | ((repeat' (first | rfl | exact nn_d64 _ | exact okIx_nat hc0 | refine and_t ?_ ?_ | refine or_l ?_)); done) | (simp [-List.getD_eq_getElem?_getD, okIx_nat hc0, nn_u64, nn_u32]; done) | (simp [-List.getD_eq_getElem?_getD, okIx_nat hc0, nn_u64, nn_u32, g0]; done) | (have hry : roomy = 1048576 := rfl; simp [-List.getD_eq_getElem?_getD, okIx, okSlc, okApp, len_slcL, len_segL] at g0 ⊢ <;> omega)) /- 7 -/ (cond_f (F := FF) (fun h1 => id) (fun h1 => (lp_r8_routeMaps_1 r c0 _ Q hw hc0 hn0 g0)))) hF)))
theorem ct_r8_routeMaps (r : RouterT) (hw : VSs.wf e_r8_routeMaps.A (r, ())) (Q : Int × Unit → Prop) (hq : Q (e_r8_routeMaps.g (r, ()))) : EvF G_r8_routeMaps tb_r8_routeMaps c_r8_routeMaps (VSs.enc e_r8_routeMaps.A (r, ())) (dq e_r8_routeMaps.R Q) := by
  have _ := hw
  let FF := (fun y : Int => Q (y, ()))
  refine EvF.of (in_r8_routeMaps r Q) ?_
  exact (cond_f (F := FF) (fun h0 => id) (fun h0 => (lp_r8_routeMaps_0 r Q hw h0))) hq
/-! netverify/netverifyref8.ports -/
def G_r8_ports : List Ent := []
def c_r8_ports : AFunc := AFunc.mk 18 1 [(.t 2)] (.seq (.region [(.mk (some 1) none (.box (.t 0))), (.mk (some 2) none (.mov (.c (.f (.bool false)))))] []) (.seq (.region [(.mk (some 3) none (.fld 0 (.t 1))), (.mk (some 4) none (.load false 1 (.t 3))), (.mk (some 5) none (.bin .leq (.c (.f (.int .i64 0))) (.t 4))), (.mk (some 6) none (.mov (.t 5))), (.mk (some 7) (some (6, true)) (.fld 0 (.t 1))), (.mk (some 8) (some (6, true)) (.load false 1 (.t 7))), (.mk (some 9) (some (6, true)) (.fld 1 (.t 1))), (.mk (some 10) (some (6, true)) (.load false 1 (.t 9))), (.mk (some 11) (some (6, true)) (.bin .leq (.t 8) (.t 10))), (.mk (some 12) none (.pick 6 (.t 11) (.c (.f (.bool false))))), (.mk (some 13) none (.mov (.t 12))), (.mk (some 14) (some (13, true)) (.fld 1 (.t 1))), (.mk (some 15) (some (13, true)) (.load false 1 (.t 14))), (.mk (some 16) (some (13, true)) (.bin .leq (.t 15) (.c (.f (.int .i64 65535))))), (.mk (some 17) none (.pick 13 (.t 16) (.c (.f (.bool false))))), (.mk (some 2) none (.mov (.t 17)))] []) .ret))
def tb_r8_ports : Tbl := fun _ => ([], .skip)
theorem ok_r8_ports : compF Try.prog Try.f70 = some c_r8_ports.strip := by kernel_rfl
theorem tk_r8_ports : TblOk tb_r8_ports c_r8_ports.body := ⟨trivial, ⟨trivial, trivial⟩⟩
theorem in_r8_ports (x0 : PortRangeT) (Q : Bool × Unit → Prop) : evF G_r8_ports (Lfp G_r8_ports tb_r8_ports) c_r8_ports (VSs.enc e_r8_ports.A (x0, ())) (dq e_r8_ports.R Q) = (
  Q ((((decide (0 ≤ x0.1)) && (decide (x0.1 ≤ x0.2.1))) && (decide (x0.2.1 ≤ 65535))), ())) := by kernel_rfl
theorem au_r8_ports (x0 : PortRangeT) (Q : Bool × Unit → Prop) : evF G_r8_ports (Lfp G_r8_ports tb_r8_ports) c_r8_ports (VSs.enc e_r8_ports.A (x0, ())) (dq e_r8_ports.R Q) = Q (e_r8_ports.g (x0, ())) := (in_r8_ports x0 Q).trans rfl
/-! netverify/netverifyref8.all -/
def G_r8_all : List Ent := []
def c_r8_all : AFunc := AFunc.mk 6 1 [(.t 2)] (.seq (.region [(.mk (some 1) none (.box (.t 0))), (.mk (some 2) none (.mov (.c (.f (.bool false)))))] []) (.seq (.region [(.mk (some 3) none (.load true 2 (.t 1))), (.mk (some 4) none (.build [(.f (.int .i64 0)), (.f (.int .i64 0))] [(0, (1, (.c (.f (.int .i64 0))))), (1, (1, (.c (.f (.int .i64 65535)))))])), (.mk (some 5) none (.eqa false [(0, 1), (1, 1)] (.t 3) (.t 4))), (.mk (some 2) none (.mov (.t 5)))] []) .ret))
def tb_r8_all : Tbl := fun _ => ([], .skip)
theorem ok_r8_all : compF Try.prog Try.f71 = some c_r8_all.strip := by kernel_rfl
theorem tk_r8_all : TblOk tb_r8_all c_r8_all.body := ⟨trivial, ⟨trivial, trivial⟩⟩
theorem in_r8_all (x0 : PortRangeT) (Q : Bool × Unit → Prop) : evF G_r8_all (Lfp G_r8_all tb_r8_all) c_r8_all (VSs.enc e_r8_all.A (x0, ())) (dq e_r8_all.R Q) = (
  Q (((x0.1 == 0) && (x0.2.1 == 65535)), ())) := by kernel_rfl
theorem au_r8_all (x0 : PortRangeT) (Q : Bool × Unit → Prop) : evF G_r8_all (Lfp G_r8_all tb_r8_all) c_r8_all (VSs.enc e_r8_all.A (x0, ())) (dq e_r8_all.R Q) = Q (e_r8_all.g (x0, ())) := (in_r8_all x0 Q).trans rfl
/-! netverify/netverifyref8.ValidRule -/
def G_r8_ValidRule : List Ent := [e_r8_within, e_r8_ports, e_r8_all]
def c_r8_ValidRule : AFunc := AFunc.mk 57 1 [(.t 2)] (.seq (.region [(.mk (some 1) none (.box (.t 0))), (.mk (some 2) none (.mov (.c (.f (.bool false)))))] []) (.seq (.seq (.region [(.mk (some 3) none (.fld 1 (.t 1))), (.mk (some 4) none (.load false 1 (.t 3))), (.mk (some 5) none (.call 44 [(.t 4), (.c (.f (.int .i64 (-1)))), (.c (.f (.int .i64 255)))])), (.mk (some 6) none (.un .not (.t 5))), (.mk (some 7) none (.mov (.t 6))), (.mk (some 8) (some (7, false)) (.fld 2 (.t 1))), (.mk (some 9) (some (7, false)) (.fld 0 (.t 8))), (.mk (some 10) (some (7, false)) (.load false 1 (.t 9))), (.mk (some 11) (some (7, false)) (.fld 2 (.t 1))), (.mk (some 12) (some (7, false)) (.fld 1 (.t 11))), (.mk (some 13) (some (7, false)) (.load false 1 (.t 12))), (.mk (some 14) (some (7, false)) (.bin .and (.t 10) (.t 13))), (.mk (some 15) (some (7, false)) (.bin .neq (.t 14) (.c (.f (.int .u32 0))))), (.mk (some 16) none (.pick 7 (.c (.f (.bool true))) (.t 15))), (.mk (some 17) none (.mov (.t 16))), (.mk (some 18) (some (17, false)) (.fld 4 (.t 1))), (.mk (some 19) (some (17, false)) (.fld 0 (.t 18))), (.mk (some 20) (some (17, false)) (.load false 1 (.t 19))), (.mk (some 21) (some (17, false)) (.fld 4 (.t 1))), (.mk (some 22) (some (17, false)) (.fld 1 (.t 21))), (.mk (some 23) (some (17, false)) (.load false 1 (.t 22))), (.mk (some 24) (some (17, false)) (.bin .and (.t 20) (.t 23))), (.mk (some 25) (some (17, false)) (.bin .neq (.t 24) (.c (.f (.int .u32 0))))), (.mk (some 26) none (.pick 17 (.c (.f (.bool true))) (.t 25))), (.mk (some 27) none (.mov (.t 26))), (.mk (some 28) (some (27, false)) (.fld 6 (.t 1))), (.mk (some 29) (some (27, false)) (.load true 2 (.t 28))), (.mk (some 30) (some (27, false)) (.call 70 [(.t 29)])), (.mk (some 31) (some (27, false)) (.un .not (.t 30))), (.mk (some 32) none (.pick 27 (.c (.f (.bool true))) (.t 31))), (.mk (some 33) none (.mov (.t 32))), (.mk (some 34) (some (33, false)) (.fld 8 (.t 1))), (.mk (some 35) (some (33, false)) (.load true 2 (.t 34))), (.mk (some 36) (some (33, false)) (.call 70 [(.t 35)])), (.mk (some 37) (some (33, false)) (.un .not (.t 36))), (.mk (some 38) none (.pick 33 (.c (.f (.bool true))) (.t 37)))] []) (.cond 38 (.seq (.region [(.mk (some 2) none (.mov (.c (.f (.bool false)))))] []) .ret) .skip)) (.seq (.region [(.mk (some 39) none (.fld 1 (.t 1))), (.mk (some 40) none (.load false 1 (.t 39))), (.mk (some 41) none (.bin .eql (.t 40) (.c (.f (.int .i64 6))))), (.mk (some 42) none (.mov (.t 41))), (.mk (some 43) (some (42, false)) (.fld 1 (.t 1))), (.mk (some 44) (some (42, false)) (.load false 1 (.t 43))), (.mk (some 45) (some (42, false)) (.bin .eql (.t 44) (.c (.f (.int .i64 17))))), (.mk (some 46) none (.pick 42 (.c (.f (.bool true))) (.t 45))), (.mk (some 47) none (.mov (.t 46))), (.mk (some 48) (some (47, false)) (.fld 6 (.t 1))), (.mk (some 49) (some (47, false)) (.load true 2 (.t 48))), (.mk (some 50) (some (47, false)) (.call 71 [(.t 49)])), (.mk (some 51) (some (47, false)) (.mov (.t 50))), (.mk (some 52) (some (51, true)) (.fld 8 (.t 1))), (.mk (some 53) (some (51, true)) (.load true 2 (.t 52))), (.mk (some 54) (some (51, true)) (.call 71 [(.t 53)])), (.mk (some 55) (some (47, false)) (.pick 51 (.t 54) (.c (.f (.bool false))))), (.mk (some 56) none (.pick 47 (.c (.f (.bool true))) (.t 55))), (.mk (some 2) none (.mov (.t 56)))] []) .ret)))
def tb_r8_ValidRule : Tbl := fun _ => ([], .skip)
theorem ok_r8_ValidRule : compF Try.prog Try.f62 = some c_r8_ValidRule.strip := by kernel_rfl
theorem tk_r8_ValidRule : TblOk tb_r8_ValidRule c_r8_ValidRule.body := ⟨trivial, ⟨⟨trivial, ⟨⟨trivial, trivial⟩, trivial⟩⟩, ⟨trivial, trivial⟩⟩⟩
theorem in_r8_ValidRule (x0 : RuleT) (Q : Bool × Unit → Prop) : evF G_r8_ValidRule (Lfp G_r8_ValidRule tb_r8_ValidRule) c_r8_ValidRule (VSs.enc e_r8_ValidRule.A (x0, ())) (dq e_r8_ValidRule.R Q) = (
  cond (((((!(g_r8_within x0.2.1 (-1) 255)) || ((iand .u32 x0.2.2.1 x0.2.2.2.1) != 0)) || ((iand .u32 x0.2.2.2.2.1 x0.2.2.2.2.2.1) != 0)) || (!(g_r8_ports (x0.2.2.2.2.2.2.1, x0.2.2.2.2.2.2.2.1, ())))) || (!(g_r8_ports x0.2.2.2.2.2.2.2.2)))
  (Q (false, ()))
  (Q ((((x0.2.1 == 6) || (x0.2.1 == 17)) || ((g_r8_all (x0.2.2.2.2.2.2.1, x0.2.2.2.2.2.2.2.1, ())) && (g_r8_all x0.2.2.2.2.2.2.2.2))), ()))) := by kernel_rfl
theorem au_r8_ValidRule (x0 : RuleT) (Q : Bool × Unit → Prop) : evF G_r8_ValidRule (Lfp G_r8_ValidRule tb_r8_ValidRule) c_r8_ValidRule (VSs.enc e_r8_ValidRule.A (x0, ())) (dq e_r8_ValidRule.R Q) = Q (e_r8_ValidRule.g (x0, ())) := (in_r8_ValidRule x0 Q).trans (cond_q (F := fun y : Bool => Q (y, ())) rfl rfl)
/-! netverify/netverifyref8.accessLists -/
def G_r8_accessLists : List Ent := [e_r4_Name, e_r8_ValidRule]
def b_r8_accessLists_1 : ACode := (.seq (.seq (.region [(.mk (some 22) none (.mov (.t 4))), (.mk (some 23) none (.mov (.t 3))), (.mk (some 24) none (.bin .lss (.t 22) (.t 23)))] []) (.cond 24 .skip (.exit 2))) (.seq (.block 3 (.seq (.region [(.mk (some 27) none (.mov (.t 0))), (.mk (some 28) none (.mov (.t 4))), (.mk (some 29) none (.ixa 2 (.t 27) (.t 28))), (.mk (some 30) none (.fld 0 (.t 29))), (.mk (some 31) none (.load false 1 (.t 30))), (.mk (some 32) none (.mov (.t 0))), (.mk (some 33) none (.mov (.t 3))), (.mk (some 34) none (.ixa 2 (.t 32) (.t 33))), (.mk (some 35) none (.fld 0 (.t 34))), (.mk (some 36) none (.load false 1 (.t 35))), (.mk (some 37) none (.bin .eql (.t 31) (.t 36)))] []) (.cond 37 (.seq (.region [(.mk (some 2) none (.mov (.c (.f (.int .i64 4)))))] []) .ret) .skip))) (.region [(.mk (some 25) none (.mov (.t 4))), (.mk (some 26) none (.bin .add (.t 25) (.c (.f (.int .i64 1))))), (.mk (some 4) none (.mov (.t 26)))] [])))
def b_r8_accessLists_2 : ACode := (.seq (.seq (.region [(.mk (some 52) none (.mov (.t 5))), (.mk (some 53) none (.mov (.t 0))), (.mk (some 54) none (.mov (.t 3))), (.mk (some 55) none (.ixa 2 (.t 53) (.t 54))), (.mk (some 56) none (.fld 1 (.t 55))), (.mk (some 57) none (.load false 1 (.t 56))), (.mk (some 58) none (.len (.t 57))), (.mk (some 59) none (.bin .lss (.t 52) (.t 58)))] []) (.cond 59 .skip (.exit 4))) (.seq (.block 5 (.seq (.region [(.mk (some 62) none (.mov (.t 0))), (.mk (some 63) none (.mov (.t 3))), (.mk (some 64) none (.ixa 2 (.t 62) (.t 63))), (.mk (some 65) none (.fld 1 (.t 64))), (.mk (some 66) none (.load false 1 (.t 65))), (.mk (some 67) none (.mov (.t 5))), (.mk (some 68) none (.ixa 10 (.t 66) (.t 67))), (.mk (some 69) none (.load true 10 (.t 68))), (.mk (some 70) none (.call 62 [(.t 69)])), (.mk (some 71) none (.un .not (.t 70)))] []) (.cond 71 (.seq (.region [(.mk (some 2) none (.mov (.c (.f (.int .i64 1)))))] []) .ret) .skip))) (.region [(.mk (some 60) none (.mov (.t 5))), (.mk (some 61) none (.bin .add (.t 60) (.c (.f (.int .i64 1))))), (.mk (some 5) none (.mov (.t 61)))] [])))
def r_r8_accessLists_0 : ACode := (.seq (.seq (.region [(.mk (some 38) none (.mov (.t 0))), (.mk (some 39) none (.mov (.t 3))), (.mk (some 40) none (.ixa 2 (.t 38) (.t 39))), (.mk (some 41) none (.fld 1 (.t 40))), (.mk (some 42) none (.load false 1 (.t 41))), (.mk (some 43) none (.len (.t 42))), (.mk (some 44) none (.bin .eql (.t 43) (.c (.f (.int .i64 0)))))] []) (.cond 44 (.seq (.region [(.mk (some 2) none (.mov (.c (.f (.int .i64 1)))))] []) .ret) .skip)) (.seq (.seq (.region [(.mk (some 45) none (.mov (.t 0))), (.mk (some 46) none (.mov (.t 3))), (.mk (some 47) none (.ixa 2 (.t 45) (.t 46))), (.mk (some 48) none (.fld 1 (.t 47))), (.mk (some 49) none (.load false 1 (.t 48))), (.mk (some 50) none (.len (.t 49))), (.mk (some 51) none (.bin .gtr (.t 50) (.c (.f (.int .i64 16)))))] []) (.cond 51 (.seq (.region [(.mk (some 2) none (.mov (.c (.f (.int .i64 7)))))] []) .ret) .skip)) (.seq (.region [(.mk (some 5) none (.mov (.c (.f (.int .i64 0)))))] []) (.block 4 (.loop 2 [(0, none), (3, none), (5, none)] b_r8_accessLists_2)))))
def r_r8_accessLists_1 : ACode := (.region [(.mk (some 13) none (.mov (.t 3))), (.mk (some 14) none (.bin .add (.t 13) (.c (.f (.int .i64 1))))), (.mk (some 3) none (.mov (.t 14)))] [])
def b_r8_accessLists_0 : ACode := (.seq (.seq (.region [(.mk (some 9) none (.mov (.t 3))), (.mk (some 10) none (.mov (.t 0))), (.mk (some 11) none (.len (.t 10))), (.mk (some 12) none (.bin .lss (.t 9) (.t 11)))] []) (.cond 12 .skip (.exit 0))) (.seq (.block 1 (.seq (.seq (.region [(.mk (some 15) none (.mov (.t 0))), (.mk (some 16) none (.mov (.t 3))), (.mk (some 17) none (.ixa 2 (.t 15) (.t 16))), (.mk (some 18) none (.fld 0 (.t 17))), (.mk (some 19) none (.load false 1 (.t 18))), (.mk (some 20) none (.call 43 [(.t 19)])), (.mk (some 21) none (.un .not (.t 20)))] []) (.cond 21 (.seq (.region [(.mk (some 2) none (.mov (.c (.f (.int .i64 3)))))] []) .ret) .skip)) (.seq (.seq (.region [(.mk (some 4) none (.mov (.c (.f (.int .i64 0)))))] []) (.block 2 (.loop 1 [(0, none), (3, none), (4, none)] b_r8_accessLists_1))) r_r8_accessLists_0))) r_r8_accessLists_1))
def r_r8_accessLists_2 : ACode := (.seq (.region [(.mk (some 2) none (.mov (.c (.f (.int .i64 0)))))] []) .ret)
def c_r8_accessLists : AFunc := AFunc.mk 72 1 [(.t 2)] (.seq (.region [(.mk (some 2) none (.mov (.c (.f (.int .i64 0)))))] []) (.seq (.seq (.region [(.mk (some 6) none (.mov (.t 0))), (.mk (some 7) none (.len (.t 6))), (.mk (some 8) none (.bin .gtr (.t 7) (.c (.f (.int .i64 8)))))] []) (.cond 8 (.seq (.region [(.mk (some 2) none (.mov (.c (.f (.int .i64 7)))))] []) .ret) .skip)) (.seq (.seq (.region [(.mk (some 3) none (.mov (.c (.f (.int .i64 0)))))] []) (.block 0 (.loop 0 [(0, none), (3, none)] b_r8_accessLists_0))) r_r8_accessLists_2)))
def tb_r8_accessLists : Tbl
  | 0 => ([(0, none), (3, none)], b_r8_accessLists_0)
  | 1 => ([(0, none), (3, none), (4, none)], b_r8_accessLists_1)
  | 2 => ([(0, none), (3, none), (5, none)], b_r8_accessLists_2)
  | _ => ([], .skip)
theorem ok_r8_accessLists : compF Try.prog Try.f48 = some c_r8_accessLists.strip := by kernel_rfl
theorem tk_r8_accessLists : TblOk tb_r8_accessLists c_r8_accessLists.body := ⟨trivial, ⟨⟨trivial, ⟨⟨trivial, trivial⟩, trivial⟩⟩, ⟨⟨trivial, ⟨rfl, ⟨⟨trivial, ⟨trivial, trivial⟩⟩, ⟨⟨⟨trivial, ⟨⟨trivial, trivial⟩, trivial⟩⟩, ⟨⟨trivial, ⟨rfl, ⟨⟨trivial, ⟨trivial, trivial⟩⟩, ⟨⟨trivial, ⟨⟨trivial, trivial⟩, trivial⟩⟩, trivial⟩⟩⟩⟩, ⟨⟨trivial, ⟨⟨trivial, trivial⟩, trivial⟩⟩, ⟨⟨trivial, ⟨⟨trivial, trivial⟩, trivial⟩⟩, ⟨trivial, ⟨rfl, ⟨⟨trivial, ⟨trivial, trivial⟩⟩, ⟨⟨trivial, ⟨⟨trivial, trivial⟩, trivial⟩⟩, trivial⟩⟩⟩⟩⟩⟩⟩⟩, trivial⟩⟩⟩⟩, ⟨trivial, trivial⟩⟩⟩⟩
def k_r8_accessLists_0 (Q : Int × Unit → Prop) : K := (kBlock 0 (kSeq (evC G_r8_accessLists (Lfp G_r8_accessLists tb_r8_accessLists) r_r8_accessLists_2) (kDone c_r8_accessLists (dq e_r8_accessLists.R Q))))
def s_r8_accessLists_0 (l : List ACLT) (v0 : Int) : St := ⟨[(0, [], .f (.fs ACLS l)), (3, [], .f (.int .i64 v0))], []⟩
def L_r8_accessLists_0 (l : List ACLT) (v0 : Int) (Q : Int × Unit → Prop) : Prop := Lfp G_r8_accessLists tb_r8_accessLists 0 (s_r8_accessLists_0 l v0) (k_r8_accessLists_0 Q)
def k_r8_accessLists_1 (Q : Int × Unit → Prop) : K := (kBlock 2 (kSeq (evC G_r8_accessLists (Lfp G_r8_accessLists tb_r8_accessLists) r_r8_accessLists_0) (kBlock 1 (kSeq (evC G_r8_accessLists (Lfp G_r8_accessLists tb_r8_accessLists) r_r8_accessLists_1) (kLoop [(0, none), (3, none)] (Lfp G_r8_accessLists tb_r8_accessLists 0) (k_r8_accessLists_0 Q))))))
def s_r8_accessLists_1 (l : List ACLT) (v0 : Int) (v1 : Int) : St := ⟨[(0, [], .f (.fs ACLS l)), (3, [], .f (.int .i64 v0)), (4, [], .f (.int .i64 v1))], []⟩
def L_r8_accessLists_1 (l : List ACLT) (v0 : Int) (v1 : Int) (Q : Int × Unit → Prop) : Prop := Lfp G_r8_accessLists tb_r8_accessLists 1 (s_r8_accessLists_1 l v0 v1) (k_r8_accessLists_1 Q)
def k_r8_accessLists_2 (Q : Int × Unit → Prop) : K := (kBlock 4 (kBlock 1 (kSeq (evC G_r8_accessLists (Lfp G_r8_accessLists tb_r8_accessLists) r_r8_accessLists_1) (kLoop [(0, none), (3, none)] (Lfp G_r8_accessLists tb_r8_accessLists 0) (k_r8_accessLists_0 Q)))))
def s_r8_accessLists_2 (l : List ACLT) (v0 : Int) (v1 : Int) : St := ⟨[(0, [], .f (.fs ACLS l)), (3, [], .f (.int .i64 v1)), (5, [], .f (.int .i64 v0))], []⟩
def L_r8_accessLists_2 (l : List ACLT) (v0 : Int) (v1 : Int) (Q : Int × Unit → Prop) : Prop := Lfp G_r8_accessLists tb_r8_accessLists 2 (s_r8_accessLists_2 l v0 v1) (k_r8_accessLists_2 Q)
theorem in_r8_accessLists (l : List ACLT) (Q : Int × Unit → Prop) : evF G_r8_accessLists (Lfp G_r8_accessLists tb_r8_accessLists) c_r8_accessLists (VSs.enc e_r8_accessLists.A (l, ())) (dq e_r8_accessLists.R Q) = (
  cond (decide ((l.length : Int) > 8))
  (Q (7, ()))
  (L_r8_accessLists_0 l 0 Q)) := by kernel_rfl
theorem rd_r8_accessLists_0 (l : List ACLT) (v0 : Int) (Q : Int × Unit → Prop) (h :
  cond (decide (v0 < (l.length : Int)))
  (cond ((okIx v0 (l.length : Int)) && true)
    (cond (!(g_r4_Name (List.getD l (Int.toNat v0) ACLD).1))
      (Q (3, ()))
      (L_r8_accessLists_1 l v0 0 Q))
    False)
  (Q (0, ()))) : L_r8_accessLists_0 l v0 Q := Lfp.step ((by kernel_rfl : evC G_r8_accessLists (Lfp G_r8_accessLists tb_r8_accessLists) (tb_r8_accessLists 0).2 (s_r8_accessLists_0 l v0) (kLoop (tb_r8_accessLists 0).1 (Lfp G_r8_accessLists tb_r8_accessLists 0) (k_r8_accessLists_0 Q)) = (
  cond (decide (v0 < (l.length : Int)))
  (cond ((okIx v0 (l.length : Int)) && true)
    (cond (!(g_r4_Name (List.getD l (Int.toNat v0) ACLD).1))
      (Q (3, ()))
      (L_r8_accessLists_1 l v0 0 Q))
    False)
  (Q (0, ())))).symm ▸ h)
theorem rd_r8_accessLists_1 (l : List ACLT) (v0 : Int) (v1 : Int) (Q : Int × Unit → Prop) (h :
  cond (decide (v1 < v0))
  (cond ((okIx v1 (l.length : Int)) && (okIx v0 (l.length : Int)))
    (cond ((List.getD l (Int.toNat v1) ACLD).1 == (List.getD l (Int.toNat v0) ACLD).1)
      (Q (4, ()))
      (L_r8_accessLists_1 l v0 (IntKind.wrap .i64 (v1 + 1)) Q))
    False)
  (cond (okIx v0 (l.length : Int))
    (cond (((List.getD l (Int.toNat v0) ACLD).2.1.length : Int) == 0)
      (Q (1, ()))
      (cond (okIx v0 (l.length : Int))
        (cond (decide (((List.getD l (Int.toNat v0) ACLD).2.1.length : Int) > 16))
          (Q (7, ()))
          (L_r8_accessLists_2 l 0 v0 Q))
        False))
    False)) : L_r8_accessLists_1 l v0 v1 Q := Lfp.step ((by kernel_rfl : evC G_r8_accessLists (Lfp G_r8_accessLists tb_r8_accessLists) (tb_r8_accessLists 1).2 (s_r8_accessLists_1 l v0 v1) (kLoop (tb_r8_accessLists 1).1 (Lfp G_r8_accessLists tb_r8_accessLists 1) (k_r8_accessLists_1 Q)) = (
  cond (decide (v1 < v0))
  (cond ((okIx v1 (l.length : Int)) && (okIx v0 (l.length : Int)))
    (cond ((List.getD l (Int.toNat v1) ACLD).1 == (List.getD l (Int.toNat v0) ACLD).1)
      (Q (4, ()))
      (L_r8_accessLists_1 l v0 (IntKind.wrap .i64 (v1 + 1)) Q))
    False)
  (cond (okIx v0 (l.length : Int))
    (cond (((List.getD l (Int.toNat v0) ACLD).2.1.length : Int) == 0)
      (Q (1, ()))
      (cond (okIx v0 (l.length : Int))
        (cond (decide (((List.getD l (Int.toNat v0) ACLD).2.1.length : Int) > 16))
          (Q (7, ()))
          (L_r8_accessLists_2 l 0 v0 Q))
        False))
    False))).symm ▸ h)
theorem rd_r8_accessLists_2 (l : List ACLT) (v0 : Int) (v1 : Int) (Q : Int × Unit → Prop) (h :
  cond (okIx v1 (l.length : Int))
  (cond (decide (v0 < ((List.getD l (Int.toNat v1) ACLD).2.1.length : Int)))
    (cond (((okIx v1 (l.length : Int)) && (okIx v0 ((List.getD l (Int.toNat v1) ACLD).2.1.length : Int))) && true)
      (cond (!(g_r8_ValidRule (List.getD (List.getD l (Int.toNat v1) ACLD).2.1 (Int.toNat v0) RuleD)))
        (Q (1, ()))
        (L_r8_accessLists_2 l (IntKind.wrap .i64 (v0 + 1)) v1 Q))
      False)
    (L_r8_accessLists_0 l (IntKind.wrap .i64 (v1 + 1)) Q))
  False) : L_r8_accessLists_2 l v0 v1 Q := Lfp.step ((by kernel_rfl : evC G_r8_accessLists (Lfp G_r8_accessLists tb_r8_accessLists) (tb_r8_accessLists 2).2 (s_r8_accessLists_2 l v0 v1) (kLoop (tb_r8_accessLists 2).1 (Lfp G_r8_accessLists tb_r8_accessLists 2) (k_r8_accessLists_2 Q)) = (
  cond (okIx v1 (l.length : Int))
  (cond (decide (v0 < ((List.getD l (Int.toNat v1) ACLD).2.1.length : Int)))
    (cond (((okIx v1 (l.length : Int)) && (okIx v0 ((List.getD l (Int.toNat v1) ACLD).2.1.length : Int))) && true)
      (cond (!(g_r8_ValidRule (List.getD (List.getD l (Int.toNat v1) ACLD).2.1 (Int.toNat v0) RuleD)))
        (Q (1, ()))
        (L_r8_accessLists_2 l (IntKind.wrap .i64 (v0 + 1)) v1 Q))
      False)
    (L_r8_accessLists_0 l (IntKind.wrap .i64 (v1 + 1)) Q))
  False)).symm ▸ h)
theorem lp_r8_accessLists_2 (l : List ACLT) (c0 : Nat) (next0 : Int) (Q : Int × Unit → Prop) (hw : VSs.wf e_r8_accessLists.A (l, ())) (hc0 : c0 < l.length) (hn0 : (fun y : Int => Q (y, ())) next0 → L_r8_accessLists_0 l (IntKind.wrap .i64 ((c0 : Int) + 1)) Q) (g0 : (decide ((l.length : Int) > 8)) = false) : (fun y : Int => Q (y, ())) (S_r8_accessLists_2 l c0 next0) → L_r8_accessLists_2 l 0 (c0 : Int) Q := by
  have _ := hw
  have _ := g0
  have _ := hc0
  let FF := (fun y : Int => Q (y, ()))
  refine upV_loop (F := FF) (k := .i64) (L := (fun c2 : Int => L_r8_accessLists_2 l c2 (c0 : Int) Q)) (wrap_i64n (show _ ≤ _ from (((wf_getD (hw.1) _).2).1).1)) (fun c2 hc2 hF => rd_r8_accessLists_2 l (c2 : Int) (c0 : Int) Q (vc_i (by first | ((repeat' (first | rfl | exact nn_d64 _ | exact okIx_nat hc0 | refine and_t ?_ ?_ | refine or_l ?_)); done) | (simp [-List.getD_eq_getElem?_getD, okIx_nat hc0, nn_u64, nn_u32]; done) | (simp [-List.getD_eq_getElem?_getD, okIx_nat hc0, nn_u64, nn_u32, g0]; done) | (have hry : roomy = 1048576 := rfl; simp [-List.getD_eq_getElem?_getD, okIx, okSlc, okApp, len_slcL, len_segL] at g0 ⊢ <;> omega)) /- 2 -/ (cond_ge (n := (List.getD l c0 ACLD).2.1.length) rfl hc2 (hn0 hF)))) (fun c2 _ hc2 next2 hn2 hF => rd_r8_accessLists_2 l (c2 : Int) (c0 : Int) Q (vc_i (by first | ((repeat' (first | rfl | exact nn_d64 _ | exact okIx_nat hc0 | refine and_t ?_ ?_ | refine or_l ?_)); done) | (simp [-List.getD_eq_getElem?_getD, okIx_nat hc0, nn_u64, nn_u32]; done) | (simp [-List.getD_eq_getElem?_getD, okIx_nat hc0, nn_u64, nn_u32, g0]; done) | (have hry : roomy = 1048576 := rfl; simp [-List.getD_eq_getElem?_getD, okIx, okSlc, okApp, len_slcL, len_segL] at g0 ⊢ <;> omega)) /- 3 -/ (cond_lt (n := (List.getD l c0 ACLD).2.1.length) rfl hc2 ((vc_f (F := FF) (by first | ((repeat' (first | rfl | exact nn_d64 _ | exact okIx_nat hc0 | exact okIx_nat hc2 | refine and_t ?_ ?_ | refine or_l ?_)); done) | (simp [-List.getD_eq_getElem?_getD, okIx_nat hc0, okIx_nat hc2, nn_u64, nn_u32]; done) | (simp [-List.getD_eq_getElem?_getD, okIx_nat hc0, okIx_nat hc2, nn_u64, nn_u32, g0]; done) | (have hry : roomy = 1048576 := rfl; simp [-List.getD_eq_getElem?_getD, okIx, okSlc, okApp, len_slcL, len_segL] at g0 ⊢ <;> omega)) /- 1 -/ (cond_f (F := FF) (fun h1 => id) (fun h1 => hn2))) hF))))
theorem lp_r8_accessLists_1 (l : List ACLT) (c0 : Nat) (next0 : Int) (Q : Int × Unit → Prop) (hw : VSs.wf e_r8_accessLists.A (l, ())) (hc0 : c0 < l.length) (hn0 : (fun y : Int => Q (y, ())) next0 → L_r8_accessLists_0 l (IntKind.wrap .i64 ((c0 : Int) + 1)) Q) (g0 : (decide ((l.length : Int) > 8)) = false) : (fun y : Int => Q (y, ())) (S_r8_accessLists_1 l c0 next0) → L_r8_accessLists_1 l (c0 : Int) 0 Q := by
  have _ := hw
  have _ := g0
  have _ := hc0
  let FF := (fun y : Int => Q (y, ()))
  refine upV_loop (F := FF) (k := .i64) (L := (fun c1 : Int => L_r8_accessLists_1 l (c0 : Int) c1 Q)) (wrap_i64n (Nat.le_trans (Nat.le_of_lt hc0) (show _ ≤ _ from (hw.1).1))) (fun c1 hc1 hF => rd_r8_accessLists_1 l (c0 : Int) (c1 : Int) Q (cond_ge (n := c0) rfl hc1 ((vc_f (F := FF) (by first | ((repeat' (first | rfl | exact nn_d64 _ | exact okIx_nat hc0 | exact okIx_nat hc1 | exact okIx_nat (Nat.lt_trans hc1 hc0) | refine and_t ?_ ?_ | refine or_l ?_)); done) | (simp [-List.getD_eq_getElem?_getD, okIx_nat hc0, okIx_nat hc1, okIx_nat (Nat.lt_trans hc1 hc0), nn_u64, nn_u32]; done) | (simp [-List.getD_eq_getElem?_getD, okIx_nat hc0, okIx_nat hc1, okIx_nat (Nat.lt_trans hc1 hc0), nn_u64, nn_u32, g0]; done) | (have hry : roomy = 1048576 := rfl; simp [-List.getD_eq_getElem?_getD, okIx, okSlc, okApp, len_slcL, len_segL] at g0 ⊢ <;> omega)) /- 5 -/ (cond_f (F := FF) (fun h1 => id) (fun h1 => (vc_f (F := FF) (by first | ((repeat' (first | rfl | exact nn_d64 _ | exact okIx_nat hc0 | exact okIx_nat hc1 | exact okIx_nat (Nat.lt_trans hc1 hc0) | refine and_t ?_ ?_ | refine or_l ?_)); done) | (simp [-List.getD_eq_getElem?_getD, okIx_nat hc0, okIx_nat hc1, okIx_nat (Nat.lt_trans hc1 hc0), nn_u64, nn_u32]; done) | (simp [-List.getD_eq_getElem?_getD, okIx_nat hc0, okIx_nat hc1, okIx_nat (Nat.lt_trans hc1 hc0), nn_u64, nn_u32, g0, h1]; done) | (have hry : roomy = 1048576 := rfl; simp [-List.getD_eq_getElem?_getD, okIx, okSlc, okApp, len_slcL, len_segL] at g0 h1 ⊢ <;> omega)) /- 6 -/ (cond_f (F := FF) (fun h2 => id) (fun h2 => (lp_r8_accessLists_2 l c0 _ Q hw hc0 hn0 g0))))))) hF))) (fun c1 _ hc1 next1 hn1 hF => rd_r8_accessLists_1 l (c0 : Int) (c1 : Int) Q (cond_lt (n := c0) rfl hc1 ((vc_f (F := FF) (by first | ((repeat' (first | rfl | exact nn_d64 _ | exact okIx_nat hc0 | exact okIx_nat hc1 | exact okIx_nat (Nat.lt_trans hc1 hc0) | refine and_t ?_ ?_ | refine or_l ?_)); done) | (simp [-List.getD_eq_getElem?_getD, okIx_nat hc0, okIx_nat hc1, okIx_nat (Nat.lt_trans hc1 hc0), nn_u64, nn_u32]; done) | (simp [-List.getD_eq_getElem?_getD, okIx_nat hc0, okIx_nat hc1, okIx_nat (Nat.lt_trans hc1 hc0), nn_u64, nn_u32, g0]; done) | (have hry : roomy = 1048576 := rfl; simp [-List.getD_eq_getElem?_getD, okIx, okSlc, okApp, len_slcL, len_segL] at g0 ⊢ <;> omega)) /- 4 -/ (cond_f (F := FF) (fun h1 => id) (fun h1 => hn1))) hF)))
theorem lp_r8_accessLists_0 (l : List ACLT) (Q : Int × Unit → Prop) (hw : VSs.wf e_r8_accessLists.A (l, ()))  (g0 : (decide ((l.length : Int) > 8)) = false) : (fun y : Int => Q (y, ())) (S_r8_accessLists_0 l) → L_r8_accessLists_0 l 0 Q := by
  have _ := hw
  have _ := g0
  let FF := (fun y : Int => Q (y, ()))
  refine upV_loop (F := FF) (k := .i64) (L := (fun c0 : Int => L_r8_accessLists_0 l c0 Q)) (wrap_i64n (show _ ≤ _ from (hw.1).1)) (fun c0 hc0 hF => rd_r8_accessLists_0 l (c0 : Int) Q (cond_ge (n := l.length) rfl hc0 (id hF))) (fun c0 _ hc0 next0 hn0 hF => rd_r8_accessLists_0 l (c0 : Int) Q (cond_lt (n := l.length) rfl hc0 ((vc_f (F := FF) (by first | ((repeat' (first | rfl | exact nn_d64 _ | exact okIx_nat hc0 | refine and_t ?_ ?_ | refine or_l ?_)); done) | (simp [-List.getD_eq_getElem?_getD, okIx_nat hc0, nn_u64, nn_u32]; done) | (simp [-List.getD_eq_getElem?_getD, okIx_nat hc0, nn_u64, nn_u32, g0]; done) | (have hry : roomy = 1048576 := rfl; simp [-List.getD_eq_getElem?_getD, okIx, okSlc, okApp, len_slcL, len_segL] at g0 ⊢ <;> omega)) /- 7 -/ (cond_f (F := FF) (fun h1 => id) (fun h1 => (lp_r8_accessLists_1 l c0 _ Q hw hc0 hn0 g0)))) hF)))
theorem ct_r8_accessLists (l : List ACLT) (hw : VSs.wf e_r8_accessLists.A (l, ())) (Q : Int × Unit → Prop) (hq : Q (e_r8_accessLists.g (l, ()))) : EvF G_r8_accessLists tb_r8_accessLists c_r8_accessLists (VSs.enc e_r8_accessLists.A (l, ())) (dq e_r8_accessLists.R Q) := by
  have _ := hw
  let FF := (fun y : Int => Q (y, ()))
  refine EvF.of (in_r8_accessLists l Q) ?_
  exact (cond_f (F := FF) (fun h0 => id) (fun h0 => (lp_r8_accessLists_0 l Q hw h0))) hq
/-! netverify/netverifyref8.ACL -/
def G_r8_ACL : List Ent := []
def b_r8_ACL_0 : ACode := (.seq (.seq (.region [(.mk (some 6) none (.mov (.t 5))), (.mk (some 7) none (.fld 5 (.t 2))), (.mk (some 8) none (.load false 1 (.t 7))), (.mk (some 9) none (.len (.t 8))), (.mk (some 10) none (.bin .lss (.t 6) (.t 9)))] []) (.cond 10 .skip (.exit 0))) (.seq (.block 1 (.seq (.region [(.mk (some 13) none (.fld 5 (.t 2))), (.mk (some 14) none (.load false 1 (.t 13))), (.mk (some 15) none (.mov (.t 5))), (.mk (some 16) none (.ixa 2 (.t 14) (.t 15))), (.mk (some 17) none (.fld 0 (.t 16))), (.mk (some 18) none (.load false 1 (.t 17))), (.mk (some 19) none (.mov (.t 1))), (.mk (some 20) none (.bin .eql (.t 18) (.t 19)))] []) (.cond 20 (.seq (.region [(.mk (some 21) none (.mov (.t 5))), (.mk (some 4) none (.mov (.t 21)))] []) .ret) .skip))) (.region [(.mk (some 11) none (.mov (.t 5))), (.mk (some 12) none (.bin .add (.t 11) (.c (.f (.int .i64 1))))), (.mk (some 5) none (.mov (.t 12)))] [])))
def r_r8_ACL_0 : ACode := (.seq (.region [(.mk (some 4) none (.mov (.c (.f (.int .i64 (-1))))))] []) .ret)
def c_r8_ACL : AFunc := AFunc.mk 22 2 [(.t 4)] (.seq (.region [(.mk (some 2) none (.box (.t 0))), (.mk (some 4) none (.mov (.c (.f (.int .i64 0)))))] []) (.seq (.seq (.region [(.mk (some 5) none (.mov (.c (.f (.int .i64 0)))))] []) (.block 0 (.loop 0 [(1, none), (2, none), (5, none)] b_r8_ACL_0))) r_r8_ACL_0))
def tb_r8_ACL : Tbl
  | 0 => ([(1, none), (2, none), (5, none)], b_r8_ACL_0)
  | _ => ([], .skip)
theorem ok_r8_ACL : compF Try.prog Try.f63 = some c_r8_ACL.strip := by kernel_rfl
theorem tk_r8_ACL : TblOk tb_r8_ACL c_r8_ACL.body := ⟨trivial, ⟨⟨trivial, ⟨rfl, ⟨⟨trivial, ⟨trivial, trivial⟩⟩, ⟨⟨trivial, ⟨⟨trivial, trivial⟩, trivial⟩⟩, trivial⟩⟩⟩⟩, ⟨trivial, trivial⟩⟩⟩
def k_r8_ACL_0 (Q : Int × Unit → Prop) : K := (kBlock 0 (kSeq (evC G_r8_ACL (Lfp G_r8_ACL tb_r8_ACL) r_r8_ACL_0) (kDone c_r8_ACL (dq e_r8_ACL.R Q))))
def s_r8_ACL_0 (r : RouterT) (name : List UInt8) (v0 : Int) : St := ⟨[(1, [], .f (.str name)), (2, [], .ptr 0 0), (5, [], .f (.int .i64 v0))], [.box [.f (.str r.1), .f (.int .i64 r.2.1), .f (.fs InterfaceS r.2.2.1), .f (.fs PrefixListS r.2.2.2.1), .f (.fs RouteMapS r.2.2.2.2.1), .f (.fs ACLS r.2.2.2.2.2.1), .f (.fs TranslationS r.2.2.2.2.2.2.1), .f (.fs StaticRouteS r.2.2.2.2.2.2.2.1), .f (.bool r.2.2.2.2.2.2.2.2.1), .f (.int .i64 r.2.2.2.2.2.2.2.2.2.1), .f (.fs AreaRangeS r.2.2.2.2.2.2.2.2.2.2.1), .f (.fs RedistS r.2.2.2.2.2.2.2.2.2.2.2.1), .f (.bool r.2.2.2.2.2.2.2.2.2.2.2.2.1), .f (.int .i64 r.2.2.2.2.2.2.2.2.2.2.2.2.2.1), .f (.str r.2.2.2.2.2.2.2.2.2.2.2.2.2.2.1), .f (.str r.2.2.2.2.2.2.2.2.2.2.2.2.2.2.2.1), .f (.fs RedistS r.2.2.2.2.2.2.2.2.2.2.2.2.2.2.2.2.1), .f (.bool r.2.2.2.2.2.2.2.2.2.2.2.2.2.2.2.2.2.1), .f (.int .i64 r.2.2.2.2.2.2.2.2.2.2.2.2.2.2.2.2.2.2.1), .f (.int .i64 r.2.2.2.2.2.2.2.2.2.2.2.2.2.2.2.2.2.2.2.1), .f (.fs NeighborS r.2.2.2.2.2.2.2.2.2.2.2.2.2.2.2.2.2.2.2.2.1), .f (.fs PrefixS r.2.2.2.2.2.2.2.2.2.2.2.2.2.2.2.2.2.2.2.2.2.1), .f (.fs AggregateS r.2.2.2.2.2.2.2.2.2.2.2.2.2.2.2.2.2.2.2.2.2.2.1), .f (.fs ConditionS r.2.2.2.2.2.2.2.2.2.2.2.2.2.2.2.2.2.2.2.2.2.2.2.1), .f (.fs RedistS r.2.2.2.2.2.2.2.2.2.2.2.2.2.2.2.2.2.2.2.2.2.2.2.2.1)]]⟩
def L_r8_ACL_0 (r : RouterT) (name : List UInt8) (v0 : Int) (Q : Int × Unit → Prop) : Prop := Lfp G_r8_ACL tb_r8_ACL 0 (s_r8_ACL_0 r name v0) (k_r8_ACL_0 Q)
theorem in_r8_ACL (r : RouterT) (name : List UInt8) (Q : Int × Unit → Prop) : evF G_r8_ACL (Lfp G_r8_ACL tb_r8_ACL) c_r8_ACL (VSs.enc e_r8_ACL.A (r, name, ())) (dq e_r8_ACL.R Q) = (
  L_r8_ACL_0 r name 0 Q) := by kernel_rfl
theorem rd_r8_ACL_0 (r : RouterT) (name : List UInt8) (v0 : Int) (Q : Int × Unit → Prop) (h :
  cond (decide (v0 < (r.2.2.2.2.2.1.length : Int)))
  (cond (okIx v0 (r.2.2.2.2.2.1.length : Int))
    (cond ((List.getD r.2.2.2.2.2.1 (Int.toNat v0) ACLD).1 == name)
      (Q (v0, ()))
      (L_r8_ACL_0 r name (IntKind.wrap .i64 (v0 + 1)) Q))
    False)
  (Q ((-1), ()))) : L_r8_ACL_0 r name v0 Q := Lfp.step ((by kernel_rfl : evC G_r8_ACL (Lfp G_r8_ACL tb_r8_ACL) (tb_r8_ACL 0).2 (s_r8_ACL_0 r name v0) (kLoop (tb_r8_ACL 0).1 (Lfp G_r8_ACL tb_r8_ACL 0) (k_r8_ACL_0 Q)) = (
  cond (decide (v0 < (r.2.2.2.2.2.1.length : Int)))
  (cond (okIx v0 (r.2.2.2.2.2.1.length : Int))
    (cond ((List.getD r.2.2.2.2.2.1 (Int.toNat v0) ACLD).1 == name)
      (Q (v0, ()))
      (L_r8_ACL_0 r name (IntKind.wrap .i64 (v0 + 1)) Q))
    False)
  (Q ((-1), ())))).symm ▸ h)
theorem lp_r8_ACL_0 (r : RouterT) (name : List UInt8) (Q : Int × Unit → Prop) (hw : VSs.wf e_r8_ACL.A (r, name, ()))  : (fun y : Int => Q (y, ())) (S_r8_ACL_0 r name) → L_r8_ACL_0 r name 0 Q := by
  have _ := hw
  let FF := (fun y : Int => Q (y, ()))
  refine upV_loop (F := FF) (k := .i64) (L := (fun c0 : Int => L_r8_ACL_0 r name c0 Q)) (wrap_i64n (show _ ≤ _ from (((((((hw.1).2).2).2).2).2).1).1)) (fun c0 hc0 hF => rd_r8_ACL_0 r name (c0 : Int) Q (cond_ge (n := r.2.2.2.2.2.1.length) rfl hc0 (id hF))) (fun c0 _ hc0 next0 hn0 hF => rd_r8_ACL_0 r name (c0 : Int) Q (cond_lt (n := r.2.2.2.2.2.1.length) rfl hc0 ((vc_f (F := FF) (by first | ((repeat' (first | rfl | exact nn_d64 _ | exact okIx_nat hc0 | refine and_t ?_ ?_ | refine or_l ?_)); done) | (simp [-List.getD_eq_getElem?_getD, okIx_nat hc0, nn_u64, nn_u32]; done) | (have hry : roomy = 1048576 := rfl; simp [-List.getD_eq_getElem?_getD, okIx, okSlc, okApp, len_slcL, len_segL] <;> omega)) /- 1 -/ (cond_f (F := FF) (fun h0 => id) (fun h0 => hn0))) hF)))
theorem ct_r8_ACL (r : RouterT) (name : List UInt8) (hw : VSs.wf e_r8_ACL.A (r, name, ())) (Q : Int × Unit → Prop) (hq : Q (e_r8_ACL.g (r, name, ()))) : EvF G_r8_ACL tb_r8_ACL c_r8_ACL (VSs.enc e_r8_ACL.A (r, name, ())) (dq e_r8_ACL.R Q) := by
  have _ := hw
  let FF := (fun y : Int => Q (y, ()))
  refine EvF.of (in_r8_ACL r name Q) ?_
  exact (lp_r8_ACL_0 r name Q hw) hq
/-! netverify/netverifyref8.translations -/
def G_r8_translations : List Ent := [e_r8_within, e_r8_ACL]
def b_r8_translations_0 : ACode := (.seq (.seq (.region [(.mk (some 10) none (.mov (.t 3))), (.mk (some 11) none (.fld 6 (.t 1))), (.mk (some 12) none (.load false 1 (.t 11))), (.mk (some 13) none (.len (.t 12))), (.mk (some 14) none (.bin .lss (.t 10) (.t 13)))] []) (.cond 14 .skip (.exit 0))) (.seq (.block 1 (.seq (.region [(.mk (some 17) none (.fld 6 (.t 1))), (.mk (some 18) none (.load false 1 (.t 17))), (.mk (some 19) none (.mov (.t 3))), (.mk (some 20) none (.ixa 9 (.t 18) (.t 19))), (.mk (some 21) none (.load true 9 (.t 20))), (.mk (some 4) none (.alloc [(.f (.int .i64 0)), (.f (.int .u32 0)), (.f (.int .u32 0)), (.f (.int .i64 0)), (.f (.int .i64 0)), (.f (.int .i64 0)), (.f (.str [])), (.f (.int .u32 0)), (.f (.int .u32 0))])), (.mk none none (.store 9 (.t 4) (.t 21)))] []) (.seq (.region [(.mk (some 5) none (.mov (.c (.f (.bool false)))))] []) (.seq (.seq (.region [(.mk (some 22) none (.fld 0 (.t 4))), (.mk (some 23) none (.load false 1 (.t 22)))] []) (.block 2 (.seq (.region [(.mk (some 25) none (.bin .eql (.t 23) (.c (.f (.int .i64 1))))), (.mk (some 24) none (.mov (.t 25)))] []) (.cond 24 (.region [(.mk (some 26) none (.fld 1 (.t 4))), (.mk (some 27) none (.load false 1 (.t 26))), (.mk (some 28) none (.bin .neq (.t 27) (.c (.f (.int .u32 0))))), (.mk (some 29) none (.mov (.t 28))), (.mk (some 30) (some (29, true)) (.fld 2 (.t 4))), (.mk (some 31) (some (29, true)) (.load false 1 (.t 30))), (.mk (some 32) (some (29, true)) (.bin .neq (.t 31) (.c (.f (.int .u32 0))))), (.mk (some 33) none (.pick 29 (.t 32) (.c (.f (.bool false))))), (.mk (some 34) none (.mov (.t 33))), (.mk (some 35) (some (34, true)) (.load true 9 (.t 4))), (.mk (some 36) (some (34, true)) (.fld 0 (.t 4))), (.mk (some 37) (some (34, true)) (.load false 1 (.t 36))), (.mk (some 38) (some (34, true)) (.fld 1 (.t 4))), (.mk (some 39) (some (34, true)) (.load false 1 (.t 38))), (.mk (some 40) (some (34, true)) (.fld 2 (.t 4))), (.mk (some 41) (some (34, true)) (.load false 1 (.t 40))), (.mk (some 42) (some (34, true)) (.build [(.f (.int .i64 0)), (.f (.int .u32 0)), (.f (.int .u32 0)), (.f (.int .i64 0)), (.f (.int .i64 0)), (.f (.int .i64 0)), (.f (.str [])), (.f (.int .u32 0)), (.f (.int .u32 0))] [(0, (1, (.t 37))), (1, (1, (.t 39))), (2, (1, (.t 41)))])), (.mk (some 43) (some (34, true)) (.eqa false [(0, 1), (1, 1), (2, 1), (3, 1), (4, 1), (5, 1), (6, 2), (7, 1), (8, 1)] (.t 35) (.t 42))), (.mk (some 44) none (.pick 34 (.t 43) (.c (.f (.bool false))))), (.mk (some 5) none (.mov (.t 44)))] []) (.seq (.region [(.mk (some 46) none (.bin .eql (.t 23) (.c (.f (.int .i64 2))))), (.mk (some 45) none (.mov (.t 46)))] []) (.cond 45 (.region [(.mk (some 47) none (.fld 7 (.t 4))), (.mk (some 48) none (.load false 1 (.t 47))), (.mk (some 49) none (.bin .neq (.t 48) (.c (.f (.int .u32 0))))), (.mk (some 50) none (.mov (.t 49))), (.mk (some 51) (some (50, true)) (.fld 7 (.t 4))), (.mk (some 52) (some (50, true)) (.load false 1 (.t 51))), (.mk (some 53) (some (50, true)) (.fld 8 (.t 4))), (.mk (some 54) (some (50, true)) (.load false 1 (.t 53))), (.mk (some 55) (some (50, true)) (.bin .leq (.t 52) (.t 54))), (.mk (some 56) none (.pick 50 (.t 55) (.c (.f (.bool false))))), (.mk (some 57) none (.mov (.t 56))), (.mk (some 58) (some (57, true)) (.fld 8 (.t 4))), (.mk (some 59) (some (57, true)) (.load false 1 (.t 58))), (.mk (some 60) (some (57, true)) (.fld 7 (.t 4))), (.mk (some 61) (some (57, true)) (.load false 1 (.t 60))), (.mk (some 62) (some (57, true)) (.bin .sub (.t 59) (.t 61))), (.mk (some 63) (some (57, true)) (.bin .lss (.t 62) (.c (.f (.int .u32 8))))), (.mk (some 64) none (.pick 57 (.t 63) (.c (.f (.bool false))))), (.mk (some 65) none (.mov (.t 64))), (.mk (some 66) (some (65, true)) (.load true 9 (.t 4))), (.mk (some 67) (some (65, true)) (.fld 0 (.t 4))), (.mk (some 68) (some (65, true)) (.load false 1 (.t 67))), (.mk (some 69) (some (65, true)) (.fld 6 (.t 4))), (.mk (some 70) (some (65, true)) (.load false 1 (.t 69))), (.mk (some 71) (some (65, true)) (.fld 7 (.t 4))), (.mk (some 72) (some (65, true)) (.load false 1 (.t 71))), (.mk (some 73) (some (65, true)) (.fld 8 (.t 4))), (.mk (some 74) (some (65, true)) (.load false 1 (.t 73))), (.mk (some 75) (some (65, true)) (.build [(.f (.int .i64 0)), (.f (.int .u32 0)), (.f (.int .u32 0)), (.f (.int .i64 0)), (.f (.int .i64 0)), (.f (.int .i64 0)), (.f (.str [])), (.f (.int .u32 0)), (.f (.int .u32 0))] [(0, (1, (.t 68))), (6, (1, (.t 70))), (7, (1, (.t 72))), (8, (1, (.t 74)))])), (.mk (some 76) (some (65, true)) (.eqa false [(0, 1), (1, 1), (2, 1), (3, 1), (4, 1), (5, 1), (6, 2), (7, 1), (8, 1)] (.t 66) (.t 75))), (.mk (some 77) none (.pick 65 (.t 76) (.c (.f (.bool false))))), (.mk (some 5) none (.mov (.t 77)))] []) (.seq (.region [(.mk (some 79) none (.bin .eql (.t 23) (.c (.f (.int .i64 3))))), (.mk (some 78) none (.mov (.t 79)))] []) (.cond 78 (.region [(.mk (some 80) none (.fld 1 (.t 4))), (.mk (some 81) none (.load false 1 (.t 80))), (.mk (some 82) none (.bin .neq (.t 81) (.c (.f (.int .u32 0))))), (.mk (some 83) none (.mov (.t 82))), (.mk (some 84) (some (83, true)) (.fld 2 (.t 4))), (.mk (some 85) (some (83, true)) (.load false 1 (.t 84))), (.mk (some 86) (some (83, true)) (.bin .neq (.t 85) (.c (.f (.int .u32 0))))), (.mk (some 87) none (.pick 83 (.t 86) (.c (.f (.bool false))))), (.mk (some 88) none (.mov (.t 87))), (.mk (some 89) (some (88, true)) (.fld 3 (.t 4))), (.mk (some 90) (some (88, true)) (.load false 1 (.t 89))), (.mk (some 91) (some (88, true)) (.bin .eql (.t 90) (.c (.f (.int .i64 6))))), (.mk (some 92) (some (88, true)) (.mov (.t 91))), (.mk (some 93) (some (92, false)) (.fld 3 (.t 4))), (.mk (some 94) (some (92, false)) (.load false 1 (.t 93))), (.mk (some 95) (some (92, false)) (.bin .eql (.t 94) (.c (.f (.int .i64 17))))), (.mk (some 96) (some (88, true)) (.pick 92 (.c (.f (.bool true))) (.t 95))), (.mk (some 97) none (.pick 88 (.t 96) (.c (.f (.bool false))))), (.mk (some 98) none (.mov (.t 97))), (.mk (some 99) (some (98, true)) (.fld 4 (.t 4))), (.mk (some 100) (some (98, true)) (.load false 1 (.t 99))), (.mk (some 101) (some (98, true)) (.call 44 [(.t 100), (.c (.f (.int .i64 0))), (.c (.f (.int .i64 65535)))])), (.mk (some 102) none (.pick 98 (.t 101) (.c (.f (.bool false))))), (.mk (some 103) none (.mov (.t 102))), (.mk (some 104) (some (103, true)) (.fld 5 (.t 4))), (.mk (some 105) (some (103, true)) (.load false 1 (.t 104))), (.mk (some 106) (some (103, true)) (.call 44 [(.t 105), (.c (.f (.int .i64 0))), (.c (.f (.int .i64 65535)))])), (.mk (some 107) none (.pick 103 (.t 106) (.c (.f (.bool false))))), (.mk (some 108) none (.mov (.t 107))), (.mk (some 109) (some (108, true)) (.fld 6 (.t 4))), (.mk (some 110) (some (108, true)) (.load false 1 (.t 109))), (.mk (some 111) (some (108, true)) (.bin .eql (.t 110) (.c (.f (.str []))))), (.mk (some 112) none (.pick 108 (.t 111) (.c (.f (.bool false))))), (.mk (some 113) none (.mov (.t 112))), (.mk (some 114) (some (113, true)) (.fld 7 (.t 4))), (.mk (some 115) (some (113, true)) (.load false 1 (.t 114))), (.mk (some 116) (some (113, true)) (.bin .eql (.t 115) (.c (.f (.int .u32 0))))), (.mk (some 117) none (.pick 113 (.t 116) (.c (.f (.bool false))))), (.mk (some 118) none (.mov (.t 117))), (.mk (some 119) (some (118, true)) (.fld 8 (.t 4))), (.mk (some 120) (some (118, true)) (.load false 1 (.t 119))), (.mk (some 121) (some (118, true)) (.bin .eql (.t 120) (.c (.f (.int .u32 0))))), (.mk (some 122) none (.pick 118 (.t 121) (.c (.f (.bool false))))), (.mk (some 5) none (.mov (.t 122)))] []) .skip)))))))) (.seq (.seq (.region [(.mk (some 123) none (.mov (.t 5))), (.mk (some 124) none (.un .not (.t 123)))] []) (.cond 124 (.seq (.region [(.mk (some 2) none (.mov (.c (.f (.int .i64 1)))))] []) .ret) .skip)) (.seq (.region [(.mk (some 125) none (.fld 0 (.t 4))), (.mk (some 126) none (.load false 1 (.t 125))), (.mk (some 127) none (.bin .eql (.t 126) (.c (.f (.int .i64 2))))), (.mk (some 128) none (.mov (.t 127))), (.mk (some 129) (some (128, true)) (.load true 25 (.t 1))), (.mk (some 130) (some (128, true)) (.fld 6 (.t 4))), (.mk (some 131) (some (128, true)) (.load false 1 (.t 130))), (.mk (some 132) (some (128, true)) (.call 63 [(.t 129), (.t 131)])), (.mk (some 133) (some (128, true)) (.bin .lss (.t 132) (.c (.f (.int .i64 0))))), (.mk (some 134) none (.pick 128 (.t 133) (.c (.f (.bool false)))))] []) (.cond 134 (.seq (.region [(.mk (some 2) none (.mov (.c (.f (.int .i64 5)))))] []) .ret) .skip))))))) (.region [(.mk (some 15) none (.mov (.t 3))), (.mk (some 16) none (.bin .add (.t 15) (.c (.f (.int .i64 1))))), (.mk (some 3) none (.mov (.t 16)))] [])))
def r_r8_translations_0 : ACode := (.seq (.region [(.mk (some 2) none (.mov (.c (.f (.int .i64 0)))))] []) .ret)
def c_r8_translations : AFunc := AFunc.mk 135 1 [(.t 2)] (.seq (.region [(.mk (some 1) none (.box (.t 0))), (.mk (some 2) none (.mov (.c (.f (.int .i64 0)))))] []) (.seq (.seq (.region [(.mk (some 6) none (.fld 6 (.t 1))), (.mk (some 7) none (.load false 1 (.t 6))), (.mk (some 8) none (.len (.t 7))), (.mk (some 9) none (.bin .gtr (.t 8) (.c (.f (.int .i64 8)))))] []) (.cond 9 (.seq (.region [(.mk (some 2) none (.mov (.c (.f (.int .i64 7)))))] []) .ret) .skip)) (.seq (.seq (.region [(.mk (some 3) none (.mov (.c (.f (.int .i64 0)))))] []) (.block 0 (.loop 0 [(1, none), (3, none)] b_r8_translations_0))) r_r8_translations_0)))
def tb_r8_translations : Tbl
  | 0 => ([(1, none), (3, none)], b_r8_translations_0)
  | _ => ([], .skip)
theorem ok_r8_translations : compF Try.prog Try.f49 = some c_r8_translations.strip := by kernel_rfl
theorem tk_r8_translations : TblOk tb_r8_translations c_r8_translations.body := ⟨trivial, ⟨⟨trivial, ⟨⟨trivial, trivial⟩, trivial⟩⟩, ⟨⟨trivial, ⟨rfl, ⟨⟨trivial, ⟨trivial, trivial⟩⟩, ⟨⟨trivial, ⟨trivial, ⟨⟨trivial, ⟨trivial, ⟨trivial, ⟨trivial, ⟨trivial, ⟨trivial, ⟨trivial, trivial⟩⟩⟩⟩⟩⟩⟩, ⟨⟨trivial, ⟨⟨trivial, trivial⟩, trivial⟩⟩, ⟨trivial, ⟨⟨trivial, trivial⟩, trivial⟩⟩⟩⟩⟩⟩, trivial⟩⟩⟩⟩, ⟨trivial, trivial⟩⟩⟩⟩
def k_r8_translations_0 (Q : Int × Unit → Prop) : K := (kBlock 0 (kSeq (evC G_r8_translations (Lfp G_r8_translations tb_r8_translations) r_r8_translations_0) (kDone c_r8_translations (dq e_r8_translations.R Q))))
def s_r8_translations_0 (r : RouterT) (v0 : Int) : St := ⟨[(1, [], .ptr 0 0), (3, [], .f (.int .i64 v0))], [.box [.f (.str r.1), .f (.int .i64 r.2.1), .f (.fs InterfaceS r.2.2.1), .f (.fs PrefixListS r.2.2.2.1), .f (.fs RouteMapS r.2.2.2.2.1), .f (.fs ACLS r.2.2.2.2.2.1), .f (.fs TranslationS r.2.2.2.2.2.2.1), .f (.fs StaticRouteS r.2.2.2.2.2.2.2.1), .f (.bool r.2.2.2.2.2.2.2.2.1), .f (.int .i64 r.2.2.2.2.2.2.2.2.2.1), .f (.fs AreaRangeS r.2.2.2.2.2.2.2.2.2.2.1), .f (.fs RedistS r.2.2.2.2.2.2.2.2.2.2.2.1), .f (.bool r.2.2.2.2.2.2.2.2.2.2.2.2.1), .f (.int .i64 r.2.2.2.2.2.2.2.2.2.2.2.2.2.1), .f (.str r.2.2.2.2.2.2.2.2.2.2.2.2.2.2.1), .f (.str r.2.2.2.2.2.2.2.2.2.2.2.2.2.2.2.1), .f (.fs RedistS r.2.2.2.2.2.2.2.2.2.2.2.2.2.2.2.2.1), .f (.bool r.2.2.2.2.2.2.2.2.2.2.2.2.2.2.2.2.2.1), .f (.int .i64 r.2.2.2.2.2.2.2.2.2.2.2.2.2.2.2.2.2.2.1), .f (.int .i64 r.2.2.2.2.2.2.2.2.2.2.2.2.2.2.2.2.2.2.2.1), .f (.fs NeighborS r.2.2.2.2.2.2.2.2.2.2.2.2.2.2.2.2.2.2.2.2.1), .f (.fs PrefixS r.2.2.2.2.2.2.2.2.2.2.2.2.2.2.2.2.2.2.2.2.2.1), .f (.fs AggregateS r.2.2.2.2.2.2.2.2.2.2.2.2.2.2.2.2.2.2.2.2.2.2.1), .f (.fs ConditionS r.2.2.2.2.2.2.2.2.2.2.2.2.2.2.2.2.2.2.2.2.2.2.2.1), .f (.fs RedistS r.2.2.2.2.2.2.2.2.2.2.2.2.2.2.2.2.2.2.2.2.2.2.2.2.1)]]⟩
def L_r8_translations_0 (r : RouterT) (v0 : Int) (Q : Int × Unit → Prop) : Prop := Lfp G_r8_translations tb_r8_translations 0 (s_r8_translations_0 r v0) (k_r8_translations_0 Q)
theorem in_r8_translations (r : RouterT) (Q : Int × Unit → Prop) : evF G_r8_translations (Lfp G_r8_translations tb_r8_translations) c_r8_translations (VSs.enc e_r8_translations.A (r, ())) (dq e_r8_translations.R Q) = (
  cond (decide ((r.2.2.2.2.2.2.1.length : Int) > 8))
  (Q (7, ()))
  (L_r8_translations_0 r 0 Q)) := by kernel_rfl
theorem rd_r8_translations_0 (r : RouterT) (v0 : Int) (Q : Int × Unit → Prop) (h :
  cond (decide (v0 < (r.2.2.2.2.2.2.1.length : Int)))
  (cond (okIx v0 (r.2.2.2.2.2.2.1.length : Int))
    (cond ((List.getD r.2.2.2.2.2.2.1 (Int.toNat v0) TranslationD).1 == 1)
      (cond (!((((List.getD r.2.2.2.2.2.2.1 (Int.toNat v0) TranslationD).2.1 != 0) && ((List.getD r.2.2.2.2.2.2.1 (Int.toNat v0) TranslationD).2.2.1 != 0)) && (((List.getD r.2.2.2.2.2.2.1 (Int.toNat v0) TranslationD).1 == (List.getD r.2.2.2.2.2.2.1 (Int.toNat v0) TranslationD).1) && (((List.getD r.2.2.2.2.2.2.1 (Int.toNat v0) TranslationD).2.1 == (List.getD r.2.2.2.2.2.2.1 (Int.toNat v0) TranslationD).2.1) && (((List.getD r.2.2.2.2.2.2.1 (Int.toNat v0) TranslationD).2.2.1 == (List.getD r.2.2.2.2.2.2.1 (Int.toNat v0) TranslationD).2.2.1) && (((List.getD r.2.2.2.2.2.2.1 (Int.toNat v0) TranslationD).2.2.2.1 == 0) && (((List.getD r.2.2.2.2.2.2.1 (Int.toNat v0) TranslationD).2.2.2.2.1 == 0) && (((List.getD r.2.2.2.2.2.2.1 (Int.toNat v0) TranslationD).2.2.2.2.2.1 == 0) && (((List.getD r.2.2.2.2.2.2.1 (Int.toNat v0) TranslationD).2.2.2.2.2.2.1 == []) && (((List.getD r.2.2.2.2.2.2.1 (Int.toNat v0) TranslationD).2.2.2.2.2.2.2.1 == 0) && ((List.getD r.2.2.2.2.2.2.1 (Int.toNat v0) TranslationD).2.2.2.2.2.2.2.2.1 == 0)))))))))))
        (Q (1, ()))
        (cond (((List.getD r.2.2.2.2.2.2.1 (Int.toNat v0) TranslationD).1 == 2) && (decide ((g_r8_ACL r (List.getD r.2.2.2.2.2.2.1 (Int.toNat v0) TranslationD).2.2.2.2.2.2.1) < 0)))
          (Q (5, ()))
          (L_r8_translations_0 r (IntKind.wrap .i64 (v0 + 1)) Q)))
      (cond ((List.getD r.2.2.2.2.2.2.1 (Int.toNat v0) TranslationD).1 == 2)
        (cond (!(((((List.getD r.2.2.2.2.2.2.1 (Int.toNat v0) TranslationD).2.2.2.2.2.2.2.1 != 0) && (decide ((List.getD r.2.2.2.2.2.2.1 (Int.toNat v0) TranslationD).2.2.2.2.2.2.2.1 ≤ (List.getD r.2.2.2.2.2.2.1 (Int.toNat v0) TranslationD).2.2.2.2.2.2.2.2.1))) && (decide ((IntKind.wrap .u32 ((List.getD r.2.2.2.2.2.2.1 (Int.toNat v0) TranslationD).2.2.2.2.2.2.2.2.1 - (List.getD r.2.2.2.2.2.2.1 (Int.toNat v0) TranslationD).2.2.2.2.2.2.2.1)) < 8))) && (((List.getD r.2.2.2.2.2.2.1 (Int.toNat v0) TranslationD).1 == (List.getD r.2.2.2.2.2.2.1 (Int.toNat v0) TranslationD).1) && (((List.getD r.2.2.2.2.2.2.1 (Int.toNat v0) TranslationD).2.1 == 0) && (((List.getD r.2.2.2.2.2.2.1 (Int.toNat v0) TranslationD).2.2.1 == 0) && (((List.getD r.2.2.2.2.2.2.1 (Int.toNat v0) TranslationD).2.2.2.1 == 0) && (((List.getD r.2.2.2.2.2.2.1 (Int.toNat v0) TranslationD).2.2.2.2.1 == 0) && (((List.getD r.2.2.2.2.2.2.1 (Int.toNat v0) TranslationD).2.2.2.2.2.1 == 0) && (((List.getD r.2.2.2.2.2.2.1 (Int.toNat v0) TranslationD).2.2.2.2.2.2.1 == (List.getD r.2.2.2.2.2.2.1 (Int.toNat v0) TranslationD).2.2.2.2.2.2.1) && (((List.getD r.2.2.2.2.2.2.1 (Int.toNat v0) TranslationD).2.2.2.2.2.2.2.1 == (List.getD r.2.2.2.2.2.2.1 (Int.toNat v0) TranslationD).2.2.2.2.2.2.2.1) && ((List.getD r.2.2.2.2.2.2.1 (Int.toNat v0) TranslationD).2.2.2.2.2.2.2.2.1 == (List.getD r.2.2.2.2.2.2.1 (Int.toNat v0) TranslationD).2.2.2.2.2.2.2.2.1)))))))))))
          (Q (1, ()))
          (cond (((List.getD r.2.2.2.2.2.2.1 (Int.toNat v0) TranslationD).1 == 2) && (decide ((g_r8_ACL r (List.getD r.2.2.2.2.2.2.1 (Int.toNat v0) TranslationD).2.2.2.2.2.2.1) < 0)))
            (Q (5, ()))
            (L_r8_translations_0 r (IntKind.wrap .i64 (v0 + 1)) Q)))
        (cond ((List.getD r.2.2.2.2.2.2.1 (Int.toNat v0) TranslationD).1 == 3)
          (cond (!(((((((((List.getD r.2.2.2.2.2.2.1 (Int.toNat v0) TranslationD).2.1 != 0) && ((List.getD r.2.2.2.2.2.2.1 (Int.toNat v0) TranslationD).2.2.1 != 0)) && (((List.getD r.2.2.2.2.2.2.1 (Int.toNat v0) TranslationD).2.2.2.1 == 6) || ((List.getD r.2.2.2.2.2.2.1 (Int.toNat v0) TranslationD).2.2.2.1 == 17))) && (g_r8_within (List.getD r.2.2.2.2.2.2.1 (Int.toNat v0) TranslationD).2.2.2.2.1 0 65535)) && (g_r8_within (List.getD r.2.2.2.2.2.2.1 (Int.toNat v0) TranslationD).2.2.2.2.2.1 0 65535)) && ((List.getD r.2.2.2.2.2.2.1 (Int.toNat v0) TranslationD).2.2.2.2.2.2.1 == [])) && ((List.getD r.2.2.2.2.2.2.1 (Int.toNat v0) TranslationD).2.2.2.2.2.2.2.1 == 0)) && ((List.getD r.2.2.2.2.2.2.1 (Int.toNat v0) TranslationD).2.2.2.2.2.2.2.2.1 == 0)))
            (Q (1, ()))
            (cond (((List.getD r.2.2.2.2.2.2.1 (Int.toNat v0) TranslationD).1 == 2) && (decide ((g_r8_ACL r (List.getD r.2.2.2.2.2.2.1 (Int.toNat v0) TranslationD).2.2.2.2.2.2.1) < 0)))
              (Q (5, ()))
              (L_r8_translations_0 r (IntKind.wrap .i64 (v0 + 1)) Q)))
          (Q (1, ())))))
    False)
  (Q (0, ()))) : L_r8_translations_0 r v0 Q := Lfp.step ((by kernel_rfl : evC G_r8_translations (Lfp G_r8_translations tb_r8_translations) (tb_r8_translations 0).2 (s_r8_translations_0 r v0) (kLoop (tb_r8_translations 0).1 (Lfp G_r8_translations tb_r8_translations 0) (k_r8_translations_0 Q)) = (
  cond (decide (v0 < (r.2.2.2.2.2.2.1.length : Int)))
  (cond (okIx v0 (r.2.2.2.2.2.2.1.length : Int))
    (cond ((List.getD r.2.2.2.2.2.2.1 (Int.toNat v0) TranslationD).1 == 1)
      (cond (!((((List.getD r.2.2.2.2.2.2.1 (Int.toNat v0) TranslationD).2.1 != 0) && ((List.getD r.2.2.2.2.2.2.1 (Int.toNat v0) TranslationD).2.2.1 != 0)) && (((List.getD r.2.2.2.2.2.2.1 (Int.toNat v0) TranslationD).1 == (List.getD r.2.2.2.2.2.2.1 (Int.toNat v0) TranslationD).1) && (((List.getD r.2.2.2.2.2.2.1 (Int.toNat v0) TranslationD).2.1 == (List.getD r.2.2.2.2.2.2.1 (Int.toNat v0) TranslationD).2.1) && (((List.getD r.2.2.2.2.2.2.1 (Int.toNat v0) TranslationD).2.2.1 == (List.getD r.2.2.2.2.2.2.1 (Int.toNat v0) TranslationD).2.2.1) && (((List.getD r.2.2.2.2.2.2.1 (Int.toNat v0) TranslationD).2.2.2.1 == 0) && (((List.getD r.2.2.2.2.2.2.1 (Int.toNat v0) TranslationD).2.2.2.2.1 == 0) && (((List.getD r.2.2.2.2.2.2.1 (Int.toNat v0) TranslationD).2.2.2.2.2.1 == 0) && (((List.getD r.2.2.2.2.2.2.1 (Int.toNat v0) TranslationD).2.2.2.2.2.2.1 == []) && (((List.getD r.2.2.2.2.2.2.1 (Int.toNat v0) TranslationD).2.2.2.2.2.2.2.1 == 0) && ((List.getD r.2.2.2.2.2.2.1 (Int.toNat v0) TranslationD).2.2.2.2.2.2.2.2.1 == 0)))))))))))
        (Q (1, ()))
        (cond (((List.getD r.2.2.2.2.2.2.1 (Int.toNat v0) TranslationD).1 == 2) && (decide ((g_r8_ACL r (List.getD r.2.2.2.2.2.2.1 (Int.toNat v0) TranslationD).2.2.2.2.2.2.1) < 0)))
          (Q (5, ()))
          (L_r8_translations_0 r (IntKind.wrap .i64 (v0 + 1)) Q)))
      (cond ((List.getD r.2.2.2.2.2.2.1 (Int.toNat v0) TranslationD).1 == 2)
        (cond (!(((((List.getD r.2.2.2.2.2.2.1 (Int.toNat v0) TranslationD).2.2.2.2.2.2.2.1 != 0) && (decide ((List.getD r.2.2.2.2.2.2.1 (Int.toNat v0) TranslationD).2.2.2.2.2.2.2.1 ≤ (List.getD r.2.2.2.2.2.2.1 (Int.toNat v0) TranslationD).2.2.2.2.2.2.2.2.1))) && (decide ((IntKind.wrap .u32 ((List.getD r.2.2.2.2.2.2.1 (Int.toNat v0) TranslationD).2.2.2.2.2.2.2.2.1 - (List.getD r.2.2.2.2.2.2.1 (Int.toNat v0) TranslationD).2.2.2.2.2.2.2.1)) < 8))) && (((List.getD r.2.2.2.2.2.2.1 (Int.toNat v0) TranslationD).1 == (List.getD r.2.2.2.2.2.2.1 (Int.toNat v0) TranslationD).1) && (((List.getD r.2.2.2.2.2.2.1 (Int.toNat v0) TranslationD).2.1 == 0) && (((List.getD r.2.2.2.2.2.2.1 (Int.toNat v0) TranslationD).2.2.1 == 0) && (((List.getD r.2.2.2.2.2.2.1 (Int.toNat v0) TranslationD).2.2.2.1 == 0) && (((List.getD r.2.2.2.2.2.2.1 (Int.toNat v0) TranslationD).2.2.2.2.1 == 0) && (((List.getD r.2.2.2.2.2.2.1 (Int.toNat v0) TranslationD).2.2.2.2.2.1 == 0) && (((List.getD r.2.2.2.2.2.2.1 (Int.toNat v0) TranslationD).2.2.2.2.2.2.1 == (List.getD r.2.2.2.2.2.2.1 (Int.toNat v0) TranslationD).2.2.2.2.2.2.1) && (((List.getD r.2.2.2.2.2.2.1 (Int.toNat v0) TranslationD).2.2.2.2.2.2.2.1 == (List.getD r.2.2.2.2.2.2.1 (Int.toNat v0) TranslationD).2.2.2.2.2.2.2.1) && ((List.getD r.2.2.2.2.2.2.1 (Int.toNat v0) TranslationD).2.2.2.2.2.2.2.2.1 == (List.getD r.2.2.2.2.2.2.1 (Int.toNat v0) TranslationD).2.2.2.2.2.2.2.2.1)))))))))))
          (Q (1, ()))
          (cond (((List.getD r.2.2.2.2.2.2.1 (Int.toNat v0) TranslationD).1 == 2) && (decide ((g_r8_ACL r (List.getD r.2.2.2.2.2.2.1 (Int.toNat v0) TranslationD).2.2.2.2.2.2.1) < 0)))
            (Q (5, ()))
            (L_r8_translations_0 r (IntKind.wrap .i64 (v0 + 1)) Q)))
        (cond ((List.getD r.2.2.2.2.2.2.1 (Int.toNat v0) TranslationD).1 == 3)
          (cond (!(((((((((List.getD r.2.2.2.2.2.2.1 (Int.toNat v0) TranslationD).2.1 != 0) && ((List.getD r.2.2.2.2.2.2.1 (Int.toNat v0) TranslationD).2.2.1 != 0)) && (((List.getD r.2.2.2.2.2.2.1 (Int.toNat v0) TranslationD).2.2.2.1 == 6) || ((List.getD r.2.2.2.2.2.2.1 (Int.toNat v0) TranslationD).2.2.2.1 == 17))) && (g_r8_within (List.getD r.2.2.2.2.2.2.1 (Int.toNat v0) TranslationD).2.2.2.2.1 0 65535)) && (g_r8_within (List.getD r.2.2.2.2.2.2.1 (Int.toNat v0) TranslationD).2.2.2.2.2.1 0 65535)) && ((List.getD r.2.2.2.2.2.2.1 (Int.toNat v0) TranslationD).2.2.2.2.2.2.1 == [])) && ((List.getD r.2.2.2.2.2.2.1 (Int.toNat v0) TranslationD).2.2.2.2.2.2.2.1 == 0)) && ((List.getD r.2.2.2.2.2.2.1 (Int.toNat v0) TranslationD).2.2.2.2.2.2.2.2.1 == 0)))
            (Q (1, ()))
            (cond (((List.getD r.2.2.2.2.2.2.1 (Int.toNat v0) TranslationD).1 == 2) && (decide ((g_r8_ACL r (List.getD r.2.2.2.2.2.2.1 (Int.toNat v0) TranslationD).2.2.2.2.2.2.1) < 0)))
              (Q (5, ()))
              (L_r8_translations_0 r (IntKind.wrap .i64 (v0 + 1)) Q)))
          (Q (1, ())))))
    False)
  (Q (0, ())))).symm ▸ h)
theorem lp_r8_translations_0 (r : RouterT) (Q : Int × Unit → Prop) (hw : VSs.wf e_r8_translations.A (r, ()))  (g0 : (decide ((r.2.2.2.2.2.2.1.length : Int) > 8)) = false) : (fun y : Int => Q (y, ())) (S_r8_translations_0 r) → L_r8_translations_0 r 0 Q := by
  have _ := hw
  have _ := g0
  let FF := (fun y : Int => Q (y, ()))
  refine upV_loop (F := FF) (k := .i64) (L := (fun c0 : Int => L_r8_translations_0 r c0 Q)) (wrap_i64n (show _ ≤ _ from ((((((((hw.1).2).2).2).2).2).2).1).1)) (fun c0 hc0 hF => rd_r8_translations_0 r (c0 : Int) Q (cond_ge (n := r.2.2.2.2.2.2.1.length) rfl hc0 (id hF))) (fun c0 _ hc0 next0 hn0 hF => rd_r8_translations_0 r (c0 : Int) Q (cond_lt (n := r.2.2.2.2.2.2.1.length) rfl hc0 ((vc_f (F := FF) (by first | ((repeat' (first | rfl | exact nn_d64 _ | exact okIx_nat hc0 | refine and_t ?_ ?_ | refine or_l ?_)); done) | (simp [-List.getD_eq_getElem?_getD, okIx_nat hc0, nn_u64, nn_u32]; done) | (simp [-List.getD_eq_getElem?_getD, okIx_nat hc0, nn_u64, nn_u32, g0]; done) | (have hry : roomy = 1048576 := rfl; simp [-List.getD_eq_getElem?_getD, okIx, okSlc, okApp, len_slcL, len_segL] at g0 ⊢ <;> omega)) /- 1 -/ (cond_f (F := FF) (fun h1 => (cond_f (F := FF) (fun h2 => id) (fun h2 => (cond_f (F := FF) (fun h3 => id) (fun h3 => hn0))))) (fun h1 => (cond_f (F := FF) (fun h2 => (cond_f (F := FF) (fun h3 => id) (fun h3 => (cond_f (F := FF) (fun h4 => id) (fun h4 => hn0))))) (fun h2 => (cond_f (F := FF) (fun h3 => (cond_f (F := FF) (fun h4 => id) (fun h4 => (cond_f (F := FF) (fun h5 => id) (fun h5 => hn0))))) (fun h3 => id))))))) hF)))
theorem ct_r8_translations (r : RouterT) (hw : VSs.wf e_r8_translations.A (r, ())) (Q : Int × Unit → Prop) (hq : Q (e_r8_translations.g (r, ()))) : EvF G_r8_translations tb_r8_translations c_r8_translations (VSs.enc e_r8_translations.A (r, ())) (dq e_r8_translations.R Q) := by
  have _ := hw
  let FF := (fun y : Int => Q (y, ()))
  refine EvF.of (in_r8_translations r Q) ?_
  exact (cond_f (F := FF) (fun h0 => id) (fun h0 => (lp_r8_translations_0 r Q hw h0))) hq
/-! netverify/netverifyref8.filters -/
def G_r8_filters : List Ent := [e_r8_ACL]
def b_r8_filters_0 : ACode := (.seq (.seq (.region [(.mk (some 5) none (.mov (.t 3))), (.mk (some 6) none (.fld 2 (.t 1))), (.mk (some 7) none (.load false 1 (.t 6))), (.mk (some 8) none (.len (.t 7))), (.mk (some 9) none (.bin .lss (.t 5) (.t 8)))] []) (.cond 9 .skip (.exit 0))) (.seq (.block 1 (.seq (.region [(.mk (some 12) none (.fld 2 (.t 1))), (.mk (some 13) none (.load false 1 (.t 12))), (.mk (some 14) none (.mov (.t 3))), (.mk (some 15) none (.ixa 12 (.t 13) (.t 14))), (.mk (some 16) none (.load true 12 (.t 15))), (.mk (some 4) none (.alloc [(.f (.str [])), (.f (.int .u32 0)), (.f (.int .i64 0)), (.f (.int .i64 0)), (.f (.bool false)), (.f (.bool false)), (.f (.int .i64 0)), (.f (.int .i64 0)), (.f (.bool false)), (.f (.str [])), (.f (.str [])), (.f (.int .i64 0))])), (.mk none none (.store 12 (.t 4) (.t 16)))] []) (.seq (.region [(.mk (some 17) none (.fld 9 (.t 4))), (.mk (some 18) none (.load false 1 (.t 17))), (.mk (some 19) none (.bin .neq (.t 18) (.c (.f (.str []))))), (.mk (some 20) none (.mov (.t 19))), (.mk (some 21) (some (20, true)) (.load true 25 (.t 1))), (.mk (some 22) (some (20, true)) (.fld 9 (.t 4))), (.mk (some 23) (some (20, true)) (.load false 1 (.t 22))), (.mk (some 24) (some (20, true)) (.call 63 [(.t 21), (.t 23)])), (.mk (some 25) (some (20, true)) (.bin .lss (.t 24) (.c (.f (.int .i64 0))))), (.mk (some 26) none (.pick 20 (.t 25) (.c (.f (.bool false))))), (.mk (some 27) none (.mov (.t 26))), (.mk (some 28) (some (27, false)) (.fld 10 (.t 4))), (.mk (some 29) (some (27, false)) (.load false 1 (.t 28))), (.mk (some 30) (some (27, false)) (.bin .neq (.t 29) (.c (.f (.str []))))), (.mk (some 31) (some (27, false)) (.mov (.t 30))), (.mk (some 32) (some (31, true)) (.load true 25 (.t 1))), (.mk (some 33) (some (31, true)) (.fld 10 (.t 4))), (.mk (some 34) (some (31, true)) (.load false 1 (.t 33))), (.mk (some 35) (some (31, true)) (.call 63 [(.t 32), (.t 34)])), (.mk (some 36) (some (31, true)) (.bin .lss (.t 35) (.c (.f (.int .i64 0))))), (.mk (some 37) (some (27, false)) (.pick 31 (.t 36) (.c (.f (.bool false))))), (.mk (some 38) none (.pick 27 (.c (.f (.bool true))) (.t 37)))] []) (.cond 38 (.seq (.region [(.mk (some 2) none (.mov (.c (.f (.int .i64 5)))))] []) .ret) .skip)))) (.region [(.mk (some 10) none (.mov (.t 3))), (.mk (some 11) none (.bin .add (.t 10) (.c (.f (.int .i64 1))))), (.mk (some 3) none (.mov (.t 11)))] [])))
def r_r8_filters_0 : ACode := (.seq (.region [(.mk (some 2) none (.mov (.c (.f (.int .i64 0)))))] []) .ret)
def c_r8_filters : AFunc := AFunc.mk 39 1 [(.t 2)] (.seq (.region [(.mk (some 1) none (.box (.t 0))), (.mk (some 2) none (.mov (.c (.f (.int .i64 0)))))] []) (.seq (.seq (.region [(.mk (some 3) none (.mov (.c (.f (.int .i64 0)))))] []) (.block 0 (.loop 0 [(1, none), (3, none)] b_r8_filters_0))) r_r8_filters_0))
def tb_r8_filters : Tbl
  | 0 => ([(1, none), (3, none)], b_r8_filters_0)
  | _ => ([], .skip)
theorem ok_r8_filters : compF Try.prog Try.f50 = some c_r8_filters.strip := by kernel_rfl
theorem tk_r8_filters : TblOk tb_r8_filters c_r8_filters.body := ⟨trivial, ⟨⟨trivial, ⟨rfl, ⟨⟨trivial, ⟨trivial, trivial⟩⟩, ⟨⟨trivial, ⟨trivial, ⟨⟨trivial, trivial⟩, trivial⟩⟩⟩, trivial⟩⟩⟩⟩, ⟨trivial, trivial⟩⟩⟩
def k_r8_filters_0 (Q : Int × Unit → Prop) : K := (kBlock 0 (kSeq (evC G_r8_filters (Lfp G_r8_filters tb_r8_filters) r_r8_filters_0) (kDone c_r8_filters (dq e_r8_filters.R Q))))
def s_r8_filters_0 (r : RouterT) (v0 : Int) : St := ⟨[(1, [], .ptr 0 0), (3, [], .f (.int .i64 v0))], [.box [.f (.str r.1), .f (.int .i64 r.2.1), .f (.fs InterfaceS r.2.2.1), .f (.fs PrefixListS r.2.2.2.1), .f (.fs RouteMapS r.2.2.2.2.1), .f (.fs ACLS r.2.2.2.2.2.1), .f (.fs TranslationS r.2.2.2.2.2.2.1), .f (.fs StaticRouteS r.2.2.2.2.2.2.2.1), .f (.bool r.2.2.2.2.2.2.2.2.1), .f (.int .i64 r.2.2.2.2.2.2.2.2.2.1), .f (.fs AreaRangeS r.2.2.2.2.2.2.2.2.2.2.1), .f (.fs RedistS r.2.2.2.2.2.2.2.2.2.2.2.1), .f (.bool r.2.2.2.2.2.2.2.2.2.2.2.2.1), .f (.int .i64 r.2.2.2.2.2.2.2.2.2.2.2.2.2.1), .f (.str r.2.2.2.2.2.2.2.2.2.2.2.2.2.2.1), .f (.str r.2.2.2.2.2.2.2.2.2.2.2.2.2.2.2.1), .f (.fs RedistS r.2.2.2.2.2.2.2.2.2.2.2.2.2.2.2.2.1), .f (.bool r.2.2.2.2.2.2.2.2.2.2.2.2.2.2.2.2.2.1), .f (.int .i64 r.2.2.2.2.2.2.2.2.2.2.2.2.2.2.2.2.2.2.1), .f (.int .i64 r.2.2.2.2.2.2.2.2.2.2.2.2.2.2.2.2.2.2.2.1), .f (.fs NeighborS r.2.2.2.2.2.2.2.2.2.2.2.2.2.2.2.2.2.2.2.2.1), .f (.fs PrefixS r.2.2.2.2.2.2.2.2.2.2.2.2.2.2.2.2.2.2.2.2.2.1), .f (.fs AggregateS r.2.2.2.2.2.2.2.2.2.2.2.2.2.2.2.2.2.2.2.2.2.2.1), .f (.fs ConditionS r.2.2.2.2.2.2.2.2.2.2.2.2.2.2.2.2.2.2.2.2.2.2.2.1), .f (.fs RedistS r.2.2.2.2.2.2.2.2.2.2.2.2.2.2.2.2.2.2.2.2.2.2.2.2.1)]]⟩
def L_r8_filters_0 (r : RouterT) (v0 : Int) (Q : Int × Unit → Prop) : Prop := Lfp G_r8_filters tb_r8_filters 0 (s_r8_filters_0 r v0) (k_r8_filters_0 Q)
theorem in_r8_filters (r : RouterT) (Q : Int × Unit → Prop) : evF G_r8_filters (Lfp G_r8_filters tb_r8_filters) c_r8_filters (VSs.enc e_r8_filters.A (r, ())) (dq e_r8_filters.R Q) = (
  L_r8_filters_0 r 0 Q) := by kernel_rfl
theorem rd_r8_filters_0 (r : RouterT) (v0 : Int) (Q : Int × Unit → Prop) (h :
  cond (decide (v0 < (r.2.2.1.length : Int)))
  (cond (okIx v0 (r.2.2.1.length : Int))
    (cond (((!((List.getD r.2.2.1 (Int.toNat v0) InterfaceD).2.2.2.2.2.2.2.2.2.1 == [])) && (decide ((g_r8_ACL r (List.getD r.2.2.1 (Int.toNat v0) InterfaceD).2.2.2.2.2.2.2.2.2.1) < 0))) || ((!((List.getD r.2.2.1 (Int.toNat v0) InterfaceD).2.2.2.2.2.2.2.2.2.2.1 == [])) && (decide ((g_r8_ACL r (List.getD r.2.2.1 (Int.toNat v0) InterfaceD).2.2.2.2.2.2.2.2.2.2.1) < 0))))
      (Q (5, ()))
      (L_r8_filters_0 r (IntKind.wrap .i64 (v0 + 1)) Q))
    False)
  (Q (0, ()))) : L_r8_filters_0 r v0 Q := Lfp.step ((by kernel_rfl : evC G_r8_filters (Lfp G_r8_filters tb_r8_filters) (tb_r8_filters 0).2 (s_r8_filters_0 r v0) (kLoop (tb_r8_filters 0).1 (Lfp G_r8_filters tb_r8_filters 0) (k_r8_filters_0 Q)) = (
  cond (decide (v0 < (r.2.2.1.length : Int)))
  (cond (okIx v0 (r.2.2.1.length : Int))
    (cond (((!((List.getD r.2.2.1 (Int.toNat v0) InterfaceD).2.2.2.2.2.2.2.2.2.1 == [])) && (decide ((g_r8_ACL r (List.getD r.2.2.1 (Int.toNat v0) InterfaceD).2.2.2.2.2.2.2.2.2.1) < 0))) || ((!((List.getD r.2.2.1 (Int.toNat v0) InterfaceD).2.2.2.2.2.2.2.2.2.2.1 == [])) && (decide ((g_r8_ACL r (List.getD r.2.2.1 (Int.toNat v0) InterfaceD).2.2.2.2.2.2.2.2.2.2.1) < 0))))
      (Q (5, ()))
      (L_r8_filters_0 r (IntKind.wrap .i64 (v0 + 1)) Q))
    False)
  (Q (0, ())))).symm ▸ h)
theorem lp_r8_filters_0 (r : RouterT) (Q : Int × Unit → Prop) (hw : VSs.wf e_r8_filters.A (r, ()))  : (fun y : Int => Q (y, ())) (S_r8_filters_0 r) → L_r8_filters_0 r 0 Q := by
  have _ := hw
  let FF := (fun y : Int => Q (y, ()))
  refine upV_loop (F := FF) (k := .i64) (L := (fun c0 : Int => L_r8_filters_0 r c0 Q)) (wrap_i64n (show _ ≤ _ from ((((hw.1).2).2).1).1)) (fun c0 hc0 hF => rd_r8_filters_0 r (c0 : Int) Q (cond_ge (n := r.2.2.1.length) rfl hc0 (id hF))) (fun c0 _ hc0 next0 hn0 hF => rd_r8_filters_0 r (c0 : Int) Q (cond_lt (n := r.2.2.1.length) rfl hc0 ((vc_f (F := FF) (by first | ((repeat' (first | rfl | exact nn_d64 _ | exact okIx_nat hc0 | refine and_t ?_ ?_ | refine or_l ?_)); done) | (simp [-List.getD_eq_getElem?_getD, okIx_nat hc0, nn_u64, nn_u32]; done) | (have hry : roomy = 1048576 := rfl; simp [-List.getD_eq_getElem?_getD, okIx, okSlc, okApp, len_slcL, len_segL] <;> omega)) /- 1 -/ (cond_f (F := FF) (fun h0 => id) (fun h0 => hn0))) hF)))
theorem ct_r8_filters (r : RouterT) (hw : VSs.wf e_r8_filters.A (r, ())) (Q : Int × Unit → Prop) (hq : Q (e_r8_filters.g (r, ()))) : EvF G_r8_filters tb_r8_filters c_r8_filters (VSs.enc e_r8_filters.A (r, ())) (dq e_r8_filters.R Q) := by
  have _ := hw
  let FF := (fun y : Int => Q (y, ()))
  refine EvF.of (in_r8_filters r Q) ?_
  exact (lp_r8_filters_0 r Q hw) hq
/-! netverify/netverifyref8.Address -/
def G_r8_Address : List Ent := []
def b_r8_Address_0 : ACode := (.seq (.seq (.region [(.mk (some 6) none (.mov (.t 5))), (.mk (some 7) none (.fld 2 (.t 2))), (.mk (some 8) none (.load false 1 (.t 7))), (.mk (some 9) none (.len (.t 8))), (.mk (some 10) none (.bin .lss (.t 6) (.t 9)))] []) (.cond 10 .skip (.exit 0))) (.seq (.block 1 (.seq (.region [(.mk (some 13) none (.fld 2 (.t 2))), (.mk (some 14) none (.load false 1 (.t 13))), (.mk (some 15) none (.mov (.t 5))), (.mk (some 16) none (.ixa 12 (.t 14) (.t 15))), (.mk (some 17) none (.fld 2 (.t 16))), (.mk (some 18) none (.load false 1 (.t 17))), (.mk (some 19) none (.bin .neq (.t 18) (.c (.f (.int .i64 0))))), (.mk (some 20) none (.mov (.t 19))), (.mk (some 21) (some (20, true)) (.fld 2 (.t 2))), (.mk (some 22) (some (20, true)) (.load false 1 (.t 21))), (.mk (some 23) (some (20, true)) (.mov (.t 5))), (.mk (some 24) (some (20, true)) (.ixa 12 (.t 22) (.t 23))), (.mk (some 25) (some (20, true)) (.fld 1 (.t 24))), (.mk (some 26) (some (20, true)) (.load false 1 (.t 25))), (.mk (some 27) (some (20, true)) (.mov (.t 1))), (.mk (some 28) (some (20, true)) (.bin .eql (.t 26) (.t 27))), (.mk (some 29) none (.pick 20 (.t 28) (.c (.f (.bool false)))))] []) (.cond 29 (.seq (.region [(.mk (some 30) none (.mov (.t 5))), (.mk (some 4) none (.mov (.t 30)))] []) .ret) .skip))) (.region [(.mk (some 11) none (.mov (.t 5))), (.mk (some 12) none (.bin .add (.t 11) (.c (.f (.int .i64 1))))), (.mk (some 5) none (.mov (.t 12)))] [])))
def r_r8_Address_0 : ACode := (.seq (.region [(.mk (some 4) none (.mov (.c (.f (.int .i64 (-1))))))] []) .ret)
def c_r8_Address : AFunc := AFunc.mk 31 2 [(.t 4)] (.seq (.region [(.mk (some 2) none (.box (.t 0))), (.mk (some 4) none (.mov (.c (.f (.int .i64 0)))))] []) (.seq (.seq (.region [(.mk (some 5) none (.mov (.c (.f (.int .i64 0)))))] []) (.block 0 (.loop 0 [(1, none), (2, none), (5, none)] b_r8_Address_0))) r_r8_Address_0))
def tb_r8_Address : Tbl
  | 0 => ([(1, none), (2, none), (5, none)], b_r8_Address_0)
  | _ => ([], .skip)
theorem ok_r8_Address : compF Try.prog Try.f64 = some c_r8_Address.strip := by kernel_rfl
theorem tk_r8_Address : TblOk tb_r8_Address c_r8_Address.body := ⟨trivial, ⟨⟨trivial, ⟨rfl, ⟨⟨trivial, ⟨trivial, trivial⟩⟩, ⟨⟨trivial, ⟨⟨trivial, trivial⟩, trivial⟩⟩, trivial⟩⟩⟩⟩, ⟨trivial, trivial⟩⟩⟩
def k_r8_Address_0 (Q : Int × Unit → Prop) : K := (kBlock 0 (kSeq (evC G_r8_Address (Lfp G_r8_Address tb_r8_Address) r_r8_Address_0) (kDone c_r8_Address (dq e_r8_Address.R Q))))
def s_r8_Address_0 (r : RouterT) (a : Int) (v0 : Int) : St := ⟨[(1, [], .f (.int .u32 a)), (2, [], .ptr 0 0), (5, [], .f (.int .i64 v0))], [.box [.f (.str r.1), .f (.int .i64 r.2.1), .f (.fs InterfaceS r.2.2.1), .f (.fs PrefixListS r.2.2.2.1), .f (.fs RouteMapS r.2.2.2.2.1), .f (.fs ACLS r.2.2.2.2.2.1), .f (.fs TranslationS r.2.2.2.2.2.2.1), .f (.fs StaticRouteS r.2.2.2.2.2.2.2.1), .f (.bool r.2.2.2.2.2.2.2.2.1), .f (.int .i64 r.2.2.2.2.2.2.2.2.2.1), .f (.fs AreaRangeS r.2.2.2.2.2.2.2.2.2.2.1), .f (.fs RedistS r.2.2.2.2.2.2.2.2.2.2.2.1), .f (.bool r.2.2.2.2.2.2.2.2.2.2.2.2.1), .f (.int .i64 r.2.2.2.2.2.2.2.2.2.2.2.2.2.1), .f (.str r.2.2.2.2.2.2.2.2.2.2.2.2.2.2.1), .f (.str r.2.2.2.2.2.2.2.2.2.2.2.2.2.2.2.1), .f (.fs RedistS r.2.2.2.2.2.2.2.2.2.2.2.2.2.2.2.2.1), .f (.bool r.2.2.2.2.2.2.2.2.2.2.2.2.2.2.2.2.2.1), .f (.int .i64 r.2.2.2.2.2.2.2.2.2.2.2.2.2.2.2.2.2.2.1), .f (.int .i64 r.2.2.2.2.2.2.2.2.2.2.2.2.2.2.2.2.2.2.2.1), .f (.fs NeighborS r.2.2.2.2.2.2.2.2.2.2.2.2.2.2.2.2.2.2.2.2.1), .f (.fs PrefixS r.2.2.2.2.2.2.2.2.2.2.2.2.2.2.2.2.2.2.2.2.2.1), .f (.fs AggregateS r.2.2.2.2.2.2.2.2.2.2.2.2.2.2.2.2.2.2.2.2.2.2.1), .f (.fs ConditionS r.2.2.2.2.2.2.2.2.2.2.2.2.2.2.2.2.2.2.2.2.2.2.2.1), .f (.fs RedistS r.2.2.2.2.2.2.2.2.2.2.2.2.2.2.2.2.2.2.2.2.2.2.2.2.1)]]⟩
def L_r8_Address_0 (r : RouterT) (a : Int) (v0 : Int) (Q : Int × Unit → Prop) : Prop := Lfp G_r8_Address tb_r8_Address 0 (s_r8_Address_0 r a v0) (k_r8_Address_0 Q)
theorem in_r8_Address (r : RouterT) (a : Int) (Q : Int × Unit → Prop) : evF G_r8_Address (Lfp G_r8_Address tb_r8_Address) c_r8_Address (VSs.enc e_r8_Address.A (r, a, ())) (dq e_r8_Address.R Q) = (
  L_r8_Address_0 r a 0 Q) := by kernel_rfl
theorem rd_r8_Address_0 (r : RouterT) (a : Int) (v0 : Int) (Q : Int × Unit → Prop) (h :
  cond (decide (v0 < (r.2.2.1.length : Int)))
  (cond ((okIx v0 (r.2.2.1.length : Int)) && ((okIx v0 (r.2.2.1.length : Int)) || (!((((List.getD r.2.2.1 (Int.toNat v0) InterfaceD).2.2.1 != 0) == true) && true))))
    (cond (((List.getD r.2.2.1 (Int.toNat v0) InterfaceD).2.2.1 != 0) && ((List.getD r.2.2.1 (Int.toNat v0) InterfaceD).2.1 == a))
      (Q (v0, ()))
      (L_r8_Address_0 r a (IntKind.wrap .i64 (v0 + 1)) Q))
    False)
  (Q ((-1), ()))) : L_r8_Address_0 r a v0 Q := Lfp.step ((by kernel_rfl : evC G_r8_Address (Lfp G_r8_Address tb_r8_Address) (tb_r8_Address 0).2 (s_r8_Address_0 r a v0) (kLoop (tb_r8_Address 0).1 (Lfp G_r8_Address tb_r8_Address 0) (k_r8_Address_0 Q)) = (
  cond (decide (v0 < (r.2.2.1.length : Int)))
  (cond ((okIx v0 (r.2.2.1.length : Int)) && ((okIx v0 (r.2.2.1.length : Int)) || (!((((List.getD r.2.2.1 (Int.toNat v0) InterfaceD).2.2.1 != 0) == true) && true))))
    (cond (((List.getD r.2.2.1 (Int.toNat v0) InterfaceD).2.2.1 != 0) && ((List.getD r.2.2.1 (Int.toNat v0) InterfaceD).2.1 == a))
      (Q (v0, ()))
      (L_r8_Address_0 r a (IntKind.wrap .i64 (v0 + 1)) Q))
    False)
  (Q ((-1), ())))).symm ▸ h)
theorem lp_r8_Address_0 (r : RouterT) (a : Int) (Q : Int × Unit → Prop) (hw : VSs.wf e_r8_Address.A (r, a, ()))  : (fun y : Int => Q (y, ())) (S_r8_Address_0 r a) → L_r8_Address_0 r a 0 Q := by
  have _ := hw
  let FF := (fun y : Int => Q (y, ()))
  refine upV_loop (F := FF) (k := .i64) (L := (fun c0 : Int => L_r8_Address_0 r a c0 Q)) (wrap_i64n (show _ ≤ _ from ((((hw.1).2).2).1).1)) (fun c0 hc0 hF => rd_r8_Address_0 r a (c0 : Int) Q (cond_ge (n := r.2.2.1.length) rfl hc0 (id hF))) (fun c0 _ hc0 next0 hn0 hF => rd_r8_Address_0 r a (c0 : Int) Q (cond_lt (n := r.2.2.1.length) rfl hc0 ((vc_f (F := FF) (by first | ((repeat' (first | rfl | exact nn_d64 _ | exact okIx_nat hc0 | refine and_t ?_ ?_ | refine or_l ?_)); done) | (simp [-List.getD_eq_getElem?_getD, okIx_nat hc0, nn_u64, nn_u32]; done) | (have hry : roomy = 1048576 := rfl; simp [-List.getD_eq_getElem?_getD, okIx, okSlc, okApp, len_slcL, len_segL] <;> omega)) /- 1 -/ (cond_f (F := FF) (fun h0 => id) (fun h0 => hn0))) hF)))
theorem ct_r8_Address (r : RouterT) (a : Int) (hw : VSs.wf e_r8_Address.A (r, a, ())) (Q : Int × Unit → Prop) (hq : Q (e_r8_Address.g (r, a, ()))) : EvF G_r8_Address tb_r8_Address c_r8_Address (VSs.enc e_r8_Address.A (r, a, ())) (dq e_r8_Address.R Q) := by
  have _ := hw
  let FF := (fun y : Int => Q (y, ()))
  refine EvF.of (in_r8_Address r a Q) ?_
  exact (lp_r8_Address_0 r a Q hw) hq
/-! netverify/netverifyref8.Interface -/
def G_r8_Interface : List Ent := []
def b_r8_Interface_0 : ACode := (.seq (.seq (.region [(.mk (some 6) none (.mov (.t 5))), (.mk (some 7) none (.fld 2 (.t 2))), (.mk (some 8) none (.load false 1 (.t 7))), (.mk (some 9) none (.len (.t 8))), (.mk (some 10) none (.bin .lss (.t 6) (.t 9)))] []) (.cond 10 .skip (.exit 0))) (.seq (.block 1 (.seq (.region [(.mk (some 13) none (.fld 2 (.t 2))), (.mk (some 14) none (.load false 1 (.t 13))), (.mk (some 15) none (.mov (.t 5))), (.mk (some 16) none (.ixa 12 (.t 14) (.t 15))), (.mk (some 17) none (.fld 0 (.t 16))), (.mk (some 18) none (.load false 1 (.t 17))), (.mk (some 19) none (.mov (.t 1))), (.mk (some 20) none (.bin .eql (.t 18) (.t 19)))] []) (.cond 20 (.seq (.region [(.mk (some 21) none (.mov (.t 5))), (.mk (some 4) none (.mov (.t 21)))] []) .ret) .skip))) (.region [(.mk (some 11) none (.mov (.t 5))), (.mk (some 12) none (.bin .add (.t 11) (.c (.f (.int .i64 1))))), (.mk (some 5) none (.mov (.t 12)))] [])))
def r_r8_Interface_0 : ACode := (.seq (.region [(.mk (some 4) none (.mov (.c (.f (.int .i64 (-1))))))] []) .ret)
def c_r8_Interface : AFunc := AFunc.mk 22 2 [(.t 4)] (.seq (.region [(.mk (some 2) none (.box (.t 0))), (.mk (some 4) none (.mov (.c (.f (.int .i64 0)))))] []) (.seq (.seq (.region [(.mk (some 5) none (.mov (.c (.f (.int .i64 0)))))] []) (.block 0 (.loop 0 [(1, none), (2, none), (5, none)] b_r8_Interface_0))) r_r8_Interface_0))
def tb_r8_Interface : Tbl
  | 0 => ([(1, none), (2, none), (5, none)], b_r8_Interface_0)
  | _ => ([], .skip)
theorem ok_r8_Interface : compF Try.prog Try.f65 = some c_r8_Interface.strip := by kernel_rfl
theorem tk_r8_Interface : TblOk tb_r8_Interface c_r8_Interface.body := ⟨trivial, ⟨⟨trivial, ⟨rfl, ⟨⟨trivial, ⟨trivial, trivial⟩⟩, ⟨⟨trivial, ⟨⟨trivial, trivial⟩, trivial⟩⟩, trivial⟩⟩⟩⟩, ⟨trivial, trivial⟩⟩⟩
def k_r8_Interface_0 (Q : Int × Unit → Prop) : K := (kBlock 0 (kSeq (evC G_r8_Interface (Lfp G_r8_Interface tb_r8_Interface) r_r8_Interface_0) (kDone c_r8_Interface (dq e_r8_Interface.R Q))))
def s_r8_Interface_0 (r : RouterT) (name : List UInt8) (v0 : Int) : St := ⟨[(1, [], .f (.str name)), (2, [], .ptr 0 0), (5, [], .f (.int .i64 v0))], [.box [.f (.str r.1), .f (.int .i64 r.2.1), .f (.fs InterfaceS r.2.2.1), .f (.fs PrefixListS r.2.2.2.1), .f (.fs RouteMapS r.2.2.2.2.1), .f (.fs ACLS r.2.2.2.2.2.1), .f (.fs TranslationS r.2.2.2.2.2.2.1), .f (.fs StaticRouteS r.2.2.2.2.2.2.2.1), .f (.bool r.2.2.2.2.2.2.2.2.1), .f (.int .i64 r.2.2.2.2.2.2.2.2.2.1), .f (.fs AreaRangeS r.2.2.2.2.2.2.2.2.2.2.1), .f (.fs RedistS r.2.2.2.2.2.2.2.2.2.2.2.1), .f (.bool r.2.2.2.2.2.2.2.2.2.2.2.2.1), .f (.int .i64 r.2.2.2.2.2.2.2.2.2.2.2.2.2.1), .f (.str r.2.2.2.2.2.2.2.2.2.2.2.2.2.2.1), .f (.str r.2.2.2.2.2.2.2.2.2.2.2.2.2.2.2.1), .f (.fs RedistS r.2.2.2.2.2.2.2.2.2.2.2.2.2.2.2.2.1), .f (.bool r.2.2.2.2.2.2.2.2.2.2.2.2.2.2.2.2.2.1), .f (.int .i64 r.2.2.2.2.2.2.2.2.2.2.2.2.2.2.2.2.2.2.1), .f (.int .i64 r.2.2.2.2.2.2.2.2.2.2.2.2.2.2.2.2.2.2.2.1), .f (.fs NeighborS r.2.2.2.2.2.2.2.2.2.2.2.2.2.2.2.2.2.2.2.2.1), .f (.fs PrefixS r.2.2.2.2.2.2.2.2.2.2.2.2.2.2.2.2.2.2.2.2.2.1), .f (.fs AggregateS r.2.2.2.2.2.2.2.2.2.2.2.2.2.2.2.2.2.2.2.2.2.2.1), .f (.fs ConditionS r.2.2.2.2.2.2.2.2.2.2.2.2.2.2.2.2.2.2.2.2.2.2.2.1), .f (.fs RedistS r.2.2.2.2.2.2.2.2.2.2.2.2.2.2.2.2.2.2.2.2.2.2.2.2.1)]]⟩
def L_r8_Interface_0 (r : RouterT) (name : List UInt8) (v0 : Int) (Q : Int × Unit → Prop) : Prop := Lfp G_r8_Interface tb_r8_Interface 0 (s_r8_Interface_0 r name v0) (k_r8_Interface_0 Q)
theorem in_r8_Interface (r : RouterT) (name : List UInt8) (Q : Int × Unit → Prop) : evF G_r8_Interface (Lfp G_r8_Interface tb_r8_Interface) c_r8_Interface (VSs.enc e_r8_Interface.A (r, name, ())) (dq e_r8_Interface.R Q) = (
  L_r8_Interface_0 r name 0 Q) := by kernel_rfl
theorem rd_r8_Interface_0 (r : RouterT) (name : List UInt8) (v0 : Int) (Q : Int × Unit → Prop) (h :
  cond (decide (v0 < (r.2.2.1.length : Int)))
  (cond (okIx v0 (r.2.2.1.length : Int))
    (cond ((List.getD r.2.2.1 (Int.toNat v0) InterfaceD).1 == name)
      (Q (v0, ()))
      (L_r8_Interface_0 r name (IntKind.wrap .i64 (v0 + 1)) Q))
    False)
  (Q ((-1), ()))) : L_r8_Interface_0 r name v0 Q := Lfp.step ((by kernel_rfl : evC G_r8_Interface (Lfp G_r8_Interface tb_r8_Interface) (tb_r8_Interface 0).2 (s_r8_Interface_0 r name v0) (kLoop (tb_r8_Interface 0).1 (Lfp G_r8_Interface tb_r8_Interface 0) (k_r8_Interface_0 Q)) = (
  cond (decide (v0 < (r.2.2.1.length : Int)))
  (cond (okIx v0 (r.2.2.1.length : Int))
    (cond ((List.getD r.2.2.1 (Int.toNat v0) InterfaceD).1 == name)
      (Q (v0, ()))
      (L_r8_Interface_0 r name (IntKind.wrap .i64 (v0 + 1)) Q))
    False)
  (Q ((-1), ())))).symm ▸ h)
theorem lp_r8_Interface_0 (r : RouterT) (name : List UInt8) (Q : Int × Unit → Prop) (hw : VSs.wf e_r8_Interface.A (r, name, ()))  : (fun y : Int => Q (y, ())) (S_r8_Interface_0 r name) → L_r8_Interface_0 r name 0 Q := by
  have _ := hw
  let FF := (fun y : Int => Q (y, ()))
  refine upV_loop (F := FF) (k := .i64) (L := (fun c0 : Int => L_r8_Interface_0 r name c0 Q)) (wrap_i64n (show _ ≤ _ from ((((hw.1).2).2).1).1)) (fun c0 hc0 hF => rd_r8_Interface_0 r name (c0 : Int) Q (cond_ge (n := r.2.2.1.length) rfl hc0 (id hF))) (fun c0 _ hc0 next0 hn0 hF => rd_r8_Interface_0 r name (c0 : Int) Q (cond_lt (n := r.2.2.1.length) rfl hc0 ((vc_f (F := FF) (by first | ((repeat' (first | rfl | exact nn_d64 _ | exact okIx_nat hc0 | refine and_t ?_ ?_ | refine or_l ?_)); done) | (simp [-List.getD_eq_getElem?_getD, okIx_nat hc0, nn_u64, nn_u32]; done) | (have hry : roomy = 1048576 := rfl; simp [-List.getD_eq_getElem?_getD, okIx, okSlc, okApp, len_slcL, len_segL] <;> omega)) /- 1 -/ (cond_f (F := FF) (fun h0 => id) (fun h0 => hn0))) hF)))
theorem ct_r8_Interface (r : RouterT) (name : List UInt8) (hw : VSs.wf e_r8_Interface.A (r, name, ())) (Q : Int × Unit → Prop) (hq : Q (e_r8_Interface.g (r, name, ()))) : EvF G_r8_Interface tb_r8_Interface c_r8_Interface (VSs.enc e_r8_Interface.A (r, name, ())) (dq e_r8_Interface.R Q) := by
  have _ := hw
  let FF := (fun y : Int => Q (y, ()))
  refine EvF.of (in_r8_Interface r name Q) ?_
  exact (lp_r8_Interface_0 r name Q hw) hq
/-! netverify/netverifyref8.statics -/
def G_r8_statics : List Ent := [e_r4_Valid, e_r8_within, e_r8_Address, e_r8_Interface]
def b_r8_statics_1 : ACode := (.seq (.seq (.region [(.mk (some 86) none (.mov (.t 7))), (.mk (some 87) none (.mov (.t 3))), (.mk (some 88) none (.bin .lss (.t 86) (.t 87)))] []) (.cond 88 .skip (.exit 2))) (.seq (.block 3 (.seq (.region [(.mk (some 91) none (.fld 7 (.t 1))), (.mk (some 92) none (.load false 1 (.t 91))), (.mk (some 93) none (.mov (.t 7))), (.mk (some 94) none (.ixa 7 (.t 92) (.t 93))), (.mk (some 95) none (.fld 0 (.t 94))), (.mk (some 96) none (.load true 2 (.t 95))), (.mk (some 97) none (.fld 0 (.t 4))), (.mk (some 98) none (.load true 2 (.t 97))), (.mk (some 99) none (.eqa false [(0, 1), (1, 1)] (.t 96) (.t 98))), (.mk (some 100) none (.mov (.t 99))), (.mk (some 101) (some (100, true)) (.fld 7 (.t 1))), (.mk (some 102) (some (100, true)) (.load false 1 (.t 101))), (.mk (some 103) (some (100, true)) (.mov (.t 7))), (.mk (some 104) (some (100, true)) (.ixa 7 (.t 102) (.t 103))), (.mk (some 105) (some (100, true)) (.fld 5 (.t 104))), (.mk (some 106) (some (100, true)) (.load false 1 (.t 105))), (.mk (some 107) (some (100, true)) (.fld 5 (.t 4))), (.mk (some 108) (some (100, true)) (.load false 1 (.t 107))), (.mk (some 109) (some (100, true)) (.bin .eql (.t 106) (.t 108))), (.mk (some 110) none (.pick 100 (.t 109) (.c (.f (.bool false)))))] []) (.cond 110 (.seq (.region [(.mk (some 2) none (.mov (.c (.f (.int .i64 6)))))] []) .ret) .skip))) (.region [(.mk (some 89) none (.mov (.t 7))), (.mk (some 90) none (.bin .add (.t 89) (.c (.f (.int .i64 1))))), (.mk (some 7) none (.mov (.t 90)))] [])))
def r_r8_statics_0 : ACode := (.region [(.mk (some 17) none (.mov (.t 3))), (.mk (some 18) none (.bin .add (.t 17) (.c (.f (.int .i64 1))))), (.mk (some 3) none (.mov (.t 18)))] [])
def b_r8_statics_0 : ACode := (.seq (.seq (.region [(.mk (some 12) none (.mov (.t 3))), (.mk (some 13) none (.fld 7 (.t 1))), (.mk (some 14) none (.load false 1 (.t 13))), (.mk (some 15) none (.len (.t 14))), (.mk (some 16) none (.bin .lss (.t 12) (.t 15)))] []) (.cond 16 .skip (.exit 0))) (.seq (.block 1 (.seq (.region [(.mk (some 19) none (.fld 7 (.t 1))), (.mk (some 20) none (.load false 1 (.t 19))), (.mk (some 21) none (.mov (.t 3))), (.mk (some 22) none (.ixa 7 (.t 20) (.t 21))), (.mk (some 23) none (.load true 7 (.t 22))), (.mk (some 4) none (.alloc [(.f (.int .u32 0)), (.f (.int .i64 0)), (.f (.int .u32 0)), (.f (.str [])), (.f (.bool false)), (.f (.int .i64 0)), (.f (.int .i64 0))])), (.mk none none (.store 7 (.t 4) (.t 23)))] []) (.seq (.region [(.mk (some 5) none (.mov (.c (.f (.int .i64 0)))))] []) (.seq (.seq (.region [(.mk (some 24) none (.fld 2 (.t 4))), (.mk (some 25) none (.load false 1 (.t 24))), (.mk (some 26) none (.bin .neq (.t 25) (.c (.f (.int .u32 0)))))] []) (.cond 26 (.region [(.mk (some 27) none (.mov (.t 5))), (.mk (some 28) none (.bin .add (.t 27) (.c (.f (.int .i64 1))))), (.mk (some 5) none (.mov (.t 28)))] []) .skip)) (.seq (.seq (.region [(.mk (some 29) none (.fld 3 (.t 4))), (.mk (some 30) none (.load false 1 (.t 29))), (.mk (some 31) none (.bin .neq (.t 30) (.c (.f (.str [])))))] []) (.cond 31 (.region [(.mk (some 32) none (.mov (.t 5))), (.mk (some 33) none (.bin .add (.t 32) (.c (.f (.int .i64 1))))), (.mk (some 5) none (.mov (.t 33)))] []) .skip)) (.seq (.seq (.region [(.mk (some 34) none (.fld 4 (.t 4))), (.mk (some 35) none (.load false 1 (.t 34)))] []) (.cond 35 (.region [(.mk (some 36) none (.mov (.t 5))), (.mk (some 37) none (.bin .add (.t 36) (.c (.f (.int .i64 1))))), (.mk (some 5) none (.mov (.t 37)))] []) .skip)) (.seq (.seq (.region [(.mk (some 38) none (.fld 0 (.t 4))), (.mk (some 39) none (.load true 2 (.t 38))), (.mk (some 40) none (.call 9 [(.t 39)])), (.mk (some 41) none (.un .not (.t 40))), (.mk (some 42) none (.mov (.t 41))), (.mk (some 43) (some (42, false)) (.mov (.t 5))), (.mk (some 44) (some (42, false)) (.bin .neq (.t 43) (.c (.f (.int .i64 1))))), (.mk (some 45) none (.pick 42 (.c (.f (.bool true))) (.t 44))), (.mk (some 46) none (.mov (.t 45))), (.mk (some 47) (some (46, false)) (.fld 2 (.t 4))), (.mk (some 48) (some (46, false)) (.load false 1 (.t 47))), (.mk (some 49) (some (46, false)) (.bin .neq (.t 48) (.c (.f (.int .u32 0))))), (.mk (some 50) (some (46, false)) (.mov (.t 49))), (.mk (some 51) (some (50, true)) (.load true 25 (.t 1))), (.mk (some 52) (some (50, true)) (.fld 2 (.t 4))), (.mk (some 53) (some (50, true)) (.load false 1 (.t 52))), (.mk (some 54) (some (50, true)) (.call 64 [(.t 51), (.t 53)])), (.mk (some 55) (some (50, true)) (.bin .geq (.t 54) (.c (.f (.int .i64 0))))), (.mk (some 56) (some (46, false)) (.pick 50 (.t 55) (.c (.f (.bool false))))), (.mk (some 57) none (.pick 46 (.c (.f (.bool true))) (.t 56))), (.mk (some 58) none (.mov (.t 57))), (.mk (some 59) (some (58, false)) (.fld 5 (.t 4))), (.mk (some 60) (some (58, false)) (.load false 1 (.t 59))), (.mk (some 61) (some (58, false)) (.call 44 [(.t 60), (.c (.f (.int .i64 1))), (.c (.f (.int .i64 255)))])), (.mk (some 62) (some (58, false)) (.un .not (.t 61))), (.mk (some 63) none (.pick 58 (.c (.f (.bool true))) (.t 62))), (.mk (some 64) none (.mov (.t 63))), (.mk (some 65) (some (64, false)) (.fld 6 (.t 4))), (.mk (some 66) (some (64, false)) (.load false 1 (.t 65))), (.mk (some 67) (some (64, false)) (.call 44 [(.t 66), (.c (.f (.int .i64 0))), (.c (.f (.int .i64 65535)))])), (.mk (some 68) (some (64, false)) (.un .not (.t 67))), (.mk (some 69) none (.pick 64 (.c (.f (.bool true))) (.t 68)))] []) (.cond 69 (.seq (.region [(.mk (some 2) none (.mov (.c (.f (.int .i64 1)))))] []) .ret) .skip)) (.seq (.seq (.region [(.mk (some 70) none (.fld 3 (.t 4))), (.mk (some 71) none (.load false 1 (.t 70))), (.mk (some 72) none (.bin .neq (.t 71) (.c (.f (.str [])))))] []) (.cond 72 (.seq (.region [(.mk (some 73) none (.load true 25 (.t 1))), (.mk (some 74) none (.fld 3 (.t 4))), (.mk (some 75) none (.load false 1 (.t 74))), (.mk (some 76) none (.call 65 [(.t 73), (.t 75)])), (.mk (some 6) none (.mov (.t 76)))] []) (.seq (.seq (.region [(.mk (some 77) none (.mov (.t 6))), (.mk (some 78) none (.bin .lss (.t 77) (.c (.f (.int .i64 0)))))] []) (.cond 78 (.seq (.region [(.mk (some 2) none (.mov (.c (.f (.int .i64 5)))))] []) .ret) .skip)) (.seq (.region [(.mk (some 79) none (.fld 2 (.t 1))), (.mk (some 80) none (.load false 1 (.t 79))), (.mk (some 81) none (.mov (.t 6))), (.mk (some 82) none (.ixa 12 (.t 80) (.t 81))), (.mk (some 83) none (.fld 2 (.t 82))), (.mk (some 84) none (.load false 1 (.t 83))), (.mk (some 85) none (.bin .eql (.t 84) (.c (.f (.int .i64 0)))))] []) (.cond 85 (.seq (.region [(.mk (some 2) none (.mov (.c (.f (.int .i64 1)))))] []) .ret) .skip)))) .skip)) (.seq (.region [(.mk (some 7) none (.mov (.c (.f (.int .i64 0)))))] []) (.block 2 (.loop 1 [(1, none), (3, none), (4, none), (7, none)] b_r8_statics_1))))))))))) r_r8_statics_0))
def r_r8_statics_1 : ACode := (.seq (.region [(.mk (some 2) none (.mov (.c (.f (.int .i64 0)))))] []) .ret)
def c_r8_statics : AFunc := AFunc.mk 111 1 [(.t 2)] (.seq (.region [(.mk (some 1) none (.box (.t 0))), (.mk (some 2) none (.mov (.c (.f (.int .i64 0)))))] []) (.seq (.seq (.region [(.mk (some 8) none (.fld 7 (.t 1))), (.mk (some 9) none (.load false 1 (.t 8))), (.mk (some 10) none (.len (.t 9))), (.mk (some 11) none (.bin .gtr (.t 10) (.c (.f (.int .i64 16)))))] []) (.cond 11 (.seq (.region [(.mk (some 2) none (.mov (.c (.f (.int .i64 7)))))] []) .ret) .skip)) (.seq (.seq (.region [(.mk (some 3) none (.mov (.c (.f (.int .i64 0)))))] []) (.block 0 (.loop 0 [(1, none), (3, none)] b_r8_statics_0))) r_r8_statics_1)))
def tb_r8_statics : Tbl
  | 0 => ([(1, none), (3, none)], b_r8_statics_0)
  | 1 => ([(1, none), (3, none), (4, none), (7, none)], b_r8_statics_1)
  | _ => ([], .skip)
theorem ok_r8_statics : compF Try.prog Try.f51 = some c_r8_statics.strip := by kernel_rfl
theorem tk_r8_statics : TblOk tb_r8_statics c_r8_statics.body := ⟨trivial, ⟨⟨trivial, ⟨⟨trivial, trivial⟩, trivial⟩⟩, ⟨⟨trivial, ⟨rfl, ⟨⟨trivial, ⟨trivial, trivial⟩⟩, ⟨⟨trivial, ⟨trivial, ⟨⟨trivial, ⟨trivial, trivial⟩⟩, ⟨⟨trivial, ⟨trivial, trivial⟩⟩, ⟨⟨trivial, ⟨trivial, trivial⟩⟩, ⟨⟨trivial, ⟨⟨trivial, trivial⟩, trivial⟩⟩, ⟨⟨trivial, ⟨⟨trivial, ⟨⟨trivial, ⟨⟨trivial, trivial⟩, trivial⟩⟩, ⟨trivial, ⟨⟨trivial, trivial⟩, trivial⟩⟩⟩⟩, trivial⟩⟩, ⟨trivial, ⟨rfl, ⟨⟨trivial, ⟨trivial, trivial⟩⟩, ⟨⟨trivial, ⟨⟨trivial, trivial⟩, trivial⟩⟩, trivial⟩⟩⟩⟩⟩⟩⟩⟩⟩⟩⟩, trivial⟩⟩⟩⟩, ⟨trivial, trivial⟩⟩⟩⟩
def k_r8_statics_0 (Q : Int × Unit → Prop) : K := (kBlock 0 (kSeq (evC G_r8_statics (Lfp G_r8_statics tb_r8_statics) r_r8_statics_1) (kDone c_r8_statics (dq e_r8_statics.R Q))))
def s_r8_statics_0 (r : RouterT) (v0 : Int) : St := ⟨[(1, [], .ptr 0 0), (3, [], .f (.int .i64 v0))], [.box [.f (.str r.1), .f (.int .i64 r.2.1), .f (.fs InterfaceS r.2.2.1), .f (.fs PrefixListS r.2.2.2.1), .f (.fs RouteMapS r.2.2.2.2.1), .f (.fs ACLS r.2.2.2.2.2.1), .f (.fs TranslationS r.2.2.2.2.2.2.1), .f (.fs StaticRouteS r.2.2.2.2.2.2.2.1), .f (.bool r.2.2.2.2.2.2.2.2.1), .f (.int .i64 r.2.2.2.2.2.2.2.2.2.1), .f (.fs AreaRangeS r.2.2.2.2.2.2.2.2.2.2.1), .f (.fs RedistS r.2.2.2.2.2.2.2.2.2.2.2.1), .f (.bool r.2.2.2.2.2.2.2.2.2.2.2.2.1), .f (.int .i64 r.2.2.2.2.2.2.2.2.2.2.2.2.2.1), .f (.str r.2.2.2.2.2.2.2.2.2.2.2.2.2.2.1), .f (.str r.2.2.2.2.2.2.2.2.2.2.2.2.2.2.2.1), .f (.fs RedistS r.2.2.2.2.2.2.2.2.2.2.2.2.2.2.2.2.1), .f (.bool r.2.2.2.2.2.2.2.2.2.2.2.2.2.2.2.2.2.1), .f (.int .i64 r.2.2.2.2.2.2.2.2.2.2.2.2.2.2.2.2.2.2.1), .f (.int .i64 r.2.2.2.2.2.2.2.2.2.2.2.2.2.2.2.2.2.2.2.1), .f (.fs NeighborS r.2.2.2.2.2.2.2.2.2.2.2.2.2.2.2.2.2.2.2.2.1), .f (.fs PrefixS r.2.2.2.2.2.2.2.2.2.2.2.2.2.2.2.2.2.2.2.2.2.1), .f (.fs AggregateS r.2.2.2.2.2.2.2.2.2.2.2.2.2.2.2.2.2.2.2.2.2.2.1), .f (.fs ConditionS r.2.2.2.2.2.2.2.2.2.2.2.2.2.2.2.2.2.2.2.2.2.2.2.1), .f (.fs RedistS r.2.2.2.2.2.2.2.2.2.2.2.2.2.2.2.2.2.2.2.2.2.2.2.2.1)]]⟩
def L_r8_statics_0 (r : RouterT) (v0 : Int) (Q : Int × Unit → Prop) : Prop := Lfp G_r8_statics tb_r8_statics 0 (s_r8_statics_0 r v0) (k_r8_statics_0 Q)
def k_r8_statics_1 (Q : Int × Unit → Prop) : K := (kBlock 2 (kBlock 1 (kSeq (evC G_r8_statics (Lfp G_r8_statics tb_r8_statics) r_r8_statics_0) (kLoop [(1, none), (3, none)] (Lfp G_r8_statics tb_r8_statics 0) (k_r8_statics_0 Q)))))
def s_r8_statics_1 (r : RouterT) (v0 : Int) (v1 : StaticRouteT) (v2 : Int) : St := ⟨[(1, [], .ptr 0 0), (3, [], .f (.int .i64 v0)), (4, [], .ptr 1 0), (7, [], .f (.int .i64 v2))], [.box [.f (.str r.1), .f (.int .i64 r.2.1), .f (.fs InterfaceS r.2.2.1), .f (.fs PrefixListS r.2.2.2.1), .f (.fs RouteMapS r.2.2.2.2.1), .f (.fs ACLS r.2.2.2.2.2.1), .f (.fs TranslationS r.2.2.2.2.2.2.1), .f (.fs StaticRouteS r.2.2.2.2.2.2.2.1), .f (.bool r.2.2.2.2.2.2.2.2.1), .f (.int .i64 r.2.2.2.2.2.2.2.2.2.1), .f (.fs AreaRangeS r.2.2.2.2.2.2.2.2.2.2.1), .f (.fs RedistS r.2.2.2.2.2.2.2.2.2.2.2.1), .f (.bool r.2.2.2.2.2.2.2.2.2.2.2.2.1), .f (.int .i64 r.2.2.2.2.2.2.2.2.2.2.2.2.2.1), .f (.str r.2.2.2.2.2.2.2.2.2.2.2.2.2.2.1), .f (.str r.2.2.2.2.2.2.2.2.2.2.2.2.2.2.2.1), .f (.fs RedistS r.2.2.2.2.2.2.2.2.2.2.2.2.2.2.2.2.1), .f (.bool r.2.2.2.2.2.2.2.2.2.2.2.2.2.2.2.2.2.1), .f (.int .i64 r.2.2.2.2.2.2.2.2.2.2.2.2.2.2.2.2.2.2.1), .f (.int .i64 r.2.2.2.2.2.2.2.2.2.2.2.2.2.2.2.2.2.2.2.1), .f (.fs NeighborS r.2.2.2.2.2.2.2.2.2.2.2.2.2.2.2.2.2.2.2.2.1), .f (.fs PrefixS r.2.2.2.2.2.2.2.2.2.2.2.2.2.2.2.2.2.2.2.2.2.1), .f (.fs AggregateS r.2.2.2.2.2.2.2.2.2.2.2.2.2.2.2.2.2.2.2.2.2.2.1), .f (.fs ConditionS r.2.2.2.2.2.2.2.2.2.2.2.2.2.2.2.2.2.2.2.2.2.2.2.1), .f (.fs RedistS r.2.2.2.2.2.2.2.2.2.2.2.2.2.2.2.2.2.2.2.2.2.2.2.2.1)], .box [.f (.int .u32 v1.1), .f (.int .i64 v1.2.1), .f (.int .u32 v1.2.2.1), .f (.str v1.2.2.2.1), .f (.bool v1.2.2.2.2.1), .f (.int .i64 v1.2.2.2.2.2.1), .f (.int .i64 v1.2.2.2.2.2.2.1)]]⟩
def L_r8_statics_1 (r : RouterT) (v0 : Int) (v1 : StaticRouteT) (v2 : Int) (Q : Int × Unit → Prop) : Prop := Lfp G_r8_statics tb_r8_statics 1 (s_r8_statics_1 r v0 v1 v2) (k_r8_statics_1 Q)
theorem in_r8_statics (r : RouterT) (Q : Int × Unit → Prop) : evF G_r8_statics (Lfp G_r8_statics tb_r8_statics) c_r8_statics (VSs.enc e_r8_statics.A (r, ())) (dq e_r8_statics.R Q) = (
  cond (decide ((r.2.2.2.2.2.2.2.1.length : Int) > 16))
  (Q (7, ()))
  (L_r8_statics_0 r 0 Q)) := by kernel_rfl
theorem rd_r8_statics_0 (r : RouterT) (v0 : Int) (Q : Int × Unit → Prop) (h :
  cond (decide (v0 < (r.2.2.2.2.2.2.2.1.length : Int)))
  (cond (okIx v0 (r.2.2.2.2.2.2.2.1.length : Int))
    (cond ((List.getD r.2.2.2.2.2.2.2.1 (Int.toNat v0) StaticRouteD).2.2.1 != 0)
      (cond (!((List.getD r.2.2.2.2.2.2.2.1 (Int.toNat v0) StaticRouteD).2.2.2.1 == []))
        (cond (List.getD r.2.2.2.2.2.2.2.1 (Int.toNat v0) StaticRouteD).2.2.2.2.1
          (cond (((((!(g_r4_Valid ((List.getD r.2.2.2.2.2.2.2.1 (Int.toNat v0) StaticRouteD).1, (List.getD r.2.2.2.2.2.2.2.1 (Int.toNat v0) StaticRouteD).2.1, ()))) || true) || (((List.getD r.2.2.2.2.2.2.2.1 (Int.toNat v0) StaticRouteD).2.2.1 != 0) && (decide ((g_r8_Address r (List.getD r.2.2.2.2.2.2.2.1 (Int.toNat v0) StaticRouteD).2.2.1) ≥ 0)))) || (!(g_r8_within (List.getD r.2.2.2.2.2.2.2.1 (Int.toNat v0) StaticRouteD).2.2.2.2.2.1 1 255))) || (!(g_r8_within (List.getD r.2.2.2.2.2.2.2.1 (Int.toNat v0) StaticRouteD).2.2.2.2.2.2.1 0 65535)))
            (Q (1, ()))
            (cond (!((List.getD r.2.2.2.2.2.2.2.1 (Int.toNat v0) StaticRouteD).2.2.2.1 == []))
              (cond (decide ((g_r8_Interface r (List.getD r.2.2.2.2.2.2.2.1 (Int.toNat v0) StaticRouteD).2.2.2.1) < 0))
                (Q (5, ()))
                (cond (okIx (g_r8_Interface r (List.getD r.2.2.2.2.2.2.2.1 (Int.toNat v0) StaticRouteD).2.2.2.1) (r.2.2.1.length : Int))
                  (cond ((List.getD r.2.2.1 (Int.toNat (g_r8_Interface r (List.getD r.2.2.2.2.2.2.2.1 (Int.toNat v0) StaticRouteD).2.2.2.1)) InterfaceD).2.2.1 == 0)
                    (Q (1, ()))
                    (L_r8_statics_1 r v0 (List.getD r.2.2.2.2.2.2.2.1 (Int.toNat v0) StaticRouteD) 0 Q))
                  False))
              (L_r8_statics_1 r v0 (List.getD r.2.2.2.2.2.2.2.1 (Int.toNat v0) StaticRouteD) 0 Q)))
          (cond (((((!(g_r4_Valid ((List.getD r.2.2.2.2.2.2.2.1 (Int.toNat v0) StaticRouteD).1, (List.getD r.2.2.2.2.2.2.2.1 (Int.toNat v0) StaticRouteD).2.1, ()))) || true) || (((List.getD r.2.2.2.2.2.2.2.1 (Int.toNat v0) StaticRouteD).2.2.1 != 0) && (decide ((g_r8_Address r (List.getD r.2.2.2.2.2.2.2.1 (Int.toNat v0) StaticRouteD).2.2.1) ≥ 0)))) || (!(g_r8_within (List.getD r.2.2.2.2.2.2.2.1 (Int.toNat v0) StaticRouteD).2.2.2.2.2.1 1 255))) || (!(g_r8_within (List.getD r.2.2.2.2.2.2.2.1 (Int.toNat v0) StaticRouteD).2.2.2.2.2.2.1 0 65535)))
            (Q (1, ()))
            (cond (!((List.getD r.2.2.2.2.2.2.2.1 (Int.toNat v0) StaticRouteD).2.2.2.1 == []))
              (cond (decide ((g_r8_Interface r (List.getD r.2.2.2.2.2.2.2.1 (Int.toNat v0) StaticRouteD).2.2.2.1) < 0))
                (Q (5, ()))
                (cond (okIx (g_r8_Interface r (List.getD r.2.2.2.2.2.2.2.1 (Int.toNat v0) StaticRouteD).2.2.2.1) (r.2.2.1.length : Int))
                  (cond ((List.getD r.2.2.1 (Int.toNat (g_r8_Interface r (List.getD r.2.2.2.2.2.2.2.1 (Int.toNat v0) StaticRouteD).2.2.2.1)) InterfaceD).2.2.1 == 0)
                    (Q (1, ()))
                    (L_r8_statics_1 r v0 (List.getD r.2.2.2.2.2.2.2.1 (Int.toNat v0) StaticRouteD) 0 Q))
                  False))
              (L_r8_statics_1 r v0 (List.getD r.2.2.2.2.2.2.2.1 (Int.toNat v0) StaticRouteD) 0 Q))))
        (cond (List.getD r.2.2.2.2.2.2.2.1 (Int.toNat v0) StaticRouteD).2.2.2.2.1
          (cond (((((!(g_r4_Valid ((List.getD r.2.2.2.2.2.2.2.1 (Int.toNat v0) StaticRouteD).1, (List.getD r.2.2.2.2.2.2.2.1 (Int.toNat v0) StaticRouteD).2.1, ()))) || true) || (((List.getD r.2.2.2.2.2.2.2.1 (Int.toNat v0) StaticRouteD).2.2.1 != 0) && (decide ((g_r8_Address r (List.getD r.2.2.2.2.2.2.2.1 (Int.toNat v0) StaticRouteD).2.2.1) ≥ 0)))) || (!(g_r8_within (List.getD r.2.2.2.2.2.2.2.1 (Int.toNat v0) StaticRouteD).2.2.2.2.2.1 1 255))) || (!(g_r8_within (List.getD r.2.2.2.2.2.2.2.1 (Int.toNat v0) StaticRouteD).2.2.2.2.2.2.1 0 65535)))
            (Q (1, ()))
            (cond (!((List.getD r.2.2.2.2.2.2.2.1 (Int.toNat v0) StaticRouteD).2.2.2.1 == []))
              (cond (decide ((g_r8_Interface r (List.getD r.2.2.2.2.2.2.2.1 (Int.toNat v0) StaticRouteD).2.2.2.1) < 0))
                (Q (5, ()))
                (cond (okIx (g_r8_Interface r (List.getD r.2.2.2.2.2.2.2.1 (Int.toNat v0) StaticRouteD).2.2.2.1) (r.2.2.1.length : Int))
                  (cond ((List.getD r.2.2.1 (Int.toNat (g_r8_Interface r (List.getD r.2.2.2.2.2.2.2.1 (Int.toNat v0) StaticRouteD).2.2.2.1)) InterfaceD).2.2.1 == 0)
                    (Q (1, ()))
                    (L_r8_statics_1 r v0 (List.getD r.2.2.2.2.2.2.2.1 (Int.toNat v0) StaticRouteD) 0 Q))
                  False))
              (L_r8_statics_1 r v0 (List.getD r.2.2.2.2.2.2.2.1 (Int.toNat v0) StaticRouteD) 0 Q)))
          (cond (((((!(g_r4_Valid ((List.getD r.2.2.2.2.2.2.2.1 (Int.toNat v0) StaticRouteD).1, (List.getD r.2.2.2.2.2.2.2.1 (Int.toNat v0) StaticRouteD).2.1, ()))) && true) || (((List.getD r.2.2.2.2.2.2.2.1 (Int.toNat v0) StaticRouteD).2.2.1 != 0) && (decide ((g_r8_Address r (List.getD r.2.2.2.2.2.2.2.1 (Int.toNat v0) StaticRouteD).2.2.1) ≥ 0)))) || (!(g_r8_within (List.getD r.2.2.2.2.2.2.2.1 (Int.toNat v0) StaticRouteD).2.2.2.2.2.1 1 255))) || (!(g_r8_within (List.getD r.2.2.2.2.2.2.2.1 (Int.toNat v0) StaticRouteD).2.2.2.2.2.2.1 0 65535)))
            (Q (1, ()))
            (cond (!((List.getD r.2.2.2.2.2.2.2.1 (Int.toNat v0) StaticRouteD).2.2.2.1 == []))
              (cond (decide ((g_r8_Interface r (List.getD r.2.2.2.2.2.2.2.1 (Int.toNat v0) StaticRouteD).2.2.2.1) < 0))
                (Q (5, ()))
                (cond (okIx (g_r8_Interface r (List.getD r.2.2.2.2.2.2.2.1 (Int.toNat v0) StaticRouteD).2.2.2.1) (r.2.2.1.length : Int))
                  (cond ((List.getD r.2.2.1 (Int.toNat (g_r8_Interface r (List.getD r.2.2.2.2.2.2.2.1 (Int.toNat v0) StaticRouteD).2.2.2.1)) InterfaceD).2.2.1 == 0)
                    (Q (1, ()))
                    (L_r8_statics_1 r v0 (List.getD r.2.2.2.2.2.2.2.1 (Int.toNat v0) StaticRouteD) 0 Q))
                  False))
              (L_r8_statics_1 r v0 (List.getD r.2.2.2.2.2.2.2.1 (Int.toNat v0) StaticRouteD) 0 Q)))))
      (cond (!((List.getD r.2.2.2.2.2.2.2.1 (Int.toNat v0) StaticRouteD).2.2.2.1 == []))
        (cond (List.getD r.2.2.2.2.2.2.2.1 (Int.toNat v0) StaticRouteD).2.2.2.2.1
          (cond (((((!(g_r4_Valid ((List.getD r.2.2.2.2.2.2.2.1 (Int.toNat v0) StaticRouteD).1, (List.getD r.2.2.2.2.2.2.2.1 (Int.toNat v0) StaticRouteD).2.1, ()))) || true) || (((List.getD r.2.2.2.2.2.2.2.1 (Int.toNat v0) StaticRouteD).2.2.1 != 0) && (decide ((g_r8_Address r (List.getD r.2.2.2.2.2.2.2.1 (Int.toNat v0) StaticRouteD).2.2.1) ≥ 0)))) || (!(g_r8_within (List.getD r.2.2.2.2.2.2.2.1 (Int.toNat v0) StaticRouteD).2.2.2.2.2.1 1 255))) || (!(g_r8_within (List.getD r.2.2.2.2.2.2.2.1 (Int.toNat v0) StaticRouteD).2.2.2.2.2.2.1 0 65535)))
            (Q (1, ()))
            (cond (!((List.getD r.2.2.2.2.2.2.2.1 (Int.toNat v0) StaticRouteD).2.2.2.1 == []))
              (cond (decide ((g_r8_Interface r (List.getD r.2.2.2.2.2.2.2.1 (Int.toNat v0) StaticRouteD).2.2.2.1) < 0))
                (Q (5, ()))
                (cond (okIx (g_r8_Interface r (List.getD r.2.2.2.2.2.2.2.1 (Int.toNat v0) StaticRouteD).2.2.2.1) (r.2.2.1.length : Int))
                  (cond ((List.getD r.2.2.1 (Int.toNat (g_r8_Interface r (List.getD r.2.2.2.2.2.2.2.1 (Int.toNat v0) StaticRouteD).2.2.2.1)) InterfaceD).2.2.1 == 0)
                    (Q (1, ()))
                    (L_r8_statics_1 r v0 (List.getD r.2.2.2.2.2.2.2.1 (Int.toNat v0) StaticRouteD) 0 Q))
                  False))
              (L_r8_statics_1 r v0 (List.getD r.2.2.2.2.2.2.2.1 (Int.toNat v0) StaticRouteD) 0 Q)))
          (cond (((((!(g_r4_Valid ((List.getD r.2.2.2.2.2.2.2.1 (Int.toNat v0) StaticRouteD).1, (List.getD r.2.2.2.2.2.2.2.1 (Int.toNat v0) StaticRouteD).2.1, ()))) && true) || (((List.getD r.2.2.2.2.2.2.2.1 (Int.toNat v0) StaticRouteD).2.2.1 != 0) && (decide ((g_r8_Address r (List.getD r.2.2.2.2.2.2.2.1 (Int.toNat v0) StaticRouteD).2.2.1) ≥ 0)))) || (!(g_r8_within (List.getD r.2.2.2.2.2.2.2.1 (Int.toNat v0) StaticRouteD).2.2.2.2.2.1 1 255))) || (!(g_r8_within (List.getD r.2.2.2.2.2.2.2.1 (Int.toNat v0) StaticRouteD).2.2.2.2.2.2.1 0 65535)))
            (Q (1, ()))
            (cond (!((List.getD r.2.2.2.2.2.2.2.1 (Int.toNat v0) StaticRouteD).2.2.2.1 == []))
              (cond (decide ((g_r8_Interface r (List.getD r.2.2.2.2.2.2.2.1 (Int.toNat v0) StaticRouteD).2.2.2.1) < 0))
                (Q (5, ()))
                (cond (okIx (g_r8_Interface r (List.getD r.2.2.2.2.2.2.2.1 (Int.toNat v0) StaticRouteD).2.2.2.1) (r.2.2.1.length : Int))
                  (cond ((List.getD r.2.2.1 (Int.toNat (g_r8_Interface r (List.getD r.2.2.2.2.2.2.2.1 (Int.toNat v0) StaticRouteD).2.2.2.1)) InterfaceD).2.2.1 == 0)
                    (Q (1, ()))
                    (L_r8_statics_1 r v0 (List.getD r.2.2.2.2.2.2.2.1 (Int.toNat v0) StaticRouteD) 0 Q))
                  False))
              (L_r8_statics_1 r v0 (List.getD r.2.2.2.2.2.2.2.1 (Int.toNat v0) StaticRouteD) 0 Q))))
        (cond (List.getD r.2.2.2.2.2.2.2.1 (Int.toNat v0) StaticRouteD).2.2.2.2.1
          (cond (((((!(g_r4_Valid ((List.getD r.2.2.2.2.2.2.2.1 (Int.toNat v0) StaticRouteD).1, (List.getD r.2.2.2.2.2.2.2.1 (Int.toNat v0) StaticRouteD).2.1, ()))) && true) || (((List.getD r.2.2.2.2.2.2.2.1 (Int.toNat v0) StaticRouteD).2.2.1 != 0) && (decide ((g_r8_Address r (List.getD r.2.2.2.2.2.2.2.1 (Int.toNat v0) StaticRouteD).2.2.1) ≥ 0)))) || (!(g_r8_within (List.getD r.2.2.2.2.2.2.2.1 (Int.toNat v0) StaticRouteD).2.2.2.2.2.1 1 255))) || (!(g_r8_within (List.getD r.2.2.2.2.2.2.2.1 (Int.toNat v0) StaticRouteD).2.2.2.2.2.2.1 0 65535)))
            (Q (1, ()))
            (cond (!((List.getD r.2.2.2.2.2.2.2.1 (Int.toNat v0) StaticRouteD).2.2.2.1 == []))
              (cond (decide ((g_r8_Interface r (List.getD r.2.2.2.2.2.2.2.1 (Int.toNat v0) StaticRouteD).2.2.2.1) < 0))
                (Q (5, ()))
                (cond (okIx (g_r8_Interface r (List.getD r.2.2.2.2.2.2.2.1 (Int.toNat v0) StaticRouteD).2.2.2.1) (r.2.2.1.length : Int))
                  (cond ((List.getD r.2.2.1 (Int.toNat (g_r8_Interface r (List.getD r.2.2.2.2.2.2.2.1 (Int.toNat v0) StaticRouteD).2.2.2.1)) InterfaceD).2.2.1 == 0)
                    (Q (1, ()))
                    (L_r8_statics_1 r v0 (List.getD r.2.2.2.2.2.2.2.1 (Int.toNat v0) StaticRouteD) 0 Q))
                  False))
              (L_r8_statics_1 r v0 (List.getD r.2.2.2.2.2.2.2.1 (Int.toNat v0) StaticRouteD) 0 Q)))
          (cond (((((!(g_r4_Valid ((List.getD r.2.2.2.2.2.2.2.1 (Int.toNat v0) StaticRouteD).1, (List.getD r.2.2.2.2.2.2.2.1 (Int.toNat v0) StaticRouteD).2.1, ()))) || true) || (((List.getD r.2.2.2.2.2.2.2.1 (Int.toNat v0) StaticRouteD).2.2.1 != 0) && (decide ((g_r8_Address r (List.getD r.2.2.2.2.2.2.2.1 (Int.toNat v0) StaticRouteD).2.2.1) ≥ 0)))) || (!(g_r8_within (List.getD r.2.2.2.2.2.2.2.1 (Int.toNat v0) StaticRouteD).2.2.2.2.2.1 1 255))) || (!(g_r8_within (List.getD r.2.2.2.2.2.2.2.1 (Int.toNat v0) StaticRouteD).2.2.2.2.2.2.1 0 65535)))
            (Q (1, ()))
            (cond (!((List.getD r.2.2.2.2.2.2.2.1 (Int.toNat v0) StaticRouteD).2.2.2.1 == []))
              (cond (decide ((g_r8_Interface r (List.getD r.2.2.2.2.2.2.2.1 (Int.toNat v0) StaticRouteD).2.2.2.1) < 0))
                (Q (5, ()))
                (cond (okIx (g_r8_Interface r (List.getD r.2.2.2.2.2.2.2.1 (Int.toNat v0) StaticRouteD).2.2.2.1) (r.2.2.1.length : Int))
                  (cond ((List.getD r.2.2.1 (Int.toNat (g_r8_Interface r (List.getD r.2.2.2.2.2.2.2.1 (Int.toNat v0) StaticRouteD).2.2.2.1)) InterfaceD).2.2.1 == 0)
                    (Q (1, ()))
                    (L_r8_statics_1 r v0 (List.getD r.2.2.2.2.2.2.2.1 (Int.toNat v0) StaticRouteD) 0 Q))
                  False))
              (L_r8_statics_1 r v0 (List.getD r.2.2.2.2.2.2.2.1 (Int.toNat v0) StaticRouteD) 0 Q))))))
    False)
  (Q (0, ()))) : L_r8_statics_0 r v0 Q := Lfp.step ((by kernel_rfl : evC G_r8_statics (Lfp G_r8_statics tb_r8_statics) (tb_r8_statics 0).2 (s_r8_statics_0 r v0) (kLoop (tb_r8_statics 0).1 (Lfp G_r8_statics tb_r8_statics 0) (k_r8_statics_0 Q)) = (
  cond (decide (v0 < (r.2.2.2.2.2.2.2.1.length : Int)))
  (cond (okIx v0 (r.2.2.2.2.2.2.2.1.length : Int))
    (cond ((List.getD r.2.2.2.2.2.2.2.1 (Int.toNat v0) StaticRouteD).2.2.1 != 0)
      (cond (!((List.getD r.2.2.2.2.2.2.2.1 (Int.toNat v0) StaticRouteD).2.2.2.1 == []))
        (cond (List.getD r.2.2.2.2.2.2.2.1 (Int.toNat v0) StaticRouteD).2.2.2.2.1
          (cond (((((!(g_r4_Valid ((List.getD r.2.2.2.2.2.2.2.1 (Int.toNat v0) StaticRouteD).1, (List.getD r.2.2.2.2.2.2.2.1 (Int.toNat v0) StaticRouteD).2.1, ()))) || true) || (((List.getD r.2.2.2.2.2.2.2.1 (Int.toNat v0) StaticRouteD).2.2.1 != 0) && (decide ((g_r8_Address r (List.getD r.2.2.2.2.2.2.2.1 (Int.toNat v0) StaticRouteD).2.2.1) ≥ 0)))) || (!(g_r8_within (List.getD r.2.2.2.2.2.2.2.1 (Int.toNat v0) StaticRouteD).2.2.2.2.2.1 1 255))) || (!(g_r8_within (List.getD r.2.2.2.2.2.2.2.1 (Int.toNat v0) StaticRouteD).2.2.2.2.2.2.1 0 65535)))
            (Q (1, ()))
            (cond (!((List.getD r.2.2.2.2.2.2.2.1 (Int.toNat v0) StaticRouteD).2.2.2.1 == []))
              (cond (decide ((g_r8_Interface r (List.getD r.2.2.2.2.2.2.2.1 (Int.toNat v0) StaticRouteD).2.2.2.1) < 0))
                (Q (5, ()))
                (cond (okIx (g_r8_Interface r (List.getD r.2.2.2.2.2.2.2.1 (Int.toNat v0) StaticRouteD).2.2.2.1) (r.2.2.1.length : Int))
                  (cond ((List.getD r.2.2.1 (Int.toNat (g_r8_Interface r (List.getD r.2.2.2.2.2.2.2.1 (Int.toNat v0) StaticRouteD).2.2.2.1)) InterfaceD).2.2.1 == 0)
                    (Q (1, ()))
                    (L_r8_statics_1 r v0 (List.getD r.2.2.2.2.2.2.2.1 (Int.toNat v0) StaticRouteD) 0 Q))
                  False))
              (L_r8_statics_1 r v0 (List.getD r.2.2.2.2.2.2.2.1 (Int.toNat v0) StaticRouteD) 0 Q)))
          (cond (((((!(g_r4_Valid ((List.getD r.2.2.2.2.2.2.2.1 (Int.toNat v0) StaticRouteD).1, (List.getD r.2.2.2.2.2.2.2.1 (Int.toNat v0) StaticRouteD).2.1, ()))) || true) || (((List.getD r.2.2.2.2.2.2.2.1 (Int.toNat v0) StaticRouteD).2.2.1 != 0) && (decide ((g_r8_Address r (List.getD r.2.2.2.2.2.2.2.1 (Int.toNat v0) StaticRouteD).2.2.1) ≥ 0)))) || (!(g_r8_within (List.getD r.2.2.2.2.2.2.2.1 (Int.toNat v0) StaticRouteD).2.2.2.2.2.1 1 255))) || (!(g_r8_within (List.getD r.2.2.2.2.2.2.2.1 (Int.toNat v0) StaticRouteD).2.2.2.2.2.2.1 0 65535)))
            (Q (1, ()))
            (cond (!((List.getD r.2.2.2.2.2.2.2.1 (Int.toNat v0) StaticRouteD).2.2.2.1 == []))
              (cond (decide ((g_r8_Interface r (List.getD r.2.2.2.2.2.2.2.1 (Int.toNat v0) StaticRouteD).2.2.2.1) < 0))
                (Q (5, ()))
                (cond (okIx (g_r8_Interface r (List.getD r.2.2.2.2.2.2.2.1 (Int.toNat v0) StaticRouteD).2.2.2.1) (r.2.2.1.length : Int))
                  (cond ((List.getD r.2.2.1 (Int.toNat (g_r8_Interface r (List.getD r.2.2.2.2.2.2.2.1 (Int.toNat v0) StaticRouteD).2.2.2.1)) InterfaceD).2.2.1 == 0)
                    (Q (1, ()))
                    (L_r8_statics_1 r v0 (List.getD r.2.2.2.2.2.2.2.1 (Int.toNat v0) StaticRouteD) 0 Q))
                  False))
              (L_r8_statics_1 r v0 (List.getD r.2.2.2.2.2.2.2.1 (Int.toNat v0) StaticRouteD) 0 Q))))
        (cond (List.getD r.2.2.2.2.2.2.2.1 (Int.toNat v0) StaticRouteD).2.2.2.2.1
          (cond (((((!(g_r4_Valid ((List.getD r.2.2.2.2.2.2.2.1 (Int.toNat v0) StaticRouteD).1, (List.getD r.2.2.2.2.2.2.2.1 (Int.toNat v0) StaticRouteD).2.1, ()))) || true) || (((List.getD r.2.2.2.2.2.2.2.1 (Int.toNat v0) StaticRouteD).2.2.1 != 0) && (decide ((g_r8_Address r (List.getD r.2.2.2.2.2.2.2.1 (Int.toNat v0) StaticRouteD).2.2.1) ≥ 0)))) || (!(g_r8_within (List.getD r.2.2.2.2.2.2.2.1 (Int.toNat v0) StaticRouteD).2.2.2.2.2.1 1 255))) || (!(g_r8_within (List.getD r.2.2.2.2.2.2.2.1 (Int.toNat v0) StaticRouteD).2.2.2.2.2.2.1 0 65535)))
            (Q (1, ()))
            (cond (!((List.getD r.2.2.2.2.2.2.2.1 (Int.toNat v0) StaticRouteD).2.2.2.1 == []))
              (cond (decide ((g_r8_Interface r (List.getD r.2.2.2.2.2.2.2.1 (Int.toNat v0) StaticRouteD).2.2.2.1) < 0))
                (Q (5, ()))
                (cond (okIx (g_r8_Interface r (List.getD r.2.2.2.2.2.2.2.1 (Int.toNat v0) StaticRouteD).2.2.2.1) (r.2.2.1.length : Int))
                  (cond ((List.getD r.2.2.1 (Int.toNat (g_r8_Interface r (List.getD r.2.2.2.2.2.2.2.1 (Int.toNat v0) StaticRouteD).2.2.2.1)) InterfaceD).2.2.1 == 0)
                    (Q (1, ()))
                    (L_r8_statics_1 r v0 (List.getD r.2.2.2.2.2.2.2.1 (Int.toNat v0) StaticRouteD) 0 Q))
                  False))
              (L_r8_statics_1 r v0 (List.getD r.2.2.2.2.2.2.2.1 (Int.toNat v0) StaticRouteD) 0 Q)))
          (cond (((((!(g_r4_Valid ((List.getD r.2.2.2.2.2.2.2.1 (Int.toNat v0) StaticRouteD).1, (List.getD r.2.2.2.2.2.2.2.1 (Int.toNat v0) StaticRouteD).2.1, ()))) && true) || (((List.getD r.2.2.2.2.2.2.2.1 (Int.toNat v0) StaticRouteD).2.2.1 != 0) && (decide ((g_r8_Address r (List.getD r.2.2.2.2.2.2.2.1 (Int.toNat v0) StaticRouteD).2.2.1) ≥ 0)))) || (!(g_r8_within (List.getD r.2.2.2.2.2.2.2.1 (Int.toNat v0) StaticRouteD).2.2.2.2.2.1 1 255))) || (!(g_r8_within (List.getD r.2.2.2.2.2.2.2.1 (Int.toNat v0) StaticRouteD).2.2.2.2.2.2.1 0 65535)))
            (Q (1, ()))
            (cond (!((List.getD r.2.2.2.2.2.2.2.1 (Int.toNat v0) StaticRouteD).2.2.2.1 == []))
              (cond (decide ((g_r8_Interface r (List.getD r.2.2.2.2.2.2.2.1 (Int.toNat v0) StaticRouteD).2.2.2.1) < 0))
                (Q (5, ()))
                (cond (okIx (g_r8_Interface r (List.getD r.2.2.2.2.2.2.2.1 (Int.toNat v0) StaticRouteD).2.2.2.1) (r.2.2.1.length : Int))
                  (cond ((List.getD r.2.2.1 (Int.toNat (g_r8_Interface r (List.getD r.2.2.2.2.2.2.2.1 (Int.toNat v0) StaticRouteD).2.2.2.1)) InterfaceD).2.2.1 == 0)
                    (Q (1, ()))
                    (L_r8_statics_1 r v0 (List.getD r.2.2.2.2.2.2.2.1 (Int.toNat v0) StaticRouteD) 0 Q))
                  False))
              (L_r8_statics_1 r v0 (List.getD r.2.2.2.2.2.2.2.1 (Int.toNat v0) StaticRouteD) 0 Q)))))
      (cond (!((List.getD r.2.2.2.2.2.2.2.1 (Int.toNat v0) StaticRouteD).2.2.2.1 == []))
        (cond (List.getD r.2.2.2.2.2.2.2.1 (Int.toNat v0) StaticRouteD).2.2.2.2.1
          (cond (((((!(g_r4_Valid ((List.getD r.2.2.2.2.2.2.2.1 (Int.toNat v0) StaticRouteD).1, (List.getD r.2.2.2.2.2.2.2.1 (Int.toNat v0) StaticRouteD).2.1, ()))) || true) || (((List.getD r.2.2.2.2.2.2.2.1 (Int.toNat v0) StaticRouteD).2.2.1 != 0) && (decide ((g_r8_Address r (List.getD r.2.2.2.2.2.2.2.1 (Int.toNat v0) StaticRouteD).2.2.1) ≥ 0)))) || (!(g_r8_within (List.getD r.2.2.2.2.2.2.2.1 (Int.toNat v0) StaticRouteD).2.2.2.2.2.1 1 255))) || (!(g_r8_within (List.getD r.2.2.2.2.2.2.2.1 (Int.toNat v0) StaticRouteD).2.2.2.2.2.2.1 0 65535)))
            (Q (1, ()))
            (cond (!((List.getD r.2.2.2.2.2.2.2.1 (Int.toNat v0) StaticRouteD).2.2.2.1 == []))
              (cond (decide ((g_r8_Interface r (List.getD r.2.2.2.2.2.2.2.1 (Int.toNat v0) StaticRouteD).2.2.2.1) < 0))
                (Q (5, ()))
                (cond (okIx (g_r8_Interface r (List.getD r.2.2.2.2.2.2.2.1 (Int.toNat v0) StaticRouteD).2.2.2.1) (r.2.2.1.length : Int))
                  (cond ((List.getD r.2.2.1 (Int.toNat (g_r8_Interface r (List.getD r.2.2.2.2.2.2.2.1 (Int.toNat v0) StaticRouteD).2.2.2.1)) InterfaceD).2.2.1 == 0)
                    (Q (1, ()))
                    (L_r8_statics_1 r v0 (List.getD r.2.2.2.2.2.2.2.1 (Int.toNat v0) StaticRouteD) 0 Q))
                  False))
              (L_r8_statics_1 r v0 (List.getD r.2.2.2.2.2.2.2.1 (Int.toNat v0) StaticRouteD) 0 Q)))
          (cond (((((!(g_r4_Valid ((List.getD r.2.2.2.2.2.2.2.1 (Int.toNat v0) StaticRouteD).1, (List.getD r.2.2.2.2.2.2.2.1 (Int.toNat v0) StaticRouteD).2.1, ()))) && true) || (((List.getD r.2.2.2.2.2.2.2.1 (Int.toNat v0) StaticRouteD).2.2.1 != 0) && (decide ((g_r8_Address r (List.getD r.2.2.2.2.2.2.2.1 (Int.toNat v0) StaticRouteD).2.2.1) ≥ 0)))) || (!(g_r8_within (List.getD r.2.2.2.2.2.2.2.1 (Int.toNat v0) StaticRouteD).2.2.2.2.2.1 1 255))) || (!(g_r8_within (List.getD r.2.2.2.2.2.2.2.1 (Int.toNat v0) StaticRouteD).2.2.2.2.2.2.1 0 65535)))
            (Q (1, ()))
            (cond (!((List.getD r.2.2.2.2.2.2.2.1 (Int.toNat v0) StaticRouteD).2.2.2.1 == []))
              (cond (decide ((g_r8_Interface r (List.getD r.2.2.2.2.2.2.2.1 (Int.toNat v0) StaticRouteD).2.2.2.1) < 0))
                (Q (5, ()))
                (cond (okIx (g_r8_Interface r (List.getD r.2.2.2.2.2.2.2.1 (Int.toNat v0) StaticRouteD).2.2.2.1) (r.2.2.1.length : Int))
                  (cond ((List.getD r.2.2.1 (Int.toNat (g_r8_Interface r (List.getD r.2.2.2.2.2.2.2.1 (Int.toNat v0) StaticRouteD).2.2.2.1)) InterfaceD).2.2.1 == 0)
                    (Q (1, ()))
                    (L_r8_statics_1 r v0 (List.getD r.2.2.2.2.2.2.2.1 (Int.toNat v0) StaticRouteD) 0 Q))
                  False))
              (L_r8_statics_1 r v0 (List.getD r.2.2.2.2.2.2.2.1 (Int.toNat v0) StaticRouteD) 0 Q))))
        (cond (List.getD r.2.2.2.2.2.2.2.1 (Int.toNat v0) StaticRouteD).2.2.2.2.1
          (cond (((((!(g_r4_Valid ((List.getD r.2.2.2.2.2.2.2.1 (Int.toNat v0) StaticRouteD).1, (List.getD r.2.2.2.2.2.2.2.1 (Int.toNat v0) StaticRouteD).2.1, ()))) && true) || (((List.getD r.2.2.2.2.2.2.2.1 (Int.toNat v0) StaticRouteD).2.2.1 != 0) && (decide ((g_r8_Address r (List.getD r.2.2.2.2.2.2.2.1 (Int.toNat v0) StaticRouteD).2.2.1) ≥ 0)))) || (!(g_r8_within (List.getD r.2.2.2.2.2.2.2.1 (Int.toNat v0) StaticRouteD).2.2.2.2.2.1 1 255))) || (!(g_r8_within (List.getD r.2.2.2.2.2.2.2.1 (Int.toNat v0) StaticRouteD).2.2.2.2.2.2.1 0 65535)))
            (Q (1, ()))
            (cond (!((List.getD r.2.2.2.2.2.2.2.1 (Int.toNat v0) StaticRouteD).2.2.2.1 == []))
              (cond (decide ((g_r8_Interface r (List.getD r.2.2.2.2.2.2.2.1 (Int.toNat v0) StaticRouteD).2.2.2.1) < 0))
                (Q (5, ()))
                (cond (okIx (g_r8_Interface r (List.getD r.2.2.2.2.2.2.2.1 (Int.toNat v0) StaticRouteD).2.2.2.1) (r.2.2.1.length : Int))
                  (cond ((List.getD r.2.2.1 (Int.toNat (g_r8_Interface r (List.getD r.2.2.2.2.2.2.2.1 (Int.toNat v0) StaticRouteD).2.2.2.1)) InterfaceD).2.2.1 == 0)
                    (Q (1, ()))
                    (L_r8_statics_1 r v0 (List.getD r.2.2.2.2.2.2.2.1 (Int.toNat v0) StaticRouteD) 0 Q))
                  False))
              (L_r8_statics_1 r v0 (List.getD r.2.2.2.2.2.2.2.1 (Int.toNat v0) StaticRouteD) 0 Q)))
          (cond (((((!(g_r4_Valid ((List.getD r.2.2.2.2.2.2.2.1 (Int.toNat v0) StaticRouteD).1, (List.getD r.2.2.2.2.2.2.2.1 (Int.toNat v0) StaticRouteD).2.1, ()))) || true) || (((List.getD r.2.2.2.2.2.2.2.1 (Int.toNat v0) StaticRouteD).2.2.1 != 0) && (decide ((g_r8_Address r (List.getD r.2.2.2.2.2.2.2.1 (Int.toNat v0) StaticRouteD).2.2.1) ≥ 0)))) || (!(g_r8_within (List.getD r.2.2.2.2.2.2.2.1 (Int.toNat v0) StaticRouteD).2.2.2.2.2.1 1 255))) || (!(g_r8_within (List.getD r.2.2.2.2.2.2.2.1 (Int.toNat v0) StaticRouteD).2.2.2.2.2.2.1 0 65535)))
            (Q (1, ()))
            (cond (!((List.getD r.2.2.2.2.2.2.2.1 (Int.toNat v0) StaticRouteD).2.2.2.1 == []))
              (cond (decide ((g_r8_Interface r (List.getD r.2.2.2.2.2.2.2.1 (Int.toNat v0) StaticRouteD).2.2.2.1) < 0))
                (Q (5, ()))
                (cond (okIx (g_r8_Interface r (List.getD r.2.2.2.2.2.2.2.1 (Int.toNat v0) StaticRouteD).2.2.2.1) (r.2.2.1.length : Int))
                  (cond ((List.getD r.2.2.1 (Int.toNat (g_r8_Interface r (List.getD r.2.2.2.2.2.2.2.1 (Int.toNat v0) StaticRouteD).2.2.2.1)) InterfaceD).2.2.1 == 0)
                    (Q (1, ()))
                    (L_r8_statics_1 r v0 (List.getD r.2.2.2.2.2.2.2.1 (Int.toNat v0) StaticRouteD) 0 Q))
                  False))
              (L_r8_statics_1 r v0 (List.getD r.2.2.2.2.2.2.2.1 (Int.toNat v0) StaticRouteD) 0 Q))))))
    False)
  (Q (0, ())))).symm ▸ h)
theorem rd_r8_statics_1 (r : RouterT) (v0 : Int) (v1 : StaticRouteT) (v2 : Int) (Q : Int × Unit → Prop) (h :
  cond (decide (v2 < v0))
  (cond ((okIx v2 (r.2.2.2.2.2.2.2.1.length : Int)) && ((okIx v2 (r.2.2.2.2.2.2.2.1.length : Int)) || (!(((((List.getD r.2.2.2.2.2.2.2.1 (Int.toNat v2) StaticRouteD).1 == v1.1) && ((List.getD r.2.2.2.2.2.2.2.1 (Int.toNat v2) StaticRouteD).2.1 == v1.2.1)) == true) && true))))
    (cond ((((List.getD r.2.2.2.2.2.2.2.1 (Int.toNat v2) StaticRouteD).1 == v1.1) && ((List.getD r.2.2.2.2.2.2.2.1 (Int.toNat v2) StaticRouteD).2.1 == v1.2.1)) && ((List.getD r.2.2.2.2.2.2.2.1 (Int.toNat v2) StaticRouteD).2.2.2.2.2.1 == v1.2.2.2.2.2.1))
      (Q (6, ()))
      (L_r8_statics_1 r v0 v1 (IntKind.wrap .i64 (v2 + 1)) Q))
    False)
  (L_r8_statics_0 r (IntKind.wrap .i64 (v0 + 1)) Q)) : L_r8_statics_1 r v0 v1 v2 Q := Lfp.step ((by kernel_rfl : evC G_r8_statics (Lfp G_r8_statics tb_r8_statics) (tb_r8_statics 1).2 (s_r8_statics_1 r v0 v1 v2) (kLoop (tb_r8_statics 1).1 (Lfp G_r8_statics tb_r8_statics 1) (k_r8_statics_1 Q)) = (
  cond (decide (v2 < v0))
  (cond ((okIx v2 (r.2.2.2.2.2.2.2.1.length : Int)) && ((okIx v2 (r.2.2.2.2.2.2.2.1.length : Int)) || (!(((((List.getD r.2.2.2.2.2.2.2.1 (Int.toNat v2) StaticRouteD).1 == v1.1) && ((List.getD r.2.2.2.2.2.2.2.1 (Int.toNat v2) StaticRouteD).2.1 == v1.2.1)) == true) && true))))
    (cond ((((List.getD r.2.2.2.2.2.2.2.1 (Int.toNat v2) StaticRouteD).1 == v1.1) && ((List.getD r.2.2.2.2.2.2.2.1 (Int.toNat v2) StaticRouteD).2.1 == v1.2.1)) && ((List.getD r.2.2.2.2.2.2.2.1 (Int.toNat v2) StaticRouteD).2.2.2.2.2.1 == v1.2.2.2.2.2.1))
      (Q (6, ()))
      (L_r8_statics_1 r v0 v1 (IntKind.wrap .i64 (v2 + 1)) Q))
    False)
  (L_r8_statics_0 r (IntKind.wrap .i64 (v0 + 1)) Q))).symm ▸ h)
theorem lp_r8_statics_1 (r : RouterT) (c0 : Nat) (v1 : StaticRouteT) (next0 : Int) (Q : Int × Unit → Prop) (hw : VSs.wf e_r8_statics.A (r, ())) (hc0 : c0 < r.2.2.2.2.2.2.2.1.length) (hn0 : (fun y : Int => Q (y, ())) next0 → L_r8_statics_0 r (IntKind.wrap .i64 ((c0 : Int) + 1)) Q) (g0 : (decide ((r.2.2.2.2.2.2.2.1.length : Int) > 16)) = false) : (fun y : Int => Q (y, ())) (S_r8_statics_1 r c0 v1 next0) → L_r8_statics_1 r (c0 : Int) v1 0 Q := by
  have _ := hw
  have _ := g0
  have _ := hc0
  let FF := (fun y : Int => Q (y, ()))
  refine upV_loop (F := FF) (k := .i64) (L := (fun c1 : Int => L_r8_statics_1 r (c0 : Int) v1 c1 Q)) (wrap_i64n (Nat.le_trans (Nat.le_of_lt hc0) (show _ ≤ _ from (((((((((hw.1).2).2).2).2).2).2).2).1).1))) (fun c1 hc1 hF => rd_r8_statics_1 r (c0 : Int) v1 (c1 : Int) Q (cond_ge (n := c0) rfl hc1 (hn0 hF))) (fun c1 _ hc1 next1 hn1 hF => rd_r8_statics_1 r (c0 : Int) v1 (c1 : Int) Q (cond_lt (n := c0) rfl hc1 ((vc_f (F := FF) (by first | ((exact ixi_r8_Interface (not_neg (by assumption))); done) | ((repeat' (first | rfl | exact nn_d64 _ | exact okIx_nat hc0 | exact okIx_nat hc1 | exact okIx_nat (Nat.lt_trans hc1 hc0) | refine and_t ?_ ?_ | refine or_l ?_)); done) | (simp [-List.getD_eq_getElem?_getD, okIx_nat hc0, okIx_nat hc1, okIx_nat (Nat.lt_trans hc1 hc0), nn_u64, nn_u32]; done) | (simp [-List.getD_eq_getElem?_getD, okIx_nat hc0, okIx_nat hc1, okIx_nat (Nat.lt_trans hc1 hc0), nn_u64, nn_u32, g0]; done) | (have hry : roomy = 1048576 := rfl; simp [-List.getD_eq_getElem?_getD, okIx, okSlc, okApp, len_slcL, len_segL] at g0 ⊢ <;> omega)) /- 1 -/ (cond_f (F := FF) (fun h1 => id) (fun h1 => hn1))) hF)))
theorem lp_r8_statics_0 (r : RouterT) (Q : Int × Unit → Prop) (hw : VSs.wf e_r8_statics.A (r, ()))  (g0 : (decide ((r.2.2.2.2.2.2.2.1.length : Int) > 16)) = false) : (fun y : Int => Q (y, ())) (S_r8_statics_0 r) → L_r8_statics_0 r 0 Q := by
  have _ := hw
  have _ := g0
  let FF := (fun y : Int => Q (y, ()))
  refine upV_loop (F := FF) (k := .i64) (L := (fun c0 : Int => L_r8_statics_0 r c0 Q)) (wrap_i64n (show _ ≤ _ from (((((((((hw.1).2).2).2).2).2).2).2).1).1)) (fun c0 hc0 hF => rd_r8_statics_0 r (c0 : Int) Q (cond_ge (n := r.2.2.2.2.2.2.2.1.length) rfl hc0 (id hF))) (fun c0 _ hc0 next0 hn0 hF => rd_r8_statics_0 r (c0 : Int) Q (cond_lt (n := r.2.2.2.2.2.2.2.1.length) rfl hc0 ((vc_f (F := FF) (by first | ((exact ixi_r8_Interface (not_neg (by assumption))); done) | ((repeat' (first | rfl | exact nn_d64 _ | exact okIx_nat hc0 | refine and_t ?_ ?_ | refine or_l ?_)); done) | (simp [-List.getD_eq_getElem?_getD, okIx_nat hc0, nn_u64, nn_u32]; done) | (simp [-List.getD_eq_getElem?_getD, okIx_nat hc0, nn_u64, nn_u32, g0]; done) | (have hry : roomy = 1048576 := rfl; simp [-List.getD_eq_getElem?_getD, okIx, okSlc, okApp, len_slcL, len_segL] at g0 ⊢ <;> omega)) /- 2 -/ (cond_f (F := FF) (fun h1 => (cond_f (F := FF) (fun h2 => (cond_f (F := FF) (fun h3 => (cond_f (F := FF) (fun h4 => id) (fun h4 => (cond_f (F := FF) (fun h5 => (cond_f (F := FF) (fun h6 => id) (fun h6 => (vc_f (F := FF) (by first | ((exact ixi_r8_Interface (not_neg (by assumption))); done) | ((repeat' (first | rfl | exact nn_d64 _ | exact okIx_nat hc0 | refine and_t ?_ ?_ | refine or_l ?_)); done) | (simp [-List.getD_eq_getElem?_getD, okIx_nat hc0, nn_u64, nn_u32]; done) | (simp [-List.getD_eq_getElem?_getD, okIx_nat hc0, nn_u64, nn_u32, g0, h1, h2, h3, h4, h5, h6]; done) | (have hry : roomy = 1048576 := rfl; simp [-List.getD_eq_getElem?_getD, okIx, okSlc, okApp, len_slcL, len_segL] at g0 h1 h2 h3 h4 h5 h6 ⊢ <;> omega)) /- 3 -/ (cond_f (F := FF) (fun h7 => id) (fun h7 => (lp_r8_statics_1 r c0 _ _ Q hw hc0 hn0 g0))))))) (fun h5 => (lp_r8_statics_1 r c0 _ _ Q hw hc0 hn0 g0)))))) (fun h3 => (cond_f (F := FF) (fun h4 => id) (fun h4 => (cond_f (F := FF) (fun h5 => (cond_f (F := FF) (fun h6 => id) (fun h6 => (vc_f (F := FF) (by first | ((exact ixi_r8_Interface (not_neg (by assumption))); done) | ((repeat' (first | rfl | exact nn_d64 _ | exact okIx_nat hc0 | refine and_t ?_ ?_ | refine or_l ?_)); done) | (simp [-List.getD_eq_getElem?_getD, okIx_nat hc0, nn_u64, nn_u32]; done) | (simp [-List.getD_eq_getElem?_getD, okIx_nat hc0, nn_u64, nn_u32, g0, h1, h2, h3, h4, h5, h6]; done) | (have hry : roomy = 1048576 := rfl; simp [-List.getD_eq_getElem?_getD, okIx, okSlc, okApp, len_slcL, len_segL] at g0 h1 h2 h3 h4 h5 h6 ⊢ <;> omega)) /- 4 -/ (cond_f (F := FF) (fun h7 => id) (fun h7 => (lp_r8_statics_1 r c0 _ _ Q hw hc0 hn0 g0))))))) (fun h5 => (lp_r8_statics_1 r c0 _ _ Q hw hc0 hn0 g0)))))))) (fun h2 => (cond_f (F := FF) (fun h3 => (cond_f (F := FF) (fun h4 => id) (fun h4 => (cond_f (F := FF) (fun h5 => (cond_f (F := FF) (fun h6 => id) (fun h6 => (vc_f (F := FF) (by first | ((exact ixi_r8_Interface (not_neg (by assumption))); done) | ((repeat' (first | rfl | exact nn_d64 _ | exact okIx_nat hc0 | refine and_t ?_ ?_ | refine or_l ?_)); done) | (simp [-List.getD_eq_getElem?_getD, okIx_nat hc0, nn_u64, nn_u32]; done) | (simp [-List.getD_eq_getElem?_getD, okIx_nat hc0, nn_u64, nn_u32, g0, h1, h2, h3, h4, h5, h6]; done) | (have hry : roomy = 1048576 := rfl; simp [-List.getD_eq_getElem?_getD, okIx, okSlc, okApp, len_slcL, len_segL] at g0 h1 h2 h3 h4 h5 h6 ⊢ <;> omega)) /- 5 -/ (cond_f (F := FF) (fun h7 => id) (fun h7 => (lp_r8_statics_1 r c0 _ _ Q hw hc0 hn0 g0))))))) (fun h5 => (lp_r8_statics_1 r c0 _ _ Q hw hc0 hn0 g0)))))) (fun h3 => (cond_f (F := FF) (fun h4 => id) (fun h4 => (cond_f (F := FF) (fun h5 => (cond_f (F := FF) (fun h6 => id) (fun h6 => (vc_f (F := FF) (by first | ((exact ixi_r8_Interface (not_neg (by assumption))); done) | ((repeat' (first | rfl | exact nn_d64 _ | exact okIx_nat hc0 | refine and_t ?_ ?_ | refine or_l ?_)); done) | (simp [-List.getD_eq_getElem?_getD, okIx_nat hc0, nn_u64, nn_u32]; done) | (simp [-List.getD_eq_getElem?_getD, okIx_nat hc0, nn_u64, nn_u32, g0, h1, h2, h3, h4, h5, h6]; done) | (have hry : roomy = 1048576 := rfl; simp [-List.getD_eq_getElem?_getD, okIx, okSlc, okApp, len_slcL, len_segL] at g0 h1 h2 h3 h4 h5 h6 ⊢ <;> omega)) /- 6 -/ (cond_f (F := FF) (fun h7 => id) (fun h7 => (lp_r8_statics_1 r c0 _ _ Q hw hc0 hn0 g0))))))) (fun h5 => (lp_r8_statics_1 r c0 _ _ Q hw hc0 hn0 g0)))))))))) (fun h1 => (cond_f (F := FF) (fun h2 => (cond_f (F := FF) (fun h3 => (cond_f (F := FF) (fun h4 => id) (fun h4 => (cond_f (F := FF) (fun h5 => (cond_f (F := FF) (fun h6 => id) (fun h6 => (vc_f (F := FF) (by first | ((exact ixi_r8_Interface (not_neg (by assumption))); done) | ((repeat' (first | rfl | exact nn_d64 _ | exact okIx_nat hc0 | refine and_t ?_ ?_ | refine or_l ?_)); done) | (simp [-List.getD_eq_getElem?_getD, okIx_nat hc0, nn_u64, nn_u32]; done) | (simp [-List.getD_eq_getElem?_getD, okIx_nat hc0, nn_u64, nn_u32, g0, h1, h2, h3, h4, h5, h6]; done) | (have hry : roomy = 1048576 := rfl; simp [-List.getD_eq_getElem?_getD, okIx, okSlc, okApp, len_slcL, len_segL] at g0 h1 h2 h3 h4 h5 h6 ⊢ <;> omega)) /- 7 -/ (cond_f (F := FF) (fun h7 => id) (fun h7 => (lp_r8_statics_1 r c0 _ _ Q hw hc0 hn0 g0))))))) (fun h5 => (lp_r8_statics_1 r c0 _ _ Q hw hc0 hn0 g0)))))) (fun h3 => (cond_f (F := FF) (fun h4 => id) (fun h4 => (cond_f (F := FF) (fun h5 => (cond_f (F := FF) (fun h6 => id) (fun h6 => (vc_f (F := FF) (by first | ((exact ixi_r8_Interface (not_neg (by assumption))); done) | ((repeat' (first | rfl | exact nn_d64 _ | exact okIx_nat hc0 | refine and_t ?_ ?_ | refine or_l ?_)); done) | (simp [-List.getD_eq_getElem?_getD, okIx_nat hc0, nn_u64, nn_u32]; done) | (simp [-List.getD_eq_getElem?_getD, okIx_nat hc0, nn_u64, nn_u32, g0, h1, h2, h3, h4, h5, h6]; done) | (have hry : roomy = 1048576 := rfl; simp [-List.getD_eq_getElem?_getD, okIx, okSlc, okApp, len_slcL, len_segL] at g0 h1 h2 h3 h4 h5 h6 ⊢ <;> omega)) /- 8 -/ (cond_f (F := FF) (fun h7 => id) (fun h7 => (lp_r8_statics_1 r c0 _ _ Q hw hc0 hn0 g0))))))) (fun h5 => (lp_r8_statics_1 r c0 _ _ Q hw hc0 hn0 g0)))))))) (fun h2 => (cond_f (F := FF) (fun h3 => (cond_f (F := FF) (fun h4 => id) (fun h4 => (cond_f (F := FF) (fun h5 => (cond_f (F := FF) (fun h6 => id) (fun h6 => (vc_f (F := FF) (by first | ((exact ixi_r8_Interface (not_neg (by assumption))); done) | ((repeat' (first | rfl | exact nn_d64 _ | exact okIx_nat hc0 | refine and_t ?_ ?_ | refine or_l ?_)); done) | (simp [-List.getD_eq_getElem?_getD, okIx_nat hc0, nn_u64, nn_u32]; done) | (simp [-List.getD_eq_getElem?_getD, okIx_nat hc0, nn_u64, nn_u32, g0, h1, h2, h3, h4, h5, h6]; done) | (have hry : roomy = 1048576 := rfl; simp [-List.getD_eq_getElem?_getD, okIx, okSlc, okApp, len_slcL, len_segL] at g0 h1 h2 h3 h4 h5 h6 ⊢ <;> omega)) /- 9 -/ (cond_f (F := FF) (fun h7 => id) (fun h7 => (lp_r8_statics_1 r c0 _ _ Q hw hc0 hn0 g0))))))) (fun h5 => (lp_r8_statics_1 r c0 _ _ Q hw hc0 hn0 g0)))))) (fun h3 => (cond_f (F := FF) (fun h4 => id) (fun h4 => (cond_f (F := FF) (fun h5 => (cond_f (F := FF) (fun h6 => id) (fun h6 => (vc_f (F := FF) (by first | ((exact ixi_r8_Interface (not_neg (by assumption))); done) | ((repeat' (first | rfl | exact nn_d64 _ | exact okIx_nat hc0 | refine and_t ?_ ?_ | refine or_l ?_)); done) | (simp [-List.getD_eq_getElem?_getD, okIx_nat hc0, nn_u64, nn_u32]; done) | (simp [-List.getD_eq_getElem?_getD, okIx_nat hc0, nn_u64, nn_u32, g0, h1, h2, h3, h4, h5, h6]; done) | (have hry : roomy = 1048576 := rfl; simp [-List.getD_eq_getElem?_getD, okIx, okSlc, okApp, len_slcL, len_segL] at g0 h1 h2 h3 h4 h5 h6 ⊢ <;> omega)) /- 10 -/ (cond_f (F := FF) (fun h7 => id) (fun h7 => (lp_r8_statics_1 r c0 _ _ Q hw hc0 hn0 g0))))))) (fun h5 => (lp_r8_statics_1 r c0 _ _ Q hw hc0 hn0 g0)))))))))))) hF)))
theorem ct_r8_statics (r : RouterT) (hw : VSs.wf e_r8_statics.A (r, ())) (Q : Int × Unit → Prop) (hq : Q (e_r8_statics.g (r, ()))) : EvF G_r8_statics tb_r8_statics c_r8_statics (VSs.enc e_r8_statics.A (r, ())) (dq e_r8_statics.R Q) := by
  have _ := hw
  let FF := (fun y : Int => Q (y, ()))
  refine EvF.of (in_r8_statics r Q) ?_
  exact (cond_f (F := FF) (fun h0 => id) (fun h0 => (lp_r8_statics_0 r Q hw h0))) hq
end Go.Proofs.Ytabhhkjjpmcodaa
