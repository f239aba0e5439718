/-
  The codes and their equations.
-/
import Derived.Test.YthpocifmjeopiaaAmG
import Derived.Test.YthpocifmjeopiaaProg
import Derived.KernelRfl
namespace Go.Proofs.Ythpocifmjeopiaa
open Go Go.AM
set_option maxRecDepth 100000
/-! netverify/acl.inRange -/
def G_acl_inRange : List Ent := []
def c_acl_inRange : AFunc := AFunc.mk 15 2 [(.t 4)] (.seq (.region [(.mk (some 2) none (.box (.t 0))), (.mk (some 4) none (.mov (.c (.f (.bool false)))))]) (.seq (.region [(.mk (some 5) none (.fld 0 (.t 2))), (.mk (some 6) none (.load false 1 (.t 5))), (.mk (some 7) none (.mov (.t 1))), (.mk (some 8) none (.bin .leq (.t 6) (.t 7))), (.mk (some 9) none (.mov (.t 8))), (.mk (some 10) (some (9, true)) (.mov (.t 1))), (.mk (some 11) (some (9, true)) (.fld 1 (.t 2))), (.mk (some 12) (some (9, true)) (.load false 1 (.t 11))), (.mk (some 13) (some (9, true)) (.bin .leq (.t 10) (.t 12))), (.mk (some 14) none (.pick 9 (.t 13) (.c (.f (.bool false))))), (.mk (some 4) none (.mov (.t 14)))]) .ret))
def tb_acl_inRange : Tbl := fun _ => ([], .skip)
theorem ok_acl_inRange : compF Try.prog Try.f26 = some c_acl_inRange.strip := by kernel_rfl
theorem tk_acl_inRange : TblOk tb_acl_inRange c_acl_inRange.body := ⟨trivial, ⟨trivial, trivial⟩⟩
theorem in_acl_inRange (x0 : PortRangeT) (n : Int) (Q : List FV → Prop) : evF G_acl_inRange (Lfp G_acl_inRange tb_acl_inRange) c_acl_inRange (VSs.enc e_acl_inRange.A (x0, n, ())) Q = (
  Q [.bool ((decide (x0.1 ≤ n)) && (decide (n ≤ x0.2.1)))]) := by kernel_rfl
theorem au_acl_inRange (x0 : PortRangeT) (n : Int) (Q : List FV → Prop) : evF G_acl_inRange (Lfp G_acl_inRange tb_acl_inRange) c_acl_inRange (VSs.enc e_acl_inRange.A (x0, n, ())) Q = Q (VSs.enc e_acl_inRange.R (e_acl_inRange.g (x0, n, ()))) := (in_acl_inRange x0 n Q).trans rfl
/-! netverify/acl.ValidPacket -/
def G_acl_ValidPacket : List Ent := [e_acl_inRange]
def c_acl_ValidPacket : AFunc := AFunc.mk 25 1 [(.t 2)] (.seq (.region [(.mk (some 1) none (.box (.t 0))), (.mk (some 2) none (.mov (.c (.f (.bool false)))))]) (.seq (.region [(.mk (some 4) none (.build [(.f (.int .i64 0)), (.f (.int .i64 0))] [(0, (1, (.c (.f (.int .i64 0))))), (1, (1, (.c (.f (.int .i64 65535)))))])), (.mk (some 3) none (.alloc [(.f (.int .i64 0)), (.f (.int .i64 0))])), (.mk none none (.store 2 (.t 3) (.t 4)))]) (.seq (.region [(.mk (some 5) none (.fld 2 (.t 1))), (.mk (some 6) none (.load false 1 (.t 5))), (.mk (some 7) none (.bin .leq (.c (.f (.int .i64 0))) (.t 6))), (.mk (some 8) none (.mov (.t 7))), (.mk (some 9) (some (8, true)) (.fld 2 (.t 1))), (.mk (some 10) (some (8, true)) (.load false 1 (.t 9))), (.mk (some 11) (some (8, true)) (.bin .leq (.t 10) (.c (.f (.int .i64 255))))), (.mk (some 12) none (.pick 8 (.t 11) (.c (.f (.bool false))))), (.mk (some 13) none (.mov (.t 12))), (.mk (some 14) (some (13, true)) (.load true 2 (.t 3))), (.mk (some 15) (some (13, true)) (.fld 3 (.t 1))), (.mk (some 16) (some (13, true)) (.load false 1 (.t 15))), (.mk (some 17) (some (13, true)) (.call 26 [(.t 14), (.t 16)])), (.mk (some 18) none (.pick 13 (.t 17) (.c (.f (.bool false))))), (.mk (some 19) none (.mov (.t 18))), (.mk (some 20) (some (19, true)) (.load true 2 (.t 3))), (.mk (some 21) (some (19, true)) (.fld 4 (.t 1))), (.mk (some 22) (some (19, true)) (.load false 1 (.t 21))), (.mk (some 23) (some (19, true)) (.call 26 [(.t 20), (.t 22)])), (.mk (some 24) none (.pick 19 (.t 23) (.c (.f (.bool false))))), (.mk (some 2) none (.mov (.t 24)))]) .ret)))
def tb_acl_ValidPacket : Tbl := fun _ => ([], .skip)
theorem ok_acl_ValidPacket : compF Try.prog Try.f10 = some c_acl_ValidPacket.strip := by kernel_rfl
theorem tk_acl_ValidPacket : TblOk tb_acl_ValidPacket c_acl_ValidPacket.body := ⟨trivial, ⟨trivial, ⟨trivial, trivial⟩⟩⟩
theorem in_acl_ValidPacket (p : PacketT) (Q : List FV → Prop) : evF G_acl_ValidPacket (Lfp G_acl_ValidPacket tb_acl_ValidPacket) c_acl_ValidPacket (VSs.enc e_acl_ValidPacket.A (p, ())) Q = (
  Q [.bool ((((decide (0 ≤ p.2.2.1)) && (decide (p.2.2.1 ≤ 255))) && (g_acl_inRange (0, 65535, ()) p.2.2.2.1)) && (g_acl_inRange (0, 65535, ()) p.2.2.2.2.1))]) := by kernel_rfl
theorem au_acl_ValidPacket (p : PacketT) (Q : List FV → Prop) : evF G_acl_ValidPacket (Lfp G_acl_ValidPacket tb_acl_ValidPacket) c_acl_ValidPacket (VSs.enc e_acl_ValidPacket.A (p, ())) Q = Q (VSs.enc e_acl_ValidPacket.R (e_acl_ValidPacket.g (p, ()))) := (in_acl_ValidPacket p Q).trans rfl
/-! netverify/netverifyref8.within -/
def G_r8_within : List Ent := []
def c_r8_within : AFunc := AFunc.mk 15 3 [(.t 6)] (.seq (.region [(.mk (some 6) none (.mov (.c (.f (.bool false)))))]) (.seq (.region [(.mk (some 7) none (.mov (.t 1))), (.mk (some 8) none (.mov (.t 0))), (.mk (some 9) none (.bin .leq (.t 7) (.t 8))), (.mk (some 10) none (.mov (.t 9))), (.mk (some 11) (some (10, true)) (.mov (.t 0))), (.mk (some 12) (some (10, true)) (.mov (.t 2))), (.mk (some 13) (some (10, true)) (.bin .leq (.t 11) (.t 12))), (.mk (some 14) none (.pick 10 (.t 13) (.c (.f (.bool false))))), (.mk (some 6) none (.mov (.t 14)))]) .ret))
def tb_r8_within : Tbl := fun _ => ([], .skip)
theorem ok_r8_within : compF Try.prog Try.f27 = some c_r8_within.strip := by kernel_rfl
theorem tk_r8_within : TblOk tb_r8_within c_r8_within.body := ⟨trivial, ⟨trivial, trivial⟩⟩
theorem in_r8_within (n : Int) (lo : Int) (hi : Int) (Q : List FV → Prop) : evF G_r8_within (Lfp G_r8_within tb_r8_within) c_r8_within (VSs.enc e_r8_within.A (n, lo, hi, ())) Q = (
  Q [.bool ((decide (lo ≤ n)) && (decide (n ≤ hi)))]) := by kernel_rfl
theorem au_r8_within (n : Int) (lo : Int) (hi : Int) (Q : List FV → Prop) : evF G_r8_within (Lfp G_r8_within tb_r8_within) c_r8_within (VSs.enc e_r8_within.A (n, lo, hi, ())) Q = Q (VSs.enc e_r8_within.R (e_r8_within.g (n, lo, hi, ()))) := (in_r8_within n lo hi Q).trans rfl
/-! netverify/netverifyref8.ValidPacket -/
def G_r8_ValidPacket : List Ent := [e_r8_within]
def c_r8_ValidPacket : AFunc := AFunc.mk 16 1 [(.t 2)] (.seq (.region [(.mk (some 1) none (.box (.t 0))), (.mk (some 2) none (.mov (.c (.f (.bool false)))))]) (.seq (.region [(.mk (some 3) none (.fld 2 (.t 1))), (.mk (some 4) none (.load false 1 (.t 3))), (.mk (some 5) none (.call 27 [(.t 4), (.c (.f (.int .i64 0))), (.c (.f (.int .i64 255)))])), (.mk (some 6) none (.mov (.t 5))), (.mk (some 7) (some (6, true)) (.fld 3 (.t 1))), (.mk (some 8) (some (6, true)) (.load false 1 (.t 7))), (.mk (some 9) (some (6, true)) (.call 27 [(.t 8), (.c (.f (.int .i64 0))), (.c (.f (.int .i64 65535)))])), (.mk (some 10) none (.pick 6 (.t 9) (.c (.f (.bool false))))), (.mk (some 11) none (.mov (.t 10))), (.mk (some 12) (some (11, true)) (.fld 4 (.t 1))), (.mk (some 13) (some (11, true)) (.load false 1 (.t 12))), (.mk (some 14) (some (11, true)) (.call 27 [(.t 13), (.c (.f (.int .i64 0))), (.c (.f (.int .i64 65535)))])), (.mk (some 15) none (.pick 11 (.t 14) (.c (.f (.bool false))))), (.mk (some 2) none (.mov (.t 15)))]) .ret))
def tb_r8_ValidPacket : Tbl := fun _ => ([], .skip)
theorem ok_r8_ValidPacket : compF Try.prog Try.f11 = some c_r8_ValidPacket.strip := by kernel_rfl
theorem tk_r8_ValidPacket : TblOk tb_r8_ValidPacket c_r8_ValidPacket.body := ⟨trivial, ⟨trivial, trivial⟩⟩
theorem in_r8_ValidPacket (p : PacketT) (Q : List FV → Prop) : evF G_r8_ValidPacket (Lfp G_r8_ValidPacket tb_r8_ValidPacket) c_r8_ValidPacket (VSs.enc e_r8_ValidPacket.A (p, ())) Q = (
  Q [.bool (((g_r8_within p.2.2.1 0 255) && (g_r8_within p.2.2.2.1 0 65535)) && (g_r8_within p.2.2.2.2.1 0 65535))]) := by kernel_rfl
theorem au_r8_ValidPacket (p : PacketT) (Q : List FV → Prop) : evF G_r8_ValidPacket (Lfp G_r8_ValidPacket tb_r8_ValidPacket) c_r8_ValidPacket (VSs.enc e_r8_ValidPacket.A (p, ())) Q = Q (VSs.enc e_r8_ValidPacket.R (e_r8_ValidPacket.g (p, ()))) := (in_r8_ValidPacket p Q).trans rfl
/-! netverify/acl.MatchesAddress -/
def G_acl_MatchesAddress : List Ent := []
def c_acl_MatchesAddress : AFunc := AFunc.mk 13 2 [(.t 4)] (.seq (.region [(.mk (some 2) none (.box (.t 0))), (.mk (some 4) none (.mov (.c (.f (.bool false)))))]) (.seq (.region [(.mk (some 5) none (.mov (.t 1))), (.mk (some 6) none (.fld 0 (.t 2))), (.mk (some 7) none (.load false 1 (.t 6))), (.mk (some 8) none (.bin .xor (.t 5) (.t 7))), (.mk (some 9) none (.fld 1 (.t 2))), (.mk (some 10) none (.load false 1 (.t 9))), (.mk (some 11) none (.bin .andNot (.t 8) (.t 10))), (.mk (some 12) none (.bin .eql (.t 11) (.c (.f (.int .u32 0))))), (.mk (some 4) none (.mov (.t 12)))]) .ret))
def tb_acl_MatchesAddress : Tbl := fun _ => ([], .skip)
theorem ok_acl_MatchesAddress : compF Try.prog Try.f12 = some c_acl_MatchesAddress.strip := by kernel_rfl
theorem tk_acl_MatchesAddress : TblOk tb_acl_MatchesAddress c_acl_MatchesAddress.body := ⟨trivial, ⟨trivial, trivial⟩⟩
theorem in_acl_MatchesAddress (w : WildcardT) (a : Int) (Q : List FV → Prop) : evF G_acl_MatchesAddress (Lfp G_acl_MatchesAddress tb_acl_MatchesAddress) c_acl_MatchesAddress (VSs.enc e_acl_MatchesAddress.A (w, a, ())) Q = (
  Q [.bool ((iandnot .u32 (ixor .u32 a w.1) w.2.1) == 0)]) := by kernel_rfl
theorem au_acl_MatchesAddress (w : WildcardT) (a : Int) (Q : List FV → Prop) : evF G_acl_MatchesAddress (Lfp G_acl_MatchesAddress tb_acl_MatchesAddress) c_acl_MatchesAddress (VSs.enc e_acl_MatchesAddress.A (w, a, ())) Q = Q (VSs.enc e_acl_MatchesAddress.R (e_acl_MatchesAddress.g (w, a, ()))) := (in_acl_MatchesAddress w a Q).trans rfl
/-! netverify/netverifyref8.MatchesAddress -/
def G_r8_MatchesAddress : List Ent := []
def b_r8_MatchesAddress_0 : ACode := (.seq (.seq (.region [(.mk (some 6) none (.mov (.t 5))), (.mk (some 7) none (.bin .lss (.t 6) (.c (.f (.int .u64 32)))))]) (.cond 7 .skip (.exit 0))) (.seq (.block 1 (.seq (.region [(.mk (some 10) none (.fld 1 (.t 2))), (.mk (some 11) none (.load false 1 (.t 10))), (.mk (some 12) none (.mov (.t 5))), (.mk (some 13) none (.bin .shr (.t 11) (.t 12))), (.mk (some 14) none (.bin .and (.t 13) (.c (.f (.int .u32 1))))), (.mk (some 15) none (.bin .eql (.t 14) (.c (.f (.int .u32 0))))), (.mk (some 16) none (.mov (.t 15))), (.mk (some 17) (some (16, true)) (.fld 0 (.t 2))), (.mk (some 18) (some (16, true)) (.load false 1 (.t 17))), (.mk (some 19) (some (16, true)) (.mov (.t 5))), (.mk (some 20) (some (16, true)) (.bin .shr (.t 18) (.t 19))), (.mk (some 21) (some (16, true)) (.bin .and (.t 20) (.c (.f (.int .u32 1))))), (.mk (some 22) (some (16, true)) (.mov (.t 1))), (.mk (some 23) (some (16, true)) (.mov (.t 5))), (.mk (some 24) (some (16, true)) (.bin .shr (.t 22) (.t 23))), (.mk (some 25) (some (16, true)) (.bin .and (.t 24) (.c (.f (.int .u32 1))))), (.mk (some 26) (some (16, true)) (.bin .neq (.t 21) (.t 25))), (.mk (some 27) none (.pick 16 (.t 26) (.c (.f (.bool false)))))]) (.cond 27 (.seq (.region [(.mk (some 4) none (.mov (.c (.f (.bool false)))))]) .ret) .skip))) (.region [(.mk (some 8) none (.mov (.t 5))), (.mk (some 9) none (.bin .add (.t 8) (.c (.f (.int .u64 1))))), (.mk (some 5) none (.mov (.t 9)))])))
def r_r8_MatchesAddress_0 : ACode := (.seq (.region [(.mk (some 4) none (.mov (.c (.f (.bool true)))))]) .ret)
def c_r8_MatchesAddress : AFunc := AFunc.mk 28 2 [(.t 4)] (.seq (.region [(.mk (some 2) none (.box (.t 0))), (.mk (some 4) none (.mov (.c (.f (.bool false)))))]) (.seq (.seq (.region [(.mk (some 5) none (.mov (.c (.f (.int .u64 0)))))]) (.block 0 (.loop 0 [(1, none), (2, none), (5, none)] b_r8_MatchesAddress_0))) r_r8_MatchesAddress_0))
def tb_r8_MatchesAddress : Tbl
  | 0 => ([(1, none), (2, none), (5, none)], b_r8_MatchesAddress_0)
  | _ => ([], .skip)
theorem ok_r8_MatchesAddress : compF Try.prog Try.f13 = some c_r8_MatchesAddress.strip := by kernel_rfl
theorem tk_r8_MatchesAddress : TblOk tb_r8_MatchesAddress c_r8_MatchesAddress.body := ⟨trivial, ⟨⟨trivial, ⟨rfl, ⟨⟨trivial, ⟨trivial, trivial⟩⟩, ⟨⟨trivial, ⟨⟨trivial, trivial⟩, trivial⟩⟩, trivial⟩⟩⟩⟩, ⟨trivial, trivial⟩⟩⟩
def k_r8_MatchesAddress_0 (Q : List FV → Prop) : K := (kBlock 0 (kSeq (evC G_r8_MatchesAddress (Lfp G_r8_MatchesAddress tb_r8_MatchesAddress) r_r8_MatchesAddress_0) (kDone c_r8_MatchesAddress Q)))
def s_r8_MatchesAddress_0 (w : WildcardT) (a : Int) (v0 : Int) : St := ⟨[(1, [], .f (.int .u32 a)), (2, [], .ptr 0 0), (5, [], .f (.int .u64 v0))], [.box [.f (.int .u32 w.1), .f (.int .u32 w.2.1)]]⟩
def L_r8_MatchesAddress_0 (w : WildcardT) (a : Int) (v0 : Int) (Q : List FV → Prop) : Prop := Lfp G_r8_MatchesAddress tb_r8_MatchesAddress 0 (s_r8_MatchesAddress_0 w a v0) (k_r8_MatchesAddress_0 Q)
theorem in_r8_MatchesAddress (w : WildcardT) (a : Int) (Q : List FV → Prop) : evF G_r8_MatchesAddress (Lfp G_r8_MatchesAddress tb_r8_MatchesAddress) c_r8_MatchesAddress (VSs.enc e_r8_MatchesAddress.A (w, a, ())) Q = (
  L_r8_MatchesAddress_0 w a 0 Q) := by kernel_rfl
theorem rd_r8_MatchesAddress_0 (w : WildcardT) (a : Int) (v0 : Int) (Q : List FV → Prop) (h :
  cond (decide (v0 < 32))
  (cond (((decide (0 ≤ v0)) && ((decide (0 ≤ v0)) || (!((((iand .u32 (ishr .u32 w.2.1 v0) 1) == 0) == true) && true)))) && ((decide (0 ≤ v0)) || (!((((iand .u32 (ishr .u32 w.2.1 v0) 1) == 0) == true) && true))))
    (cond (((iand .u32 (ishr .u32 w.2.1 v0) 1) == 0) && ((iand .u32 (ishr .u32 w.1 v0) 1) != (iand .u32 (ishr .u32 a v0) 1)))
      (Q [.bool false])
      (L_r8_MatchesAddress_0 w a (IntKind.wrap .u64 (v0 + 1)) Q))
    False)
  (Q [.bool true])) : L_r8_MatchesAddress_0 w a v0 Q := Lfp.step ((by kernel_rfl : evC G_r8_MatchesAddress (Lfp G_r8_MatchesAddress tb_r8_MatchesAddress) (tb_r8_MatchesAddress 0).2 (s_r8_MatchesAddress_0 w a v0) (kLoop (tb_r8_MatchesAddress 0).1 (Lfp G_r8_MatchesAddress tb_r8_MatchesAddress 0) (k_r8_MatchesAddress_0 Q)) = (
  cond (decide (v0 < 32))
  (cond (((decide (0 ≤ v0)) && ((decide (0 ≤ v0)) || (!((((iand .u32 (ishr .u32 w.2.1 v0) 1) == 0) == true) && true)))) && ((decide (0 ≤ v0)) || (!((((iand .u32 (ishr .u32 w.2.1 v0) 1) == 0) == true) && true))))
    (cond (((iand .u32 (ishr .u32 w.2.1 v0) 1) == 0) && ((iand .u32 (ishr .u32 w.1 v0) 1) != (iand .u32 (ishr .u32 a v0) 1)))
      (Q [.bool false])
      (L_r8_MatchesAddress_0 w a (IntKind.wrap .u64 (v0 + 1)) Q))
    False)
  (Q [.bool true]))).symm ▸ h)
theorem lp_r8_MatchesAddress_0 (w : WildcardT) (a : Int) (Q : List FV → Prop) (hw : VSs.wf e_r8_MatchesAddress.A (w, a, ()))  : (fun y : Bool => Q (VSs.enc e_r8_MatchesAddress.R (y, ()))) (S_r8_MatchesAddress_0 w a) → L_r8_MatchesAddress_0 w a 0 Q := by
  have _ := hw
  let FF := (fun y : Bool => Q (VSs.enc e_r8_MatchesAddress.R (y, ())))
  refine upV_loop (F := FF) (k := .u64) (L := (fun c0 : Int => L_r8_MatchesAddress_0 w a c0 Q)) (wrap_u64n (by decide)) (fun c0 hc0 hF => rd_r8_MatchesAddress_0 w a (c0 : Int) Q (cond_ge (n := 32) rfl hc0 (id hF))) (fun c0 _ hc0 next0 hn0 hF => rd_r8_MatchesAddress_0 w a (c0 : Int) Q (cond_lt (n := 32) rfl hc0 ((vc_f (F := FF) (by first | ((repeat' (first | rfl | exact nn_d64 _ | exact okIx_nat hc0 | refine and_t ?_ ?_ | refine or_l ?_)); done) | (simp [-List.getD_eq_getElem?_getD, okIx_nat hc0, nn_u64, nn_u32]; done) | (have hry : roomy = 1048576 := rfl; simp [-List.getD_eq_getElem?_getD, okIx, okSlc, okApp, len_slcL, len_segL] <;> omega)) /- 1 -/ (cond_f (F := FF) (fun h0 => id) (fun h0 => hn0))) hF)))
theorem ct_r8_MatchesAddress (w : WildcardT) (a : Int) (hw : VSs.wf e_r8_MatchesAddress.A (w, a, ())) (Q : List FV → Prop) (hq : Q (VSs.enc e_r8_MatchesAddress.R (e_r8_MatchesAddress.g (w, a, ())))) : EvF G_r8_MatchesAddress tb_r8_MatchesAddress c_r8_MatchesAddress (VSs.enc e_r8_MatchesAddress.A (w, a, ())) Q := by
  have _ := hw
  let FF := (fun y : Bool => Q (VSs.enc e_r8_MatchesAddress.R (y, ())))
  refine EvF.of (in_r8_MatchesAddress w a Q) ?_
  exact (lp_r8_MatchesAddress_0 w a Q hw) hq
/-! netverify/acl.Matches -/
def G_acl_Matches : List Ent := [e_acl_MatchesAddress, e_acl_inRange]
def c_acl_Matches : AFunc := AFunc.mk 43 2 [(.t 4)] (.seq (.region [(.mk (some 2) none (.box (.t 0))), (.mk (some 3) none (.box (.t 1))), (.mk (some 4) none (.mov (.c (.f (.bool false)))))]) (.seq (.region [(.mk (some 5) none (.fld 1 (.t 2))), (.mk (some 6) none (.load false 1 (.t 5))), (.mk (some 7) none (.bin .eql (.t 6) (.c (.f (.int .i64 (-1)))))), (.mk (some 8) none (.mov (.t 7))), (.mk (some 9) (some (8, false)) (.fld 1 (.t 2))), (.mk (some 10) (some (8, false)) (.load false 1 (.t 9))), (.mk (some 11) (some (8, false)) (.fld 2 (.t 3))), (.mk (some 12) (some (8, false)) (.load false 1 (.t 11))), (.mk (some 13) (some (8, false)) (.bin .eql (.t 10) (.t 12))), (.mk (some 14) none (.pick 8 (.c (.f (.bool true))) (.t 13))), (.mk (some 15) none (.mov (.t 14))), (.mk (some 16) (some (15, true)) (.fld 2 (.t 2))), (.mk (some 17) (some (15, true)) (.load true 2 (.t 16))), (.mk (some 18) (some (15, true)) (.fld 0 (.t 3))), (.mk (some 19) (some (15, true)) (.load false 1 (.t 18))), (.mk (some 20) (some (15, true)) (.call 12 [(.t 17), (.t 19)])), (.mk (some 21) none (.pick 15 (.t 20) (.c (.f (.bool false))))), (.mk (some 22) none (.mov (.t 21))), (.mk (some 23) (some (22, true)) (.fld 4 (.t 2))), (.mk (some 24) (some (22, true)) (.load true 2 (.t 23))), (.mk (some 25) (some (22, true)) (.fld 1 (.t 3))), (.mk (some 26) (some (22, true)) (.load false 1 (.t 25))), (.mk (some 27) (some (22, true)) (.call 12 [(.t 24), (.t 26)])), (.mk (some 28) none (.pick 22 (.t 27) (.c (.f (.bool false))))), (.mk (some 29) none (.mov (.t 28))), (.mk (some 30) (some (29, true)) (.fld 6 (.t 2))), (.mk (some 31) (some (29, true)) (.load true 2 (.t 30))), (.mk (some 32) (some (29, true)) (.fld 3 (.t 3))), (.mk (some 33) (some (29, true)) (.load false 1 (.t 32))), (.mk (some 34) (some (29, true)) (.call 26 [(.t 31), (.t 33)])), (.mk (some 35) none (.pick 29 (.t 34) (.c (.f (.bool false))))), (.mk (some 36) none (.mov (.t 35))), (.mk (some 37) (some (36, true)) (.fld 8 (.t 2))), (.mk (some 38) (some (36, true)) (.load true 2 (.t 37))), (.mk (some 39) (some (36, true)) (.fld 4 (.t 3))), (.mk (some 40) (some (36, true)) (.load false 1 (.t 39))), (.mk (some 41) (some (36, true)) (.call 26 [(.t 38), (.t 40)])), (.mk (some 42) none (.pick 36 (.t 41) (.c (.f (.bool false))))), (.mk (some 4) none (.mov (.t 42)))]) .ret))
def tb_acl_Matches : Tbl := fun _ => ([], .skip)
theorem ok_acl_Matches : compF Try.prog Try.f16 = some c_acl_Matches.strip := by kernel_rfl
theorem tk_acl_Matches : TblOk tb_acl_Matches c_acl_Matches.body := ⟨trivial, ⟨trivial, trivial⟩⟩
theorem in_acl_Matches (x0 : RuleT) (p : PacketT) (Q : List FV → Prop) : evF G_acl_Matches (Lfp G_acl_Matches tb_acl_Matches) c_acl_Matches (VSs.enc e_acl_Matches.A (x0, p, ())) Q = (
  Q [.bool ((((((x0.2.1 == (-1)) || (x0.2.1 == p.2.2.1)) && (g_acl_MatchesAddress (x0.2.2.1, x0.2.2.2.1, ()) p.1)) && (g_acl_MatchesAddress (x0.2.2.2.2.1, x0.2.2.2.2.2.1, ()) p.2.1)) && (g_acl_inRange (x0.2.2.2.2.2.2.1, x0.2.2.2.2.2.2.2.1, ()) p.2.2.2.1)) && (g_acl_inRange x0.2.2.2.2.2.2.2.2 p.2.2.2.2.1))]) := by kernel_rfl
theorem au_acl_Matches (x0 : RuleT) (p : PacketT) (Q : List FV → Prop) : evF G_acl_Matches (Lfp G_acl_Matches tb_acl_Matches) c_acl_Matches (VSs.enc e_acl_Matches.A (x0, p, ())) Q = Q (VSs.enc e_acl_Matches.R (e_acl_Matches.g (x0, p, ()))) := (in_acl_Matches x0 p Q).trans rfl
/-! netverify/acl.First -/
def G_acl_First : List Ent := [e_acl_Matches]
def b_acl_First_0 : ACode := (.seq (.region [(.mk (some 11) none (.bin .lss (.t 10) (.t 9)))]) (.seq (.cond 11 .skip (.exit 0)) (.seq (.block 1 (.seq (.region [(.mk (some 12) none (.mov (.t 10))), (.mk (some 13) none (.ixa 10 (.t 8) (.t 10))), (.mk (some 14) none (.load true 10 (.t 13))), (.mk (some 6) none (.alloc [(.f (.bool false)), (.f (.int .i64 0)), (.f (.int .u32 0)), (.f (.int .u32 0)), (.f (.int .u32 0)), (.f (.int .u32 0)), (.f (.int .i64 0)), (.f (.int .i64 0)), (.f (.int .i64 0)), (.f (.int .i64 0))])), (.mk (some 5) none (.mov (.t 12))), (.mk none none (.store 10 (.t 6) (.t 14)))]) (.seq (.region [(.mk (some 15) none (.load true 10 (.t 6))), (.mk (some 16) none (.load true 5 (.t 3))), (.mk (some 17) none (.call 16 [(.t 15), (.t 16)]))]) (.cond 17 (.seq (.region [(.mk (some 18) none (.mov (.t 5))), (.mk (some 4) none (.mov (.t 18)))]) .ret) .skip)))) (.region [(.mk (some 19) none (.bin .add (.t 10) (.c (.f (.int .i64 1))))), (.mk (some 10) none (.mov (.t 19)))]))))
def r_acl_First_0 : ACode := (.seq (.region [(.mk (some 4) none (.mov (.c (.f (.int .i64 (-1))))))]) .ret)
def c_acl_First : AFunc := AFunc.mk 20 2 [(.t 4)] (.seq (.region [(.mk (some 2) none (.box (.t 0))), (.mk (some 3) none (.box (.t 1))), (.mk (some 4) none (.mov (.c (.f (.int .i64 0)))))]) (.seq (.seq (.region [(.mk (some 7) none (.fld 1 (.t 2))), (.mk (some 8) none (.load false 1 (.t 7))), (.mk (some 9) none (.len (.t 8))), (.mk (some 10) none (.mov (.c (.f (.int .i64 0)))))]) (.block 0 (.loop 0 [(3, none), (8, none), (9, none), (10, none)] b_acl_First_0))) r_acl_First_0))
def tb_acl_First : Tbl
  | 0 => ([(3, none), (8, none), (9, none), (10, none)], b_acl_First_0)
  | _ => ([], .skip)
theorem ok_acl_First : compF Try.prog Try.f18 = some c_acl_First.strip := by kernel_rfl
theorem tk_acl_First : TblOk tb_acl_First c_acl_First.body := ⟨trivial, ⟨⟨trivial, ⟨rfl, ⟨trivial, ⟨⟨trivial, trivial⟩, ⟨⟨trivial, ⟨trivial, ⟨⟨trivial, trivial⟩, trivial⟩⟩⟩, trivial⟩⟩⟩⟩⟩, ⟨trivial, trivial⟩⟩⟩
def k_acl_First_0 (Q : List FV → Prop) : K := (kBlock 0 (kSeq (evC G_acl_First (Lfp G_acl_First tb_acl_First) r_acl_First_0) (kDone c_acl_First Q)))
def s_acl_First_0 (l : ACLT) (p : PacketT) (v0 : Int) : St := ⟨[(3, [], .ptr 0 0), (8, [], .f (.fs RuleS l.2.1)), (9, [], .f (.int .i64 (l.2.1.length : Int))), (10, [], .f (.int .i64 v0))], [.box [.f (.int .u32 p.1), .f (.int .u32 p.2.1), .f (.int .i64 p.2.2.1), .f (.int .i64 p.2.2.2.1), .f (.int .i64 p.2.2.2.2.1)]]⟩
def L_acl_First_0 (l : ACLT) (p : PacketT) (v0 : Int) (Q : List FV → Prop) : Prop := Lfp G_acl_First tb_acl_First 0 (s_acl_First_0 l p v0) (k_acl_First_0 Q)
theorem in_acl_First (l : ACLT) (p : PacketT) (Q : List FV → Prop) : evF G_acl_First (Lfp G_acl_First tb_acl_First) c_acl_First (VSs.enc e_acl_First.A (l, p, ())) Q = (
  L_acl_First_0 l p 0 Q) := by kernel_rfl
theorem rd_acl_First_0 (l : ACLT) (p : PacketT) (v0 : Int) (Q : List FV → Prop) (h :
  cond (decide (v0 < (l.2.1.length : Int)))
  (cond (okIx v0 (l.2.1.length : Int))
    (cond (g_acl_Matches (List.getD l.2.1 (Int.toNat v0) RuleD) p)
      (Q [.int .i64 v0])
      (L_acl_First_0 l p (IntKind.wrap .i64 (v0 + 1)) Q))
    False)
  (Q [.int .i64 (-1)])) : L_acl_First_0 l p v0 Q := Lfp.step ((by kernel_rfl : evC G_acl_First (Lfp G_acl_First tb_acl_First) (tb_acl_First 0).2 (s_acl_First_0 l p v0) (kLoop (tb_acl_First 0).1 (Lfp G_acl_First tb_acl_First 0) (k_acl_First_0 Q)) = (
  cond (decide (v0 < (l.2.1.length : Int)))
  (cond (okIx v0 (l.2.1.length : Int))
    (cond (g_acl_Matches (List.getD l.2.1 (Int.toNat v0) RuleD) p)
      (Q [.int .i64 v0])
      (L_acl_First_0 l p (IntKind.wrap .i64 (v0 + 1)) Q))
    False)
  (Q [.int .i64 (-1)]))).symm ▸ h)
theorem lp_acl_First_0 (l : ACLT) (p : PacketT) (Q : List FV → Prop) (hw : VSs.wf e_acl_First.A (l, p, ()))  : (fun y : Int => Q (VSs.enc e_acl_First.R (y, ()))) (S_acl_First_0 l p) → L_acl_First_0 l p 0 Q := by
  have _ := hw
  let FF := (fun y : Int => Q (VSs.enc e_acl_First.R (y, ())))
  refine upV_loop (F := FF) (k := .i64) (L := (fun c0 : Int => L_acl_First_0 l p c0 Q)) (wrap_i64n (show _ ≤ _ from (((hw.1).2).1).1)) (fun c0 hc0 hF => rd_acl_First_0 l p (c0 : Int) Q (cond_ge (n := l.2.1.length) rfl hc0 (id hF))) (fun c0 _ hc0 next0 hn0 hF => rd_acl_First_0 l p (c0 : Int) Q (cond_lt (n := l.2.1.length) rfl hc0 ((vc_f (F := FF) (by first | ((repeat' (first | rfl | exact nn_d64 _ | exact okIx_nat hc0 | refine and_t ?_ ?_ | refine or_l ?_)); done) | (simp [-List.getD_eq_getElem?_getD, okIx_nat hc0, nn_u64, nn_u32]; done) | (have hry : roomy = 1048576 := rfl; simp [-List.getD_eq_getElem?_getD, okIx, okSlc, okApp, len_slcL, len_segL] <;> omega)) /- 1 -/ (cond_f (F := FF) (fun h0 => id) (fun h0 => hn0))) hF)))
theorem ct_acl_First (l : ACLT) (p : PacketT) (hw : VSs.wf e_acl_First.A (l, p, ())) (Q : List FV → Prop) (hq : Q (VSs.enc e_acl_First.R (e_acl_First.g (l, p, ())))) : EvF G_acl_First tb_acl_First c_acl_First (VSs.enc e_acl_First.A (l, p, ())) Q := by
  have _ := hw
  let FF := (fun y : Int => Q (VSs.enc e_acl_First.R (y, ())))
  refine EvF.of (in_acl_First l p Q) ?_
  exact (lp_acl_First_0 l p Q hw) hq
/-! netverify/model.ACL$1 -/
def G_model_ACL_1 : List Ent := []
def c_model_ACL_1 : AFunc := AFunc.mk 8 1 [(.t 3)] (.seq (.region [(.mk (some 2) none (.box (.t 0))), (.mk (some 3) none (.mov (.c (.f (.bool false)))))]) (.seq (.region [(.mk (some 4) none (.fld 0 (.t 2))), (.mk (some 5) none (.load false 1 (.t 4))), (.mk (some 6) none (.load false 1 (.t 1))), (.mk (some 7) none (.bin .eql (.t 5) (.t 6))), (.mk (some 3) none (.mov (.t 7)))]) .ret))
def tb_model_ACL_1 : Tbl := fun _ => ([], .skip)
theorem ok_model_ACL_1 : compF Try.prog Try.f58 = some c_model_ACL_1.strip := by kernel_rfl
theorem tk_model_ACL_1 : TblOk tb_model_ACL_1 c_model_ACL_1.body := ⟨trivial, ⟨trivial, trivial⟩⟩
theorem in_model_ACL_1 (x0 : ACLT) (c1 : StrT) (Q : List FV → Prop) : evF G_model_ACL_1 (Lfp G_model_ACL_1 tb_model_ACL_1) c_model_ACL_1 (VSs.enc e_model_ACL_1.A (x0, c1, ())) Q = (
  Q [.bool (x0.1 == c1.1)]) := by kernel_rfl
theorem au_model_ACL_1 (x0 : ACLT) (c1 : StrT) (Q : List FV → Prop) : evF G_model_ACL_1 (Lfp G_model_ACL_1 tb_model_ACL_1) c_model_ACL_1 (VSs.enc e_model_ACL_1.A (x0, c1, ())) Q = Q (VSs.enc e_model_ACL_1.R (e_model_ACL_1.g (x0, c1, ()))) := (in_model_ACL_1 x0 c1 Q).trans rfl
/-! slices.IndexFunc(()netverify/api.ACL,netverify/api.ACL) -/
def G_slices_IndexFunc_ACL : List Ent := [e_model_ACL_1]
def b_slices_IndexFunc_ACL_0 : ACode := (.seq (.region [(.mk (some 9) none (.bin .lss (.t 8) (.t 7)))]) (.seq (.cond 9 .skip (.exit 0)) (.seq (.block 1 (.seq (.region [(.mk (some 10) none (.mov (.t 8))), (.mk (some 5) none (.mov (.t 10)))]) (.seq (.region [(.mk (some 11) none (.mov (.t 1))), (.mk (some 12) none (.mov (.t 0))), (.mk (some 13) none (.mov (.t 5))), (.mk (some 14) none (.ixa 2 (.t 12) (.t 13))), (.mk (some 15) none (.load true 2 (.t 14))), (.mk (some 16) none (.callv (.t 11) [(.t 15)]))]) (.cond 16 (.seq (.region [(.mk (some 17) none (.mov (.t 5))), (.mk (some 4) none (.mov (.t 17)))]) .ret) .skip)))) (.region [(.mk (some 18) none (.bin .add (.t 8) (.c (.f (.int .i64 1))))), (.mk (some 8) none (.mov (.t 18)))]))))
def r_slices_IndexFunc_ACL_0 : ACode := (.seq (.region [(.mk (some 4) none (.mov (.c (.f (.int .i64 (-1))))))]) .ret)
def c_slices_IndexFunc_ACL : AFunc := AFunc.mk 19 2 [(.t 4)] (.seq (.region [(.mk (some 4) none (.mov (.c (.f (.int .i64 0)))))]) (.seq (.seq (.region [(.mk (some 6) none (.mov (.t 0))), (.mk (some 7) none (.len (.t 6))), (.mk (some 8) none (.mov (.c (.f (.int .i64 0)))))]) (.block 0 (.loop 0 [(0, none), (1, none), (7, none), (8, none)] b_slices_IndexFunc_ACL_0))) r_slices_IndexFunc_ACL_0))
def tb_slices_IndexFunc_ACL : Tbl
  | 0 => ([(0, none), (1, none), (7, none), (8, none)], b_slices_IndexFunc_ACL_0)
  | _ => ([], .skip)
theorem ok_slices_IndexFunc_ACL : compF Try.prog Try.f57 = some c_slices_IndexFunc_ACL.strip := by kernel_rfl
theorem tk_slices_IndexFunc_ACL : TblOk tb_slices_IndexFunc_ACL c_slices_IndexFunc_ACL.body := ⟨trivial, ⟨⟨trivial, ⟨rfl, ⟨trivial, ⟨⟨trivial, trivial⟩, ⟨⟨trivial, ⟨trivial, ⟨⟨trivial, trivial⟩, trivial⟩⟩⟩, trivial⟩⟩⟩⟩⟩, ⟨trivial, trivial⟩⟩⟩
def k_slices_IndexFunc_ACL_0 (Q : List FV → Prop) : K := (kBlock 0 (kSeq (evC G_slices_IndexFunc_ACL (Lfp G_slices_IndexFunc_ACL tb_slices_IndexFunc_ACL) r_slices_IndexFunc_ACL_0) (kDone c_slices_IndexFunc_ACL Q)))
def s_slices_IndexFunc_ACL_0 (s : List ACLT) (f_0 : List UInt8) (v0 : Int) : St := ⟨[(0, [], .f (.fs ACLS s)), (1, [], .f (.fn 58 [.fpt [.str f_0] 0])), (7, [], .f (.int .i64 (s.length : Int))), (8, [], .f (.int .i64 v0))], []⟩
def L_slices_IndexFunc_ACL_0 (s : List ACLT) (f_0 : List UInt8) (v0 : Int) (Q : List FV → Prop) : Prop := Lfp G_slices_IndexFunc_ACL tb_slices_IndexFunc_ACL 0 (s_slices_IndexFunc_ACL_0 s f_0 v0) (k_slices_IndexFunc_ACL_0 Q)
theorem in_slices_IndexFunc_ACL (s : List ACLT) (f_0 : List UInt8) (Q : List FV → Prop) : evF G_slices_IndexFunc_ACL (Lfp G_slices_IndexFunc_ACL tb_slices_IndexFunc_ACL) c_slices_IndexFunc_ACL (VSs.enc e_slices_IndexFunc_ACL.A (s, ((f_0, ()), ()), ())) Q = (
  L_slices_IndexFunc_ACL_0 s f_0 0 Q) := by kernel_rfl
theorem rd_slices_IndexFunc_ACL_0 (s : List ACLT) (f_0 : List UInt8) (v0 : Int) (Q : List FV → Prop) (h :
  cond (decide (v0 < (s.length : Int)))
  (cond ((okIx v0 (s.length : Int)) && true)
    (cond (g_model_ACL_1 (List.getD s (Int.toNat v0) ACLD) (f_0, ()))
      (Q [.int .i64 v0])
      (L_slices_IndexFunc_ACL_0 s f_0 (IntKind.wrap .i64 (v0 + 1)) Q))
    False)
  (Q [.int .i64 (-1)])) : L_slices_IndexFunc_ACL_0 s f_0 v0 Q := Lfp.step ((by kernel_rfl : evC G_slices_IndexFunc_ACL (Lfp G_slices_IndexFunc_ACL tb_slices_IndexFunc_ACL) (tb_slices_IndexFunc_ACL 0).2 (s_slices_IndexFunc_ACL_0 s f_0 v0) (kLoop (tb_slices_IndexFunc_ACL 0).1 (Lfp G_slices_IndexFunc_ACL tb_slices_IndexFunc_ACL 0) (k_slices_IndexFunc_ACL_0 Q)) = (
  cond (decide (v0 < (s.length : Int)))
  (cond ((okIx v0 (s.length : Int)) && true)
    (cond (g_model_ACL_1 (List.getD s (Int.toNat v0) ACLD) (f_0, ()))
      (Q [.int .i64 v0])
      (L_slices_IndexFunc_ACL_0 s f_0 (IntKind.wrap .i64 (v0 + 1)) Q))
    False)
  (Q [.int .i64 (-1)]))).symm ▸ h)
theorem lp_slices_IndexFunc_ACL_0 (s : List ACLT) (f_0 : List UInt8) (Q : List FV → Prop) (hw : VSs.wf e_slices_IndexFunc_ACL.A (s, ((f_0, ()), ()), ()))  : (fun y : Int => Q (VSs.enc e_slices_IndexFunc_ACL.R (y, ()))) (S_slices_IndexFunc_ACL_0 s f_0) → L_slices_IndexFunc_ACL_0 s f_0 0 Q := by
  have _ := hw
  let FF := (fun y : Int => Q (VSs.enc e_slices_IndexFunc_ACL.R (y, ())))
  refine upV_loop (F := FF) (k := .i64) (L := (fun c0 : Int => L_slices_IndexFunc_ACL_0 s f_0 c0 Q)) (wrap_i64n (show _ ≤ _ from (hw.1).1)) (fun c0 hc0 hF => rd_slices_IndexFunc_ACL_0 s f_0 (c0 : Int) Q (cond_ge (n := s.length) rfl hc0 (id hF))) (fun c0 _ hc0 next0 hn0 hF => rd_slices_IndexFunc_ACL_0 s f_0 (c0 : Int) Q (cond_lt (n := s.length) rfl hc0 ((vc_f (F := FF) (by first | ((repeat' (first | rfl | exact nn_d64 _ | exact okIx_nat hc0 | refine and_t ?_ ?_ | refine or_l ?_)); done) | (simp [-List.getD_eq_getElem?_getD, okIx_nat hc0, nn_u64, nn_u32]; done) | (have hry : roomy = 1048576 := rfl; simp [-List.getD_eq_getElem?_getD, okIx, okSlc, okApp, len_slcL, len_segL] <;> omega)) /- 1 -/ (cond_f (F := FF) (fun h0 => id) (fun h0 => hn0))) hF)))
theorem ct_slices_IndexFunc_ACL (s : List ACLT) (f_0 : List UInt8) (hw : VSs.wf e_slices_IndexFunc_ACL.A (s, ((f_0, ()), ()), ())) (Q : List FV → Prop) (hq : Q (VSs.enc e_slices_IndexFunc_ACL.R (e_slices_IndexFunc_ACL.g (s, ((f_0, ()), ()), ())))) : EvF G_slices_IndexFunc_ACL tb_slices_IndexFunc_ACL c_slices_IndexFunc_ACL (VSs.enc e_slices_IndexFunc_ACL.A (s, ((f_0, ()), ()), ())) Q := by
  have _ := hw
  let FF := (fun y : Int => Q (VSs.enc e_slices_IndexFunc_ACL.R (y, ())))
  refine EvF.of (in_slices_IndexFunc_ACL s f_0 Q) ?_
  exact (lp_slices_IndexFunc_ACL_0 s f_0 Q hw) hq
/-! netverify/model.ACL -/
def G_model_ACL : List Ent := [e_slices_IndexFunc_ACL]
def c_model_ACL : AFunc := AFunc.mk 9 2 [(.t 4)] (.seq (.region [(.mk (some 2) none (.box (.t 0))), (.mk (some 3) none (.box (.t 1))), (.mk (some 4) none (.mov (.c (.f (.int .i64 0)))))]) (.seq (.region [(.mk (some 5) none (.fld 5 (.t 2))), (.mk (some 6) none (.load false 1 (.t 5))), (.mk (some 7) none (.mkfn 58 [(.t 3)])), (.mk (some 8) none (.call 57 [(.t 6), (.t 7)])), (.mk (some 4) none (.mov (.t 8)))]) .ret))
def tb_model_ACL : Tbl := fun _ => ([], .skip)
theorem ok_model_ACL : compF Try.prog Try.f40 = some c_model_ACL.strip := by kernel_rfl
theorem tk_model_ACL : TblOk tb_model_ACL c_model_ACL.body := ⟨trivial, ⟨trivial, trivial⟩⟩
theorem in_model_ACL (r : RouterT) (name : List UInt8) (Q : List FV → Prop) : evF G_model_ACL (Lfp G_model_ACL tb_model_ACL) c_model_ACL (VSs.enc e_model_ACL.A (r, name, ())) Q = (
  Q [.int .i64 (g_slices_IndexFunc_ACL r.2.2.2.2.2.1 name)]) := by kernel_rfl
theorem au_model_ACL (r : RouterT) (name : List UInt8) (Q : List FV → Prop) : evF G_model_ACL (Lfp G_model_ACL tb_model_ACL) c_model_ACL (VSs.enc e_model_ACL.A (r, name, ())) Q = Q (VSs.enc e_model_ACL.R (e_model_ACL.g (r, name, ()))) := (in_model_ACL r name Q).trans rfl
/-! netverify/acl.Permits -/
def G_acl_Permits : List Ent := [e_acl_First, e_model_ACL]
def c_acl_Permits : AFunc := AFunc.mk 37 3 [(.t 6)] (.seq (.region [(.mk (some 3) none (.box (.t 0))), (.mk (some 5) none (.box (.t 2))), (.mk (some 6) none (.mov (.c (.f (.bool false)))))]) (.seq (.seq (.region [(.mk (some 9) none (.mov (.t 1))), (.mk (some 10) none (.bin .eql (.t 9) (.c (.f (.str [])))))]) (.cond 10 (.seq (.region [(.mk (some 6) none (.mov (.c (.f (.bool true)))))]) .ret) .skip)) (.seq (.region [(.mk (some 11) none (.load true 25 (.t 3))), (.mk (some 12) none (.mov (.t 1))), (.mk (some 13) none (.call 40 [(.t 11), (.t 12)])), (.mk (some 7) none (.mov (.t 13)))]) (.seq (.seq (.region [(.mk (some 14) none (.mov (.t 7))), (.mk (some 15) none (.bin .lss (.t 14) (.c (.f (.int .i64 0)))))]) (.cond 15 (.seq (.region [(.mk (some 6) none (.mov (.c (.f (.bool false)))))]) .ret) .skip)) (.seq (.region [(.mk (some 16) none (.fld 5 (.t 3))), (.mk (some 17) none (.load false 1 (.t 16))), (.mk (some 18) none (.mov (.t 7))), (.mk (some 19) none (.ixa 2 (.t 17) (.t 18))), (.mk (some 20) none (.load true 2 (.t 19))), (.mk (some 21) none (.load true 5 (.t 5))), (.mk (some 22) none (.call 18 [(.t 20), (.t 21)])), (.mk (some 8) none (.mov (.t 22)))]) (.seq (.region [(.mk (some 23) none (.mov (.t 8))), (.mk (some 24) none (.bin .geq (.t 23) (.c (.f (.int .i64 0))))), (.mk (some 25) none (.mov (.t 24))), (.mk (some 26) (some (25, true)) (.fld 5 (.t 3))), (.mk (some 27) (some (25, true)) (.load false 1 (.t 26))), (.mk (some 28) (some (25, true)) (.mov (.t 7))), (.mk (some 29) (some (25, true)) (.ixa 2 (.t 27) (.t 28))), (.mk (some 30) (some (25, true)) (.fld 1 (.t 29))), (.mk (some 31) (some (25, true)) (.load false 1 (.t 30))), (.mk (some 32) (some (25, true)) (.mov (.t 8))), (.mk (some 33) (some (25, true)) (.ixa 10 (.t 31) (.t 32))), (.mk (some 34) (some (25, true)) (.fld 0 (.t 33))), (.mk (some 35) (some (25, true)) (.load false 1 (.t 34))), (.mk (some 36) none (.pick 25 (.t 35) (.c (.f (.bool false))))), (.mk (some 6) none (.mov (.t 36)))]) .ret))))))
def tb_acl_Permits : Tbl := fun _ => ([], .skip)
theorem ok_acl_Permits : compF Try.prog Try.f21 = some c_acl_Permits.strip := by kernel_rfl
theorem tk_acl_Permits : TblOk tb_acl_Permits c_acl_Permits.body := ⟨trivial, ⟨⟨trivial, ⟨⟨trivial, trivial⟩, trivial⟩⟩, ⟨trivial, ⟨⟨trivial, ⟨⟨trivial, trivial⟩, trivial⟩⟩, ⟨trivial, ⟨trivial, trivial⟩⟩⟩⟩⟩⟩
theorem in_acl_Permits (r : RouterT) (name : List UInt8) (p : PacketT) (Q : List FV → Prop) : evF G_acl_Permits (Lfp G_acl_Permits tb_acl_Permits) c_acl_Permits (VSs.enc e_acl_Permits.A (r, name, p, ())) Q = (
  cond (name == [])
  (Q [.bool true])
  (cond (decide ((g_model_ACL r name) < 0))
    (Q [.bool false])
    (cond ((okIx (g_model_ACL r name) (r.2.2.2.2.2.1.length : Int)) && true)
      (cond (((okIx (g_model_ACL r name) (r.2.2.2.2.2.1.length : Int)) || (!(((decide ((g_acl_First (List.getD r.2.2.2.2.2.1 (Int.toNat (g_model_ACL r name)) ACLD) p) ≥ 0)) == true) && true))) && ((okIx (g_acl_First (List.getD r.2.2.2.2.2.1 (Int.toNat (g_model_ACL r name)) ACLD) p) ((List.getD r.2.2.2.2.2.1 (Int.toNat (g_model_ACL r name)) ACLD).2.1.length : Int)) || (!(((decide ((g_acl_First (List.getD r.2.2.2.2.2.1 (Int.toNat (g_model_ACL r name)) ACLD) p) ≥ 0)) == true) && true))))
        (Q [.bool ((decide ((g_acl_First (List.getD r.2.2.2.2.2.1 (Int.toNat (g_model_ACL r name)) ACLD) p) ≥ 0)) && (List.getD (List.getD r.2.2.2.2.2.1 (Int.toNat (g_model_ACL r name)) ACLD).2.1 (Int.toNat (g_acl_First (List.getD r.2.2.2.2.2.1 (Int.toNat (g_model_ACL r name)) ACLD) p)) RuleD).1)])
        False)
      False))) := by kernel_rfl
theorem ct_acl_Permits (r : RouterT) (name : List UInt8) (p : PacketT) (hw : VSs.wf e_acl_Permits.A (r, name, p, ())) (Q : List FV → Prop) (hq : Q (VSs.enc e_acl_Permits.R (e_acl_Permits.g (r, name, p, ())))) : EvF G_acl_Permits tb_acl_Permits c_acl_Permits (VSs.enc e_acl_Permits.A (r, name, p, ())) Q := by
  have _ := hw
  let FF := (fun y : Bool => Q (VSs.enc e_acl_Permits.R (y, ())))
  refine EvF.of (in_acl_Permits r name p Q) ?_
  exact (cond_f (F := FF) (fun h0 => id) (fun h0 => (cond_f (F := FF) (fun h1 => id) (fun h1 => (vc_f (F := FF) (by rcases ix_model_ACL r name with h | h <;> simp_all) (vc_f (F := FF) (by rcases ix_model_ACL r name with h | h <;> rcases ix_acl_First (List.getD r.2.2.2.2.2.1 (Int.toNat (g_model_ACL r name)) ACLD) p with h3 | h3 <;> simp_all) id)))))) hq
/-! netverify/netverifylaw7.any -/
def G_law7_any : List Ent := []
def c_law7_any : AFunc := AFunc.mk 2 0 [(.cell 0 true 2)] (.seq (.region [(.mk (some 0) none (.alloc [(.f (.int .u32 0)), (.f (.int .u32 0))]))]) (.seq (.region [(.mk (some 1) none (.build [(.f (.int .u32 0)), (.f (.int .u32 0))] [(1, (1, (.c (.f (.int .u32 4294967295)))))])), (.mk none none (.store 2 (.t 0) (.t 1)))]) .ret))
def tb_law7_any : Tbl := fun _ => ([], .skip)
theorem ok_law7_any : compF Try.prog Try.f28 = some c_law7_any.strip := by kernel_rfl
theorem tk_law7_any : TblOk tb_law7_any c_law7_any.body := ⟨trivial, ⟨trivial, trivial⟩⟩
theorem in_law7_any (Q : List FV → Prop) : evF G_law7_any (Lfp G_law7_any tb_law7_any) c_law7_any (VSs.enc e_law7_any.A (())) Q = (
  Q [.agg [.int .u32 0, .int .u32 4294967295]]) := by kernel_rfl
theorem au_law7_any (Q : List FV → Prop) : evF G_law7_any (Lfp G_law7_any tb_law7_any) c_law7_any (VSs.enc e_law7_any.A (())) Q = Q (VSs.enc e_law7_any.R (e_law7_any.g (()))) := (in_law7_any  Q).trans rfl
/-! netverify/netverifylaw7.sane -/
def G_law7_sane : List Ent := [e_acl_ValidPacket, e_acl_Matches, e_acl_Permits, e_law7_any]
def c_law7_sane : AFunc := AFunc.mk 47 0 [(.t 0)] (.seq (.region [(.mk (some 0) none (.mov (.c (.f (.bool false)))))]) (.seq (.region [(.mk (some 5) none (.call 28 [])), (.mk (some 6) none (.build [(.f (.int .u32 0)), (.f (.int .u32 0))] [(0, (1, (.c (.f (.int .u32 167772160))))), (1, (1, (.c (.f (.int .u32 16777215)))))])), (.mk (some 7) none (.build [(.f (.int .i64 0)), (.f (.int .i64 0))] [(1, (1, (.c (.f (.int .i64 65535)))))])), (.mk (some 8) none (.build [(.f (.int .i64 0)), (.f (.int .i64 0))] [(0, (1, (.c (.f (.int .i64 80))))), (1, (1, (.c (.f (.int .i64 90)))))])), (.mk (some 9) none (.build [(.f (.bool false)), (.f (.int .i64 0)), (.f (.int .u32 0)), (.f (.int .u32 0)), (.f (.int .u32 0)), (.f (.int .u32 0)), (.f (.int .i64 0)), (.f (.int .i64 0)), (.f (.int .i64 0)), (.f (.int .i64 0))] [(0, (1, (.c (.f (.bool true))))), (1, (1, (.c (.f (.int .i64 6))))), (2, (2, (.t 5))), (4, (2, (.t 6))), (6, (2, (.t 7))), (8, (2, (.t 8)))])), (.mk (some 1) none (.alloc [(.f (.bool false)), (.f (.int .i64 0)), (.f (.int .u32 0)), (.f (.int .u32 0)), (.f (.int .u32 0)), (.f (.int .u32 0)), (.f (.int .i64 0)), (.f (.int .i64 0)), (.f (.int .i64 0)), (.f (.int .i64 0))])), (.mk none none (.store 10 (.t 1) (.t 9)))]) (.seq (.region [(.mk (some 10) none (.build [(.f (.int .u32 0)), (.f (.int .u32 0)), (.f (.int .i64 0)), (.f (.int .i64 0)), (.f (.int .i64 0))] [(0, (1, (.c (.f (.int .u32 1))))), (1, (1, (.c (.f (.int .u32 167838211))))), (2, (1, (.c (.f (.int .i64 6))))), (4, (1, (.c (.f (.int .i64 85)))))])), (.mk (some 2) none (.alloc [(.f (.int .u32 0)), (.f (.int .u32 0)), (.f (.int .i64 0)), (.f (.int .i64 0)), (.f (.int .i64 0))])), (.mk none none (.store 5 (.t 2) (.t 10)))]) (.seq (.region [(.mk (some 11) none (.load true 5 (.t 2))), (.mk (some 3) none (.alloc [(.f (.int .u32 0)), (.f (.int .u32 0)), (.f (.int .i64 0)), (.f (.int .i64 0)), (.f (.int .i64 0))])), (.mk none none (.store 5 (.t 3) (.t 11)))]) (.seq (.region [(.mk (some 12) none (.fld 4 (.t 3))), (.mk none none (.store 1 (.t 12) (.c (.f (.int .i64 91)))))]) (.seq (.region [(.mk (some 13) none (.load true 10 (.t 1))), (.mk (some 14) none (.bslice RuleS 64 [(.f (.bool false)), (.f (.int .i64 0)), (.f (.int .u32 0)), (.f (.int .u32 0)), (.f (.int .u32 0)), (.f (.int .u32 0)), (.f (.int .i64 0)), (.f (.int .i64 0)), (.f (.int .i64 0)), (.f (.int .i64 0))] 1 [(0, (.t 13))])), (.mk (some 15) none (.build [(.f (.str [])), (.f .nils)] [(0, (1, (.c (.f (.str [97]))))), (1, (1, (.t 14)))])), (.mk (some 16) none (.bslice ACLS 40 [(.f (.str [])), (.f .nils)] 1 [(0, (.t 15))])), (.mk (some 17) none (.build [(.f (.str [])), (.f (.int .i64 0)), (.f .nils), (.f .nils), (.f .nils), (.f .nils), (.f .nils), (.f .nils), (.f (.bool false)), (.f (.int .i64 0)), (.f .nils), (.f .nils), (.f (.bool false)), (.f (.int .i64 0)), (.f (.str [])), (.f (.str [])), (.f .nils), (.f (.bool false)), (.f (.int .i64 0)), (.f (.int .i64 0)), (.f .nils), (.f .nils), (.f .nils), (.f .nils), (.f .nils)] [(0, (1, (.c (.f (.str [114]))))), (5, (1, (.t 16)))])), (.mk (some 4) none (.alloc [(.f (.str [])), (.f (.int .i64 0)), (.f .nils), (.f .nils), (.f .nils), (.f .nils), (.f .nils), (.f .nils), (.f (.bool false)), (.f (.int .i64 0)), (.f .nils), (.f .nils), (.f (.bool false)), (.f (.int .i64 0)), (.f (.str [])), (.f (.str [])), (.f .nils), (.f (.bool false)), (.f (.int .i64 0)), (.f (.int .i64 0)), (.f .nils), (.f .nils), (.f .nils), (.f .nils), (.f .nils)])), (.mk none none (.store 25 (.t 4) (.t 17)))]) (.seq (.region [(.mk (some 18) none (.load true 10 (.t 1))), (.mk (some 19) none (.load true 5 (.t 2))), (.mk (some 20) none (.call 16 [(.t 18), (.t 19)])), (.mk (some 21) none (.mov (.t 20))), (.mk (some 22) (some (21, true)) (.load true 10 (.t 1))), (.mk (some 23) (some (21, true)) (.load true 5 (.t 3))), (.mk (some 24) (some (21, true)) (.call 16 [(.t 22), (.t 23)])), (.mk (some 25) (some (21, true)) (.un .not (.t 24))), (.mk (some 26) none (.pick 21 (.t 25) (.c (.f (.bool false))))), (.mk (some 27) none (.mov (.t 26))), (.mk (some 28) (some (27, true)) (.load true 25 (.t 4))), (.mk (some 29) (some (27, true)) (.load true 5 (.t 2))), (.mk (some 30) (some (27, true)) (.call 21 [(.t 28), (.c (.f (.str [97]))), (.t 29)])), (.mk (some 31) none (.pick 27 (.t 30) (.c (.f (.bool false))))), (.mk (some 32) none (.mov (.t 31))), (.mk (some 33) (some (32, true)) (.load true 25 (.t 4))), (.mk (some 34) (some (32, true)) (.load true 5 (.t 3))), (.mk (some 35) (some (32, true)) (.call 21 [(.t 33), (.c (.f (.str [97]))), (.t 34)])), (.mk (some 36) (some (32, true)) (.un .not (.t 35))), (.mk (some 37) none (.pick 32 (.t 36) (.c (.f (.bool false))))), (.mk (some 38) none (.mov (.t 37))), (.mk (some 39) (some (38, true)) (.load true 25 (.t 4))), (.mk (some 40) (some (38, true)) (.load true 5 (.t 3))), (.mk (some 41) (some (38, true)) (.call 21 [(.t 39), (.c (.f (.str []))), (.t 40)])), (.mk (some 42) none (.pick 38 (.t 41) (.c (.f (.bool false))))), (.mk (some 43) none (.mov (.t 42))), (.mk (some 44) (some (43, true)) (.load true 5 (.t 2))), (.mk (some 45) (some (43, true)) (.call 10 [(.t 44)])), (.mk (some 46) none (.pick 43 (.t 45) (.c (.f (.bool false))))), (.mk (some 0) none (.mov (.t 46)))]) .ret)))))))
def tb_law7_sane : Tbl := fun _ => ([], .skip)
theorem ok_law7_sane : compF Try.prog Try.f14 = some c_law7_sane.strip := by kernel_rfl
theorem tk_law7_sane : TblOk tb_law7_sane c_law7_sane.body := ⟨trivial, ⟨trivial, ⟨trivial, ⟨trivial, ⟨trivial, ⟨trivial, ⟨trivial, trivial⟩⟩⟩⟩⟩⟩⟩
theorem in_law7_sane (Q : List FV → Prop) : evF G_law7_sane (Lfp G_law7_sane tb_law7_sane) c_law7_sane (VSs.enc e_law7_sane.A (())) Q = (
  Q [.bool ((((((g_acl_Matches (true, 6, g_law7_any.1, g_law7_any.2.1, 167772160, 16777215, 0, 65535, 80, 90, ()) (1, 167838211, 6, 0, 85, ())) && (!(g_acl_Matches (true, 6, g_law7_any.1, g_law7_any.2.1, 167772160, 16777215, 0, 65535, 80, 90, ()) (1, 167838211, 6, 0, 91, ())))) && (g_acl_Permits ([114], 0, [], [], [], [([97], [(true, 6, g_law7_any.1, g_law7_any.2.1, 167772160, 16777215, 0, 65535, 80, 90, ())], ())], [], [], false, 0, [], [], false, 0, [], [], [], false, 0, 0, [], [], [], [], [], ()) [97] (1, 167838211, 6, 0, 85, ()))) && (!(g_acl_Permits ([114], 0, [], [], [], [([97], [(true, 6, g_law7_any.1, g_law7_any.2.1, 167772160, 16777215, 0, 65535, 80, 90, ())], ())], [], [], false, 0, [], [], false, 0, [], [], [], false, 0, 0, [], [], [], [], [], ()) [97] (1, 167838211, 6, 0, 91, ())))) && (g_acl_Permits ([114], 0, [], [], [], [([97], [(true, 6, g_law7_any.1, g_law7_any.2.1, 167772160, 16777215, 0, 65535, 80, 90, ())], ())], [], [], false, 0, [], [], false, 0, [], [], [], false, 0, 0, [], [], [], [], [], ()) [] (1, 167838211, 6, 0, 91, ()))) && (g_acl_ValidPacket (1, 167838211, 6, 0, 85, ())))]) := by kernel_rfl
theorem au_law7_sane (Q : List FV → Prop) : evF G_law7_sane (Lfp G_law7_sane tb_law7_sane) c_law7_sane (VSs.enc e_law7_sane.A (())) Q = Q (VSs.enc e_law7_sane.R (e_law7_sane.g (()))) := (in_law7_sane  Q).trans rfl
/-! netverify/netverifylaw7.AclPackets -/
def G_law7_AclPackets : List Ent := [e_acl_ValidPacket, e_r8_ValidPacket, e_acl_MatchesAddress, e_r8_MatchesAddress, e_law7_sane]
def c_law7_AclPackets : AFunc := AFunc.mk 41 3 [(.t 6)] (.seq (.region [(.mk (some 3) none (.box (.t 0))), (.mk (some 4) none (.box (.t 1))), (.mk (some 6) none (.mov (.c (.f (.bool false)))))]) (.seq (.region [(.mk (some 7) none (.load true 5 (.t 3))), (.mk (some 8) none (.call 10 [(.t 7)])), (.mk (some 9) none (.load true 5 (.t 3))), (.mk (some 10) none (.call 11 [(.t 9)])), (.mk (some 11) none (.eqb false (.t 8) (.t 10))), (.mk (some 12) none (.mov (.t 11))), (.mk (some 13) (some (12, true)) (.load true 2 (.t 4))), (.mk (some 14) (some (12, true)) (.mov (.t 2))), (.mk (some 15) (some (12, true)) (.call 12 [(.t 13), (.t 14)])), (.mk (some 16) (some (12, true)) (.load true 2 (.t 4))), (.mk (some 17) (some (12, true)) (.mov (.t 2))), (.mk (some 18) (some (12, true)) (.call 13 [(.t 16), (.t 17)])), (.mk (some 19) (some (12, true)) (.eqb false (.t 15) (.t 18))), (.mk (some 20) none (.pick 12 (.t 19) (.c (.f (.bool false))))), (.mk (some 21) none (.mov (.t 20))), (.mk (some 22) (some (21, true)) (.load true 2 (.t 4))), (.mk (some 23) (some (21, true)) (.fld 0 (.t 4))), (.mk (some 24) (some (21, true)) (.load false 1 (.t 23))), (.mk (some 25) (some (21, true)) (.call 12 [(.t 22), (.t 24)])), (.mk (some 26) none (.pick 21 (.t 25) (.c (.f (.bool false))))), (.mk (some 27) none (.mov (.t 26))), (.mk (some 28) (some (27, true)) (.load true 2 (.t 4))), (.mk (some 29) (some (27, true)) (.fld 0 (.t 4))), (.mk (some 30) (some (27, true)) (.load false 1 (.t 29))), (.mk (some 31) (some (27, true)) (.mov (.t 2))), (.mk (some 32) (some (27, true)) (.fld 1 (.t 4))), (.mk (some 33) (some (27, true)) (.load false 1 (.t 32))), (.mk (some 34) (some (27, true)) (.bin .and (.t 31) (.t 33))), (.mk (some 35) (some (27, true)) (.bin .xor (.t 30) (.t 34))), (.mk (some 36) (some (27, true)) (.call 12 [(.t 28), (.t 35)])), (.mk (some 37) none (.pick 27 (.t 36) (.c (.f (.bool false))))), (.mk (some 38) none (.mov (.t 37))), (.mk (some 39) (some (38, true)) (.call 14 [])), (.mk (some 40) none (.pick 38 (.t 39) (.c (.f (.bool false))))), (.mk (some 6) none (.mov (.t 40)))]) .ret))
def tb_law7_AclPackets : Tbl := fun _ => ([], .skip)
theorem ok_law7_AclPackets : compF Try.prog Try.f3 = some c_law7_AclPackets.strip := by kernel_rfl
theorem tk_law7_AclPackets : TblOk tb_law7_AclPackets c_law7_AclPackets.body := ⟨trivial, ⟨trivial, trivial⟩⟩
theorem in_law7_AclPackets (p : PacketT) (w : WildcardT) (a : Int) (Q : List FV → Prop) : evF G_law7_AclPackets (Lfp G_law7_AclPackets tb_law7_AclPackets) c_law7_AclPackets (VSs.enc e_law7_AclPackets.A (p, w, a, ())) Q = (
  Q [.bool ((((((g_acl_ValidPacket p) == (g_r8_ValidPacket p)) && ((g_acl_MatchesAddress w a) == (g_r8_MatchesAddress w a))) && (g_acl_MatchesAddress w w.1)) && (g_acl_MatchesAddress w (ixor .u32 w.1 (iand .u32 a w.2.1)))) && g_law7_sane)]) := by kernel_rfl
theorem ct_law7_AclPackets (p : PacketT) (w : WildcardT) (a : Int) (hw : VSs.wf e_law7_AclPackets.A (p, w, a, ())) (Q : List FV → Prop) (hq : Q (VSs.enc e_law7_AclPackets.R (e_law7_AclPackets.g (p, w, a, ())))) : EvF G_law7_AclPackets tb_law7_AclPackets c_law7_AclPackets (VSs.enc e_law7_AclPackets.A (p, w, a, ())) Q := by
  have _ := hw
  let FF := (fun y : Bool => Q (VSs.enc e_law7_AclPackets.R (y, ())))
  refine EvF.of (in_law7_AclPackets p w a Q) ?_
  exact id hq
/-! netverify/netverifyref8.ports -/
def G_r8_ports : List Ent := []
def c_r8_ports : AFunc := AFunc.mk 18 1 [(.t 2)] (.seq (.region [(.mk (some 1) none (.box (.t 0))), (.mk (some 2) none (.mov (.c (.f (.bool false)))))]) (.seq (.region [(.mk (some 3) none (.fld 0 (.t 1))), (.mk (some 4) none (.load false 1 (.t 3))), (.mk (some 5) none (.bin .leq (.c (.f (.int .i64 0))) (.t 4))), (.mk (some 6) none (.mov (.t 5))), (.mk (some 7) (some (6, true)) (.fld 0 (.t 1))), (.mk (some 8) (some (6, true)) (.load false 1 (.t 7))), (.mk (some 9) (some (6, true)) (.fld 1 (.t 1))), (.mk (some 10) (some (6, true)) (.load false 1 (.t 9))), (.mk (some 11) (some (6, true)) (.bin .leq (.t 8) (.t 10))), (.mk (some 12) none (.pick 6 (.t 11) (.c (.f (.bool false))))), (.mk (some 13) none (.mov (.t 12))), (.mk (some 14) (some (13, true)) (.fld 1 (.t 1))), (.mk (some 15) (some (13, true)) (.load false 1 (.t 14))), (.mk (some 16) (some (13, true)) (.bin .leq (.t 15) (.c (.f (.int .i64 65535))))), (.mk (some 17) none (.pick 13 (.t 16) (.c (.f (.bool false))))), (.mk (some 2) none (.mov (.t 17)))]) .ret))
def tb_r8_ports : Tbl := fun _ => ([], .skip)
theorem ok_r8_ports : compF Try.prog Try.f42 = some c_r8_ports.strip := by kernel_rfl
theorem tk_r8_ports : TblOk tb_r8_ports c_r8_ports.body := ⟨trivial, ⟨trivial, trivial⟩⟩
theorem in_r8_ports (x0 : PortRangeT) (Q : List FV → Prop) : evF G_r8_ports (Lfp G_r8_ports tb_r8_ports) c_r8_ports (VSs.enc e_r8_ports.A (x0, ())) Q = (
  Q [.bool (((decide (0 ≤ x0.1)) && (decide (x0.1 ≤ x0.2.1))) && (decide (x0.2.1 ≤ 65535)))]) := by kernel_rfl
theorem au_r8_ports (x0 : PortRangeT) (Q : List FV → Prop) : evF G_r8_ports (Lfp G_r8_ports tb_r8_ports) c_r8_ports (VSs.enc e_r8_ports.A (x0, ())) Q = Q (VSs.enc e_r8_ports.R (e_r8_ports.g (x0, ()))) := (in_r8_ports x0 Q).trans rfl
/-! netverify/netverifyref8.all -/
def G_r8_all : List Ent := []
def c_r8_all : AFunc := AFunc.mk 6 1 [(.t 2)] (.seq (.region [(.mk (some 1) none (.box (.t 0))), (.mk (some 2) none (.mov (.c (.f (.bool false)))))]) (.seq (.region [(.mk (some 3) none (.load true 2 (.t 1))), (.mk (some 4) none (.build [(.f (.int .i64 0)), (.f (.int .i64 0))] [(0, (1, (.c (.f (.int .i64 0))))), (1, (1, (.c (.f (.int .i64 65535)))))])), (.mk (some 5) none (.eqa false [(0, 1), (1, 1)] (.t 3) (.t 4))), (.mk (some 2) none (.mov (.t 5)))]) .ret))
def tb_r8_all : Tbl := fun _ => ([], .skip)
theorem ok_r8_all : compF Try.prog Try.f43 = some c_r8_all.strip := by kernel_rfl
theorem tk_r8_all : TblOk tb_r8_all c_r8_all.body := ⟨trivial, ⟨trivial, trivial⟩⟩
theorem in_r8_all (x0 : PortRangeT) (Q : List FV → Prop) : evF G_r8_all (Lfp G_r8_all tb_r8_all) c_r8_all (VSs.enc e_r8_all.A (x0, ())) Q = (
  Q [.bool ((x0.1 == 0) && (x0.2.1 == 65535))]) := by kernel_rfl
theorem au_r8_all (x0 : PortRangeT) (Q : List FV → Prop) : evF G_r8_all (Lfp G_r8_all tb_r8_all) c_r8_all (VSs.enc e_r8_all.A (x0, ())) Q = Q (VSs.enc e_r8_all.R (e_r8_all.g (x0, ()))) := (in_r8_all x0 Q).trans rfl
/-! netverify/netverifyref8.ValidRule -/
def G_r8_ValidRule : List Ent := [e_r8_within, e_r8_ports, e_r8_all]
def c_r8_ValidRule : AFunc := AFunc.mk 57 1 [(.t 2)] (.seq (.region [(.mk (some 1) none (.box (.t 0))), (.mk (some 2) none (.mov (.c (.f (.bool false)))))]) (.seq (.seq (.region [(.mk (some 3) none (.fld 1 (.t 1))), (.mk (some 4) none (.load false 1 (.t 3))), (.mk (some 5) none (.call 27 [(.t 4), (.c (.f (.int .i64 (-1)))), (.c (.f (.int .i64 255)))])), (.mk (some 6) none (.un .not (.t 5))), (.mk (some 7) none (.mov (.t 6))), (.mk (some 8) (some (7, false)) (.fld 2 (.t 1))), (.mk (some 9) (some (7, false)) (.fld 0 (.t 8))), (.mk (some 10) (some (7, false)) (.load false 1 (.t 9))), (.mk (some 11) (some (7, false)) (.fld 2 (.t 1))), (.mk (some 12) (some (7, false)) (.fld 1 (.t 11))), (.mk (some 13) (some (7, false)) (.load false 1 (.t 12))), (.mk (some 14) (some (7, false)) (.bin .and (.t 10) (.t 13))), (.mk (some 15) (some (7, false)) (.bin .neq (.t 14) (.c (.f (.int .u32 0))))), (.mk (some 16) none (.pick 7 (.c (.f (.bool true))) (.t 15))), (.mk (some 17) none (.mov (.t 16))), (.mk (some 18) (some (17, false)) (.fld 4 (.t 1))), (.mk (some 19) (some (17, false)) (.fld 0 (.t 18))), (.mk (some 20) (some (17, false)) (.load false 1 (.t 19))), (.mk (some 21) (some (17, false)) (.fld 4 (.t 1))), (.mk (some 22) (some (17, false)) (.fld 1 (.t 21))), (.mk (some 23) (some (17, false)) (.load false 1 (.t 22))), (.mk (some 24) (some (17, false)) (.bin .and (.t 20) (.t 23))), (.mk (some 25) (some (17, false)) (.bin .neq (.t 24) (.c (.f (.int .u32 0))))), (.mk (some 26) none (.pick 17 (.c (.f (.bool true))) (.t 25))), (.mk (some 27) none (.mov (.t 26))), (.mk (some 28) (some (27, false)) (.fld 6 (.t 1))), (.mk (some 29) (some (27, false)) (.load true 2 (.t 28))), (.mk (some 30) (some (27, false)) (.call 42 [(.t 29)])), (.mk (some 31) (some (27, false)) (.un .not (.t 30))), (.mk (some 32) none (.pick 27 (.c (.f (.bool true))) (.t 31))), (.mk (some 33) none (.mov (.t 32))), (.mk (some 34) (some (33, false)) (.fld 8 (.t 1))), (.mk (some 35) (some (33, false)) (.load true 2 (.t 34))), (.mk (some 36) (some (33, false)) (.call 42 [(.t 35)])), (.mk (some 37) (some (33, false)) (.un .not (.t 36))), (.mk (some 38) none (.pick 33 (.c (.f (.bool true))) (.t 37)))]) (.cond 38 (.seq (.region [(.mk (some 2) none (.mov (.c (.f (.bool false)))))]) .ret) .skip)) (.seq (.region [(.mk (some 39) none (.fld 1 (.t 1))), (.mk (some 40) none (.load false 1 (.t 39))), (.mk (some 41) none (.bin .eql (.t 40) (.c (.f (.int .i64 6))))), (.mk (some 42) none (.mov (.t 41))), (.mk (some 43) (some (42, false)) (.fld 1 (.t 1))), (.mk (some 44) (some (42, false)) (.load false 1 (.t 43))), (.mk (some 45) (some (42, false)) (.bin .eql (.t 44) (.c (.f (.int .i64 17))))), (.mk (some 46) none (.pick 42 (.c (.f (.bool true))) (.t 45))), (.mk (some 47) none (.mov (.t 46))), (.mk (some 48) (some (47, false)) (.fld 6 (.t 1))), (.mk (some 49) (some (47, false)) (.load true 2 (.t 48))), (.mk (some 50) (some (47, false)) (.call 43 [(.t 49)])), (.mk (some 51) (some (47, false)) (.mov (.t 50))), (.mk (some 52) (some (51, true)) (.fld 8 (.t 1))), (.mk (some 53) (some (51, true)) (.load true 2 (.t 52))), (.mk (some 54) (some (51, true)) (.call 43 [(.t 53)])), (.mk (some 55) (some (47, false)) (.pick 51 (.t 54) (.c (.f (.bool false))))), (.mk (some 56) none (.pick 47 (.c (.f (.bool true))) (.t 55))), (.mk (some 2) none (.mov (.t 56)))]) .ret)))
def tb_r8_ValidRule : Tbl := fun _ => ([], .skip)
theorem ok_r8_ValidRule : compF Try.prog Try.f23 = some c_r8_ValidRule.strip := by kernel_rfl
theorem tk_r8_ValidRule : TblOk tb_r8_ValidRule c_r8_ValidRule.body := ⟨trivial, ⟨⟨trivial, ⟨⟨trivial, trivial⟩, trivial⟩⟩, ⟨trivial, trivial⟩⟩⟩
theorem in_r8_ValidRule (x0 : RuleT) (Q : List FV → Prop) : evF G_r8_ValidRule (Lfp G_r8_ValidRule tb_r8_ValidRule) c_r8_ValidRule (VSs.enc e_r8_ValidRule.A (x0, ())) Q = (
  cond (((((!(g_r8_within x0.2.1 (-1) 255)) || ((iand .u32 x0.2.2.1 x0.2.2.2.1) != 0)) || ((iand .u32 x0.2.2.2.2.1 x0.2.2.2.2.2.1) != 0)) || (!(g_r8_ports (x0.2.2.2.2.2.2.1, x0.2.2.2.2.2.2.2.1, ())))) || (!(g_r8_ports x0.2.2.2.2.2.2.2.2)))
  (Q [.bool false])
  (Q [.bool (((x0.2.1 == 6) || (x0.2.1 == 17)) || ((g_r8_all (x0.2.2.2.2.2.2.1, x0.2.2.2.2.2.2.2.1, ())) && (g_r8_all x0.2.2.2.2.2.2.2.2)))])) := by kernel_rfl
theorem au_r8_ValidRule (x0 : RuleT) (Q : List FV → Prop) : evF G_r8_ValidRule (Lfp G_r8_ValidRule tb_r8_ValidRule) c_r8_ValidRule (VSs.enc e_r8_ValidRule.A (x0, ())) Q = Q (VSs.enc e_r8_ValidRule.R (e_r8_ValidRule.g (x0, ()))) := (in_r8_ValidRule x0 Q).trans (cond_q (F := fun y : Bool => Q (VSs.enc e_r8_ValidRule.R (y, ()))) rfl rfl)
/-! netverify/netverifylaw7.right -/
def G_law7_right : List Ent := [e_r8_ValidRule]
def b_law7_right_0 : ACode := (.seq (.seq (.region [(.mk (some 7) none (.mov (.t 3))), (.mk (some 8) none (.mov (.t 0))), (.mk (some 9) none (.len (.t 8))), (.mk (some 10) none (.bin .lss (.t 7) (.t 9)))]) (.cond 10 .skip (.exit 0))) (.seq (.block 1 (.seq (.region [(.mk (some 13) none (.mov (.t 0))), (.mk (some 14) none (.mov (.t 3))), (.mk (some 15) none (.ixa 10 (.t 13) (.t 14))), (.mk (some 16) none (.load true 10 (.t 15))), (.mk (some 17) none (.call 23 [(.t 16)])), (.mk (some 18) none (.un .not (.t 17)))]) (.cond 18 (.seq (.region [(.mk (some 2) none (.mov (.c (.f (.bool false)))))]) .ret) .skip))) (.region [(.mk (some 11) none (.mov (.t 3))), (.mk (some 12) none (.bin .add (.t 11) (.c (.f (.int .i64 1))))), (.mk (some 3) none (.mov (.t 12)))])))
def r_law7_right_0 : ACode := (.seq (.region [(.mk (some 2) none (.mov (.c (.f (.bool true)))))]) .ret)
def c_law7_right : AFunc := AFunc.mk 19 1 [(.t 2)] (.seq (.region [(.mk (some 2) none (.mov (.c (.f (.bool false)))))]) (.seq (.seq (.region [(.mk (some 4) none (.mov (.t 0))), (.mk (some 5) none (.len (.t 4))), (.mk (some 6) none (.bin .gtr (.t 5) (.c (.f (.int .i64 30)))))]) (.cond 6 (.seq (.region [(.mk (some 2) none (.mov (.c (.f (.bool false)))))]) .ret) .skip)) (.seq (.seq (.region [(.mk (some 3) none (.mov (.c (.f (.int .i64 0)))))]) (.block 0 (.loop 0 [(0, none), (3, none)] b_law7_right_0))) r_law7_right_0)))
def tb_law7_right : Tbl
  | 0 => ([(0, none), (3, none)], b_law7_right_0)
  | _ => ([], .skip)
theorem ok_law7_right : compF Try.prog Try.f15 = some c_law7_right.strip := by kernel_rfl
theorem tk_law7_right : TblOk tb_law7_right c_law7_right.body := ⟨trivial, ⟨⟨trivial, ⟨⟨trivial, trivial⟩, trivial⟩⟩, ⟨⟨trivial, ⟨rfl, ⟨⟨trivial, ⟨trivial, trivial⟩⟩, ⟨⟨trivial, ⟨⟨trivial, trivial⟩, trivial⟩⟩, trivial⟩⟩⟩⟩, ⟨trivial, trivial⟩⟩⟩⟩
def k_law7_right_0 (Q : List FV → Prop) : K := (kBlock 0 (kSeq (evC G_law7_right (Lfp G_law7_right tb_law7_right) r_law7_right_0) (kDone c_law7_right Q)))
def s_law7_right_0 (l : List RuleT) (v0 : Int) : St := ⟨[(0, [], .f (.fs RuleS l)), (3, [], .f (.int .i64 v0))], []⟩
def L_law7_right_0 (l : List RuleT) (v0 : Int) (Q : List FV → Prop) : Prop := Lfp G_law7_right tb_law7_right 0 (s_law7_right_0 l v0) (k_law7_right_0 Q)
theorem in_law7_right (l : List RuleT) (Q : List FV → Prop) : evF G_law7_right (Lfp G_law7_right tb_law7_right) c_law7_right (VSs.enc e_law7_right.A (l, ())) Q = (
  cond (decide ((l.length : Int) > 30))
  (Q [.bool false])
  (L_law7_right_0 l 0 Q)) := by kernel_rfl
theorem rd_law7_right_0 (l : List RuleT) (v0 : Int) (Q : List FV → Prop) (h :
  cond (decide (v0 < (l.length : Int)))
  (cond ((okIx v0 (l.length : Int)) && true)
    (cond (!(g_r8_ValidRule (List.getD l (Int.toNat v0) RuleD)))
      (Q [.bool false])
      (L_law7_right_0 l (IntKind.wrap .i64 (v0 + 1)) Q))
    False)
  (Q [.bool true])) : L_law7_right_0 l v0 Q := Lfp.step ((by kernel_rfl : evC G_law7_right (Lfp G_law7_right tb_law7_right) (tb_law7_right 0).2 (s_law7_right_0 l v0) (kLoop (tb_law7_right 0).1 (Lfp G_law7_right tb_law7_right 0) (k_law7_right_0 Q)) = (
  cond (decide (v0 < (l.length : Int)))
  (cond ((okIx v0 (l.length : Int)) && true)
    (cond (!(g_r8_ValidRule (List.getD l (Int.toNat v0) RuleD)))
      (Q [.bool false])
      (L_law7_right_0 l (IntKind.wrap .i64 (v0 + 1)) Q))
    False)
  (Q [.bool true]))).symm ▸ h)
theorem lp_law7_right_0 (l : List RuleT) (Q : List FV → Prop) (hw : VSs.wf e_law7_right.A (l, ()))  (g0 : (decide ((l.length : Int) > 30)) = false) : (fun y : Bool => Q (VSs.enc e_law7_right.R (y, ()))) (S_law7_right_0 l) → L_law7_right_0 l 0 Q := by
  have _ := hw
  have _ := g0
  let FF := (fun y : Bool => Q (VSs.enc e_law7_right.R (y, ())))
  refine upV_loop (F := FF) (k := .i64) (L := (fun c0 : Int => L_law7_right_0 l c0 Q)) (wrap_i64n (show _ ≤ _ from (hw.1).1)) (fun c0 hc0 hF => rd_law7_right_0 l (c0 : Int) Q (cond_ge (n := l.length) rfl hc0 (id hF))) (fun c0 _ hc0 next0 hn0 hF => rd_law7_right_0 l (c0 : Int) Q (cond_lt (n := l.length) rfl hc0 ((vc_f (F := FF) (by first | ((repeat' (first | rfl | exact nn_d64 _ | exact okIx_nat hc0 | refine and_t ?_ ?_ | refine or_l ?_)); done) | (simp [-List.getD_eq_getElem?_getD, okIx_nat hc0, nn_u64, nn_u32]; done) | (simp [-List.getD_eq_getElem?_getD, okIx_nat hc0, nn_u64, nn_u32, g0]; done) | (have hry : roomy = 1048576 := rfl; simp [-List.getD_eq_getElem?_getD, okIx, okSlc, okApp, len_slcL, len_segL] at g0 ⊢ <;> omega)) /- 1 -/ (cond_f (F := FF) (fun h1 => id) (fun h1 => hn0))) hF)))
theorem ct_law7_right (l : List RuleT) (hw : VSs.wf e_law7_right.A (l, ())) (Q : List FV → Prop) (hq : Q (VSs.enc e_law7_right.R (e_law7_right.g (l, ())))) : EvF G_law7_right tb_law7_right c_law7_right (VSs.enc e_law7_right.A (l, ())) Q := by
  have _ := hw
  let FF := (fun y : Bool => Q (VSs.enc e_law7_right.R (y, ())))
  refine EvF.of (in_law7_right l Q) ?_
  exact (cond_f (F := FF) (fun h0 => id) (fun h0 => (lp_law7_right_0 l Q hw h0))) hq
/-! netverify/netverifyref8.Matches -/
def G_r8_Matches : List Ent := [e_r8_MatchesAddress, e_r8_within]
def c_r8_Matches : AFunc := AFunc.mk 49 2 [(.t 4)] (.seq (.region [(.mk (some 2) none (.box (.t 0))), (.mk (some 3) none (.box (.t 1))), (.mk (some 4) none (.mov (.c (.f (.bool false)))))]) (.seq (.seq (.region [(.mk (some 5) none (.fld 1 (.t 2))), (.mk (some 6) none (.load false 1 (.t 5))), (.mk (some 7) none (.bin .neq (.t 6) (.c (.f (.int .i64 (-1)))))), (.mk (some 8) none (.mov (.t 7))), (.mk (some 9) (some (8, true)) (.fld 1 (.t 2))), (.mk (some 10) (some (8, true)) (.load false 1 (.t 9))), (.mk (some 11) (some (8, true)) (.fld 2 (.t 3))), (.mk (some 12) (some (8, true)) (.load false 1 (.t 11))), (.mk (some 13) (some (8, true)) (.bin .neq (.t 10) (.t 12))), (.mk (some 14) none (.pick 8 (.t 13) (.c (.f (.bool false)))))]) (.cond 14 (.seq (.region [(.mk (some 4) none (.mov (.c (.f (.bool false)))))]) .ret) .skip)) (.seq (.region [(.mk (some 15) none (.fld 2 (.t 2))), (.mk (some 16) none (.load true 2 (.t 15))), (.mk (some 17) none (.fld 0 (.t 3))), (.mk (some 18) none (.load false 1 (.t 17))), (.mk (some 19) none (.call 13 [(.t 16), (.t 18)])), (.mk (some 20) none (.mov (.t 19))), (.mk (some 21) (some (20, true)) (.fld 4 (.t 2))), (.mk (some 22) (some (20, true)) (.load true 2 (.t 21))), (.mk (some 23) (some (20, true)) (.fld 1 (.t 3))), (.mk (some 24) (some (20, true)) (.load false 1 (.t 23))), (.mk (some 25) (some (20, true)) (.call 13 [(.t 22), (.t 24)])), (.mk (some 26) none (.pick 20 (.t 25) (.c (.f (.bool false))))), (.mk (some 27) none (.mov (.t 26))), (.mk (some 28) (some (27, true)) (.fld 3 (.t 3))), (.mk (some 29) (some (27, true)) (.load false 1 (.t 28))), (.mk (some 30) (some (27, true)) (.fld 6 (.t 2))), (.mk (some 31) (some (27, true)) (.fld 0 (.t 30))), (.mk (some 32) (some (27, true)) (.load false 1 (.t 31))), (.mk (some 33) (some (27, true)) (.fld 6 (.t 2))), (.mk (some 34) (some (27, true)) (.fld 1 (.t 33))), (.mk (some 35) (some (27, true)) (.load false 1 (.t 34))), (.mk (some 36) (some (27, true)) (.call 27 [(.t 29), (.t 32), (.t 35)])), (.mk (some 37) none (.pick 27 (.t 36) (.c (.f (.bool false))))), (.mk (some 38) none (.mov (.t 37))), (.mk (some 39) (some (38, true)) (.fld 4 (.t 3))), (.mk (some 40) (some (38, true)) (.load false 1 (.t 39))), (.mk (some 41) (some (38, true)) (.fld 8 (.t 2))), (.mk (some 42) (some (38, true)) (.fld 0 (.t 41))), (.mk (some 43) (some (38, true)) (.load false 1 (.t 42))), (.mk (some 44) (some (38, true)) (.fld 8 (.t 2))), (.mk (some 45) (some (38, true)) (.fld 1 (.t 44))), (.mk (some 46) (some (38, true)) (.load false 1 (.t 45))), (.mk (some 47) (some (38, true)) (.call 27 [(.t 40), (.t 43), (.t 46)])), (.mk (some 48) none (.pick 38 (.t 47) (.c (.f (.bool false))))), (.mk (some 4) none (.mov (.t 48)))]) .ret)))
def tb_r8_Matches : Tbl := fun _ => ([], .skip)
theorem ok_r8_Matches : compF Try.prog Try.f17 = some c_r8_Matches.strip := by kernel_rfl
theorem tk_r8_Matches : TblOk tb_r8_Matches c_r8_Matches.body := ⟨trivial, ⟨⟨trivial, ⟨⟨trivial, trivial⟩, trivial⟩⟩, ⟨trivial, trivial⟩⟩⟩
theorem in_r8_Matches (x0 : RuleT) (p : PacketT) (Q : List FV → Prop) : evF G_r8_Matches (Lfp G_r8_Matches tb_r8_Matches) c_r8_Matches (VSs.enc e_r8_Matches.A (x0, p, ())) Q = (
  cond ((x0.2.1 != (-1)) && (x0.2.1 != p.2.2.1))
  (Q [.bool false])
  (Q [.bool ((((g_r8_MatchesAddress (x0.2.2.1, x0.2.2.2.1, ()) p.1) && (g_r8_MatchesAddress (x0.2.2.2.2.1, x0.2.2.2.2.2.1, ()) p.2.1)) && (g_r8_within p.2.2.2.1 x0.2.2.2.2.2.2.1 x0.2.2.2.2.2.2.2.1)) && (g_r8_within p.2.2.2.2.1 x0.2.2.2.2.2.2.2.2.1 x0.2.2.2.2.2.2.2.2.2.1))])) := by kernel_rfl
theorem au_r8_Matches (x0 : RuleT) (p : PacketT) (Q : List FV → Prop) : evF G_r8_Matches (Lfp G_r8_Matches tb_r8_Matches) c_r8_Matches (VSs.enc e_r8_Matches.A (x0, p, ())) Q = Q (VSs.enc e_r8_Matches.R (e_r8_Matches.g (x0, p, ()))) := (in_r8_Matches x0 p Q).trans (cond_q (F := fun y : Bool => Q (VSs.enc e_r8_Matches.R (y, ()))) rfl rfl)
/-! netverify/netverifyref8.First -/
def G_r8_First : List Ent := [e_r8_Matches]
def b_r8_First_0 : ACode := (.seq (.seq (.region [(.mk (some 6) none (.mov (.t 5))), (.mk (some 7) none (.fld 1 (.t 2))), (.mk (some 8) none (.load false 1 (.t 7))), (.mk (some 9) none (.len (.t 8))), (.mk (some 10) none (.bin .lss (.t 6) (.t 9)))]) (.cond 10 .skip (.exit 0))) (.seq (.block 1 (.seq (.region [(.mk (some 13) none (.fld 1 (.t 2))), (.mk (some 14) none (.load false 1 (.t 13))), (.mk (some 15) none (.mov (.t 5))), (.mk (some 16) none (.ixa 10 (.t 14) (.t 15))), (.mk (some 17) none (.load true 10 (.t 16))), (.mk (some 18) none (.load true 5 (.t 3))), (.mk (some 19) none (.call 17 [(.t 17), (.t 18)]))]) (.cond 19 (.seq (.region [(.mk (some 20) none (.mov (.t 5))), (.mk (some 4) none (.mov (.t 20)))]) .ret) .skip))) (.region [(.mk (some 11) none (.mov (.t 5))), (.mk (some 12) none (.bin .add (.t 11) (.c (.f (.int .i64 1))))), (.mk (some 5) none (.mov (.t 12)))])))
def r_r8_First_0 : ACode := (.seq (.region [(.mk (some 4) none (.mov (.c (.f (.int .i64 (-1))))))]) .ret)
def c_r8_First : AFunc := AFunc.mk 21 2 [(.t 4)] (.seq (.region [(.mk (some 2) none (.box (.t 0))), (.mk (some 3) none (.box (.t 1))), (.mk (some 4) none (.mov (.c (.f (.int .i64 0)))))]) (.seq (.seq (.region [(.mk (some 5) none (.mov (.c (.f (.int .i64 0)))))]) (.block 0 (.loop 0 [(2, none), (3, none), (5, none)] b_r8_First_0))) r_r8_First_0))
def tb_r8_First : Tbl
  | 0 => ([(2, none), (3, none), (5, none)], b_r8_First_0)
  | _ => ([], .skip)
theorem ok_r8_First : compF Try.prog Try.f19 = some c_r8_First.strip := by kernel_rfl
theorem tk_r8_First : TblOk tb_r8_First c_r8_First.body := ⟨trivial, ⟨⟨trivial, ⟨rfl, ⟨⟨trivial, ⟨trivial, trivial⟩⟩, ⟨⟨trivial, ⟨⟨trivial, trivial⟩, trivial⟩⟩, trivial⟩⟩⟩⟩, ⟨trivial, trivial⟩⟩⟩
def k_r8_First_0 (Q : List FV → Prop) : K := (kBlock 0 (kSeq (evC G_r8_First (Lfp G_r8_First tb_r8_First) r_r8_First_0) (kDone c_r8_First Q)))
def s_r8_First_0 (l : ACLT) (p : PacketT) (v0 : Int) : St := ⟨[(2, [], .ptr 0 0), (3, [], .ptr 1 0), (5, [], .f (.int .i64 v0))], [.box [.f (.str l.1), .f (.fs RuleS l.2.1)], .box [.f (.int .u32 p.1), .f (.int .u32 p.2.1), .f (.int .i64 p.2.2.1), .f (.int .i64 p.2.2.2.1), .f (.int .i64 p.2.2.2.2.1)]]⟩
def L_r8_First_0 (l : ACLT) (p : PacketT) (v0 : Int) (Q : List FV → Prop) : Prop := Lfp G_r8_First tb_r8_First 0 (s_r8_First_0 l p v0) (k_r8_First_0 Q)
theorem in_r8_First (l : ACLT) (p : PacketT) (Q : List FV → Prop) : evF G_r8_First (Lfp G_r8_First tb_r8_First) c_r8_First (VSs.enc e_r8_First.A (l, p, ())) Q = (
  L_r8_First_0 l p 0 Q) := by kernel_rfl
theorem rd_r8_First_0 (l : ACLT) (p : PacketT) (v0 : Int) (Q : List FV → Prop) (h :
  cond (decide (v0 < (l.2.1.length : Int)))
  (cond ((okIx v0 (l.2.1.length : Int)) && true)
    (cond (g_r8_Matches (List.getD l.2.1 (Int.toNat v0) RuleD) p)
      (Q [.int .i64 v0])
      (L_r8_First_0 l p (IntKind.wrap .i64 (v0 + 1)) Q))
    False)
  (Q [.int .i64 (-1)])) : L_r8_First_0 l p v0 Q := Lfp.step ((by kernel_rfl : evC G_r8_First (Lfp G_r8_First tb_r8_First) (tb_r8_First 0).2 (s_r8_First_0 l p v0) (kLoop (tb_r8_First 0).1 (Lfp G_r8_First tb_r8_First 0) (k_r8_First_0 Q)) = (
  cond (decide (v0 < (l.2.1.length : Int)))
  (cond ((okIx v0 (l.2.1.length : Int)) && true)
    (cond (g_r8_Matches (List.getD l.2.1 (Int.toNat v0) RuleD) p)
      (Q [.int .i64 v0])
      (L_r8_First_0 l p (IntKind.wrap .i64 (v0 + 1)) Q))
    False)
  (Q [.int .i64 (-1)]))).symm ▸ h)
theorem lp_r8_First_0 (l : ACLT) (p : PacketT) (Q : List FV → Prop) (hw : VSs.wf e_r8_First.A (l, p, ()))  : (fun y : Int => Q (VSs.enc e_r8_First.R (y, ()))) (S_r8_First_0 l p) → L_r8_First_0 l p 0 Q := by
  have _ := hw
  let FF := (fun y : Int => Q (VSs.enc e_r8_First.R (y, ())))
  refine upV_loop (F := FF) (k := .i64) (L := (fun c0 : Int => L_r8_First_0 l p c0 Q)) (wrap_i64n (show _ ≤ _ from (((hw.1).2).1).1)) (fun c0 hc0 hF => rd_r8_First_0 l p (c0 : Int) Q (cond_ge (n := l.2.1.length) rfl hc0 (id hF))) (fun c0 _ hc0 next0 hn0 hF => rd_r8_First_0 l p (c0 : Int) Q (cond_lt (n := l.2.1.length) rfl hc0 ((vc_f (F := FF) (by first | ((repeat' (first | rfl | exact nn_d64 _ | exact okIx_nat hc0 | refine and_t ?_ ?_ | refine or_l ?_)); done) | (simp [-List.getD_eq_getElem?_getD, okIx_nat hc0, nn_u64, nn_u32]; done) | (have hry : roomy = 1048576 := rfl; simp [-List.getD_eq_getElem?_getD, okIx, okSlc, okApp, len_slcL, len_segL] <;> omega)) /- 1 -/ (cond_f (F := FF) (fun h0 => id) (fun h0 => hn0))) hF)))
theorem ct_r8_First (l : ACLT) (p : PacketT) (hw : VSs.wf e_r8_First.A (l, p, ())) (Q : List FV → Prop) (hq : Q (VSs.enc e_r8_First.R (e_r8_First.g (l, p, ())))) : EvF G_r8_First tb_r8_First c_r8_First (VSs.enc e_r8_First.A (l, p, ())) Q := by
  have _ := hw
  let FF := (fun y : Int => Q (VSs.enc e_r8_First.R (y, ())))
  refine EvF.of (in_r8_First l p Q) ?_
  exact (lp_r8_First_0 l p Q hw) hq
/-! netverify/netverifylaw7.AclMatches -/
def G_law7_AclMatches : List Ent := [e_r8_ValidPacket, e_law7_sane, e_law7_right, e_acl_Matches, e_r8_Matches, e_acl_First, e_r8_First]
def b_law7_AclMatches_0 : ACode := (.seq (.seq (.region [(.mk (some 14) none (.mov (.t 5))), (.mk (some 15) none (.mov (.t 0))), (.mk (some 16) none (.len (.t 15))), (.mk (some 17) none (.bin .lss (.t 14) (.t 16)))]) (.cond 17 .skip (.exit 0))) (.seq (.block 1 (.seq (.region [(.mk (some 20) none (.mov (.t 0))), (.mk (some 21) none (.mov (.t 5))), (.mk (some 22) none (.ixa 10 (.t 20) (.t 21))), (.mk (some 23) none (.load true 10 (.t 22))), (.mk (some 24) none (.load true 5 (.t 3))), (.mk (some 25) none (.call 16 [(.t 23), (.t 24)])), (.mk (some 26) none (.mov (.t 0))), (.mk (some 27) none (.mov (.t 5))), (.mk (some 28) none (.ixa 10 (.t 26) (.t 27))), (.mk (some 29) none (.load true 10 (.t 28))), (.mk (some 30) none (.load true 5 (.t 3))), (.mk (some 31) none (.call 17 [(.t 29), (.t 30)])), (.mk (some 32) none (.eqb true (.t 25) (.t 31)))]) (.cond 32 (.seq (.region [(.mk (some 4) none (.mov (.c (.f (.bool false)))))]) .ret) .skip))) (.region [(.mk (some 18) none (.mov (.t 5))), (.mk (some 19) none (.bin .add (.t 18) (.c (.f (.int .i64 1))))), (.mk (some 5) none (.mov (.t 19)))])))
def r_law7_AclMatches_0 : ACode := (.seq (.region [(.mk (some 33) none (.mov (.t 0))), (.mk (some 34) none (.build [(.f (.str [])), (.f .nils)] [(1, (1, (.t 33)))])), (.mk (some 35) none (.load true 5 (.t 3))), (.mk (some 36) none (.call 18 [(.t 34), (.t 35)])), (.mk (some 37) none (.mov (.t 0))), (.mk (some 38) none (.build [(.f (.str [])), (.f .nils)] [(1, (1, (.t 37)))])), (.mk (some 39) none (.load true 5 (.t 3))), (.mk (some 40) none (.call 19 [(.t 38), (.t 39)])), (.mk (some 41) none (.bin .eql (.t 36) (.t 40))), (.mk (some 42) none (.mov (.t 41))), (.mk (some 43) (some (42, true)) (.call 14 [])), (.mk (some 44) none (.pick 42 (.t 43) (.c (.f (.bool false))))), (.mk (some 4) none (.mov (.t 44)))]) .ret)
def c_law7_AclMatches : AFunc := AFunc.mk 45 2 [(.t 4)] (.seq (.region [(.mk (some 3) none (.box (.t 1))), (.mk (some 4) none (.mov (.c (.f (.bool false)))))]) (.seq (.seq (.region [(.mk (some 6) none (.mov (.t 0))), (.mk (some 7) none (.call 15 [(.t 6)])), (.mk (some 8) none (.un .not (.t 7))), (.mk (some 9) none (.mov (.t 8))), (.mk (some 10) (some (9, false)) (.load true 5 (.t 3))), (.mk (some 11) (some (9, false)) (.call 11 [(.t 10)])), (.mk (some 12) (some (9, false)) (.un .not (.t 11))), (.mk (some 13) none (.pick 9 (.c (.f (.bool true))) (.t 12)))]) (.cond 13 (.seq (.region [(.mk (some 4) none (.mov (.c (.f (.bool true)))))]) .ret) .skip)) (.seq (.seq (.region [(.mk (some 5) none (.mov (.c (.f (.int .i64 0)))))]) (.block 0 (.loop 0 [(0, none), (3, none), (5, none)] b_law7_AclMatches_0))) r_law7_AclMatches_0)))
def tb_law7_AclMatches : Tbl
  | 0 => ([(0, none), (3, none), (5, none)], b_law7_AclMatches_0)
  | _ => ([], .skip)
theorem ok_law7_AclMatches : compF Try.prog Try.f4 = some c_law7_AclMatches.strip := by kernel_rfl
theorem tk_law7_AclMatches : TblOk tb_law7_AclMatches c_law7_AclMatches.body := ⟨trivial, ⟨⟨trivial, ⟨⟨trivial, trivial⟩, trivial⟩⟩, ⟨⟨trivial, ⟨rfl, ⟨⟨trivial, ⟨trivial, trivial⟩⟩, ⟨⟨trivial, ⟨⟨trivial, trivial⟩, trivial⟩⟩, trivial⟩⟩⟩⟩, ⟨trivial, trivial⟩⟩⟩⟩
def k_law7_AclMatches_0 (Q : List FV → Prop) : K := (kBlock 0 (kSeq (evC G_law7_AclMatches (Lfp G_law7_AclMatches tb_law7_AclMatches) r_law7_AclMatches_0) (kDone c_law7_AclMatches Q)))
def s_law7_AclMatches_0 (l : List RuleT) (p : PacketT) (v0 : Int) : St := ⟨[(0, [], .f (.fs RuleS l)), (3, [], .ptr 0 0), (5, [], .f (.int .i64 v0))], [.box [.f (.int .u32 p.1), .f (.int .u32 p.2.1), .f (.int .i64 p.2.2.1), .f (.int .i64 p.2.2.2.1), .f (.int .i64 p.2.2.2.2.1)]]⟩
def L_law7_AclMatches_0 (l : List RuleT) (p : PacketT) (v0 : Int) (Q : List FV → Prop) : Prop := Lfp G_law7_AclMatches tb_law7_AclMatches 0 (s_law7_AclMatches_0 l p v0) (k_law7_AclMatches_0 Q)
theorem in_law7_AclMatches (l : List RuleT) (p : PacketT) (Q : List FV → Prop) : evF G_law7_AclMatches (Lfp G_law7_AclMatches tb_law7_AclMatches) c_law7_AclMatches (VSs.enc e_law7_AclMatches.A (l, p, ())) Q = (
  cond ((!(g_law7_right l)) || (!(g_r8_ValidPacket p)))
  (Q [.bool true])
  (L_law7_AclMatches_0 l p 0 Q)) := by kernel_rfl
theorem rd_law7_AclMatches_0 (l : List RuleT) (p : PacketT) (v0 : Int) (Q : List FV → Prop) (h :
  cond (decide (v0 < (l.length : Int)))
  (cond ((((okIx v0 (l.length : Int)) && true) && (okIx v0 (l.length : Int))) && true)
    (cond (!((g_acl_Matches (List.getD l (Int.toNat v0) RuleD) p) == (g_r8_Matches (List.getD l (Int.toNat v0) RuleD) p)))
      (Q [.bool false])
      (L_law7_AclMatches_0 l p (IntKind.wrap .i64 (v0 + 1)) Q))
    False)
  (Q [.bool (((g_acl_First ([], l, ()) p) == (g_r8_First ([], l, ()) p)) && g_law7_sane)])) : L_law7_AclMatches_0 l p v0 Q := Lfp.step ((by kernel_rfl : evC G_law7_AclMatches (Lfp G_law7_AclMatches tb_law7_AclMatches) (tb_law7_AclMatches 0).2 (s_law7_AclMatches_0 l p v0) (kLoop (tb_law7_AclMatches 0).1 (Lfp G_law7_AclMatches tb_law7_AclMatches 0) (k_law7_AclMatches_0 Q)) = (
  cond (decide (v0 < (l.length : Int)))
  (cond ((((okIx v0 (l.length : Int)) && true) && (okIx v0 (l.length : Int))) && true)
    (cond (!((g_acl_Matches (List.getD l (Int.toNat v0) RuleD) p) == (g_r8_Matches (List.getD l (Int.toNat v0) RuleD) p)))
      (Q [.bool false])
      (L_law7_AclMatches_0 l p (IntKind.wrap .i64 (v0 + 1)) Q))
    False)
  (Q [.bool (((g_acl_First ([], l, ()) p) == (g_r8_First ([], l, ()) p)) && g_law7_sane)]))).symm ▸ h)
theorem lp_law7_AclMatches_0 (l : List RuleT) (p : PacketT) (Q : List FV → Prop) (hw : VSs.wf e_law7_AclMatches.A (l, p, ()))  (g0 : ((!(g_law7_right l)) || (!(g_r8_ValidPacket p))) = false) : (fun y : Bool => Q (VSs.enc e_law7_AclMatches.R (y, ()))) (S_law7_AclMatches_0 l p) → L_law7_AclMatches_0 l p 0 Q := by
  have _ := hw
  have _ := g0
  let FF := (fun y : Bool => Q (VSs.enc e_law7_AclMatches.R (y, ())))
  refine upV_loop (F := FF) (k := .i64) (L := (fun c0 : Int => L_law7_AclMatches_0 l p c0 Q)) (wrap_i64n (show _ ≤ _ from (hw.1).1)) (fun c0 hc0 hF => rd_law7_AclMatches_0 l p (c0 : Int) Q (cond_ge (n := l.length) rfl hc0 (id hF))) (fun c0 _ hc0 next0 hn0 hF => rd_law7_AclMatches_0 l p (c0 : Int) Q (cond_lt (n := l.length) rfl hc0 ((vc_f (F := FF) (by first | ((repeat' (first | rfl | exact nn_d64 _ | exact okIx_nat hc0 | refine and_t ?_ ?_ | refine or_l ?_)); done) | (simp [-List.getD_eq_getElem?_getD, okIx_nat hc0, nn_u64, nn_u32]; done) | (simp [-List.getD_eq_getElem?_getD, okIx_nat hc0, nn_u64, nn_u32, g0]; done) | (have hry : roomy = 1048576 := rfl; simp [-List.getD_eq_getElem?_getD, okIx, okSlc, okApp, len_slcL, len_segL] at g0 ⊢ <;> omega)) /- 1 -/ (cond_f (F := FF) (fun h1 => id) (fun h1 => hn0))) hF)))
theorem ct_law7_AclMatches (l : List RuleT) (p : PacketT) (hw : VSs.wf e_law7_AclMatches.A (l, p, ())) (Q : List FV → Prop) (hq : Q (VSs.enc e_law7_AclMatches.R (e_law7_AclMatches.g (l, p, ())))) : EvF G_law7_AclMatches tb_law7_AclMatches c_law7_AclMatches (VSs.enc e_law7_AclMatches.A (l, p, ())) Q := by
  have _ := hw
  let FF := (fun y : Bool => Q (VSs.enc e_law7_AclMatches.R (y, ())))
  refine EvF.of (in_law7_AclMatches l p Q) ?_
  exact (cond_f (F := FF) (fun h0 => id) (fun h0 => (lp_law7_AclMatches_0 l p Q hw h0))) hq
/-! netverify/netverifyref4.letter -/
def G_r4_letter : List Ent := []
def c_r4_letter : AFunc := AFunc.mk 17 1 [(.t 2)] (.seq (.region [(.mk (some 2) none (.mov (.c (.f (.bool false)))))]) (.seq (.region [(.mk (some 3) none (.mov (.t 0))), (.mk (some 4) none (.bin .geq (.t 3) (.c (.f (.int .u8 97))))), (.mk (some 5) none (.mov (.t 4))), (.mk (some 6) (some (5, true)) (.mov (.t 0))), (.mk (some 7) (some (5, true)) (.bin .leq (.t 6) (.c (.f (.int .u8 122))))), (.mk (some 8) none (.pick 5 (.t 7) (.c (.f (.bool false))))), (.mk (some 9) none (.mov (.t 8))), (.mk (some 10) (some (9, false)) (.mov (.t 0))), (.mk (some 11) (some (9, false)) (.bin .geq (.t 10) (.c (.f (.int .u8 65))))), (.mk (some 12) (some (9, false)) (.mov (.t 11))), (.mk (some 13) (some (12, true)) (.mov (.t 0))), (.mk (some 14) (some (12, true)) (.bin .leq (.t 13) (.c (.f (.int .u8 90))))), (.mk (some 15) (some (9, false)) (.pick 12 (.t 14) (.c (.f (.bool false))))), (.mk (some 16) none (.pick 9 (.c (.f (.bool true))) (.t 15))), (.mk (some 2) none (.mov (.t 16)))]) .ret))
def tb_r4_letter : Tbl := fun _ => ([], .skip)
theorem ok_r4_letter : compF Try.prog Try.f46 = some c_r4_letter.strip := by kernel_rfl
theorem tk_r4_letter : TblOk tb_r4_letter c_r4_letter.body := ⟨trivial, ⟨trivial, trivial⟩⟩
theorem in_r4_letter (c : Int) (Q : List FV → Prop) : evF G_r4_letter (Lfp G_r4_letter tb_r4_letter) c_r4_letter (VSs.enc e_r4_letter.A (c, ())) Q = (
  Q [.bool (((decide (c ≥ 97)) && (decide (c ≤ 122))) || ((decide (c ≥ 65)) && (decide (c ≤ 90))))]) := by kernel_rfl
theorem au_r4_letter (c : Int) (Q : List FV → Prop) : evF G_r4_letter (Lfp G_r4_letter tb_r4_letter) c_r4_letter (VSs.enc e_r4_letter.A (c, ())) Q = Q (VSs.enc e_r4_letter.R (e_r4_letter.g (c, ()))) := (in_r4_letter c Q).trans rfl
/-! netverify/netverifyref4.Name -/
def G_r4_Name : List Ent := [e_r4_letter]
def b_r4_Name_0 : ACode := (.seq (.seq (.region [(.mk (some 19) none (.mov (.t 3))), (.mk (some 20) none (.mov (.t 0))), (.mk (some 21) none (.lens (.t 20))), (.mk (some 22) none (.bin .lss (.t 19) (.t 21)))]) (.cond 22 .skip (.exit 0))) (.seq (.block 1 (.seq (.region [(.mk (some 25) none (.mov (.t 0))), (.mk (some 26) none (.mov (.t 3))), (.mk (some 27) none (.ixs (.t 25) (.t 26))), (.mk (some 4) none (.mov (.t 27)))]) (.seq (.region [(.mk (some 28) none (.mov (.t 4))), (.mk (some 29) none (.call 46 [(.t 28)])), (.mk (some 30) none (.un .not (.t 29))), (.mk (some 31) none (.mov (.t 30))), (.mk (some 32) (some (31, true)) (.mov (.t 4))), (.mk (some 33) (some (31, true)) (.bin .geq (.t 32) (.c (.f (.int .u8 48))))), (.mk (some 34) (some (31, true)) (.mov (.t 33))), (.mk (some 35) (some (34, true)) (.mov (.t 4))), (.mk (some 36) (some (34, true)) (.bin .leq (.t 35) (.c (.f (.int .u8 57))))), (.mk (some 37) (some (31, true)) (.pick 34 (.t 36) (.c (.f (.bool false))))), (.mk (some 38) (some (31, true)) (.un .not (.t 37))), (.mk (some 39) none (.pick 31 (.t 38) (.c (.f (.bool false))))), (.mk (some 40) none (.mov (.t 39))), (.mk (some 41) (some (40, true)) (.mov (.t 4))), (.mk (some 42) (some (40, true)) (.bin .neq (.t 41) (.c (.f (.int .u8 45))))), (.mk (some 43) none (.pick 40 (.t 42) (.c (.f (.bool false))))), (.mk (some 44) none (.mov (.t 43))), (.mk (some 45) (some (44, true)) (.mov (.t 4))), (.mk (some 46) (some (44, true)) (.bin .neq (.t 45) (.c (.f (.int .u8 95))))), (.mk (some 47) none (.pick 44 (.t 46) (.c (.f (.bool false))))), (.mk (some 48) none (.mov (.t 47))), (.mk (some 49) (some (48, true)) (.mov (.t 4))), (.mk (some 50) (some (48, true)) (.bin .neq (.t 49) (.c (.f (.int .u8 47))))), (.mk (some 51) none (.pick 48 (.t 50) (.c (.f (.bool false))))), (.mk (some 52) none (.mov (.t 51))), (.mk (some 53) (some (52, true)) (.mov (.t 4))), (.mk (some 54) (some (52, true)) (.bin .neq (.t 53) (.c (.f (.int .u8 46))))), (.mk (some 55) none (.pick 52 (.t 54) (.c (.f (.bool false)))))]) (.cond 55 (.seq (.region [(.mk (some 2) none (.mov (.c (.f (.bool false)))))]) .ret) .skip)))) (.region [(.mk (some 23) none (.mov (.t 3))), (.mk (some 24) none (.bin .add (.t 23) (.c (.f (.int .i64 1))))), (.mk (some 3) none (.mov (.t 24)))])))
def r_r4_Name_0 : ACode := (.seq (.region [(.mk (some 2) none (.mov (.c (.f (.bool true)))))]) .ret)
def c_r4_Name : AFunc := AFunc.mk 56 1 [(.t 2)] (.seq (.region [(.mk (some 2) none (.mov (.c (.f (.bool false)))))]) (.seq (.seq (.region [(.mk (some 5) none (.mov (.t 0))), (.mk (some 6) none (.lens (.t 5))), (.mk (some 7) none (.bin .lss (.t 6) (.c (.f (.int .i64 1))))), (.mk (some 8) none (.mov (.t 7))), (.mk (some 9) (some (8, false)) (.mov (.t 0))), (.mk (some 10) (some (8, false)) (.lens (.t 9))), (.mk (some 11) (some (8, false)) (.bin .gtr (.t 10) (.c (.f (.int .i64 15))))), (.mk (some 12) none (.pick 8 (.c (.f (.bool true))) (.t 11))), (.mk (some 13) none (.mov (.t 12))), (.mk (some 14) (some (13, false)) (.mov (.t 0))), (.mk (some 15) (some (13, false)) (.ixs (.t 14) (.c (.f (.int .i64 0))))), (.mk (some 16) (some (13, false)) (.call 46 [(.t 15)])), (.mk (some 17) (some (13, false)) (.un .not (.t 16))), (.mk (some 18) none (.pick 13 (.c (.f (.bool true))) (.t 17)))]) (.cond 18 (.seq (.region [(.mk (some 2) none (.mov (.c (.f (.bool false)))))]) .ret) .skip)) (.seq (.seq (.region [(.mk (some 3) none (.mov (.c (.f (.int .i64 1)))))]) (.block 0 (.loop 0 [(0, none), (3, none)] b_r4_Name_0))) r_r4_Name_0)))
def tb_r4_Name : Tbl
  | 0 => ([(0, none), (3, none)], b_r4_Name_0)
  | _ => ([], .skip)
theorem ok_r4_Name : compF Try.prog Try.f29 = some c_r4_Name.strip := by kernel_rfl
theorem tk_r4_Name : TblOk tb_r4_Name c_r4_Name.body := ⟨trivial, ⟨⟨trivial, ⟨⟨trivial, trivial⟩, trivial⟩⟩, ⟨⟨trivial, ⟨rfl, ⟨⟨trivial, ⟨trivial, trivial⟩⟩, ⟨⟨trivial, ⟨trivial, ⟨⟨trivial, trivial⟩, trivial⟩⟩⟩, trivial⟩⟩⟩⟩, ⟨trivial, trivial⟩⟩⟩⟩
def k_r4_Name_0 (Q : List FV → Prop) : K := (kBlock 0 (kSeq (evC G_r4_Name (Lfp G_r4_Name tb_r4_Name) r_r4_Name_0) (kDone c_r4_Name Q)))
def s_r4_Name_0 (s : List UInt8) (v0 : Int) : St := ⟨[(0, [], .f (.str s)), (3, [], .f (.int .i64 v0))], []⟩
def L_r4_Name_0 (s : List UInt8) (v0 : Int) (Q : List FV → Prop) : Prop := Lfp G_r4_Name tb_r4_Name 0 (s_r4_Name_0 s v0) (k_r4_Name_0 Q)
theorem in_r4_Name (s : List UInt8) (Q : List FV → Prop) : evF G_r4_Name (Lfp G_r4_Name tb_r4_Name) c_r4_Name (VSs.enc e_r4_Name.A (s, ())) Q = (
  cond (((okIx 0 (s.length : Int)) || (!((((decide ((s.length : Int) < 1)) || (decide ((s.length : Int) > 15))) == false) && true))) && true)
  (cond (((decide ((s.length : Int) < 1)) || (decide ((s.length : Int) > 15))) || (!(g_r4_letter (byteAt s 0))))
    (Q [.bool false])
    (L_r4_Name_0 s 1 Q))
  False) := by kernel_rfl
theorem rd_r4_Name_0 (s : List UInt8) (v0 : Int) (Q : List FV → Prop) (h :
  cond (decide (v0 < (s.length : Int)))
  (cond (okIx v0 (s.length : Int))
    (cond ((((((!(g_r4_letter (byteAt s v0))) && (!((decide ((byteAt s v0) ≥ 48)) && (decide ((byteAt s v0) ≤ 57))))) && ((byteAt s v0) != 45)) && ((byteAt s v0) != 95)) && ((byteAt s v0) != 47)) && ((byteAt s v0) != 46))
      (Q [.bool false])
      (L_r4_Name_0 s (IntKind.wrap .i64 (v0 + 1)) Q))
    False)
  (Q [.bool true])) : L_r4_Name_0 s v0 Q := Lfp.step ((by kernel_rfl : evC G_r4_Name (Lfp G_r4_Name tb_r4_Name) (tb_r4_Name 0).2 (s_r4_Name_0 s v0) (kLoop (tb_r4_Name 0).1 (Lfp G_r4_Name tb_r4_Name 0) (k_r4_Name_0 Q)) = (
  cond (decide (v0 < (s.length : Int)))
  (cond (okIx v0 (s.length : Int))
    (cond ((((((!(g_r4_letter (byteAt s v0))) && (!((decide ((byteAt s v0) ≥ 48)) && (decide ((byteAt s v0) ≤ 57))))) && ((byteAt s v0) != 45)) && ((byteAt s v0) != 95)) && ((byteAt s v0) != 47)) && ((byteAt s v0) != 46))
      (Q [.bool false])
      (L_r4_Name_0 s (IntKind.wrap .i64 (v0 + 1)) Q))
    False)
  (Q [.bool true]))).symm ▸ h)
theorem lp_r4_Name_0 (s : List UInt8) (Q : List FV → Prop) (hw : VSs.wf e_r4_Name.A (s, ()))  (g0 : (((decide ((s.length : Int) < 1)) || (decide ((s.length : Int) > 15))) || (!(g_r4_letter (byteAt s 0)))) = false) : (fun y : Bool => Q (VSs.enc e_r4_Name.R (y, ()))) (S_r4_Name_0 s) → L_r4_Name_0 s 1 Q := by
  have _ := hw
  have _ := g0
  let FF := (fun y : Bool => Q (VSs.enc e_r4_Name.R (y, ())))
  refine upV_loop (F := FF) (k := .i64) (L := (fun c0 : Int => L_r4_Name_0 s c0 Q)) (wrap_i64n (show _ ≤ _ from (hw.1))) (fun c0 hc0 hF => rd_r4_Name_0 s (c0 : Int) Q (cond_ge (n := s.length) rfl hc0 (id hF))) (fun c0 _ hc0 next0 hn0 hF => rd_r4_Name_0 s (c0 : Int) Q (cond_lt (n := s.length) rfl hc0 ((vc_f (F := FF) (by first | ((repeat' (first | rfl | exact nn_d64 _ | exact okIx_nat hc0 | refine and_t ?_ ?_ | refine or_l ?_)); done) | (simp [-List.getD_eq_getElem?_getD, okIx_nat hc0, nn_u64, nn_u32]; done) | (simp [-List.getD_eq_getElem?_getD, okIx_nat hc0, nn_u64, nn_u32, g0]; done) | (have hry : roomy = 1048576 := rfl; simp [-List.getD_eq_getElem?_getD, okIx, okSlc, okApp, len_slcL, len_segL] at g0 ⊢ <;> omega)) /- 1 -/ (cond_f (F := FF) (fun h1 => id) (fun h1 => hn0))) hF)))
theorem ct_r4_Name (s : List UInt8) (hw : VSs.wf e_r4_Name.A (s, ())) (Q : List FV → Prop) (hq : Q (VSs.enc e_r4_Name.R (e_r4_Name.g (s, ())))) : EvF G_r4_Name tb_r4_Name c_r4_Name (VSs.enc e_r4_Name.A (s, ())) Q := by
  have _ := hw
  let FF := (fun y : Bool => Q (VSs.enc e_r4_Name.R (y, ())))
  refine EvF.of (in_r4_Name s Q) ?_
  exact (vc_f (F := FF) (by first | ((repeat' (first | rfl | exact nn_d64 _ | refine and_t ?_ ?_ | refine or_l ?_)); done) | (simp [-List.getD_eq_getElem?_getD, nn_u64, nn_u32]; done) | (have hry : roomy = 1048576 := rfl; simp [-List.getD_eq_getElem?_getD, okIx, okSlc, okApp, len_slcL, len_segL] <;> omega)) /- 2 -/ (cond_f (F := FF) (fun h0 => id) (fun h0 => (lp_r4_Name_0 s Q hw h0)))) hq
/-! netverify/netverifyref4.Mask -/
def G_r4_Mask : List Ent := []
def b_r4_Mask_0 : ACode := (.seq (.seq (.region [(.mk (some 5) none (.mov (.t 4))), (.mk (some 6) none (.bin .lss (.t 5) (.c (.f (.int .i64 32)))))]) (.cond 6 .skip (.exit 0))) (.seq (.block 1 (.seq (.region [(.mk (some 9) none (.mov (.t 4))), (.mk (some 10) none (.mov (.t 0))), (.mk (some 11) none (.bin .lss (.t 9) (.t 10)))]) (.cond 11 (.region [(.mk (some 12) none (.mov (.t 3))), (.mk (some 13) none (.mov (.t 4))), (.mk (some 14) none (.bin .sub (.c (.f (.int .i64 31))) (.t 13))), (.mk (some 15) none (.conv .u64 (.t 14))), (.mk (some 16) none (.bin .shl (.c (.f (.int .u32 1))) (.t 15))), (.mk (some 17) none (.bin .or (.t 12) (.t 16))), (.mk (some 3) none (.mov (.t 17)))]) .skip))) (.region [(.mk (some 7) none (.mov (.t 4))), (.mk (some 8) none (.bin .add (.t 7) (.c (.f (.int .i64 1))))), (.mk (some 4) none (.mov (.t 8)))])))
def r_r4_Mask_0 : ACode := (.seq (.region [(.mk (some 18) none (.mov (.t 3))), (.mk (some 2) none (.mov (.t 18)))]) .ret)
def c_r4_Mask : AFunc := AFunc.mk 19 1 [(.t 2)] (.seq (.region [(.mk (some 2) none (.mov (.c (.f (.int .u32 0)))))]) (.seq (.region [(.mk (some 3) none (.mov (.c (.f (.int .u32 0)))))]) (.seq (.seq (.region [(.mk (some 4) none (.mov (.c (.f (.int .i64 0)))))]) (.block 0 (.loop 0 [(0, none), (3, none), (4, none)] b_r4_Mask_0))) r_r4_Mask_0)))
def tb_r4_Mask : Tbl
  | 0 => ([(0, none), (3, none), (4, none)], b_r4_Mask_0)
  | _ => ([], .skip)
theorem ok_r4_Mask : compF Try.prog Try.f60 = some c_r4_Mask.strip := by kernel_rfl
theorem tk_r4_Mask : TblOk tb_r4_Mask c_r4_Mask.body := ⟨trivial, ⟨trivial, ⟨⟨trivial, ⟨rfl, ⟨⟨trivial, ⟨trivial, trivial⟩⟩, ⟨⟨trivial, ⟨trivial, trivial⟩⟩, trivial⟩⟩⟩⟩, ⟨trivial, trivial⟩⟩⟩⟩
def k_r4_Mask_0 (Q : List FV → Prop) : K := (kBlock 0 (kSeq (evC G_r4_Mask (Lfp G_r4_Mask tb_r4_Mask) r_r4_Mask_0) (kDone c_r4_Mask Q)))
def s_r4_Mask_0 (n : Int) (v0 : Int) (v1 : Int) : St := ⟨[(0, [], .f (.int .i64 n)), (3, [], .f (.int .u32 v0)), (4, [], .f (.int .i64 v1))], []⟩
def L_r4_Mask_0 (n : Int) (v0 : Int) (v1 : Int) (Q : List FV → Prop) : Prop := Lfp G_r4_Mask tb_r4_Mask 0 (s_r4_Mask_0 n v0 v1) (k_r4_Mask_0 Q)
theorem in_r4_Mask (n : Int) (Q : List FV → Prop) : evF G_r4_Mask (Lfp G_r4_Mask tb_r4_Mask) c_r4_Mask (VSs.enc e_r4_Mask.A (n, ())) Q = (
  L_r4_Mask_0 n 0 0 Q) := by kernel_rfl
theorem rd_r4_Mask_0 (n : Int) (v0 : Int) (v1 : Int) (Q : List FV → Prop) (h :
  cond (decide (v1 < 32))
  (cond (decide (v1 < n))
    (cond (decide (0 ≤ (IntKind.wrap .u64 (IntKind.wrap .i64 (31 - v1)))))
      (L_r4_Mask_0 n (ior .u32 v0 (ishl .u32 1 (IntKind.wrap .u64 (IntKind.wrap .i64 (31 - v1))))) (IntKind.wrap .i64 (v1 + 1)) Q)
      False)
    (L_r4_Mask_0 n v0 (IntKind.wrap .i64 (v1 + 1)) Q))
  (Q [.int .u32 v0])) : L_r4_Mask_0 n v0 v1 Q := Lfp.step ((by kernel_rfl : evC G_r4_Mask (Lfp G_r4_Mask tb_r4_Mask) (tb_r4_Mask 0).2 (s_r4_Mask_0 n v0 v1) (kLoop (tb_r4_Mask 0).1 (Lfp G_r4_Mask tb_r4_Mask 0) (k_r4_Mask_0 Q)) = (
  cond (decide (v1 < 32))
  (cond (decide (v1 < n))
    (cond (decide (0 ≤ (IntKind.wrap .u64 (IntKind.wrap .i64 (31 - v1)))))
      (L_r4_Mask_0 n (ior .u32 v0 (ishl .u32 1 (IntKind.wrap .u64 (IntKind.wrap .i64 (31 - v1))))) (IntKind.wrap .i64 (v1 + 1)) Q)
      False)
    (L_r4_Mask_0 n v0 (IntKind.wrap .i64 (v1 + 1)) Q))
  (Q [.int .u32 v0]))).symm ▸ h)
theorem lp_r4_Mask_0 (n : Int) (v00 : Int) (Q : List FV → Prop) (hw : VSs.wf e_r4_Mask.A (n, ()))  : (fun y : Int => Q (VSs.enc e_r4_Mask.R (y, ()))) (S_r4_Mask_0 n v00) → L_r4_Mask_0 n v00 0 Q := by
  have _ := hw
  let FF := (fun y : Int => Q (VSs.enc e_r4_Mask.R (y, ())))
  refine upS_loop (F := FF) (k := .i64) (I := fun _ _ => True) (L := (fun (c0 : Int) (s0 : Int) => L_r4_Mask_0 n s0 c0 Q)) (wrap_i64n (by decide)) (fun c0 hc0 s0 hI hF => rd_r4_Mask_0 n s0 (c0 : Int) Q (cond_ge (n := 32) rfl hc0 (id hF))) (fun c0 _ hc0 next0 hn0 s0 hI hF => rd_r4_Mask_0 n s0 (c0 : Int) Q (cond_lt (n := 32) rfl hc0 ((cond_f (F := FF) (fun h0 => (vc_f (F := FF) (by first | ((repeat' (first | rfl | exact nn_d64 _ | exact okIx_nat hc0 | refine and_t ?_ ?_ | refine or_l ?_)); done) | (simp [-List.getD_eq_getElem?_getD, okIx_nat hc0, nn_u64, nn_u32]; done) | (simp [-List.getD_eq_getElem?_getD, okIx_nat hc0, nn_u64, nn_u32, h0]; done) | (have hry : roomy = 1048576 := rfl; simp [-List.getD_eq_getElem?_getD, okIx, okSlc, okApp, len_slcL, len_segL] at h0 ⊢ <;> omega)) /- 1 -/ (hn0 _ trivial))) (fun h0 => (hn0 _ trivial))) hF))) v00 trivial
theorem ct_r4_Mask (n : Int) (hw : VSs.wf e_r4_Mask.A (n, ())) (Q : List FV → Prop) (hq : Q (VSs.enc e_r4_Mask.R (e_r4_Mask.g (n, ())))) : EvF G_r4_Mask tb_r4_Mask c_r4_Mask (VSs.enc e_r4_Mask.A (n, ())) Q := by
  have _ := hw
  let FF := (fun y : Int => Q (VSs.enc e_r4_Mask.R (y, ())))
  refine EvF.of (in_r4_Mask n Q) ?_
  exact (lp_r4_Mask_0 n _ Q hw) hq
/-! netverify/netverifyref4.Contains -/
def G_r4_Contains : List Ent := [e_r4_Mask]
def c_r4_Contains : AFunc := AFunc.mk 13 2 [(.t 4)] (.seq (.region [(.mk (some 2) none (.box (.t 0))), (.mk (some 4) none (.mov (.c (.f (.bool false)))))]) (.seq (.region [(.mk (some 5) none (.mov (.t 1))), (.mk (some 6) none (.fld 1 (.t 2))), (.mk (some 7) none (.load false 1 (.t 6))), (.mk (some 8) none (.call 60 [(.t 7)])), (.mk (some 9) none (.bin .and (.t 5) (.t 8))), (.mk (some 10) none (.fld 0 (.t 2))), (.mk (some 11) none (.load false 1 (.t 10))), (.mk (some 12) none (.bin .eql (.t 9) (.t 11))), (.mk (some 4) none (.mov (.t 12)))]) .ret))
def tb_r4_Contains : Tbl := fun _ => ([], .skip)
theorem ok_r4_Contains : compF Try.prog Try.f62 = some c_r4_Contains.strip := by kernel_rfl
theorem tk_r4_Contains : TblOk tb_r4_Contains c_r4_Contains.body := ⟨trivial, ⟨trivial, trivial⟩⟩
theorem in_r4_Contains (p : PrefixT) (a : Int) (Q : List FV → Prop) : evF G_r4_Contains (Lfp G_r4_Contains tb_r4_Contains) c_r4_Contains (VSs.enc e_r4_Contains.A (p, a, ())) Q = (
  Q [.bool ((iand .u32 a (g_r4_Mask p.2.1)) == p.1)]) := by kernel_rfl
theorem au_r4_Contains (p : PrefixT) (a : Int) (Q : List FV → Prop) : evF G_r4_Contains (Lfp G_r4_Contains tb_r4_Contains) c_r4_Contains (VSs.enc e_r4_Contains.A (p, a, ())) Q = Q (VSs.enc e_r4_Contains.R (e_r4_Contains.g (p, a, ()))) := (in_r4_Contains p a Q).trans rfl
/-! netverify/netverifyref4.Covers -/
def G_r4_Covers : List Ent := [e_r4_Contains]
def c_r4_Covers : AFunc := AFunc.mk 16 2 [(.t 4)] (.seq (.region [(.mk (some 2) none (.box (.t 0))), (.mk (some 3) none (.box (.t 1))), (.mk (some 4) none (.mov (.c (.f (.bool false)))))]) (.seq (.region [(.mk (some 5) none (.fld 1 (.t 2))), (.mk (some 6) none (.load false 1 (.t 5))), (.mk (some 7) none (.fld 1 (.t 3))), (.mk (some 8) none (.load false 1 (.t 7))), (.mk (some 9) none (.bin .leq (.t 6) (.t 8))), (.mk (some 10) none (.mov (.t 9))), (.mk (some 11) (some (10, true)) (.load true 2 (.t 2))), (.mk (some 12) (some (10, true)) (.fld 0 (.t 3))), (.mk (some 13) (some (10, true)) (.load false 1 (.t 12))), (.mk (some 14) (some (10, true)) (.call 62 [(.t 11), (.t 13)])), (.mk (some 15) none (.pick 10 (.t 14) (.c (.f (.bool false))))), (.mk (some 4) none (.mov (.t 15)))]) .ret))
def tb_r4_Covers : Tbl := fun _ => ([], .skip)
theorem ok_r4_Covers : compF Try.prog Try.f59 = some c_r4_Covers.strip := by kernel_rfl
theorem tk_r4_Covers : TblOk tb_r4_Covers c_r4_Covers.body := ⟨trivial, ⟨trivial, trivial⟩⟩
theorem in_r4_Covers (p : PrefixT) (q : PrefixT) (Q : List FV → Prop) : evF G_r4_Covers (Lfp G_r4_Covers tb_r4_Covers) c_r4_Covers (VSs.enc e_r4_Covers.A (p, q, ())) Q = (
  Q [.bool ((decide (p.2.1 ≤ q.2.1)) && (g_r4_Contains p q.1))]) := by kernel_rfl
theorem au_r4_Covers (p : PrefixT) (q : PrefixT) (Q : List FV → Prop) : evF G_r4_Covers (Lfp G_r4_Covers tb_r4_Covers) c_r4_Covers (VSs.enc e_r4_Covers.A (p, q, ())) Q = Q (VSs.enc e_r4_Covers.R (e_r4_Covers.g (p, q, ()))) := (in_r4_Covers p q Q).trans rfl
/-! netverify/netverifyref4.Overlaps -/
def G_r4_Overlaps : List Ent := [e_r4_Covers]
def c_r4_Overlaps : AFunc := AFunc.mk 13 2 [(.t 4)] (.seq (.region [(.mk (some 2) none (.box (.t 0))), (.mk (some 3) none (.box (.t 1))), (.mk (some 4) none (.mov (.c (.f (.bool false)))))]) (.seq (.region [(.mk (some 5) none (.load true 2 (.t 2))), (.mk (some 6) none (.load true 2 (.t 3))), (.mk (some 7) none (.call 59 [(.t 5), (.t 6)])), (.mk (some 8) none (.mov (.t 7))), (.mk (some 9) (some (8, false)) (.load true 2 (.t 3))), (.mk (some 10) (some (8, false)) (.load true 2 (.t 2))), (.mk (some 11) (some (8, false)) (.call 59 [(.t 9), (.t 10)])), (.mk (some 12) none (.pick 8 (.c (.f (.bool true))) (.t 11))), (.mk (some 4) none (.mov (.t 12)))]) .ret))
def tb_r4_Overlaps : Tbl := fun _ => ([], .skip)
theorem ok_r4_Overlaps : compF Try.prog Try.f47 = some c_r4_Overlaps.strip := by kernel_rfl
theorem tk_r4_Overlaps : TblOk tb_r4_Overlaps c_r4_Overlaps.body := ⟨trivial, ⟨trivial, trivial⟩⟩
theorem in_r4_Overlaps (p : PrefixT) (q : PrefixT) (Q : List FV → Prop) : evF G_r4_Overlaps (Lfp G_r4_Overlaps tb_r4_Overlaps) c_r4_Overlaps (VSs.enc e_r4_Overlaps.A (p, q, ())) Q = (
  Q [.bool ((g_r4_Covers p q) || (g_r4_Covers q p))]) := by kernel_rfl
theorem au_r4_Overlaps (p : PrefixT) (q : PrefixT) (Q : List FV → Prop) : evF G_r4_Overlaps (Lfp G_r4_Overlaps tb_r4_Overlaps) c_r4_Overlaps (VSs.enc e_r4_Overlaps.A (p, q, ())) Q = Q (VSs.enc e_r4_Overlaps.R (e_r4_Overlaps.g (p, q, ()))) := (in_r4_Overlaps p q Q).trans rfl
/-! netverify/netverifyref4.Network -/
def G_r4_Network : List Ent := [e_r4_Mask]
def c_r4_Network : AFunc := AFunc.mk 14 2 [(.cell 4 true 2)] (.seq (.region [(.mk (some 4) none (.alloc [(.f (.int .u32 0)), (.f (.int .i64 0))]))]) (.seq (.region [(.mk (some 5) none (.mov (.t 1))), (.mk (some 6) none (.mm false (.t 5) (.c (.f (.int .i64 32))))), (.mk (some 7) none (.mm true (.t 6) (.c (.f (.int .i64 0))))), (.mk (some 1) none (.mov (.t 7)))]) (.seq (.region [(.mk (some 8) none (.mov (.t 0))), (.mk (some 9) none (.mov (.t 1))), (.mk (some 10) none (.call 60 [(.t 9)])), (.mk (some 11) none (.bin .and (.t 8) (.t 10))), (.mk (some 12) none (.mov (.t 1))), (.mk (some 13) none (.build [(.f (.int .u32 0)), (.f (.int .i64 0))] [(0, (1, (.t 11))), (1, (1, (.t 12)))])), (.mk none none (.store 2 (.t 4) (.t 13)))]) .ret)))
def tb_r4_Network : Tbl := fun _ => ([], .skip)
theorem ok_r4_Network : compF Try.prog Try.f48 = some c_r4_Network.strip := by kernel_rfl
theorem tk_r4_Network : TblOk tb_r4_Network c_r4_Network.body := ⟨trivial, ⟨trivial, ⟨trivial, trivial⟩⟩⟩
theorem in_r4_Network (a : Int) (n : Int) (Q : List FV → Prop) : evF G_r4_Network (Lfp G_r4_Network tb_r4_Network) c_r4_Network (VSs.enc e_r4_Network.A (a, n, ())) Q = (
  Q [.agg [.int .u32 (iand .u32 a (g_r4_Mask (cond (decide (0 > (cond (decide (32 < n)) 32 n))) 0 (cond (decide (32 < n)) 32 n)))), .int .i64 (cond (decide (0 > (cond (decide (32 < n)) 32 n))) 0 (cond (decide (32 < n)) 32 n))]]) := by kernel_rfl
theorem au_r4_Network (a : Int) (n : Int) (Q : List FV → Prop) : evF G_r4_Network (Lfp G_r4_Network tb_r4_Network) c_r4_Network (VSs.enc e_r4_Network.A (a, n, ())) Q = Q (VSs.enc e_r4_Network.R (e_r4_Network.g (a, n, ()))) := (in_r4_Network a n Q).trans rfl
/-! netverify/netverifyref8.interfaces -/
def G_r8_interfaces : List Ent := [e_r8_within, e_r4_Name, e_r4_Overlaps, e_r4_Network]
def b_r8_interfaces_1 : ACode := (.seq (.seq (.region [(.mk (some 24) none (.mov (.t 5))), (.mk (some 25) none (.mov (.t 3))), (.mk (some 26) none (.bin .lss (.t 24) (.t 25)))]) (.cond 26 .skip (.exit 2))) (.seq (.block 3 (.seq (.region [(.mk (some 29) none (.mov (.t 0))), (.mk (some 30) none (.mov (.t 5))), (.mk (some 31) none (.ixa 12 (.t 29) (.t 30))), (.mk (some 32) none (.fld 0 (.t 31))), (.mk (some 33) none (.load false 1 (.t 32))), (.mk (some 34) none (.fld 0 (.t 4))), (.mk (some 35) none (.load false 1 (.t 34))), (.mk (some 36) none (.bin .eql (.t 33) (.t 35)))]) (.cond 36 (.seq (.region [(.mk (some 2) none (.mov (.c (.f (.int .i64 4)))))]) .ret) .skip))) (.region [(.mk (some 27) none (.mov (.t 5))), (.mk (some 28) none (.bin .add (.t 27) (.c (.f (.int .i64 1))))), (.mk (some 5) none (.mov (.t 28)))])))
def b_r8_interfaces_2 : ACode := (.seq (.seq (.region [(.mk (some 128) none (.mov (.t 6))), (.mk (some 129) none (.mov (.t 3))), (.mk (some 130) none (.bin .lss (.t 128) (.t 129)))]) (.cond 130 .skip (.exit 4))) (.seq (.block 5 (.seq (.region [(.mk (some 133) none (.fld 2 (.t 4))), (.mk (some 134) none (.load false 1 (.t 133))), (.mk (some 135) none (.bin .neq (.t 134) (.c (.f (.int .i64 0))))), (.mk (some 136) none (.mov (.t 135))), (.mk (some 137) (some (136, true)) (.mov (.t 0))), (.mk (some 138) (some (136, true)) (.mov (.t 6))), (.mk (some 139) (some (136, true)) (.ixa 12 (.t 137) (.t 138))), (.mk (some 140) (some (136, true)) (.fld 2 (.t 139))), (.mk (some 141) (some (136, true)) (.load false 1 (.t 140))), (.mk (some 142) (some (136, true)) (.bin .neq (.t 141) (.c (.f (.int .i64 0))))), (.mk (some 143) none (.pick 136 (.t 142) (.c (.f (.bool false))))), (.mk (some 144) none (.mov (.t 143))), (.mk (some 145) (some (144, true)) (.fld 1 (.t 4))), (.mk (some 146) (some (144, true)) (.load false 1 (.t 145))), (.mk (some 147) (some (144, true)) (.fld 2 (.t 4))), (.mk (some 148) (some (144, true)) (.load false 1 (.t 147))), (.mk (some 149) (some (144, true)) (.call 48 [(.t 146), (.t 148)])), (.mk (some 150) (some (144, true)) (.mov (.t 0))), (.mk (some 151) (some (144, true)) (.mov (.t 6))), (.mk (some 152) (some (144, true)) (.ixa 12 (.t 150) (.t 151))), (.mk (some 153) (some (144, true)) (.fld 1 (.t 152))), (.mk (some 154) (some (144, true)) (.load false 1 (.t 153))), (.mk (some 155) (some (144, true)) (.mov (.t 0))), (.mk (some 156) (some (144, true)) (.mov (.t 6))), (.mk (some 157) (some (144, true)) (.ixa 12 (.t 155) (.t 156))), (.mk (some 158) (some (144, true)) (.fld 2 (.t 157))), (.mk (some 159) (some (144, true)) (.load false 1 (.t 158))), (.mk (some 160) (some (144, true)) (.call 48 [(.t 154), (.t 159)])), (.mk (some 161) (some (144, true)) (.call 47 [(.t 149), (.t 160)])), (.mk (some 162) none (.pick 144 (.t 161) (.c (.f (.bool false)))))]) (.cond 162 (.seq (.region [(.mk (some 2) none (.mov (.c (.f (.int .i64 6)))))]) .ret) .skip))) (.region [(.mk (some 131) none (.mov (.t 6))), (.mk (some 132) none (.bin .add (.t 131) (.c (.f (.int .i64 1))))), (.mk (some 6) none (.mov (.t 132)))])))
def r_r8_interfaces_0 : ACode := (.seq (.seq (.region [(.mk (some 37) none (.fld 2 (.t 4))), (.mk (some 38) none (.load false 1 (.t 37))), (.mk (some 39) none (.call 27 [(.t 38), (.c (.f (.int .i64 0))), (.c (.f (.int .i64 32)))])), (.mk (some 40) none (.un .not (.t 39))), (.mk (some 41) none (.mov (.t 40))), (.mk (some 42) (some (41, false)) (.fld 3 (.t 4))), (.mk (some 43) (some (41, false)) (.load false 1 (.t 42))), (.mk (some 44) (some (41, false)) (.call 27 [(.t 43), (.c (.f (.int .i64 0))), (.c (.f (.int .i64 4094)))])), (.mk (some 45) (some (41, false)) (.un .not (.t 44))), (.mk (some 46) none (.pick 41 (.c (.f (.bool true))) (.t 45))), (.mk (some 47) none (.mov (.t 46))), (.mk (some 48) (some (47, false)) (.fld 11 (.t 4))), (.mk (some 49) (some (47, false)) (.load false 1 (.t 48))), (.mk (some 50) (some (47, false)) (.call 27 [(.t 49), (.c (.f (.int .i64 0))), (.c (.f (.int .i64 2)))])), (.mk (some 51) (some (47, false)) (.un .not (.t 50))), (.mk (some 52) none (.pick 47 (.c (.f (.bool true))) (.t 51)))]) (.cond 52 (.seq (.region [(.mk (some 2) none (.mov (.c (.f (.int .i64 1)))))]) .ret) .skip)) (.seq (.seq (.region [(.mk (some 53) none (.fld 2 (.t 4))), (.mk (some 54) none (.load false 1 (.t 53))), (.mk (some 55) none (.bin .eql (.t 54) (.c (.f (.int .i64 0))))), (.mk (some 56) none (.mov (.t 55))), (.mk (some 57) (some (56, true)) (.fld 1 (.t 4))), (.mk (some 58) (some (56, true)) (.load false 1 (.t 57))), (.mk (some 59) (some (56, true)) (.bin .neq (.t 58) (.c (.f (.int .u32 0))))), (.mk (some 60) (some (56, true)) (.mov (.t 59))), (.mk (some 61) (some (60, false)) (.fld 3 (.t 4))), (.mk (some 62) (some (60, false)) (.load false 1 (.t 61))), (.mk (some 63) (some (60, false)) (.bin .neq (.t 62) (.c (.f (.int .i64 0))))), (.mk (some 64) (some (56, true)) (.pick 60 (.c (.f (.bool true))) (.t 63))), (.mk (some 65) (some (56, true)) (.mov (.t 64))), (.mk (some 66) (some (65, false)) (.fld 11 (.t 4))), (.mk (some 67) (some (65, false)) (.load false 1 (.t 66))), (.mk (some 68) (some (65, false)) (.bin .neq (.t 67) (.c (.f (.int .i64 0))))), (.mk (some 69) (some (56, true)) (.pick 65 (.c (.f (.bool true))) (.t 68))), (.mk (some 70) (some (56, true)) (.mov (.t 69))), (.mk (some 71) (some (70, false)) (.fld 5 (.t 4))), (.mk (some 72) (some (70, false)) (.load false 1 (.t 71))), (.mk (some 73) (some (56, true)) (.pick 70 (.c (.f (.bool true))) (.t 72))), (.mk (some 74) (some (56, true)) (.mov (.t 73))), (.mk (some 75) (some (74, false)) (.fld 8 (.t 4))), (.mk (some 76) (some (74, false)) (.load false 1 (.t 75))), (.mk (some 77) (some (56, true)) (.pick 74 (.c (.f (.bool true))) (.t 76))), (.mk (some 78) (some (56, true)) (.mov (.t 77))), (.mk (some 79) (some (78, false)) (.fld 9 (.t 4))), (.mk (some 80) (some (78, false)) (.load false 1 (.t 79))), (.mk (some 81) (some (78, false)) (.bin .neq (.t 80) (.c (.f (.str []))))), (.mk (some 82) (some (56, true)) (.pick 78 (.c (.f (.bool true))) (.t 81))), (.mk (some 83) (some (56, true)) (.mov (.t 82))), (.mk (some 84) (some (83, false)) (.fld 10 (.t 4))), (.mk (some 85) (some (83, false)) (.load false 1 (.t 84))), (.mk (some 86) (some (83, false)) (.bin .neq (.t 85) (.c (.f (.str []))))), (.mk (some 87) (some (56, true)) (.pick 83 (.c (.f (.bool true))) (.t 86))), (.mk (some 88) none (.pick 56 (.t 87) (.c (.f (.bool false))))), (.mk (some 89) none (.mov (.t 88))), (.mk (some 90) (some (89, false)) (.fld 2 (.t 4))), (.mk (some 91) (some (89, false)) (.load false 1 (.t 90))), (.mk (some 92) (some (89, false)) (.bin .neq (.t 91) (.c (.f (.int .i64 0))))), (.mk (some 93) (some (89, false)) (.mov (.t 92))), (.mk (some 94) (some (93, true)) (.fld 1 (.t 4))), (.mk (some 95) (some (93, true)) (.load false 1 (.t 94))), (.mk (some 96) (some (93, true)) (.bin .eql (.t 95) (.c (.f (.int .u32 0))))), (.mk (some 97) (some (89, false)) (.pick 93 (.t 96) (.c (.f (.bool false))))), (.mk (some 98) none (.pick 89 (.c (.f (.bool true))) (.t 97)))]) (.cond 98 (.seq (.region [(.mk (some 2) none (.mov (.c (.f (.int .i64 1)))))]) .ret) .skip)) (.seq (.seq (.region [(.mk (some 99) none (.fld 5 (.t 4))), (.mk (some 100) none (.load false 1 (.t 99))), (.mk (some 101) none (.mov (.t 100))), (.mk (some 102) (some (101, true)) (.fld 6 (.t 4))), (.mk (some 103) (some (101, true)) (.load false 1 (.t 102))), (.mk (some 104) (some (101, true)) (.call 27 [(.t 103), (.c (.f (.int .i64 0))), (.c (.f (.int .i64 255)))])), (.mk (some 105) (some (101, true)) (.un .not (.t 104))), (.mk (some 106) (some (101, true)) (.mov (.t 105))), (.mk (some 107) (some (106, false)) (.fld 7 (.t 4))), (.mk (some 108) (some (106, false)) (.load false 1 (.t 107))), (.mk (some 109) (some (106, false)) (.call 27 [(.t 108), (.c (.f (.int .i64 1))), (.c (.f (.int .i64 65535)))])), (.mk (some 110) (some (106, false)) (.un .not (.t 109))), (.mk (some 111) (some (101, true)) (.pick 106 (.c (.f (.bool true))) (.t 110))), (.mk (some 112) none (.pick 101 (.t 111) (.c (.f (.bool false))))), (.mk (some 113) none (.mov (.t 112))), (.mk (some 114) (some (113, false)) (.fld 5 (.t 4))), (.mk (some 115) (some (113, false)) (.load false 1 (.t 114))), (.mk (some 116) (some (113, false)) (.un .not (.t 115))), (.mk (some 117) (some (113, false)) (.mov (.t 116))), (.mk (some 118) (some (117, true)) (.fld 6 (.t 4))), (.mk (some 119) (some (117, true)) (.load false 1 (.t 118))), (.mk (some 120) (some (117, true)) (.bin .neq (.t 119) (.c (.f (.int .i64 0))))), (.mk (some 121) (some (117, true)) (.mov (.t 120))), (.mk (some 122) (some (121, false)) (.fld 7 (.t 4))), (.mk (some 123) (some (121, false)) (.load false 1 (.t 122))), (.mk (some 124) (some (121, false)) (.bin .neq (.t 123) (.c (.f (.int .i64 0))))), (.mk (some 125) (some (117, true)) (.pick 121 (.c (.f (.bool true))) (.t 124))), (.mk (some 126) (some (113, false)) (.pick 117 (.t 125) (.c (.f (.bool false))))), (.mk (some 127) none (.pick 113 (.c (.f (.bool true))) (.t 126)))]) (.cond 127 (.seq (.region [(.mk (some 2) none (.mov (.c (.f (.int .i64 1)))))]) .ret) .skip)) (.seq (.region [(.mk (some 6) none (.mov (.c (.f (.int .i64 0)))))]) (.block 4 (.loop 2 [(0, none), (3, none), (4, none), (6, none)] b_r8_interfaces_2))))))
def r_r8_interfaces_1 : ACode := (.region [(.mk (some 14) none (.mov (.t 3))), (.mk (some 15) none (.bin .add (.t 14) (.c (.f (.int .i64 1))))), (.mk (some 3) none (.mov (.t 15)))])
def b_r8_interfaces_0 : ACode := (.seq (.seq (.region [(.mk (some 10) none (.mov (.t 3))), (.mk (some 11) none (.mov (.t 0))), (.mk (some 12) none (.len (.t 11))), (.mk (some 13) none (.bin .lss (.t 10) (.t 12)))]) (.cond 13 .skip (.exit 0))) (.seq (.block 1 (.seq (.region [(.mk (some 16) none (.mov (.t 0))), (.mk (some 17) none (.mov (.t 3))), (.mk (some 18) none (.ixa 12 (.t 16) (.t 17))), (.mk (some 19) none (.load true 12 (.t 18))), (.mk (some 4) none (.alloc [(.f (.str [])), (.f (.int .u32 0)), (.f (.int .i64 0)), (.f (.int .i64 0)), (.f (.bool false)), (.f (.bool false)), (.f (.int .i64 0)), (.f (.int .i64 0)), (.f (.bool false)), (.f (.str [])), (.f (.str [])), (.f (.int .i64 0))])), (.mk none none (.store 12 (.t 4) (.t 19)))]) (.seq (.seq (.region [(.mk (some 20) none (.fld 0 (.t 4))), (.mk (some 21) none (.load false 1 (.t 20))), (.mk (some 22) none (.call 29 [(.t 21)])), (.mk (some 23) none (.un .not (.t 22)))]) (.cond 23 (.seq (.region [(.mk (some 2) none (.mov (.c (.f (.int .i64 3)))))]) .ret) .skip)) (.seq (.seq (.region [(.mk (some 5) none (.mov (.c (.f (.int .i64 0)))))]) (.block 2 (.loop 1 [(0, none), (3, none), (4, none), (5, none)] b_r8_interfaces_1))) r_r8_interfaces_0)))) r_r8_interfaces_1))
def r_r8_interfaces_2 : ACode := (.seq (.region [(.mk (some 2) none (.mov (.c (.f (.int .i64 0)))))]) .ret)
def c_r8_interfaces : AFunc := AFunc.mk 163 1 [(.t 2)] (.seq (.region [(.mk (some 2) none (.mov (.c (.f (.int .i64 0)))))]) (.seq (.seq (.region [(.mk (some 7) none (.mov (.t 0))), (.mk (some 8) none (.len (.t 7))), (.mk (some 9) none (.bin .gtr (.t 8) (.c (.f (.int .i64 8)))))]) (.cond 9 (.seq (.region [(.mk (some 2) none (.mov (.c (.f (.int .i64 7)))))]) .ret) .skip)) (.seq (.seq (.region [(.mk (some 3) none (.mov (.c (.f (.int .i64 0)))))]) (.block 0 (.loop 0 [(0, none), (3, none)] b_r8_interfaces_0))) r_r8_interfaces_2)))
def tb_r8_interfaces : Tbl
  | 0 => ([(0, none), (3, none)], b_r8_interfaces_0)
  | 1 => ([(0, none), (3, none), (4, none), (5, none)], b_r8_interfaces_1)
  | 2 => ([(0, none), (3, none), (4, none), (6, none)], b_r8_interfaces_2)
  | _ => ([], .skip)
theorem ok_r8_interfaces : compF Try.prog Try.f30 = some c_r8_interfaces.strip := by kernel_rfl
theorem tk_r8_interfaces : TblOk tb_r8_interfaces c_r8_interfaces.body := ⟨trivial, ⟨⟨trivial, ⟨⟨trivial, trivial⟩, trivial⟩⟩, ⟨⟨trivial, ⟨rfl, ⟨⟨trivial, ⟨trivial, trivial⟩⟩, ⟨⟨trivial, ⟨⟨trivial, ⟨⟨trivial, trivial⟩, trivial⟩⟩, ⟨⟨trivial, ⟨rfl, ⟨⟨trivial, ⟨trivial, trivial⟩⟩, ⟨⟨trivial, ⟨⟨trivial, trivial⟩, trivial⟩⟩, trivial⟩⟩⟩⟩, ⟨⟨trivial, ⟨⟨trivial, trivial⟩, trivial⟩⟩, ⟨⟨trivial, ⟨⟨trivial, trivial⟩, trivial⟩⟩, ⟨⟨trivial, ⟨⟨trivial, trivial⟩, trivial⟩⟩, ⟨trivial, ⟨rfl, ⟨⟨trivial, ⟨trivial, trivial⟩⟩, ⟨⟨trivial, ⟨⟨trivial, trivial⟩, trivial⟩⟩, trivial⟩⟩⟩⟩⟩⟩⟩⟩⟩⟩, trivial⟩⟩⟩⟩, ⟨trivial, trivial⟩⟩⟩⟩
def k_r8_interfaces_0 (Q : List FV → Prop) : K := (kBlock 0 (kSeq (evC G_r8_interfaces (Lfp G_r8_interfaces tb_r8_interfaces) r_r8_interfaces_2) (kDone c_r8_interfaces Q)))
def s_r8_interfaces_0 (l : List InterfaceT) (v0 : Int) : St := ⟨[(0, [], .f (.fs InterfaceS l)), (3, [], .f (.int .i64 v0))], []⟩
def L_r8_interfaces_0 (l : List InterfaceT) (v0 : Int) (Q : List FV → Prop) : Prop := Lfp G_r8_interfaces tb_r8_interfaces 0 (s_r8_interfaces_0 l v0) (k_r8_interfaces_0 Q)
def k_r8_interfaces_1 (Q : List FV → Prop) : K := (kBlock 2 (kSeq (evC G_r8_interfaces (Lfp G_r8_interfaces tb_r8_interfaces) r_r8_interfaces_0) (kBlock 1 (kSeq (evC G_r8_interfaces (Lfp G_r8_interfaces tb_r8_interfaces) r_r8_interfaces_1) (kLoop [(0, none), (3, none)] (Lfp G_r8_interfaces tb_r8_interfaces 0) (k_r8_interfaces_0 Q))))))
def s_r8_interfaces_1 (l : List InterfaceT) (v0 : Int) (v1 : InterfaceT) (v2 : Int) : St := ⟨[(0, [], .f (.fs InterfaceS l)), (3, [], .f (.int .i64 v0)), (4, [], .ptr 0 0), (5, [], .f (.int .i64 v2))], [.box [.f (.str v1.1), .f (.int .u32 v1.2.1), .f (.int .i64 v1.2.2.1), .f (.int .i64 v1.2.2.2.1), .f (.bool v1.2.2.2.2.1), .f (.bool v1.2.2.2.2.2.1), .f (.int .i64 v1.2.2.2.2.2.2.1), .f (.int .i64 v1.2.2.2.2.2.2.2.1), .f (.bool v1.2.2.2.2.2.2.2.2.1), .f (.str v1.2.2.2.2.2.2.2.2.2.1), .f (.str v1.2.2.2.2.2.2.2.2.2.2.1), .f (.int .i64 v1.2.2.2.2.2.2.2.2.2.2.2.1)]]⟩
def L_r8_interfaces_1 (l : List InterfaceT) (v0 : Int) (v1 : InterfaceT) (v2 : Int) (Q : List FV → Prop) : Prop := Lfp G_r8_interfaces tb_r8_interfaces 1 (s_r8_interfaces_1 l v0 v1 v2) (k_r8_interfaces_1 Q)
def k_r8_interfaces_2 (Q : List FV → Prop) : K := (kBlock 4 (kBlock 1 (kSeq (evC G_r8_interfaces (Lfp G_r8_interfaces tb_r8_interfaces) r_r8_interfaces_1) (kLoop [(0, none), (3, none)] (Lfp G_r8_interfaces tb_r8_interfaces 0) (k_r8_interfaces_0 Q)))))
def s_r8_interfaces_2 (l : List InterfaceT) (v0 : Int) (v1 : InterfaceT) (v2 : Int) : St := ⟨[(0, [], .f (.fs InterfaceS l)), (3, [], .f (.int .i64 v0)), (4, [], .ptr 0 0), (6, [], .f (.int .i64 v2))], [.box [.f (.str v1.1), .f (.int .u32 v1.2.1), .f (.int .i64 v1.2.2.1), .f (.int .i64 v1.2.2.2.1), .f (.bool v1.2.2.2.2.1), .f (.bool v1.2.2.2.2.2.1), .f (.int .i64 v1.2.2.2.2.2.2.1), .f (.int .i64 v1.2.2.2.2.2.2.2.1), .f (.bool v1.2.2.2.2.2.2.2.2.1), .f (.str v1.2.2.2.2.2.2.2.2.2.1), .f (.str v1.2.2.2.2.2.2.2.2.2.2.1), .f (.int .i64 v1.2.2.2.2.2.2.2.2.2.2.2.1)]]⟩
def L_r8_interfaces_2 (l : List InterfaceT) (v0 : Int) (v1 : InterfaceT) (v2 : Int) (Q : List FV → Prop) : Prop := Lfp G_r8_interfaces tb_r8_interfaces 2 (s_r8_interfaces_2 l v0 v1 v2) (k_r8_interfaces_2 Q)
theorem in_r8_interfaces (l : List InterfaceT) (Q : List FV → Prop) : evF G_r8_interfaces (Lfp G_r8_interfaces tb_r8_interfaces) c_r8_interfaces (VSs.enc e_r8_interfaces.A (l, ())) Q = (
  cond (decide ((l.length : Int) > 8))
  (Q [.int .i64 7])
  (L_r8_interfaces_0 l 0 Q)) := by kernel_rfl
theorem rd_r8_interfaces_0 (l : List InterfaceT) (v0 : Int) (Q : List FV → Prop) (h :
  cond (decide (v0 < (l.length : Int)))
  (cond (okIx v0 (l.length : Int))
    (cond (!(g_r4_Name (List.getD l (Int.toNat v0) InterfaceD).1))
      (Q [.int .i64 3])
      (L_r8_interfaces_1 l v0 (List.getD l (Int.toNat v0) InterfaceD) 0 Q))
    False)
  (Q [.int .i64 0])) : L_r8_interfaces_0 l v0 Q := Lfp.step ((by kernel_rfl : evC G_r8_interfaces (Lfp G_r8_interfaces tb_r8_interfaces) (tb_r8_interfaces 0).2 (s_r8_interfaces_0 l v0) (kLoop (tb_r8_interfaces 0).1 (Lfp G_r8_interfaces tb_r8_interfaces 0) (k_r8_interfaces_0 Q)) = (
  cond (decide (v0 < (l.length : Int)))
  (cond (okIx v0 (l.length : Int))
    (cond (!(g_r4_Name (List.getD l (Int.toNat v0) InterfaceD).1))
      (Q [.int .i64 3])
      (L_r8_interfaces_1 l v0 (List.getD l (Int.toNat v0) InterfaceD) 0 Q))
    False)
  (Q [.int .i64 0]))).symm ▸ h)
theorem rd_r8_interfaces_1 (l : List InterfaceT) (v0 : Int) (v1 : InterfaceT) (v2 : Int) (Q : List FV → Prop) (h :
  cond (decide (v2 < v0))
  (cond (okIx v2 (l.length : Int))
    (cond ((List.getD l (Int.toNat v2) InterfaceD).1 == v1.1)
      (Q [.int .i64 4])
      (L_r8_interfaces_1 l v0 v1 (IntKind.wrap .i64 (v2 + 1)) Q))
    False)
  (cond (((!(g_r8_within v1.2.2.1 0 32)) || (!(g_r8_within v1.2.2.2.1 0 4094))) || (!(g_r8_within v1.2.2.2.2.2.2.2.2.2.2.2.1 0 2)))
    (Q [.int .i64 1])
    (cond (((v1.2.2.1 == 0) && (((((((v1.2.1 != 0) || (v1.2.2.2.1 != 0)) || (v1.2.2.2.2.2.2.2.2.2.2.2.1 != 0)) || v1.2.2.2.2.2.1) || v1.2.2.2.2.2.2.2.2.1) || (!(v1.2.2.2.2.2.2.2.2.2.1 == []))) || (!(v1.2.2.2.2.2.2.2.2.2.2.1 == [])))) || ((v1.2.2.1 != 0) && (v1.2.1 == 0)))
      (Q [.int .i64 1])
      (cond ((v1.2.2.2.2.2.1 && ((!(g_r8_within v1.2.2.2.2.2.2.1 0 255)) || (!(g_r8_within v1.2.2.2.2.2.2.2.1 1 65535)))) || ((!v1.2.2.2.2.2.1) && ((v1.2.2.2.2.2.2.1 != 0) || (v1.2.2.2.2.2.2.2.1 != 0))))
        (Q [.int .i64 1])
        (L_r8_interfaces_2 l v0 v1 0 Q))))) : L_r8_interfaces_1 l v0 v1 v2 Q := Lfp.step ((by kernel_rfl : evC G_r8_interfaces (Lfp G_r8_interfaces tb_r8_interfaces) (tb_r8_interfaces 1).2 (s_r8_interfaces_1 l v0 v1 v2) (kLoop (tb_r8_interfaces 1).1 (Lfp G_r8_interfaces tb_r8_interfaces 1) (k_r8_interfaces_1 Q)) = (
  cond (decide (v2 < v0))
  (cond (okIx v2 (l.length : Int))
    (cond ((List.getD l (Int.toNat v2) InterfaceD).1 == v1.1)
      (Q [.int .i64 4])
      (L_r8_interfaces_1 l v0 v1 (IntKind.wrap .i64 (v2 + 1)) Q))
    False)
  (cond (((!(g_r8_within v1.2.2.1 0 32)) || (!(g_r8_within v1.2.2.2.1 0 4094))) || (!(g_r8_within v1.2.2.2.2.2.2.2.2.2.2.2.1 0 2)))
    (Q [.int .i64 1])
    (cond (((v1.2.2.1 == 0) && (((((((v1.2.1 != 0) || (v1.2.2.2.1 != 0)) || (v1.2.2.2.2.2.2.2.2.2.2.2.1 != 0)) || v1.2.2.2.2.2.1) || v1.2.2.2.2.2.2.2.2.1) || (!(v1.2.2.2.2.2.2.2.2.2.1 == []))) || (!(v1.2.2.2.2.2.2.2.2.2.2.1 == [])))) || ((v1.2.2.1 != 0) && (v1.2.1 == 0)))
      (Q [.int .i64 1])
      (cond ((v1.2.2.2.2.2.1 && ((!(g_r8_within v1.2.2.2.2.2.2.1 0 255)) || (!(g_r8_within v1.2.2.2.2.2.2.2.1 1 65535)))) || ((!v1.2.2.2.2.2.1) && ((v1.2.2.2.2.2.2.1 != 0) || (v1.2.2.2.2.2.2.2.1 != 0))))
        (Q [.int .i64 1])
        (L_r8_interfaces_2 l v0 v1 0 Q)))))).symm ▸ h)
theorem rd_r8_interfaces_2 (l : List InterfaceT) (v0 : Int) (v1 : InterfaceT) (v2 : Int) (Q : List FV → Prop) (h :
  cond (decide (v2 < v0))
  (cond (((((((okIx v2 (l.length : Int)) || (!(((v1.2.2.1 != 0) == true) && true))) && true) && ((okIx v2 (l.length : Int)) || (!((((v1.2.2.1 != 0) && ((List.getD l (Int.toNat v2) InterfaceD).2.2.1 != 0)) == true) && true)))) && ((okIx v2 (l.length : Int)) || (!((((v1.2.2.1 != 0) && ((List.getD l (Int.toNat v2) InterfaceD).2.2.1 != 0)) == true) && true)))) && true) && true)
    (cond (((v1.2.2.1 != 0) && ((List.getD l (Int.toNat v2) InterfaceD).2.2.1 != 0)) && (g_r4_Overlaps (g_r4_Network v1.2.1 v1.2.2.1) (g_r4_Network (List.getD l (Int.toNat v2) InterfaceD).2.1 (List.getD l (Int.toNat v2) InterfaceD).2.2.1)))
      (Q [.int .i64 6])
      (L_r8_interfaces_2 l v0 v1 (IntKind.wrap .i64 (v2 + 1)) Q))
    False)
  (L_r8_interfaces_0 l (IntKind.wrap .i64 (v0 + 1)) Q)) : L_r8_interfaces_2 l v0 v1 v2 Q := Lfp.step ((by kernel_rfl : evC G_r8_interfaces (Lfp G_r8_interfaces tb_r8_interfaces) (tb_r8_interfaces 2).2 (s_r8_interfaces_2 l v0 v1 v2) (kLoop (tb_r8_interfaces 2).1 (Lfp G_r8_interfaces tb_r8_interfaces 2) (k_r8_interfaces_2 Q)) = (
  cond (decide (v2 < v0))
  (cond (((((((okIx v2 (l.length : Int)) || (!(((v1.2.2.1 != 0) == true) && true))) && true) && ((okIx v2 (l.length : Int)) || (!((((v1.2.2.1 != 0) && ((List.getD l (Int.toNat v2) InterfaceD).2.2.1 != 0)) == true) && true)))) && ((okIx v2 (l.length : Int)) || (!((((v1.2.2.1 != 0) && ((List.getD l (Int.toNat v2) InterfaceD).2.2.1 != 0)) == true) && true)))) && true) && true)
    (cond (((v1.2.2.1 != 0) && ((List.getD l (Int.toNat v2) InterfaceD).2.2.1 != 0)) && (g_r4_Overlaps (g_r4_Network v1.2.1 v1.2.2.1) (g_r4_Network (List.getD l (Int.toNat v2) InterfaceD).2.1 (List.getD l (Int.toNat v2) InterfaceD).2.2.1)))
      (Q [.int .i64 6])
      (L_r8_interfaces_2 l v0 v1 (IntKind.wrap .i64 (v2 + 1)) Q))
    False)
  (L_r8_interfaces_0 l (IntKind.wrap .i64 (v0 + 1)) Q))).symm ▸ h)
theorem lp_r8_interfaces_2 (l : List InterfaceT) (c0 : Nat) (v1 : InterfaceT) (next0 : Int) (Q : List FV → Prop) (hw : VSs.wf e_r8_interfaces.A (l, ())) (hc0 : c0 < l.length) (hn0 : (fun y : Int => Q (VSs.enc e_r8_interfaces.R (y, ()))) next0 → L_r8_interfaces_0 l (IntKind.wrap .i64 ((c0 : Int) + 1)) Q) (g0 : (decide ((l.length : Int) > 8)) = false) : (fun y : Int => Q (VSs.enc e_r8_interfaces.R (y, ()))) (S_r8_interfaces_2 l c0 v1 next0) → L_r8_interfaces_2 l (c0 : Int) v1 0 Q := by
  have _ := hw
  have _ := g0
  have _ := hc0
  let FF := (fun y : Int => Q (VSs.enc e_r8_interfaces.R (y, ())))
  refine upV_loop (F := FF) (k := .i64) (L := (fun c2 : Int => L_r8_interfaces_2 l (c0 : Int) v1 c2 Q)) (wrap_i64n (Nat.le_trans (Nat.le_of_lt hc0) (show _ ≤ _ from (hw.1).1))) (fun c2 hc2 hF => rd_r8_interfaces_2 l (c0 : Int) v1 (c2 : Int) Q (cond_ge (n := c0) rfl hc2 (hn0 hF))) (fun c2 _ hc2 next2 hn2 hF => rd_r8_interfaces_2 l (c0 : Int) v1 (c2 : Int) Q (cond_lt (n := c0) rfl hc2 ((vc_f (F := FF) (by first | ((repeat' (first | rfl | exact nn_d64 _ | exact okIx_nat hc0 | exact okIx_nat hc2 | exact okIx_nat (Nat.lt_trans hc2 hc0) | refine and_t ?_ ?_ | refine or_l ?_)); done) | (simp [-List.getD_eq_getElem?_getD, okIx_nat hc0, okIx_nat hc2, okIx_nat (Nat.lt_trans hc2 hc0), nn_u64, nn_u32]; done) | (simp [-List.getD_eq_getElem?_getD, okIx_nat hc0, okIx_nat hc2, okIx_nat (Nat.lt_trans hc2 hc0), nn_u64, nn_u32, g0]; done) | (have hry : roomy = 1048576 := rfl; simp [-List.getD_eq_getElem?_getD, okIx, okSlc, okApp, len_slcL, len_segL] at g0 ⊢ <;> omega)) /- 1 -/ (cond_f (F := FF) (fun h1 => id) (fun h1 => hn2))) hF)))
theorem lp_r8_interfaces_1 (l : List InterfaceT) (c0 : Nat) (v1 : InterfaceT) (next0 : Int) (Q : List FV → Prop) (hw : VSs.wf e_r8_interfaces.A (l, ())) (hc0 : c0 < l.length) (hn0 : (fun y : Int => Q (VSs.enc e_r8_interfaces.R (y, ()))) next0 → L_r8_interfaces_0 l (IntKind.wrap .i64 ((c0 : Int) + 1)) Q) (g0 : (decide ((l.length : Int) > 8)) = false) : (fun y : Int => Q (VSs.enc e_r8_interfaces.R (y, ()))) (S_r8_interfaces_1 l c0 v1 next0) → L_r8_interfaces_1 l (c0 : Int) v1 0 Q := by
  have _ := hw
  have _ := g0
  have _ := hc0
  let FF := (fun y : Int => Q (VSs.enc e_r8_interfaces.R (y, ())))
  refine upV_loop (F := FF) (k := .i64) (L := (fun c1 : Int => L_r8_interfaces_1 l (c0 : Int) v1 c1 Q)) (wrap_i64n (Nat.le_trans (Nat.le_of_lt hc0) (show _ ≤ _ from (hw.1).1))) (fun c1 hc1 hF => rd_r8_interfaces_1 l (c0 : Int) v1 (c1 : Int) Q (cond_ge (n := c0) rfl hc1 ((cond_f (F := FF) (fun h1 => id) (fun h1 => (cond_f (F := FF) (fun h2 => id) (fun h2 => (cond_f (F := FF) (fun h3 => id) (fun h3 => (lp_r8_interfaces_2 l c0 _ _ Q hw hc0 hn0 g0))))))) hF))) (fun c1 _ hc1 next1 hn1 hF => rd_r8_interfaces_1 l (c0 : Int) v1 (c1 : Int) Q (cond_lt (n := c0) rfl hc1 ((vc_f (F := FF) (by first | ((repeat' (first | rfl | exact nn_d64 _ | exact okIx_nat hc0 | exact okIx_nat hc1 | exact okIx_nat (Nat.lt_trans hc1 hc0) | refine and_t ?_ ?_ | refine or_l ?_)); done) | (simp [-List.getD_eq_getElem?_getD, okIx_nat hc0, okIx_nat hc1, okIx_nat (Nat.lt_trans hc1 hc0), nn_u64, nn_u32]; done) | (simp [-List.getD_eq_getElem?_getD, okIx_nat hc0, okIx_nat hc1, okIx_nat (Nat.lt_trans hc1 hc0), nn_u64, nn_u32, g0]; done) | (have hry : roomy = 1048576 := rfl; simp [-List.getD_eq_getElem?_getD, okIx, okSlc, okApp, len_slcL, len_segL] at g0 ⊢ <;> omega)) /- 2 -/ (cond_f (F := FF) (fun h1 => id) (fun h1 => hn1))) hF)))
theorem lp_r8_interfaces_0 (l : List InterfaceT) (Q : List FV → Prop) (hw : VSs.wf e_r8_interfaces.A (l, ()))  (g0 : (decide ((l.length : Int) > 8)) = false) : (fun y : Int => Q (VSs.enc e_r8_interfaces.R (y, ()))) (S_r8_interfaces_0 l) → L_r8_interfaces_0 l 0 Q := by
  have _ := hw
  have _ := g0
  let FF := (fun y : Int => Q (VSs.enc e_r8_interfaces.R (y, ())))
  refine upV_loop (F := FF) (k := .i64) (L := (fun c0 : Int => L_r8_interfaces_0 l c0 Q)) (wrap_i64n (show _ ≤ _ from (hw.1).1)) (fun c0 hc0 hF => rd_r8_interfaces_0 l (c0 : Int) Q (cond_ge (n := l.length) rfl hc0 (id hF))) (fun c0 _ hc0 next0 hn0 hF => rd_r8_interfaces_0 l (c0 : Int) Q (cond_lt (n := l.length) rfl hc0 ((vc_f (F := FF) (by first | ((repeat' (first | rfl | exact nn_d64 _ | exact okIx_nat hc0 | refine and_t ?_ ?_ | refine or_l ?_)); done) | (simp [-List.getD_eq_getElem?_getD, okIx_nat hc0, nn_u64, nn_u32]; done) | (simp [-List.getD_eq_getElem?_getD, okIx_nat hc0, nn_u64, nn_u32, g0]; done) | (have hry : roomy = 1048576 := rfl; simp [-List.getD_eq_getElem?_getD, okIx, okSlc, okApp, len_slcL, len_segL] at g0 ⊢ <;> omega)) /- 3 -/ (cond_f (F := FF) (fun h1 => id) (fun h1 => (lp_r8_interfaces_1 l c0 _ _ Q hw hc0 hn0 g0)))) hF)))
theorem ct_r8_interfaces (l : List InterfaceT) (hw : VSs.wf e_r8_interfaces.A (l, ())) (Q : List FV → Prop) (hq : Q (VSs.enc e_r8_interfaces.R (e_r8_interfaces.g (l, ())))) : EvF G_r8_interfaces tb_r8_interfaces c_r8_interfaces (VSs.enc e_r8_interfaces.A (l, ())) Q := by
  have _ := hw
  let FF := (fun y : Int => Q (VSs.enc e_r8_interfaces.R (y, ())))
  refine EvF.of (in_r8_interfaces l Q) ?_
  exact (cond_f (F := FF) (fun h0 => id) (fun h0 => (lp_r8_interfaces_0 l Q hw h0))) hq
end Go.Proofs.Ythpocifmjeopiaa
