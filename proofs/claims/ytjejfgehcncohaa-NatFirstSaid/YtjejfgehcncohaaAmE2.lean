/-
  The codes and their equations.
-/
import Derived.Test.YtjejfgehcncohaaAmG
import Derived.Test.YtjejfgehcncohaaProg
import Derived.KernelRfl
namespace Go.Proofs.Ytjejfgehcncohaa
open Go Go.AM
set_option maxRecDepth 100000
/-! netverify/netverifyref8.pathVector -/
def G_r8_pathVector : List Ent := [e_r8_within, e_r8_redistributions, e_r8_neighbors, e_r8_originations]
def c_r8_pathVector : AFunc := AFunc.mk 70 1 [(.t 2)] (.seq (.region [(.mk (some 1) none (.box (.t 0))), (.mk (some 2) none (.mov (.c (.f (.int .i64 0)))))] []) (.seq (.region [(.mk (some 6) none (.fld 17 (.t 1))), (.mk (some 7) none (.load true 8 (.t 6))), (.mk (some 3) none (.alloc [(.f (.bool false)), (.f (.int .i64 0)), (.f (.int .i64 0)), (.f .nils), (.f .nils), (.f .nils), (.f .nils), (.f .nils)])), (.mk none none (.store 8 (.t 3) (.t 7)))] []) (.seq (.seq (.region [(.mk (some 8) none (.fld 0 (.t 3))), (.mk (some 9) none (.load false 1 (.t 8))), (.mk (some 10) none (.un .not (.t 9)))] []) (.cond 10 (.seq (.seq (.region [(.mk (some 11) none (.fld 1 (.t 3))), (.mk (some 12) none (.load false 1 (.t 11))), (.mk (some 13) none (.bin .neq (.t 12) (.c (.f (.int .i64 0))))), (.mk (some 14) none (.mov (.t 13))), (.mk (some 15) (some (14, false)) (.fld 2 (.t 3))), (.mk (some 16) (some (14, false)) (.load false 1 (.t 15))), (.mk (some 17) (some (14, false)) (.bin .neq (.t 16) (.c (.f (.int .i64 0))))), (.mk (some 18) none (.pick 14 (.c (.f (.bool true))) (.t 17))), (.mk (some 19) none (.mov (.t 18))), (.mk (some 20) (some (19, false)) (.fld 3 (.t 3))), (.mk (some 21) (some (19, false)) (.load false 1 (.t 20))), (.mk (some 22) (some (19, false)) (.len (.t 21))), (.mk (some 23) (some (19, false)) (.fld 4 (.t 3))), (.mk (some 24) (some (19, false)) (.load false 1 (.t 23))), (.mk (some 25) (some (19, false)) (.len (.t 24))), (.mk (some 26) (some (19, false)) (.bin .add (.t 22) (.t 25))), (.mk (some 27) (some (19, false)) (.fld 5 (.t 3))), (.mk (some 28) (some (19, false)) (.load false 1 (.t 27))), (.mk (some 29) (some (19, false)) (.len (.t 28))), (.mk (some 30) (some (19, false)) (.bin .add (.t 26) (.t 29))), (.mk (some 31) (some (19, false)) (.fld 6 (.t 3))), (.mk (some 32) (some (19, false)) (.load false 1 (.t 31))), (.mk (some 33) (some (19, false)) (.len (.t 32))), (.mk (some 34) (some (19, false)) (.bin .add (.t 30) (.t 33))), (.mk (some 35) (some (19, false)) (.fld 7 (.t 3))), (.mk (some 36) (some (19, false)) (.load false 1 (.t 35))), (.mk (some 37) (some (19, false)) (.len (.t 36))), (.mk (some 38) (some (19, false)) (.bin .add (.t 34) (.t 37))), (.mk (some 39) (some (19, false)) (.bin .gtr (.t 38) (.c (.f (.int .i64 0))))), (.mk (some 40) none (.pick 19 (.c (.f (.bool true))) (.t 39)))] []) (.cond 40 (.seq (.region [(.mk (some 2) none (.mov (.c (.f (.int .i64 1)))))] []) .ret) .skip)) (.seq (.region [(.mk (some 2) none (.mov (.c (.f (.int .i64 0)))))] []) .ret)) .skip)) (.seq (.seq (.region [(.mk (some 41) none (.fld 1 (.t 1))), (.mk (some 42) none (.load false 1 (.t 41))), (.mk (some 43) none (.bin .eql (.t 42) (.c (.f (.int .i64 0))))), (.mk (some 44) none (.mov (.t 43))), (.mk (some 45) (some (44, false)) (.fld 1 (.t 3))), (.mk (some 46) (some (44, false)) (.load false 1 (.t 45))), (.mk (some 47) (some (44, false)) (.call 20 [(.t 46), (.c (.f (.int .i64 1))), (.c (.f (.int .i64 255)))])), (.mk (some 48) (some (44, false)) (.un .not (.t 47))), (.mk (some 49) none (.pick 44 (.c (.f (.bool true))) (.t 48))), (.mk (some 50) none (.mov (.t 49))), (.mk (some 51) (some (50, false)) (.fld 2 (.t 3))), (.mk (some 52) (some (50, false)) (.load false 1 (.t 51))), (.mk (some 53) (some (50, false)) (.call 20 [(.t 52), (.c (.f (.int .i64 1))), (.c (.f (.int .i64 255)))])), (.mk (some 54) (some (50, false)) (.un .not (.t 53))), (.mk (some 55) none (.pick 50 (.c (.f (.bool true))) (.t 54)))] []) (.cond 55 (.seq (.region [(.mk (some 2) none (.mov (.c (.f (.int .i64 1)))))] []) .ret) .skip)) (.seq (.seq (.region [(.mk (some 56) none (.load true 25 (.t 1))), (.mk (some 57) none (.call 49 [(.t 56)])), (.mk (some 4) none (.mov (.t 57)))] []) (.seq (.region [(.mk (some 58) none (.mov (.t 4))), (.mk (some 59) none (.bin .neq (.t 58) (.c (.f (.int .i64 0)))))] []) (.cond 59 (.seq (.region [(.mk (some 60) none (.mov (.t 4))), (.mk (some 2) none (.mov (.t 60)))] []) .ret) .skip))) (.seq (.seq (.region [(.mk (some 61) none (.load true 8 (.t 3))), (.mk (some 62) none (.call 50 [(.t 61)])), (.mk (some 5) none (.mov (.t 62)))] []) (.seq (.region [(.mk (some 63) none (.mov (.t 5))), (.mk (some 64) none (.bin .neq (.t 63) (.c (.f (.int .i64 0)))))] []) (.cond 64 (.seq (.region [(.mk (some 65) none (.mov (.t 5))), (.mk (some 2) none (.mov (.t 65)))] []) .ret) .skip))) (.seq (.region [(.mk (some 66) none (.load true 25 (.t 1))), (.mk (some 67) none (.fld 7 (.t 3))), (.mk (some 68) none (.load false 1 (.t 67))), (.mk (some 69) none (.call 48 [(.t 66), (.t 68), (.c (.f (.int .i64 5))), (.c (.f (.int .i64 0))), (.c (.f (.int .i64 16777215)))])), (.mk (some 2) none (.mov (.t 69)))] []) .ret)))))))
def tb_r8_pathVector : Tbl := fun _ => ([], .skip)
theorem ok_r8_pathVector : compF Try.prog Try.f34 = some c_r8_pathVector.strip := by kernel_rfl
theorem tk_r8_pathVector : TblOk tb_r8_pathVector c_r8_pathVector.body := ⟨trivial, ⟨trivial, ⟨⟨trivial, ⟨⟨⟨trivial, ⟨⟨trivial, trivial⟩, trivial⟩⟩, ⟨trivial, trivial⟩⟩, trivial⟩⟩, ⟨⟨trivial, ⟨⟨trivial, trivial⟩, trivial⟩⟩, ⟨⟨trivial, ⟨trivial, ⟨⟨trivial, trivial⟩, trivial⟩⟩⟩, ⟨⟨trivial, ⟨trivial, ⟨⟨trivial, trivial⟩, trivial⟩⟩⟩, ⟨trivial, trivial⟩⟩⟩⟩⟩⟩⟩
theorem in_r8_pathVector (r : RouterT) (Q : Int × Unit → Prop) : evF G_r8_pathVector (Lfp G_r8_pathVector tb_r8_pathVector) c_r8_pathVector (VSs.enc e_r8_pathVector.A (r, ())) (dq e_r8_pathVector.R Q) = (
  cond (!r.2.2.2.2.2.2.2.2.2.2.2.2.2.2.2.2.2.1)
  (cond (((r.2.2.2.2.2.2.2.2.2.2.2.2.2.2.2.2.2.2.1 != 0) || (r.2.2.2.2.2.2.2.2.2.2.2.2.2.2.2.2.2.2.2.1 != 0)) || (decide ((IntKind.wrap .i64 ((IntKind.wrap .i64 ((IntKind.wrap .i64 ((IntKind.wrap .i64 ((r.2.2.2.2.2.2.2.2.2.2.2.2.2.2.2.2.2.2.2.2.1.length : Int) + (r.2.2.2.2.2.2.2.2.2.2.2.2.2.2.2.2.2.2.2.2.2.1.length : Int))) + (r.2.2.2.2.2.2.2.2.2.2.2.2.2.2.2.2.2.2.2.2.2.2.1.length : Int))) + (r.2.2.2.2.2.2.2.2.2.2.2.2.2.2.2.2.2.2.2.2.2.2.2.1.length : Int))) + (r.2.2.2.2.2.2.2.2.2.2.2.2.2.2.2.2.2.2.2.2.2.2.2.2.1.length : Int))) > 0)))
    (Q (1, ()))
    (Q (0, ())))
  (cond (((r.2.1 == 0) || (!(g_r8_within r.2.2.2.2.2.2.2.2.2.2.2.2.2.2.2.2.2.2.1 1 255))) || (!(g_r8_within r.2.2.2.2.2.2.2.2.2.2.2.2.2.2.2.2.2.2.2.1 1 255)))
    (Q (1, ()))
    (cond ((g_r8_neighbors r) != 0)
      (Q ((g_r8_neighbors r), ()))
      (cond ((g_r8_originations r.2.2.2.2.2.2.2.2.2.2.2.2.2.2.2.2.2) != 0)
        (Q ((g_r8_originations r.2.2.2.2.2.2.2.2.2.2.2.2.2.2.2.2.2), ()))
        (Q ((g_r8_redistributions r r.2.2.2.2.2.2.2.2.2.2.2.2.2.2.2.2.2.2.2.2.2.2.2.2.1 5 0 16777215), ())))))) := by kernel_rfl
theorem au_r8_pathVector (r : RouterT) (Q : Int × Unit → Prop) : evF G_r8_pathVector (Lfp G_r8_pathVector tb_r8_pathVector) c_r8_pathVector (VSs.enc e_r8_pathVector.A (r, ())) (dq e_r8_pathVector.R Q) = Q (e_r8_pathVector.g (r, ())) := (in_r8_pathVector r Q).trans (cond_q (F := fun y : Int => Q (y, ())) (cond_q (F := fun y : Int => Q (y, ())) rfl rfl) (cond_q (F := fun y : Int => Q (y, ())) rfl (cond_q (F := fun y : Int => Q (y, ())) rfl (cond_q (F := fun y : Int => Q (y, ())) rfl rfl))))
/-! netverify/netverifyref8.CheckRouter -/
def G_r8_CheckRouter : List Ent := [e_r8_within, e_r4_Name, e_r8_interfaces, e_r8_prefixLists, e_r8_routeMaps, e_r8_accessLists, e_r8_translations, e_r8_filters, e_r8_statics, e_r8_linkState, e_r8_distance, e_r8_pathVector]
def b_r8_CheckRouter_0 : ACode := (.seq (.seq (.region [(.mk (some 37) none (.mov (.t 4))), (.mk (some 38) none (.mov (.t 3))), (.mk (some 39) none (.len (.t 38))), (.mk (some 40) none (.bin .lss (.t 37) (.t 39)))] []) (.cond 40 .skip (.exit 0))) (.seq (.block 1 (.seq (.region [(.mk (some 43) none (.mov (.t 3))), (.mk (some 44) none (.mov (.t 4))), (.mk (some 45) none (.ixa 1 (.t 43) (.t 44))), (.mk (some 46) none (.load false 1 (.t 45))), (.mk (some 47) none (.bin .neq (.t 46) (.c (.f (.int .i64 0)))))] []) (.cond 47 (.seq (.region [(.mk (some 48) none (.mov (.t 3))), (.mk (some 49) none (.mov (.t 4))), (.mk (some 50) none (.ixa 1 (.t 48) (.t 49))), (.mk (some 51) none (.load false 1 (.t 50))), (.mk (some 2) none (.mov (.t 51)))] []) .ret) .skip))) (.region [(.mk (some 41) none (.mov (.t 4))), (.mk (some 42) none (.bin .add (.t 41) (.c (.f (.int .i64 1))))), (.mk (some 4) none (.mov (.t 42)))] [])))
def r_r8_CheckRouter_0 : ACode := (.seq (.region [(.mk (some 2) none (.mov (.c (.f (.int .i64 0)))))] []) .ret)
def c_r8_CheckRouter : AFunc := AFunc.mk 52 1 [(.t 2)] (.seq (.region [(.mk (some 1) none (.box (.t 0))), (.mk (some 2) none (.mov (.c (.f (.int .i64 0)))))] []) (.seq (.seq (.region [(.mk (some 5) none (.fld 0 (.t 1))), (.mk (some 6) none (.load false 1 (.t 5))), (.mk (some 7) none (.call 24 [(.t 6)])), (.mk (some 8) none (.un .not (.t 7)))] []) (.cond 8 (.seq (.region [(.mk (some 2) none (.mov (.c (.f (.int .i64 3)))))] []) .ret) .skip)) (.seq (.seq (.region [(.mk (some 9) none (.fld 1 (.t 1))), (.mk (some 10) none (.load false 1 (.t 9))), (.mk (some 11) none (.call 20 [(.t 10), (.c (.f (.int .i64 0))), (.c (.f (.int .i64 65535)))])), (.mk (some 12) none (.un .not (.t 11)))] []) (.cond 12 (.seq (.region [(.mk (some 2) none (.mov (.c (.f (.int .i64 1)))))] []) .ret) .skip)) (.seq (.region [(.mk (some 13) none (.fld 2 (.t 1))), (.mk (some 14) none (.load false 1 (.t 13))), (.mk (some 15) none (.call 25 [(.t 14)])), (.mk (some 16) none (.fld 3 (.t 1))), (.mk (some 17) none (.load false 1 (.t 16))), (.mk (some 18) none (.call 26 [(.t 17)])), (.mk (some 19) none (.load true 25 (.t 1))), (.mk (some 20) none (.call 27 [(.t 19)])), (.mk (some 21) none (.fld 5 (.t 1))), (.mk (some 22) none (.load false 1 (.t 21))), (.mk (some 23) none (.call 28 [(.t 22)])), (.mk (some 24) none (.load true 25 (.t 1))), (.mk (some 25) none (.call 29 [(.t 24)])), (.mk (some 26) none (.load true 25 (.t 1))), (.mk (some 27) none (.call 30 [(.t 26)])), (.mk (some 28) none (.load true 25 (.t 1))), (.mk (some 29) none (.call 31 [(.t 28)])), (.mk (some 30) none (.load true 25 (.t 1))), (.mk (some 31) none (.call 32 [(.t 30)])), (.mk (some 32) none (.load true 25 (.t 1))), (.mk (some 33) none (.call 33 [(.t 32)])), (.mk (some 34) none (.load true 25 (.t 1))), (.mk (some 35) none (.call 34 [(.t 34)])), (.mk (some 36) none (.bslice I64S 8 [(.f (.int .i64 0))] 10 [(0, (.t 15)), (1, (.t 18)), (2, (.t 20)), (3, (.t 23)), (4, (.t 25)), (5, (.t 27)), (6, (.t 29)), (7, (.t 31)), (8, (.t 33)), (9, (.t 35))])), (.mk (some 3) none (.mov (.t 36)))] []) (.seq (.seq (.region [(.mk (some 4) none (.mov (.c (.f (.int .i64 0)))))] []) (.block 0 (.loop 0 [(3, none), (4, none)] b_r8_CheckRouter_0))) r_r8_CheckRouter_0)))))
def tb_r8_CheckRouter : Tbl
  | 0 => ([(3, none), (4, none)], b_r8_CheckRouter_0)
  | _ => ([], .skip)
theorem ok_r8_CheckRouter : compF Try.prog Try.f19 = some c_r8_CheckRouter.strip := by kernel_rfl
theorem tk_r8_CheckRouter : TblOk tb_r8_CheckRouter c_r8_CheckRouter.body := ⟨trivial, ⟨⟨trivial, ⟨⟨trivial, trivial⟩, trivial⟩⟩, ⟨⟨trivial, ⟨⟨trivial, trivial⟩, trivial⟩⟩, ⟨trivial, ⟨⟨trivial, ⟨rfl, ⟨⟨trivial, ⟨trivial, trivial⟩⟩, ⟨⟨trivial, ⟨⟨trivial, trivial⟩, trivial⟩⟩, trivial⟩⟩⟩⟩, ⟨trivial, trivial⟩⟩⟩⟩⟩⟩
def k_r8_CheckRouter_0 (Q : Int × Unit → Prop) : K := (kBlock 0 (kSeq (evC G_r8_CheckRouter (Lfp G_r8_CheckRouter tb_r8_CheckRouter) r_r8_CheckRouter_0) (kDone c_r8_CheckRouter (dq e_r8_CheckRouter.R Q))))
def s_r8_CheckRouter_0 (r : RouterT) (v0 : Int) : St := ⟨[(3, [], .sl 0 1 0 10), (4, [], .f (.int .i64 v0))], [.arow I64S [[.f (.int .i64 (g_r8_interfaces r.2.2.1))], [.f (.int .i64 (g_r8_prefixLists r.2.2.2.1))], [.f (.int .i64 (g_r8_routeMaps r))], [.f (.int .i64 (g_r8_accessLists r.2.2.2.2.2.1))], [.f (.int .i64 (g_r8_translations r))], [.f (.int .i64 (g_r8_filters r))], [.f (.int .i64 (g_r8_statics r))], [.f (.int .i64 (g_r8_linkState r))], [.f (.int .i64 (g_r8_distance r))], [.f (.int .i64 (g_r8_pathVector r))]]]⟩
def L_r8_CheckRouter_0 (r : RouterT) (v0 : Int) (Q : Int × Unit → Prop) : Prop := Lfp G_r8_CheckRouter tb_r8_CheckRouter 0 (s_r8_CheckRouter_0 r v0) (k_r8_CheckRouter_0 Q)
theorem in_r8_CheckRouter (r : RouterT) (Q : Int × Unit → Prop) : evF G_r8_CheckRouter (Lfp G_r8_CheckRouter tb_r8_CheckRouter) c_r8_CheckRouter (VSs.enc e_r8_CheckRouter.A (r, ())) (dq e_r8_CheckRouter.R Q) = (
  cond (!(g_r4_Name r.1))
  (Q (3, ()))
  (cond (!(g_r8_within r.2.1 0 65535))
    (Q (1, ()))
    (L_r8_CheckRouter_0 r 0 Q))) := by kernel_rfl
theorem ru_r8_CheckRouter_0_0 (r : RouterT) (Q : Int × Unit → Prop) (h :
  cond ((g_r8_interfaces r.2.2.1) != 0)
  (Q ((g_r8_interfaces r.2.2.1), ()))
  (L_r8_CheckRouter_0 r 1 Q)) : L_r8_CheckRouter_0 r 0 Q := Lfp.step ((by kernel_rfl : evC G_r8_CheckRouter (Lfp G_r8_CheckRouter tb_r8_CheckRouter) (tb_r8_CheckRouter 0).2 (s_r8_CheckRouter_0 r 0) (kLoop (tb_r8_CheckRouter 0).1 (Lfp G_r8_CheckRouter tb_r8_CheckRouter 0) (k_r8_CheckRouter_0 Q)) = (
  cond ((g_r8_interfaces r.2.2.1) != 0)
  (Q ((g_r8_interfaces r.2.2.1), ()))
  (L_r8_CheckRouter_0 r 1 Q))).symm ▸ h)
theorem ru_r8_CheckRouter_0_1 (r : RouterT) (Q : Int × Unit → Prop) (h :
  cond ((g_r8_prefixLists r.2.2.2.1) != 0)
  (Q ((g_r8_prefixLists r.2.2.2.1), ()))
  (L_r8_CheckRouter_0 r 2 Q)) : L_r8_CheckRouter_0 r 1 Q := Lfp.step ((by kernel_rfl : evC G_r8_CheckRouter (Lfp G_r8_CheckRouter tb_r8_CheckRouter) (tb_r8_CheckRouter 0).2 (s_r8_CheckRouter_0 r 1) (kLoop (tb_r8_CheckRouter 0).1 (Lfp G_r8_CheckRouter tb_r8_CheckRouter 0) (k_r8_CheckRouter_0 Q)) = (
  cond ((g_r8_prefixLists r.2.2.2.1) != 0)
  (Q ((g_r8_prefixLists r.2.2.2.1), ()))
  (L_r8_CheckRouter_0 r 2 Q))).symm ▸ h)
theorem ru_r8_CheckRouter_0_2 (r : RouterT) (Q : Int × Unit → Prop) (h :
  cond ((g_r8_routeMaps r) != 0)
  (Q ((g_r8_routeMaps r), ()))
  (L_r8_CheckRouter_0 r 3 Q)) : L_r8_CheckRouter_0 r 2 Q := Lfp.step ((by kernel_rfl : evC G_r8_CheckRouter (Lfp G_r8_CheckRouter tb_r8_CheckRouter) (tb_r8_CheckRouter 0).2 (s_r8_CheckRouter_0 r 2) (kLoop (tb_r8_CheckRouter 0).1 (Lfp G_r8_CheckRouter tb_r8_CheckRouter 0) (k_r8_CheckRouter_0 Q)) = (
  cond ((g_r8_routeMaps r) != 0)
  (Q ((g_r8_routeMaps r), ()))
  (L_r8_CheckRouter_0 r 3 Q))).symm ▸ h)
theorem ru_r8_CheckRouter_0_3 (r : RouterT) (Q : Int × Unit → Prop) (h :
  cond ((g_r8_accessLists r.2.2.2.2.2.1) != 0)
  (Q ((g_r8_accessLists r.2.2.2.2.2.1), ()))
  (L_r8_CheckRouter_0 r 4 Q)) : L_r8_CheckRouter_0 r 3 Q := Lfp.step ((by kernel_rfl : evC G_r8_CheckRouter (Lfp G_r8_CheckRouter tb_r8_CheckRouter) (tb_r8_CheckRouter 0).2 (s_r8_CheckRouter_0 r 3) (kLoop (tb_r8_CheckRouter 0).1 (Lfp G_r8_CheckRouter tb_r8_CheckRouter 0) (k_r8_CheckRouter_0 Q)) = (
  cond ((g_r8_accessLists r.2.2.2.2.2.1) != 0)
  (Q ((g_r8_accessLists r.2.2.2.2.2.1), ()))
  (L_r8_CheckRouter_0 r 4 Q))).symm ▸ h)
theorem ru_r8_CheckRouter_0_4 (r : RouterT) (Q : Int × Unit → Prop) (h :
  cond ((g_r8_translations r) != 0)
  (Q ((g_r8_translations r), ()))
  (L_r8_CheckRouter_0 r 5 Q)) : L_r8_CheckRouter_0 r 4 Q := Lfp.step ((by kernel_rfl : evC G_r8_CheckRouter (Lfp G_r8_CheckRouter tb_r8_CheckRouter) (tb_r8_CheckRouter 0).2 (s_r8_CheckRouter_0 r 4) (kLoop (tb_r8_CheckRouter 0).1 (Lfp G_r8_CheckRouter tb_r8_CheckRouter 0) (k_r8_CheckRouter_0 Q)) = (
  cond ((g_r8_translations r) != 0)
  (Q ((g_r8_translations r), ()))
  (L_r8_CheckRouter_0 r 5 Q))).symm ▸ h)
theorem ru_r8_CheckRouter_0_5 (r : RouterT) (Q : Int × Unit → Prop) (h :
  cond ((g_r8_filters r) != 0)
  (Q ((g_r8_filters r), ()))
  (L_r8_CheckRouter_0 r 6 Q)) : L_r8_CheckRouter_0 r 5 Q := Lfp.step ((by kernel_rfl : evC G_r8_CheckRouter (Lfp G_r8_CheckRouter tb_r8_CheckRouter) (tb_r8_CheckRouter 0).2 (s_r8_CheckRouter_0 r 5) (kLoop (tb_r8_CheckRouter 0).1 (Lfp G_r8_CheckRouter tb_r8_CheckRouter 0) (k_r8_CheckRouter_0 Q)) = (
  cond ((g_r8_filters r) != 0)
  (Q ((g_r8_filters r), ()))
  (L_r8_CheckRouter_0 r 6 Q))).symm ▸ h)
theorem ru_r8_CheckRouter_0_6 (r : RouterT) (Q : Int × Unit → Prop) (h :
  cond ((g_r8_statics r) != 0)
  (Q ((g_r8_statics r), ()))
  (L_r8_CheckRouter_0 r 7 Q)) : L_r8_CheckRouter_0 r 6 Q := Lfp.step ((by kernel_rfl : evC G_r8_CheckRouter (Lfp G_r8_CheckRouter tb_r8_CheckRouter) (tb_r8_CheckRouter 0).2 (s_r8_CheckRouter_0 r 6) (kLoop (tb_r8_CheckRouter 0).1 (Lfp G_r8_CheckRouter tb_r8_CheckRouter 0) (k_r8_CheckRouter_0 Q)) = (
  cond ((g_r8_statics r) != 0)
  (Q ((g_r8_statics r), ()))
  (L_r8_CheckRouter_0 r 7 Q))).symm ▸ h)
theorem ru_r8_CheckRouter_0_7 (r : RouterT) (Q : Int × Unit → Prop) (h :
  cond ((g_r8_linkState r) != 0)
  (Q ((g_r8_linkState r), ()))
  (L_r8_CheckRouter_0 r 8 Q)) : L_r8_CheckRouter_0 r 7 Q := Lfp.step ((by kernel_rfl : evC G_r8_CheckRouter (Lfp G_r8_CheckRouter tb_r8_CheckRouter) (tb_r8_CheckRouter 0).2 (s_r8_CheckRouter_0 r 7) (kLoop (tb_r8_CheckRouter 0).1 (Lfp G_r8_CheckRouter tb_r8_CheckRouter 0) (k_r8_CheckRouter_0 Q)) = (
  cond ((g_r8_linkState r) != 0)
  (Q ((g_r8_linkState r), ()))
  (L_r8_CheckRouter_0 r 8 Q))).symm ▸ h)
theorem ru_r8_CheckRouter_0_8 (r : RouterT) (Q : Int × Unit → Prop) (h :
  cond ((g_r8_distance r) != 0)
  (Q ((g_r8_distance r), ()))
  (L_r8_CheckRouter_0 r 9 Q)) : L_r8_CheckRouter_0 r 8 Q := Lfp.step ((by kernel_rfl : evC G_r8_CheckRouter (Lfp G_r8_CheckRouter tb_r8_CheckRouter) (tb_r8_CheckRouter 0).2 (s_r8_CheckRouter_0 r 8) (kLoop (tb_r8_CheckRouter 0).1 (Lfp G_r8_CheckRouter tb_r8_CheckRouter 0) (k_r8_CheckRouter_0 Q)) = (
  cond ((g_r8_distance r) != 0)
  (Q ((g_r8_distance r), ()))
  (L_r8_CheckRouter_0 r 9 Q))).symm ▸ h)
theorem ru_r8_CheckRouter_0_9 (r : RouterT) (Q : Int × Unit → Prop) (h :
  cond ((g_r8_pathVector r) != 0)
  (Q ((g_r8_pathVector r), ()))
  (L_r8_CheckRouter_0 r 10 Q)) : L_r8_CheckRouter_0 r 9 Q := Lfp.step ((by kernel_rfl : evC G_r8_CheckRouter (Lfp G_r8_CheckRouter tb_r8_CheckRouter) (tb_r8_CheckRouter 0).2 (s_r8_CheckRouter_0 r 9) (kLoop (tb_r8_CheckRouter 0).1 (Lfp G_r8_CheckRouter tb_r8_CheckRouter 0) (k_r8_CheckRouter_0 Q)) = (
  cond ((g_r8_pathVector r) != 0)
  (Q ((g_r8_pathVector r), ()))
  (L_r8_CheckRouter_0 r 10 Q))).symm ▸ h)
theorem ru_r8_CheckRouter_0_10 (r : RouterT) (Q : Int × Unit → Prop) (h :
  Q (0, ())) : L_r8_CheckRouter_0 r 10 Q := Lfp.step ((by kernel_rfl : evC G_r8_CheckRouter (Lfp G_r8_CheckRouter tb_r8_CheckRouter) (tb_r8_CheckRouter 0).2 (s_r8_CheckRouter_0 r 10) (kLoop (tb_r8_CheckRouter 0).1 (Lfp G_r8_CheckRouter tb_r8_CheckRouter 0) (k_r8_CheckRouter_0 Q)) = (
  Q (0, ()))).symm ▸ h)
theorem ct_r8_CheckRouter (r : RouterT) (hw : VSs.wf e_r8_CheckRouter.A (r, ())) (Q : Int × Unit → Prop) (hq : Q (e_r8_CheckRouter.g (r, ()))) : EvF G_r8_CheckRouter tb_r8_CheckRouter c_r8_CheckRouter (VSs.enc e_r8_CheckRouter.A (r, ())) (dq e_r8_CheckRouter.R Q) := by
  have _ := hw
  let FF := (fun y : Int => Q (y, ()))
  refine EvF.of (in_r8_CheckRouter r Q) ?_
  exact (cond_f (F := FF) (fun h0 => id) (fun h0 => (cond_f (F := FF) (fun h1 => id) (fun h1 => (fun hF => ru_r8_CheckRouter_0_0 r Q ((cond_f (F := FF) (fun h2 => id) (fun h2 => (fun hF => ru_r8_CheckRouter_0_1 r Q ((cond_f (F := FF) (fun h3 => id) (fun h3 => (fun hF => ru_r8_CheckRouter_0_2 r Q ((cond_f (F := FF) (fun h4 => id) (fun h4 => (fun hF => ru_r8_CheckRouter_0_3 r Q ((cond_f (F := FF) (fun h5 => id) (fun h5 => (fun hF => ru_r8_CheckRouter_0_4 r Q ((cond_f (F := FF) (fun h6 => id) (fun h6 => (fun hF => ru_r8_CheckRouter_0_5 r Q ((cond_f (F := FF) (fun h7 => id) (fun h7 => (fun hF => ru_r8_CheckRouter_0_6 r Q ((cond_f (F := FF) (fun h8 => id) (fun h8 => (fun hF => ru_r8_CheckRouter_0_7 r Q ((cond_f (F := FF) (fun h9 => id) (fun h9 => (fun hF => ru_r8_CheckRouter_0_8 r Q ((cond_f (F := FF) (fun h10 => id) (fun h10 => (fun hF => ru_r8_CheckRouter_0_9 r Q ((cond_f (F := FF) (fun h11 => id) (fun h11 => (fun hF => ru_r8_CheckRouter_0_10 r Q (id hF)))) hF)))) hF)))) hF)))) hF)))) hF)))) hF)))) hF)))) hF)))) hF)))) hF)))))) hq
/-! netverify/netverifylaw8.router -/
def G_law8_router : List Ent := [e_r8_CheckRouter]
def b_law8_router_0 : ACode := (.seq (.seq (.region [(.mk (some 17) none (.mov (.t 6))), (.mk (some 18) none (.mov (.t 1))), (.mk (some 19) none (.len (.t 18))), (.mk (some 20) none (.bin .lss (.t 17) (.t 19)))] []) (.cond 20 .skip (.exit 0))) (.seq (.block 1 (.seq (.region [(.mk (some 23) none (.mov (.t 1))), (.mk (some 24) none (.mov (.t 6))), (.mk (some 25) none (.ixa 2 (.t 23) (.t 24))), (.mk (some 26) none (.fld 1 (.t 25))), (.mk (some 27) none (.load false 1 (.t 26))), (.mk (some 28) none (.len (.t 27))), (.mk (some 29) none (.bin .gtr (.t 28) (.c (.f (.int .i64 16)))))] []) (.cond 29 (.seq (.region [(.mk (some 30) none (.build [(.f (.str [])), (.f (.int .i64 0)), (.f .nils), (.f .nils), (.f .nils), (.f .nils), (.f .nils), (.f .nils), (.f (.bool false)), (.f (.int .i64 0)), (.f .nils), (.f .nils), (.f (.bool false)), (.f (.int .i64 0)), (.f (.str [])), (.f (.str [])), (.f .nils), (.f (.bool false)), (.f (.int .i64 0)), (.f (.int .i64 0)), (.f .nils), (.f .nils), (.f .nils), (.f .nils), (.f .nils)] [])), (.mk none none (.store 25 (.t 4) (.t 30))), (.mk (some 5) none (.mov (.c (.f (.bool false)))))] []) .ret) .skip))) (.region [(.mk (some 21) none (.mov (.t 6))), (.mk (some 22) none (.bin .add (.t 21) (.c (.f (.int .i64 1))))), (.mk (some 6) none (.mov (.t 22)))] [])))
def r_law8_router_0 : ACode := (.seq (.region [(.mk (some 31) none (.mov (.t 0))), (.mk (some 32) none (.mov (.t 1))), (.mk (some 33) none (.build [(.f (.str [])), (.f (.int .i64 0)), (.f .nils), (.f .nils), (.f .nils), (.f .nils), (.f .nils), (.f .nils), (.f (.bool false)), (.f (.int .i64 0)), (.f .nils), (.f .nils), (.f (.bool false)), (.f (.int .i64 0)), (.f (.str [])), (.f (.str [])), (.f .nils), (.f (.bool false)), (.f (.int .i64 0)), (.f (.int .i64 0)), (.f .nils), (.f .nils), (.f .nils), (.f .nils), (.f .nils)] [(0, (1, (.c (.f (.str [114]))))), (6, (1, (.t 31))), (5, (1, (.t 32)))])), (.mk (some 7) none (.alloc [(.f (.str [])), (.f (.int .i64 0)), (.f .nils), (.f .nils), (.f .nils), (.f .nils), (.f .nils), (.f .nils), (.f (.bool false)), (.f (.int .i64 0)), (.f .nils), (.f .nils), (.f (.bool false)), (.f (.int .i64 0)), (.f (.str [])), (.f (.str [])), (.f .nils), (.f (.bool false)), (.f (.int .i64 0)), (.f (.int .i64 0)), (.f .nils), (.f .nils), (.f .nils), (.f .nils), (.f .nils)])), (.mk none none (.store 25 (.t 7) (.t 33)))] []) (.seq (.region [(.mk (some 34) none (.load true 25 (.t 7))), (.mk (some 35) none (.load true 25 (.t 7))), (.mk (some 36) none (.call 19 [(.t 35)])), (.mk (some 37) none (.bin .eql (.t 36) (.c (.f (.int .i64 0))))), (.mk none none (.store 25 (.t 4) (.t 34))), (.mk (some 5) none (.mov (.t 37)))] []) .ret))
def c_law8_router : AFunc := AFunc.mk 38 2 [(.cell 4 true 25), (.t 5)] (.seq (.region [(.mk (some 4) none (.alloc [(.f (.str [])), (.f (.int .i64 0)), (.f .nils), (.f .nils), (.f .nils), (.f .nils), (.f .nils), (.f .nils), (.f (.bool false)), (.f (.int .i64 0)), (.f .nils), (.f .nils), (.f (.bool false)), (.f (.int .i64 0)), (.f (.str [])), (.f (.str [])), (.f .nils), (.f (.bool false)), (.f (.int .i64 0)), (.f (.int .i64 0)), (.f .nils), (.f .nils), (.f .nils), (.f .nils), (.f .nils)])), (.mk (some 5) none (.mov (.c (.f (.bool false)))))] []) (.seq (.seq (.region [(.mk (some 8) none (.mov (.t 0))), (.mk (some 9) none (.len (.t 8))), (.mk (some 10) none (.bin .gtr (.t 9) (.c (.f (.int .i64 8))))), (.mk (some 11) none (.mov (.t 10))), (.mk (some 12) (some (11, false)) (.mov (.t 1))), (.mk (some 13) (some (11, false)) (.len (.t 12))), (.mk (some 14) (some (11, false)) (.bin .gtr (.t 13) (.c (.f (.int .i64 8))))), (.mk (some 15) none (.pick 11 (.c (.f (.bool true))) (.t 14)))] []) (.cond 15 (.seq (.region [(.mk (some 16) none (.build [(.f (.str [])), (.f (.int .i64 0)), (.f .nils), (.f .nils), (.f .nils), (.f .nils), (.f .nils), (.f .nils), (.f (.bool false)), (.f (.int .i64 0)), (.f .nils), (.f .nils), (.f (.bool false)), (.f (.int .i64 0)), (.f (.str [])), (.f (.str [])), (.f .nils), (.f (.bool false)), (.f (.int .i64 0)), (.f (.int .i64 0)), (.f .nils), (.f .nils), (.f .nils), (.f .nils), (.f .nils)] [])), (.mk none none (.store 25 (.t 4) (.t 16))), (.mk (some 5) none (.mov (.c (.f (.bool false)))))] []) .ret) .skip)) (.seq (.seq (.region [(.mk (some 6) none (.mov (.c (.f (.int .i64 0)))))] []) (.block 0 (.loop 0 [(0, none), (1, none), (4, none), (6, none)] b_law8_router_0))) r_law8_router_0)))
def tb_law8_router : Tbl
  | 0 => ([(0, none), (1, none), (4, none), (6, none)], b_law8_router_0)
  | _ => ([], .skip)
theorem ok_law8_router : compF Try.prog Try.f8 = some c_law8_router.strip := by kernel_rfl
theorem tk_law8_router : TblOk tb_law8_router c_law8_router.body := ⟨trivial, ⟨⟨trivial, ⟨⟨trivial, trivial⟩, trivial⟩⟩, ⟨⟨trivial, ⟨rfl, ⟨⟨trivial, ⟨trivial, trivial⟩⟩, ⟨⟨trivial, ⟨⟨trivial, trivial⟩, trivial⟩⟩, trivial⟩⟩⟩⟩, ⟨trivial, ⟨trivial, trivial⟩⟩⟩⟩⟩
def k_law8_router_0 (Q : RouterT × Bool × Unit → Prop) : K := (kBlock 0 (kSeq (evC G_law8_router (Lfp G_law8_router tb_law8_router) r_law8_router_0) (kDone c_law8_router (dq e_law8_router.R Q))))
def s_law8_router_0 (l : List TranslationT) (a : List ACLT) (v0 : Int) : St := ⟨[(0, [], .f (.fs TranslationS l)), (1, [], .f (.fs ACLS a)), (4, [], .ptr 0 0), (6, [], .f (.int .i64 v0))], [.box [.f (.str []), .f (.int .i64 0), .f (.nils), .f (.nils), .f (.nils), .f (.nils), .f (.nils), .f (.nils), .f (.bool false), .f (.int .i64 0), .f (.nils), .f (.nils), .f (.bool false), .f (.int .i64 0), .f (.str []), .f (.str []), .f (.nils), .f (.bool false), .f (.int .i64 0), .f (.int .i64 0), .f (.nils), .f (.nils), .f (.nils), .f (.nils), .f (.nils)]]⟩
def L_law8_router_0 (l : List TranslationT) (a : List ACLT) (v0 : Int) (Q : RouterT × Bool × Unit → Prop) : Prop := Lfp G_law8_router tb_law8_router 0 (s_law8_router_0 l a v0) (k_law8_router_0 Q)
theorem in_law8_router (l : List TranslationT) (a : List ACLT) (Q : RouterT × Bool × Unit → Prop) : evF G_law8_router (Lfp G_law8_router tb_law8_router) c_law8_router (VSs.enc e_law8_router.A (l, a, ())) (dq e_law8_router.R Q) = (
  cond ((decide ((l.length : Int) > 8)) || (decide ((a.length : Int) > 8)))
  (Q (([], 0, [], [], [], [], [], [], false, 0, [], [], false, 0, [], [], [], false, 0, 0, [], [], [], [], [], ()), false, ()))
  (L_law8_router_0 l a 0 Q)) := by kernel_rfl
theorem rd_law8_router_0 (l : List TranslationT) (a : List ACLT) (v0 : Int) (Q : RouterT × Bool × Unit → Prop) (h :
  cond (decide (v0 < (a.length : Int)))
  (cond (okIx v0 (a.length : Int))
    (cond (decide (((List.getD a (Int.toNat v0) ACLD).2.1.length : Int) > 16))
      (Q (([], 0, [], [], [], [], [], [], false, 0, [], [], false, 0, [], [], [], false, 0, 0, [], [], [], [], [], ()), false, ()))
      (L_law8_router_0 l a (IntKind.wrap .i64 (v0 + 1)) Q))
    False)
  (Q (([114], 0, [], [], [], a, l, [], false, 0, [], [], false, 0, [], [], [], false, 0, 0, [], [], [], [], [], ()), ((g_r8_CheckRouter ([114], 0, [], [], [], a, l, [], false, 0, [], [], false, 0, [], [], [], false, 0, 0, [], [], [], [], [], ())) == 0), ()))) : L_law8_router_0 l a v0 Q := Lfp.step ((by kernel_rfl : evC G_law8_router (Lfp G_law8_router tb_law8_router) (tb_law8_router 0).2 (s_law8_router_0 l a v0) (kLoop (tb_law8_router 0).1 (Lfp G_law8_router tb_law8_router 0) (k_law8_router_0 Q)) = (
  cond (decide (v0 < (a.length : Int)))
  (cond (okIx v0 (a.length : Int))
    (cond (decide (((List.getD a (Int.toNat v0) ACLD).2.1.length : Int) > 16))
      (Q (([], 0, [], [], [], [], [], [], false, 0, [], [], false, 0, [], [], [], false, 0, 0, [], [], [], [], [], ()), false, ()))
      (L_law8_router_0 l a (IntKind.wrap .i64 (v0 + 1)) Q))
    False)
  (Q (([114], 0, [], [], [], a, l, [], false, 0, [], [], false, 0, [], [], [], false, 0, 0, [], [], [], [], [], ()), ((g_r8_CheckRouter ([114], 0, [], [], [], a, l, [], false, 0, [], [], false, 0, [], [], [], false, 0, 0, [], [], [], [], [], ())) == 0), ())))).symm ▸ h)
theorem lp_law8_router_0 (l : List TranslationT) (a : List ACLT) (Q : RouterT × Bool × Unit → Prop) (hw : VSs.wf e_law8_router.A (l, a, ()))  (g0 : ((decide ((l.length : Int) > 8)) || (decide ((a.length : Int) > 8))) = false) : (fun y : RouterT × Bool × Unit => Q y) (S_law8_router_0 l a) → L_law8_router_0 l a 0 Q := by
  have _ := hw
  have _ := g0
  let FF := (fun y : RouterT × Bool × Unit => Q y)
  refine upV_loop (F := FF) (k := .i64) (L := (fun c0 : Int => L_law8_router_0 l a c0 Q)) (wrap_i64n (show _ ≤ _ from (hw.2.1).1)) (fun c0 hc0 hF => rd_law8_router_0 l a (c0 : Int) Q (cond_ge (n := a.length) rfl hc0 (id hF))) (fun c0 _ hc0 next0 hn0 hF => rd_law8_router_0 l a (c0 : Int) Q (cond_lt (n := a.length) rfl hc0 ((vc_f (F := FF) (by first | ((repeat' (first | rfl | exact nn_d64 _ | exact okIx_nat hc0 | refine and_t ?_ ?_ | refine or_l ?_)); done) | (simp [-List.getD_eq_getElem?_getD, okIx_nat hc0, nn_u64, nn_u32]; done) | (simp [-List.getD_eq_getElem?_getD, okIx_nat hc0, nn_u64, nn_u32, g0]; done) | (have hry : roomy = 1048576 := rfl; simp [-List.getD_eq_getElem?_getD, okIx, okSlc, okApp, len_slcL, len_segL] at g0 ⊢ <;> omega)) /- 1 -/ (cond_f (F := FF) (fun h1 => id) (fun h1 => hn0))) hF)))
theorem ct_law8_router (l : List TranslationT) (a : List ACLT) (hw : VSs.wf e_law8_router.A (l, a, ())) (Q : RouterT × Bool × Unit → Prop) (hq : Q (e_law8_router.g (l, a, ()))) : EvF G_law8_router tb_law8_router c_law8_router (VSs.enc e_law8_router.A (l, a, ())) (dq e_law8_router.R Q) := by
  have _ := hw
  let FF := (fun y : RouterT × Bool × Unit => Q y)
  refine EvF.of (in_law8_router l a Q) ?_
  exact (cond_f (F := FF) (fun h0 => id) (fun h0 => (lp_law8_router_0 l a Q hw h0))) hq
/-! netverify/netverifyref8.ValidPacket -/
def G_r8_ValidPacket : List Ent := [e_r8_within]
def c_r8_ValidPacket : AFunc := AFunc.mk 16 1 [(.t 2)] (.seq (.region [(.mk (some 1) none (.box (.t 0))), (.mk (some 2) none (.mov (.c (.f (.bool false)))))] []) (.seq (.region [(.mk (some 3) none (.fld 2 (.t 1))), (.mk (some 4) none (.load false 1 (.t 3))), (.mk (some 5) none (.call 20 [(.t 4), (.c (.f (.int .i64 0))), (.c (.f (.int .i64 255)))])), (.mk (some 6) none (.mov (.t 5))), (.mk (some 7) (some (6, true)) (.fld 3 (.t 1))), (.mk (some 8) (some (6, true)) (.load false 1 (.t 7))), (.mk (some 9) (some (6, true)) (.call 20 [(.t 8), (.c (.f (.int .i64 0))), (.c (.f (.int .i64 65535)))])), (.mk (some 10) none (.pick 6 (.t 9) (.c (.f (.bool false))))), (.mk (some 11) none (.mov (.t 10))), (.mk (some 12) (some (11, true)) (.fld 4 (.t 1))), (.mk (some 13) (some (11, true)) (.load false 1 (.t 12))), (.mk (some 14) (some (11, true)) (.call 20 [(.t 13), (.c (.f (.int .i64 0))), (.c (.f (.int .i64 65535)))])), (.mk (some 15) none (.pick 11 (.t 14) (.c (.f (.bool false))))), (.mk (some 2) none (.mov (.t 15)))] []) .ret))
def tb_r8_ValidPacket : Tbl := fun _ => ([], .skip)
theorem ok_r8_ValidPacket : compF Try.prog Try.f9 = some c_r8_ValidPacket.strip := by kernel_rfl
theorem tk_r8_ValidPacket : TblOk tb_r8_ValidPacket c_r8_ValidPacket.body := ⟨trivial, ⟨trivial, trivial⟩⟩
theorem in_r8_ValidPacket (p : PacketT) (Q : Bool × Unit → Prop) : evF G_r8_ValidPacket (Lfp G_r8_ValidPacket tb_r8_ValidPacket) c_r8_ValidPacket (VSs.enc e_r8_ValidPacket.A (p, ())) (dq e_r8_ValidPacket.R Q) = (
  Q ((((g_r8_within p.2.2.1 0 255) && (g_r8_within p.2.2.2.1 0 65535)) && (g_r8_within p.2.2.2.2.1 0 65535)), ())) := by kernel_rfl
theorem au_r8_ValidPacket (p : PacketT) (Q : Bool × Unit → Prop) : evF G_r8_ValidPacket (Lfp G_r8_ValidPacket tb_r8_ValidPacket) c_r8_ValidPacket (VSs.enc e_r8_ValidPacket.A (p, ())) (dq e_r8_ValidPacket.R Q) = Q (e_r8_ValidPacket.g (p, ())) := (in_r8_ValidPacket p Q).trans rfl
/-! netverify/nat.Destination -/
def G_nat_Destination : List Ent := []
def b_nat_Destination_0 : ACode := (.seq (.region [(.mk (some 11) none (.bin .lss (.t 10) (.t 9)))] []) (.seq (.cond 11 .skip (.exit 0)) (.seq (.block 1 (.seq (.region [(.mk (some 12) none (.ixa 9 (.t 8) (.t 10))), (.mk (some 13) none (.load true 9 (.t 12))), (.mk (some 6) none (.alloc [(.f (.int .i64 0)), (.f (.int .u32 0)), (.f (.int .u32 0)), (.f (.int .i64 0)), (.f (.int .i64 0)), (.f (.int .i64 0)), (.f (.str [])), (.f (.int .u32 0)), (.f (.int .u32 0))])), (.mk none none (.store 9 (.t 6) (.t 13)))] []) (.block 2 (.seq (.region [(.mk (some 15) none (.fld 0 (.t 6))), (.mk (some 16) none (.load false 1 (.t 15))), (.mk (some 17) none (.bin .eql (.t 16) (.c (.f (.int .i64 1))))), (.mk (some 18) none (.mov (.t 17))), (.mk (some 19) (some (18, true)) (.fld 2 (.t 6))), (.mk (some 20) (some (18, true)) (.load false 1 (.t 19))), (.mk (some 21) (some (18, true)) (.fld 1 (.t 3))), (.mk (some 22) (some (18, true)) (.load false 1 (.t 21))), (.mk (some 23) (some (18, true)) (.bin .eql (.t 20) (.t 22))), (.mk (some 24) none (.pick 18 (.t 23) (.c (.f (.bool false))))), (.mk (some 14) none (.mov (.t 24)))] []) (.cond 14 (.seq (.region [(.mk (some 25) none (.fld 1 (.t 6))), (.mk (some 26) none (.load false 1 (.t 25))), (.mk (some 27) none (.fld 1 (.t 3))), (.mk none none (.store 1 (.t 27) (.t 26)))] []) (.seq (.region [(.mk (some 28) none (.load true 5 (.t 3))), (.mk none none (.store 5 (.t 4) (.t 28)))] []) .ret)) (.seq (.region [(.mk (some 30) none (.fld 0 (.t 6))), (.mk (some 31) none (.load false 1 (.t 30))), (.mk (some 32) none (.bin .eql (.t 31) (.c (.f (.int .i64 3))))), (.mk (some 33) none (.mov (.t 32))), (.mk (some 34) (some (33, true)) (.fld 2 (.t 6))), (.mk (some 35) (some (33, true)) (.load false 1 (.t 34))), (.mk (some 36) (some (33, true)) (.fld 1 (.t 3))), (.mk (some 37) (some (33, true)) (.load false 1 (.t 36))), (.mk (some 38) (some (33, true)) (.bin .eql (.t 35) (.t 37))), (.mk (some 39) none (.pick 33 (.t 38) (.c (.f (.bool false))))), (.mk (some 40) none (.mov (.t 39))), (.mk (some 41) (some (40, true)) (.fld 3 (.t 6))), (.mk (some 42) (some (40, true)) (.load false 1 (.t 41))), (.mk (some 43) (some (40, true)) (.fld 2 (.t 3))), (.mk (some 44) (some (40, true)) (.load false 1 (.t 43))), (.mk (some 45) (some (40, true)) (.bin .eql (.t 42) (.t 44))), (.mk (some 46) none (.pick 40 (.t 45) (.c (.f (.bool false))))), (.mk (some 47) none (.mov (.t 46))), (.mk (some 48) (some (47, true)) (.fld 5 (.t 6))), (.mk (some 49) (some (47, true)) (.load false 1 (.t 48))), (.mk (some 50) (some (47, true)) (.fld 4 (.t 3))), (.mk (some 51) (some (47, true)) (.load false 1 (.t 50))), (.mk (some 52) (some (47, true)) (.bin .eql (.t 49) (.t 51))), (.mk (some 53) none (.pick 47 (.t 52) (.c (.f (.bool false))))), (.mk (some 29) none (.mov (.t 53)))] []) (.cond 29 (.seq (.region [(.mk (some 54) none (.fld 1 (.t 6))), (.mk (some 55) none (.load false 1 (.t 54))), (.mk (some 56) none (.fld 4 (.t 6))), (.mk (some 57) none (.load false 1 (.t 56))), (.mk (some 58) none (.fld 1 (.t 3))), (.mk none none (.store 1 (.t 58) (.t 55))), (.mk (some 59) none (.fld 4 (.t 3))), (.mk none none (.store 1 (.t 59) (.t 57)))] [(3, 5)]) (.seq (.region [(.mk (some 60) none (.load true 5 (.t 3))), (.mk none none (.store 5 (.t 4) (.t 60)))] []) .ret)) .skip))))))) (.region [(.mk (some 61) none (.bin .add (.t 10) (.c (.f (.int .i64 1))))), (.mk (some 10) none (.mov (.t 61)))] []))))
def r_nat_Destination_0 : ACode := (.seq (.region [(.mk (some 62) none (.load true 5 (.t 3))), (.mk none none (.store 5 (.t 4) (.t 62)))] []) .ret)
def c_nat_Destination : AFunc := AFunc.mk 63 2 [(.cell 4 true 5)] (.seq (.region [(.mk (some 2) none (.box (.t 0))), (.mk (some 3) none (.box (.t 1))), (.mk (some 4) none (.alloc [(.f (.int .u32 0)), (.f (.int .u32 0)), (.f (.int .i64 0)), (.f (.int .i64 0)), (.f (.int .i64 0))]))] []) (.seq (.seq (.region [(.mk (some 7) none (.fld 6 (.t 2))), (.mk (some 8) none (.load false 1 (.t 7))), (.mk (some 9) none (.len (.t 8))), (.mk (some 10) none (.mov (.c (.f (.int .i64 0)))))] []) (.block 0 (.loop 0 [(3, none), (4, none), (8, none), (9, none), (10, none)] b_nat_Destination_0))) r_nat_Destination_0))
def tb_nat_Destination : Tbl
  | 0 => ([(3, none), (4, none), (8, none), (9, none), (10, none)], b_nat_Destination_0)
  | _ => ([], .skip)
theorem ok_nat_Destination : compF Try.prog Try.f10 = some c_nat_Destination.strip := by kernel_rfl
theorem tk_nat_Destination : TblOk tb_nat_Destination c_nat_Destination.body := ⟨trivial, ⟨⟨trivial, ⟨rfl, ⟨trivial, ⟨⟨trivial, trivial⟩, ⟨⟨trivial, ⟨trivial, ⟨⟨trivial, ⟨trivial, trivial⟩⟩, ⟨trivial, ⟨⟨trivial, ⟨trivial, trivial⟩⟩, trivial⟩⟩⟩⟩⟩, trivial⟩⟩⟩⟩⟩, ⟨trivial, trivial⟩⟩⟩
def k_nat_Destination_0 (Q : PacketT × Unit → Prop) : K := (kBlock 0 (kSeq (evC G_nat_Destination (Lfp G_nat_Destination tb_nat_Destination) r_nat_Destination_0) (kDone c_nat_Destination (dq e_nat_Destination.R Q))))
def s_nat_Destination_0 (r : RouterT) (p : PacketT) (v0 : Int) : St := ⟨[(3, [], .ptr 0 0), (4, [], .ptr 1 0), (8, [], .f (.fs TranslationS r.2.2.2.2.2.2.1)), (9, [], .f (.int .i64 (r.2.2.2.2.2.2.1.length : Int))), (10, [], .f (.int .i64 v0))], [.box [.f (.int .u32 p.1), .f (.int .u32 p.2.1), .f (.int .i64 p.2.2.1), .f (.int .i64 p.2.2.2.1), .f (.int .i64 p.2.2.2.2.1)], .box [.f (.int .u32 0), .f (.int .u32 0), .f (.int .i64 0), .f (.int .i64 0), .f (.int .i64 0)]]⟩
def L_nat_Destination_0 (r : RouterT) (p : PacketT) (v0 : Int) (Q : PacketT × Unit → Prop) : Prop := Lfp G_nat_Destination tb_nat_Destination 0 (s_nat_Destination_0 r p v0) (k_nat_Destination_0 Q)
theorem in_nat_Destination (r : RouterT) (p : PacketT) (Q : PacketT × Unit → Prop) : evF G_nat_Destination (Lfp G_nat_Destination tb_nat_Destination) c_nat_Destination (VSs.enc e_nat_Destination.A (r, p, ())) (dq e_nat_Destination.R Q) = (
  L_nat_Destination_0 r p 0 Q) := by kernel_rfl
theorem rd_nat_Destination_0 (r : RouterT) (p : PacketT) (v0 : Int) (Q : PacketT × Unit → Prop) (h :
  cond (decide (v0 < (r.2.2.2.2.2.2.1.length : Int)))
  (cond (okIx v0 (r.2.2.2.2.2.2.1.length : Int))
    (cond (((List.getD r.2.2.2.2.2.2.1 (Int.toNat v0) TranslationD).1 == 1) && ((List.getD r.2.2.2.2.2.2.1 (Int.toNat v0) TranslationD).2.2.1 == p.2.1))
      (Q ((p.1, (List.getD r.2.2.2.2.2.2.1 (Int.toNat v0) TranslationD).2.1, p.2.2.1, p.2.2.2.1, p.2.2.2.2.1, ()), ()))
      (cond (((((List.getD r.2.2.2.2.2.2.1 (Int.toNat v0) TranslationD).1 == 3) && ((List.getD r.2.2.2.2.2.2.1 (Int.toNat v0) TranslationD).2.2.1 == p.2.1)) && ((List.getD r.2.2.2.2.2.2.1 (Int.toNat v0) TranslationD).2.2.2.1 == p.2.2.1)) && ((List.getD r.2.2.2.2.2.2.1 (Int.toNat v0) TranslationD).2.2.2.2.2.1 == p.2.2.2.2.1))
        (Q ((p.1, (List.getD r.2.2.2.2.2.2.1 (Int.toNat v0) TranslationD).2.1, p.2.2.1, p.2.2.2.1, (List.getD r.2.2.2.2.2.2.1 (Int.toNat v0) TranslationD).2.2.2.2.1, ()), ()))
        (L_nat_Destination_0 r p (IntKind.wrap .i64 (v0 + 1)) Q)))
    False)
  (Q (p, ()))) : L_nat_Destination_0 r p v0 Q := Lfp.step ((by kernel_rfl : evC G_nat_Destination (Lfp G_nat_Destination tb_nat_Destination) (tb_nat_Destination 0).2 (s_nat_Destination_0 r p v0) (kLoop (tb_nat_Destination 0).1 (Lfp G_nat_Destination tb_nat_Destination 0) (k_nat_Destination_0 Q)) = (
  cond (decide (v0 < (r.2.2.2.2.2.2.1.length : Int)))
  (cond (okIx v0 (r.2.2.2.2.2.2.1.length : Int))
    (cond (((List.getD r.2.2.2.2.2.2.1 (Int.toNat v0) TranslationD).1 == 1) && ((List.getD r.2.2.2.2.2.2.1 (Int.toNat v0) TranslationD).2.2.1 == p.2.1))
      (Q ((p.1, (List.getD r.2.2.2.2.2.2.1 (Int.toNat v0) TranslationD).2.1, p.2.2.1, p.2.2.2.1, p.2.2.2.2.1, ()), ()))
      (cond (((((List.getD r.2.2.2.2.2.2.1 (Int.toNat v0) TranslationD).1 == 3) && ((List.getD r.2.2.2.2.2.2.1 (Int.toNat v0) TranslationD).2.2.1 == p.2.1)) && ((List.getD r.2.2.2.2.2.2.1 (Int.toNat v0) TranslationD).2.2.2.1 == p.2.2.1)) && ((List.getD r.2.2.2.2.2.2.1 (Int.toNat v0) TranslationD).2.2.2.2.2.1 == p.2.2.2.2.1))
        (Q ((p.1, (List.getD r.2.2.2.2.2.2.1 (Int.toNat v0) TranslationD).2.1, p.2.2.1, p.2.2.2.1, (List.getD r.2.2.2.2.2.2.1 (Int.toNat v0) TranslationD).2.2.2.2.1, ()), ()))
        (L_nat_Destination_0 r p (IntKind.wrap .i64 (v0 + 1)) Q)))
    False)
  (Q (p, ())))).symm ▸ h)
theorem lp_nat_Destination_0 (r : RouterT) (p : PacketT) (Q : PacketT × Unit → Prop) (hw : VSs.wf e_nat_Destination.A (r, p, ()))  : (fun y : PacketT => Q (y, ())) (S_nat_Destination_0 r p) → L_nat_Destination_0 r p 0 Q := by
  have _ := hw
  let FF := (fun y : PacketT => Q (y, ()))
  refine upV_loop (F := FF) (k := .i64) (L := (fun c0 : Int => L_nat_Destination_0 r p c0 Q)) (wrap_i64n (show _ ≤ _ from ((((((((hw.1).2).2).2).2).2).2).1).1)) (fun c0 hc0 hF => rd_nat_Destination_0 r p (c0 : Int) Q (cond_ge (n := r.2.2.2.2.2.2.1.length) rfl hc0 (id hF))) (fun c0 _ hc0 next0 hn0 hF => rd_nat_Destination_0 r p (c0 : Int) Q (cond_lt (n := r.2.2.2.2.2.2.1.length) rfl hc0 ((vc_f (F := FF) (by first | ((repeat' (first | rfl | exact nn_d64 _ | exact okIx_nat hc0 | refine and_t ?_ ?_ | refine or_l ?_)); done) | (simp [-List.getD_eq_getElem?_getD, okIx_nat hc0, nn_u64, nn_u32]; done) | (have hry : roomy = 1048576 := rfl; simp [-List.getD_eq_getElem?_getD, okIx, okSlc, okApp, len_slcL, len_segL] <;> omega)) /- 1 -/ (cond_f (F := FF) (fun h0 => id) (fun h0 => (cond_f (F := FF) (fun h1 => id) (fun h1 => hn0))))) hF)))
theorem ct_nat_Destination (r : RouterT) (p : PacketT) (hw : VSs.wf e_nat_Destination.A (r, p, ())) (Q : PacketT × Unit → Prop) (hq : Q (e_nat_Destination.g (r, p, ()))) : EvF G_nat_Destination tb_nat_Destination c_nat_Destination (VSs.enc e_nat_Destination.A (r, p, ())) (dq e_nat_Destination.R Q) := by
  have _ := hw
  let FF := (fun y : PacketT => Q (y, ()))
  refine EvF.of (in_nat_Destination r p Q) ?_
  exact (lp_nat_Destination_0 r p Q hw) hq
/-! netverify/netverifyref8.Destination -/
def G_r8_Destination : List Ent := []
def b_r8_Destination_0 : ACode := (.seq (.seq (.region [(.mk (some 7) none (.mov (.t 5))), (.mk (some 8) none (.fld 6 (.t 2))), (.mk (some 9) none (.load false 1 (.t 8))), (.mk (some 10) none (.len (.t 9))), (.mk (some 11) none (.bin .lss (.t 7) (.t 10)))] []) (.cond 11 .skip (.exit 0))) (.seq (.block 1 (.seq (.region [(.mk (some 14) none (.fld 6 (.t 2))), (.mk (some 15) none (.load false 1 (.t 14))), (.mk (some 16) none (.mov (.t 5))), (.mk (some 17) none (.ixa 9 (.t 15) (.t 16))), (.mk (some 18) none (.load true 9 (.t 17))), (.mk (some 6) none (.alloc [(.f (.int .i64 0)), (.f (.int .u32 0)), (.f (.int .u32 0)), (.f (.int .i64 0)), (.f (.int .i64 0)), (.f (.int .i64 0)), (.f (.str [])), (.f (.int .u32 0)), (.f (.int .u32 0))])), (.mk none none (.store 9 (.t 6) (.t 18)))] []) (.seq (.seq (.region [(.mk (some 19) none (.fld 0 (.t 6))), (.mk (some 20) none (.load false 1 (.t 19))), (.mk (some 21) none (.bin .eql (.t 20) (.c (.f (.int .i64 1))))), (.mk (some 22) none (.mov (.t 21))), (.mk (some 23) (some (22, true)) (.fld 2 (.t 6))), (.mk (some 24) (some (22, true)) (.load false 1 (.t 23))), (.mk (some 25) (some (22, true)) (.fld 1 (.t 3))), (.mk (some 26) (some (22, true)) (.load false 1 (.t 25))), (.mk (some 27) (some (22, true)) (.bin .eql (.t 24) (.t 26))), (.mk (some 28) none (.pick 22 (.t 27) (.c (.f (.bool false)))))] []) (.cond 28 (.seq (.region [(.mk (some 29) none (.fld 1 (.t 6))), (.mk (some 30) none (.load false 1 (.t 29))), (.mk (some 31) none (.fld 1 (.t 3))), (.mk none none (.store 1 (.t 31) (.t 30)))] []) (.seq (.region [(.mk (some 32) none (.load true 5 (.t 3))), (.mk none none (.store 5 (.t 4) (.t 32)))] []) .ret)) .skip)) (.seq (.region [(.mk (some 33) none (.fld 0 (.t 6))), (.mk (some 34) none (.load false 1 (.t 33))), (.mk (some 35) none (.bin .eql (.t 34) (.c (.f (.int .i64 3))))), (.mk (some 36) none (.mov (.t 35))), (.mk (some 37) (some (36, true)) (.fld 2 (.t 6))), (.mk (some 38) (some (36, true)) (.load false 1 (.t 37))), (.mk (some 39) (some (36, true)) (.fld 1 (.t 3))), (.mk (some 40) (some (36, true)) (.load false 1 (.t 39))), (.mk (some 41) (some (36, true)) (.bin .eql (.t 38) (.t 40))), (.mk (some 42) none (.pick 36 (.t 41) (.c (.f (.bool false))))), (.mk (some 43) none (.mov (.t 42))), (.mk (some 44) (some (43, true)) (.fld 3 (.t 6))), (.mk (some 45) (some (43, true)) (.load false 1 (.t 44))), (.mk (some 46) (some (43, true)) (.fld 2 (.t 3))), (.mk (some 47) (some (43, true)) (.load false 1 (.t 46))), (.mk (some 48) (some (43, true)) (.bin .eql (.t 45) (.t 47))), (.mk (some 49) none (.pick 43 (.t 48) (.c (.f (.bool false))))), (.mk (some 50) none (.mov (.t 49))), (.mk (some 51) (some (50, true)) (.fld 5 (.t 6))), (.mk (some 52) (some (50, true)) (.load false 1 (.t 51))), (.mk (some 53) (some (50, true)) (.fld 4 (.t 3))), (.mk (some 54) (some (50, true)) (.load false 1 (.t 53))), (.mk (some 55) (some (50, true)) (.bin .eql (.t 52) (.t 54))), (.mk (some 56) none (.pick 50 (.t 55) (.c (.f (.bool false)))))] []) (.cond 56 (.seq (.region [(.mk (some 57) none (.fld 1 (.t 6))), (.mk (some 58) none (.load false 1 (.t 57))), (.mk (some 59) none (.fld 1 (.t 3))), (.mk none none (.store 1 (.t 59) (.t 58)))] []) (.seq (.region [(.mk (some 60) none (.fld 4 (.t 6))), (.mk (some 61) none (.load false 1 (.t 60))), (.mk (some 62) none (.fld 4 (.t 3))), (.mk none none (.store 1 (.t 62) (.t 61)))] []) (.seq (.region [(.mk (some 63) none (.load true 5 (.t 3))), (.mk none none (.store 5 (.t 4) (.t 63)))] []) .ret))) .skip))))) (.region [(.mk (some 12) none (.mov (.t 5))), (.mk (some 13) none (.bin .add (.t 12) (.c (.f (.int .i64 1))))), (.mk (some 5) none (.mov (.t 13)))] [])))
def r_r8_Destination_0 : ACode := (.seq (.region [(.mk (some 64) none (.load true 5 (.t 3))), (.mk none none (.store 5 (.t 4) (.t 64)))] []) .ret)
def c_r8_Destination : AFunc := AFunc.mk 65 2 [(.cell 4 true 5)] (.seq (.region [(.mk (some 2) none (.box (.t 0))), (.mk (some 3) none (.box (.t 1))), (.mk (some 4) none (.alloc [(.f (.int .u32 0)), (.f (.int .u32 0)), (.f (.int .i64 0)), (.f (.int .i64 0)), (.f (.int .i64 0))]))] []) (.seq (.seq (.region [(.mk (some 5) none (.mov (.c (.f (.int .i64 0)))))] []) (.block 0 (.loop 0 [(2, none), (3, none), (4, none), (5, none)] b_r8_Destination_0))) r_r8_Destination_0))
def tb_r8_Destination : Tbl
  | 0 => ([(2, none), (3, none), (4, none), (5, none)], b_r8_Destination_0)
  | _ => ([], .skip)
theorem ok_r8_Destination : compF Try.prog Try.f11 = some c_r8_Destination.strip := by kernel_rfl
theorem tk_r8_Destination : TblOk tb_r8_Destination c_r8_Destination.body := ⟨trivial, ⟨⟨trivial, ⟨rfl, ⟨⟨trivial, ⟨trivial, trivial⟩⟩, ⟨⟨trivial, ⟨⟨trivial, ⟨⟨trivial, ⟨trivial, trivial⟩⟩, trivial⟩⟩, ⟨trivial, ⟨⟨trivial, ⟨trivial, ⟨trivial, trivial⟩⟩⟩, trivial⟩⟩⟩⟩, trivial⟩⟩⟩⟩, ⟨trivial, trivial⟩⟩⟩
def k_r8_Destination_0 (Q : PacketT × Unit → Prop) : K := (kBlock 0 (kSeq (evC G_r8_Destination (Lfp G_r8_Destination tb_r8_Destination) r_r8_Destination_0) (kDone c_r8_Destination (dq e_r8_Destination.R Q))))
def s_r8_Destination_0 (r : RouterT) (p : PacketT) (v0 : Int) : St := ⟨[(2, [], .ptr 0 0), (3, [], .ptr 1 0), (4, [], .ptr 2 0), (5, [], .f (.int .i64 v0))], [.box [.f (.str r.1), .f (.int .i64 r.2.1), .f (.fs InterfaceS r.2.2.1), .f (.fs PrefixListS r.2.2.2.1), .f (.fs RouteMapS r.2.2.2.2.1), .f (.fs ACLS r.2.2.2.2.2.1), .f (.fs TranslationS r.2.2.2.2.2.2.1), .f (.fs StaticRouteS r.2.2.2.2.2.2.2.1), .f (.bool r.2.2.2.2.2.2.2.2.1), .f (.int .i64 r.2.2.2.2.2.2.2.2.2.1), .f (.fs AreaRangeS r.2.2.2.2.2.2.2.2.2.2.1), .f (.fs RedistS r.2.2.2.2.2.2.2.2.2.2.2.1), .f (.bool r.2.2.2.2.2.2.2.2.2.2.2.2.1), .f (.int .i64 r.2.2.2.2.2.2.2.2.2.2.2.2.2.1), .f (.str r.2.2.2.2.2.2.2.2.2.2.2.2.2.2.1), .f (.str r.2.2.2.2.2.2.2.2.2.2.2.2.2.2.2.1), .f (.fs RedistS r.2.2.2.2.2.2.2.2.2.2.2.2.2.2.2.2.1), .f (.bool r.2.2.2.2.2.2.2.2.2.2.2.2.2.2.2.2.2.1), .f (.int .i64 r.2.2.2.2.2.2.2.2.2.2.2.2.2.2.2.2.2.2.1), .f (.int .i64 r.2.2.2.2.2.2.2.2.2.2.2.2.2.2.2.2.2.2.2.1), .f (.fs NeighborS r.2.2.2.2.2.2.2.2.2.2.2.2.2.2.2.2.2.2.2.2.1), .f (.fs PrefixS r.2.2.2.2.2.2.2.2.2.2.2.2.2.2.2.2.2.2.2.2.2.1), .f (.fs AggregateS r.2.2.2.2.2.2.2.2.2.2.2.2.2.2.2.2.2.2.2.2.2.2.1), .f (.fs ConditionS r.2.2.2.2.2.2.2.2.2.2.2.2.2.2.2.2.2.2.2.2.2.2.2.1), .f (.fs RedistS r.2.2.2.2.2.2.2.2.2.2.2.2.2.2.2.2.2.2.2.2.2.2.2.2.1)], .box [.f (.int .u32 p.1), .f (.int .u32 p.2.1), .f (.int .i64 p.2.2.1), .f (.int .i64 p.2.2.2.1), .f (.int .i64 p.2.2.2.2.1)], .box [.f (.int .u32 0), .f (.int .u32 0), .f (.int .i64 0), .f (.int .i64 0), .f (.int .i64 0)]]⟩
def L_r8_Destination_0 (r : RouterT) (p : PacketT) (v0 : Int) (Q : PacketT × Unit → Prop) : Prop := Lfp G_r8_Destination tb_r8_Destination 0 (s_r8_Destination_0 r p v0) (k_r8_Destination_0 Q)
theorem in_r8_Destination (r : RouterT) (p : PacketT) (Q : PacketT × Unit → Prop) : evF G_r8_Destination (Lfp G_r8_Destination tb_r8_Destination) c_r8_Destination (VSs.enc e_r8_Destination.A (r, p, ())) (dq e_r8_Destination.R Q) = (
  L_r8_Destination_0 r p 0 Q) := by kernel_rfl
theorem rd_r8_Destination_0 (r : RouterT) (p : PacketT) (v0 : Int) (Q : PacketT × Unit → Prop) (h :
  cond (decide (v0 < (r.2.2.2.2.2.2.1.length : Int)))
  (cond (okIx v0 (r.2.2.2.2.2.2.1.length : Int))
    (cond (((List.getD r.2.2.2.2.2.2.1 (Int.toNat v0) TranslationD).1 == 1) && ((List.getD r.2.2.2.2.2.2.1 (Int.toNat v0) TranslationD).2.2.1 == p.2.1))
      (Q ((p.1, (List.getD r.2.2.2.2.2.2.1 (Int.toNat v0) TranslationD).2.1, p.2.2.1, p.2.2.2.1, p.2.2.2.2.1, ()), ()))
      (cond (((((List.getD r.2.2.2.2.2.2.1 (Int.toNat v0) TranslationD).1 == 3) && ((List.getD r.2.2.2.2.2.2.1 (Int.toNat v0) TranslationD).2.2.1 == p.2.1)) && ((List.getD r.2.2.2.2.2.2.1 (Int.toNat v0) TranslationD).2.2.2.1 == p.2.2.1)) && ((List.getD r.2.2.2.2.2.2.1 (Int.toNat v0) TranslationD).2.2.2.2.2.1 == p.2.2.2.2.1))
        (Q ((p.1, (List.getD r.2.2.2.2.2.2.1 (Int.toNat v0) TranslationD).2.1, p.2.2.1, p.2.2.2.1, (List.getD r.2.2.2.2.2.2.1 (Int.toNat v0) TranslationD).2.2.2.2.1, ()), ()))
        (L_r8_Destination_0 r p (IntKind.wrap .i64 (v0 + 1)) Q)))
    False)
  (Q (p, ()))) : L_r8_Destination_0 r p v0 Q := Lfp.step ((by kernel_rfl : evC G_r8_Destination (Lfp G_r8_Destination tb_r8_Destination) (tb_r8_Destination 0).2 (s_r8_Destination_0 r p v0) (kLoop (tb_r8_Destination 0).1 (Lfp G_r8_Destination tb_r8_Destination 0) (k_r8_Destination_0 Q)) = (
  cond (decide (v0 < (r.2.2.2.2.2.2.1.length : Int)))
  (cond (okIx v0 (r.2.2.2.2.2.2.1.length : Int))
    (cond (((List.getD r.2.2.2.2.2.2.1 (Int.toNat v0) TranslationD).1 == 1) && ((List.getD r.2.2.2.2.2.2.1 (Int.toNat v0) TranslationD).2.2.1 == p.2.1))
      (Q ((p.1, (List.getD r.2.2.2.2.2.2.1 (Int.toNat v0) TranslationD).2.1, p.2.2.1, p.2.2.2.1, p.2.2.2.2.1, ()), ()))
      (cond (((((List.getD r.2.2.2.2.2.2.1 (Int.toNat v0) TranslationD).1 == 3) && ((List.getD r.2.2.2.2.2.2.1 (Int.toNat v0) TranslationD).2.2.1 == p.2.1)) && ((List.getD r.2.2.2.2.2.2.1 (Int.toNat v0) TranslationD).2.2.2.1 == p.2.2.1)) && ((List.getD r.2.2.2.2.2.2.1 (Int.toNat v0) TranslationD).2.2.2.2.2.1 == p.2.2.2.2.1))
        (Q ((p.1, (List.getD r.2.2.2.2.2.2.1 (Int.toNat v0) TranslationD).2.1, p.2.2.1, p.2.2.2.1, (List.getD r.2.2.2.2.2.2.1 (Int.toNat v0) TranslationD).2.2.2.2.1, ()), ()))
        (L_r8_Destination_0 r p (IntKind.wrap .i64 (v0 + 1)) Q)))
    False)
  (Q (p, ())))).symm ▸ h)
theorem lp_r8_Destination_0 (r : RouterT) (p : PacketT) (Q : PacketT × Unit → Prop) (hw : VSs.wf e_r8_Destination.A (r, p, ()))  : (fun y : PacketT => Q (y, ())) (S_r8_Destination_0 r p) → L_r8_Destination_0 r p 0 Q := by
  have _ := hw
  let FF := (fun y : PacketT => Q (y, ()))
  refine upV_loop (F := FF) (k := .i64) (L := (fun c0 : Int => L_r8_Destination_0 r p c0 Q)) (wrap_i64n (show _ ≤ _ from ((((((((hw.1).2).2).2).2).2).2).1).1)) (fun c0 hc0 hF => rd_r8_Destination_0 r p (c0 : Int) Q (cond_ge (n := r.2.2.2.2.2.2.1.length) rfl hc0 (id hF))) (fun c0 _ hc0 next0 hn0 hF => rd_r8_Destination_0 r p (c0 : Int) Q (cond_lt (n := r.2.2.2.2.2.2.1.length) rfl hc0 ((vc_f (F := FF) (by first | ((repeat' (first | rfl | exact nn_d64 _ | exact okIx_nat hc0 | refine and_t ?_ ?_ | refine or_l ?_)); done) | (simp [-List.getD_eq_getElem?_getD, okIx_nat hc0, nn_u64, nn_u32]; done) | (have hry : roomy = 1048576 := rfl; simp [-List.getD_eq_getElem?_getD, okIx, okSlc, okApp, len_slcL, len_segL] <;> omega)) /- 1 -/ (cond_f (F := FF) (fun h0 => id) (fun h0 => (cond_f (F := FF) (fun h1 => id) (fun h1 => hn0))))) hF)))
theorem ct_r8_Destination (r : RouterT) (p : PacketT) (hw : VSs.wf e_r8_Destination.A (r, p, ())) (Q : PacketT × Unit → Prop) (hq : Q (e_r8_Destination.g (r, p, ()))) : EvF G_r8_Destination tb_r8_Destination c_r8_Destination (VSs.enc e_r8_Destination.A (r, p, ())) (dq e_r8_Destination.R Q) := by
  have _ := hw
  let FF := (fun y : PacketT => Q (y, ()))
  refine EvF.of (in_r8_Destination r p Q) ?_
  exact (lp_r8_Destination_0 r p Q hw) hq
/-! netverify/netverifykeep.Packets -/
def G_keep_Packets : List Ent := []
def b_keep_Packets_0 : ACode := (.seq (.seq (.region [(.mk (some 11) none (.mov (.t 5))), (.mk (some 12) none (.mov (.t 0))), (.mk (some 13) none (.len (.t 12))), (.mk (some 14) none (.bin .lss (.t 11) (.t 13)))] []) (.cond 14 .skip (.exit 0))) (.seq (.block 1 (.seq (.region [(.mk (some 17) none (.mov (.t 0))), (.mk (some 18) none (.mov (.t 5))), (.mk (some 19) none (.ixa 5 (.t 17) (.t 18))), (.mk (some 20) none (.load true 5 (.t 19))), (.mk (some 21) none (.mov (.t 1))), (.mk (some 22) none (.mov (.t 5))), (.mk (some 23) none (.ixa 5 (.t 21) (.t 22))), (.mk (some 24) none (.load true 5 (.t 23))), (.mk (some 25) none (.eqa true [(0, 1), (1, 1), (2, 1), (3, 1), (4, 1)] (.t 20) (.t 24)))] []) (.cond 25 (.seq (.region [(.mk (some 4) none (.mov (.c (.f (.bool false)))))] []) .ret) .skip))) (.region [(.mk (some 15) none (.mov (.t 5))), (.mk (some 16) none (.bin .add (.t 15) (.c (.f (.int .i64 1))))), (.mk (some 5) none (.mov (.t 16)))] [])))
def r_keep_Packets_0 : ACode := (.seq (.region [(.mk (some 4) none (.mov (.c (.f (.bool true)))))] []) .ret)
def c_keep_Packets : AFunc := AFunc.mk 26 2 [(.t 4)] (.seq (.region [(.mk (some 4) none (.mov (.c (.f (.bool false)))))] []) (.seq (.seq (.region [(.mk (some 6) none (.mov (.t 0))), (.mk (some 7) none (.len (.t 6))), (.mk (some 8) none (.mov (.t 1))), (.mk (some 9) none (.len (.t 8))), (.mk (some 10) none (.bin .neq (.t 7) (.t 9)))] []) (.cond 10 (.seq (.region [(.mk (some 4) none (.mov (.c (.f (.bool false)))))] []) .ret) .skip)) (.seq (.seq (.region [(.mk (some 5) none (.mov (.c (.f (.int .i64 0)))))] []) (.block 0 (.loop 0 [(0, none), (1, none), (5, none)] b_keep_Packets_0))) r_keep_Packets_0)))
def tb_keep_Packets : Tbl
  | 0 => ([(0, none), (1, none), (5, none)], b_keep_Packets_0)
  | _ => ([], .skip)
theorem ok_keep_Packets : compF Try.prog Try.f12 = some c_keep_Packets.strip := by kernel_rfl
theorem tk_keep_Packets : TblOk tb_keep_Packets c_keep_Packets.body := ⟨trivial, ⟨⟨trivial, ⟨⟨trivial, trivial⟩, trivial⟩⟩, ⟨⟨trivial, ⟨rfl, ⟨⟨trivial, ⟨trivial, trivial⟩⟩, ⟨⟨trivial, ⟨⟨trivial, trivial⟩, trivial⟩⟩, trivial⟩⟩⟩⟩, ⟨trivial, trivial⟩⟩⟩⟩
def k_keep_Packets_0 (Q : Bool × Unit → Prop) : K := (kBlock 0 (kSeq (evC G_keep_Packets (Lfp G_keep_Packets tb_keep_Packets) r_keep_Packets_0) (kDone c_keep_Packets (dq e_keep_Packets.R Q))))
def s_keep_Packets_0 (a : List PacketT) (b : List PacketT) (v0 : Int) : St := ⟨[(0, [], .f (.fs PacketS a)), (1, [], .f (.fs PacketS b)), (5, [], .f (.int .i64 v0))], []⟩
def L_keep_Packets_0 (a : List PacketT) (b : List PacketT) (v0 : Int) (Q : Bool × Unit → Prop) : Prop := Lfp G_keep_Packets tb_keep_Packets 0 (s_keep_Packets_0 a b v0) (k_keep_Packets_0 Q)
theorem in_keep_Packets (a : List PacketT) (b : List PacketT) (Q : Bool × Unit → Prop) : evF G_keep_Packets (Lfp G_keep_Packets tb_keep_Packets) c_keep_Packets (VSs.enc e_keep_Packets.A (a, b, ())) (dq e_keep_Packets.R Q) = (
  cond ((a.length : Int) != (b.length : Int))
  (Q (false, ()))
  (L_keep_Packets_0 a b 0 Q)) := by kernel_rfl
theorem rd_keep_Packets_0 (a : List PacketT) (b : List PacketT) (v0 : Int) (Q : Bool × Unit → Prop) (h :
  cond (decide (v0 < (a.length : Int)))
  (cond ((okIx v0 (a.length : Int)) && (okIx v0 (b.length : Int)))
    (cond (!(((List.getD a (Int.toNat v0) PacketD).1 == (List.getD b (Int.toNat v0) PacketD).1) && (((List.getD a (Int.toNat v0) PacketD).2.1 == (List.getD b (Int.toNat v0) PacketD).2.1) && (((List.getD a (Int.toNat v0) PacketD).2.2.1 == (List.getD b (Int.toNat v0) PacketD).2.2.1) && (((List.getD a (Int.toNat v0) PacketD).2.2.2.1 == (List.getD b (Int.toNat v0) PacketD).2.2.2.1) && ((List.getD a (Int.toNat v0) PacketD).2.2.2.2.1 == (List.getD b (Int.toNat v0) PacketD).2.2.2.2.1))))))
      (Q (false, ()))
      (L_keep_Packets_0 a b (IntKind.wrap .i64 (v0 + 1)) Q))
    False)
  (Q (true, ()))) : L_keep_Packets_0 a b v0 Q := Lfp.step ((by kernel_rfl : evC G_keep_Packets (Lfp G_keep_Packets tb_keep_Packets) (tb_keep_Packets 0).2 (s_keep_Packets_0 a b v0) (kLoop (tb_keep_Packets 0).1 (Lfp G_keep_Packets tb_keep_Packets 0) (k_keep_Packets_0 Q)) = (
  cond (decide (v0 < (a.length : Int)))
  (cond ((okIx v0 (a.length : Int)) && (okIx v0 (b.length : Int)))
    (cond (!(((List.getD a (Int.toNat v0) PacketD).1 == (List.getD b (Int.toNat v0) PacketD).1) && (((List.getD a (Int.toNat v0) PacketD).2.1 == (List.getD b (Int.toNat v0) PacketD).2.1) && (((List.getD a (Int.toNat v0) PacketD).2.2.1 == (List.getD b (Int.toNat v0) PacketD).2.2.1) && (((List.getD a (Int.toNat v0) PacketD).2.2.2.1 == (List.getD b (Int.toNat v0) PacketD).2.2.2.1) && ((List.getD a (Int.toNat v0) PacketD).2.2.2.2.1 == (List.getD b (Int.toNat v0) PacketD).2.2.2.2.1))))))
      (Q (false, ()))
      (L_keep_Packets_0 a b (IntKind.wrap .i64 (v0 + 1)) Q))
    False)
  (Q (true, ())))).symm ▸ h)
theorem lp_keep_Packets_0 (a : List PacketT) (b : List PacketT) (Q : Bool × Unit → Prop) (hw : VSs.wf e_keep_Packets.A (a, b, ()))  (g0 : ((a.length : Int) != (b.length : Int)) = false) : (fun y : Bool => Q (y, ())) (S_keep_Packets_0 a b) → L_keep_Packets_0 a b 0 Q := by
  have _ := hw
  have _ := g0
  let FF := (fun y : Bool => Q (y, ()))
  refine upV_loop (F := FF) (k := .i64) (L := (fun c0 : Int => L_keep_Packets_0 a b c0 Q)) (wrap_i64n (show _ ≤ _ from (hw.1).1)) (fun c0 hc0 hF => rd_keep_Packets_0 a b (c0 : Int) Q (cond_ge (n := a.length) rfl hc0 (id hF))) (fun c0 _ hc0 next0 hn0 hF => rd_keep_Packets_0 a b (c0 : Int) Q (cond_lt (n := a.length) rfl hc0 ((vc_f (F := FF) (by first | ((repeat' (first | rfl | exact nn_d64 _ | exact okIx_nat hc0 | refine and_t ?_ ?_ | refine or_l ?_)); done) | (simp [-List.getD_eq_getElem?_getD, okIx_nat hc0, nn_u64, nn_u32]; done) | (simp [-List.getD_eq_getElem?_getD, okIx_nat hc0, nn_u64, nn_u32, g0]; done) | (have hry : roomy = 1048576 := rfl; simp [-List.getD_eq_getElem?_getD, okIx, okSlc, okApp, len_slcL, len_segL] at g0 ⊢ <;> omega)) /- 1 -/ (cond_f (F := FF) (fun h1 => id) (fun h1 => hn0))) hF)))
theorem ct_keep_Packets (a : List PacketT) (b : List PacketT) (hw : VSs.wf e_keep_Packets.A (a, b, ())) (Q : Bool × Unit → Prop) (hq : Q (e_keep_Packets.g (a, b, ()))) : EvF G_keep_Packets tb_keep_Packets c_keep_Packets (VSs.enc e_keep_Packets.A (a, b, ())) (dq e_keep_Packets.R Q) := by
  have _ := hw
  let FF := (fun y : Bool => Q (y, ()))
  refine EvF.of (in_keep_Packets a b Q) ?_
  exact (cond_f (F := FF) (fun h0 => id) (fun h0 => (lp_keep_Packets_0 a b Q hw h0))) hq
/-! netverify/model.ACL$1 -/
def G_model_ACL_1 : List Ent := []
def c_model_ACL_1 : AFunc := AFunc.mk 8 1 [(.t 3)] (.seq (.region [(.mk (some 2) none (.box (.t 0))), (.mk (some 3) none (.mov (.c (.f (.bool false)))))] []) (.seq (.region [(.mk (some 4) none (.fld 0 (.t 2))), (.mk (some 5) none (.load false 1 (.t 4))), (.mk (some 6) none (.load false 1 (.t 1))), (.mk (some 7) none (.bin .eql (.t 5) (.t 6))), (.mk (some 3) none (.mov (.t 7)))] []) .ret))
def tb_model_ACL_1 : Tbl := fun _ => ([], .skip)
theorem ok_model_ACL_1 : compF Try.prog Try.f52 = some c_model_ACL_1.strip := by kernel_rfl
theorem tk_model_ACL_1 : TblOk tb_model_ACL_1 c_model_ACL_1.body := ⟨trivial, ⟨trivial, trivial⟩⟩
theorem in_model_ACL_1 (x0 : ACLT) (c1 : StrT) (Q : Bool × Unit → Prop) : evF G_model_ACL_1 (Lfp G_model_ACL_1 tb_model_ACL_1) c_model_ACL_1 (VSs.enc e_model_ACL_1.A (x0, c1, ())) (dq e_model_ACL_1.R Q) = (
  Q ((x0.1 == c1.1), ())) := by kernel_rfl
theorem au_model_ACL_1 (x0 : ACLT) (c1 : StrT) (Q : Bool × Unit → Prop) : evF G_model_ACL_1 (Lfp G_model_ACL_1 tb_model_ACL_1) c_model_ACL_1 (VSs.enc e_model_ACL_1.A (x0, c1, ())) (dq e_model_ACL_1.R Q) = Q (e_model_ACL_1.g (x0, c1, ())) := (in_model_ACL_1 x0 c1 Q).trans rfl
/-! slices.IndexFunc(()netverify/api.ACL,netverify/api.ACL) -/
def G_slices_IndexFunc_ACL : List Ent := [e_model_ACL_1]
def b_slices_IndexFunc_ACL_0 : ACode := (.seq (.region [(.mk (some 9) none (.bin .lss (.t 8) (.t 7)))] []) (.seq (.cond 9 .skip (.exit 0)) (.seq (.block 1 (.seq (.region [(.mk (some 10) none (.mov (.t 8))), (.mk (some 5) none (.mov (.t 10)))] []) (.seq (.region [(.mk (some 11) none (.mov (.t 1))), (.mk (some 12) none (.mov (.t 0))), (.mk (some 13) none (.mov (.t 5))), (.mk (some 14) none (.ixa 2 (.t 12) (.t 13))), (.mk (some 15) none (.load true 2 (.t 14))), (.mk (some 16) none (.callv (.t 11) [(.t 15)]))] []) (.cond 16 (.seq (.region [(.mk (some 17) none (.mov (.t 5))), (.mk (some 4) none (.mov (.t 17)))] []) .ret) .skip)))) (.region [(.mk (some 18) none (.bin .add (.t 8) (.c (.f (.int .i64 1))))), (.mk (some 8) none (.mov (.t 18)))] []))))
def r_slices_IndexFunc_ACL_0 : ACode := (.seq (.region [(.mk (some 4) none (.mov (.c (.f (.int .i64 (-1))))))] []) .ret)
def c_slices_IndexFunc_ACL : AFunc := AFunc.mk 19 2 [(.t 4)] (.seq (.region [(.mk (some 4) none (.mov (.c (.f (.int .i64 0)))))] []) (.seq (.seq (.region [(.mk (some 6) none (.mov (.t 0))), (.mk (some 7) none (.len (.t 6))), (.mk (some 8) none (.mov (.c (.f (.int .i64 0)))))] []) (.block 0 (.loop 0 [(0, none), (1, none), (7, none), (8, none)] b_slices_IndexFunc_ACL_0))) r_slices_IndexFunc_ACL_0))
def tb_slices_IndexFunc_ACL : Tbl
  | 0 => ([(0, none), (1, none), (7, none), (8, none)], b_slices_IndexFunc_ACL_0)
  | _ => ([], .skip)
theorem ok_slices_IndexFunc_ACL : compF Try.prog Try.f51 = some c_slices_IndexFunc_ACL.strip := by kernel_rfl
theorem tk_slices_IndexFunc_ACL : TblOk tb_slices_IndexFunc_ACL c_slices_IndexFunc_ACL.body := ⟨trivial, ⟨⟨trivial, ⟨rfl, ⟨trivial, ⟨⟨trivial, trivial⟩, ⟨⟨trivial, ⟨trivial, ⟨⟨trivial, trivial⟩, trivial⟩⟩⟩, trivial⟩⟩⟩⟩⟩, ⟨trivial, trivial⟩⟩⟩
def k_slices_IndexFunc_ACL_0 (Q : Int × Unit → Prop) : K := (kBlock 0 (kSeq (evC G_slices_IndexFunc_ACL (Lfp G_slices_IndexFunc_ACL tb_slices_IndexFunc_ACL) r_slices_IndexFunc_ACL_0) (kDone c_slices_IndexFunc_ACL (dq e_slices_IndexFunc_ACL.R Q))))
def s_slices_IndexFunc_ACL_0 (s : List ACLT) (f_0 : List UInt8) (v0 : Int) : St := ⟨[(0, [], .f (.fs ACLS s)), (1, [], .f (.fn 52 [.fpt [.str f_0] 0])), (7, [], .f (.int .i64 (s.length : Int))), (8, [], .f (.int .i64 v0))], []⟩
def L_slices_IndexFunc_ACL_0 (s : List ACLT) (f_0 : List UInt8) (v0 : Int) (Q : Int × Unit → Prop) : Prop := Lfp G_slices_IndexFunc_ACL tb_slices_IndexFunc_ACL 0 (s_slices_IndexFunc_ACL_0 s f_0 v0) (k_slices_IndexFunc_ACL_0 Q)
theorem in_slices_IndexFunc_ACL (s : List ACLT) (f_0 : List UInt8) (Q : Int × Unit → Prop) : evF G_slices_IndexFunc_ACL (Lfp G_slices_IndexFunc_ACL tb_slices_IndexFunc_ACL) c_slices_IndexFunc_ACL (VSs.enc e_slices_IndexFunc_ACL.A (s, ((f_0, ()), ()), ())) (dq e_slices_IndexFunc_ACL.R Q) = (
  L_slices_IndexFunc_ACL_0 s f_0 0 Q) := by kernel_rfl
theorem rd_slices_IndexFunc_ACL_0 (s : List ACLT) (f_0 : List UInt8) (v0 : Int) (Q : Int × Unit → Prop) (h :
  cond (decide (v0 < (s.length : Int)))
  (cond ((okIx v0 (s.length : Int)) && true)
    (cond (g_model_ACL_1 (List.getD s (Int.toNat v0) ACLD) (f_0, ()))
      (Q (v0, ()))
      (L_slices_IndexFunc_ACL_0 s f_0 (IntKind.wrap .i64 (v0 + 1)) Q))
    False)
  (Q ((-1), ()))) : L_slices_IndexFunc_ACL_0 s f_0 v0 Q := Lfp.step ((by kernel_rfl : evC G_slices_IndexFunc_ACL (Lfp G_slices_IndexFunc_ACL tb_slices_IndexFunc_ACL) (tb_slices_IndexFunc_ACL 0).2 (s_slices_IndexFunc_ACL_0 s f_0 v0) (kLoop (tb_slices_IndexFunc_ACL 0).1 (Lfp G_slices_IndexFunc_ACL tb_slices_IndexFunc_ACL 0) (k_slices_IndexFunc_ACL_0 Q)) = (
  cond (decide (v0 < (s.length : Int)))
  (cond ((okIx v0 (s.length : Int)) && true)
    (cond (g_model_ACL_1 (List.getD s (Int.toNat v0) ACLD) (f_0, ()))
      (Q (v0, ()))
      (L_slices_IndexFunc_ACL_0 s f_0 (IntKind.wrap .i64 (v0 + 1)) Q))
    False)
  (Q ((-1), ())))).symm ▸ h)
theorem lp_slices_IndexFunc_ACL_0 (s : List ACLT) (f_0 : List UInt8) (Q : Int × Unit → Prop) (hw : VSs.wf e_slices_IndexFunc_ACL.A (s, ((f_0, ()), ()), ()))  : (fun y : Int => Q (y, ())) (S_slices_IndexFunc_ACL_0 s f_0) → L_slices_IndexFunc_ACL_0 s f_0 0 Q := by
  have _ := hw
  let FF := (fun y : Int => Q (y, ()))
  refine upV_loop (F := FF) (k := .i64) (L := (fun c0 : Int => L_slices_IndexFunc_ACL_0 s f_0 c0 Q)) (wrap_i64n (show _ ≤ _ from (hw.1).1)) (fun c0 hc0 hF => rd_slices_IndexFunc_ACL_0 s f_0 (c0 : Int) Q (cond_ge (n := s.length) rfl hc0 (id hF))) (fun c0 _ hc0 next0 hn0 hF => rd_slices_IndexFunc_ACL_0 s f_0 (c0 : Int) Q (cond_lt (n := s.length) rfl hc0 ((vc_f (F := FF) (by first | ((repeat' (first | rfl | exact nn_d64 _ | exact okIx_nat hc0 | refine and_t ?_ ?_ | refine or_l ?_)); done) | (simp [-List.getD_eq_getElem?_getD, okIx_nat hc0, nn_u64, nn_u32]; done) | (have hry : roomy = 1048576 := rfl; simp [-List.getD_eq_getElem?_getD, okIx, okSlc, okApp, len_slcL, len_segL] <;> omega)) /- 1 -/ (cond_f (F := FF) (fun h0 => id) (fun h0 => hn0))) hF)))
theorem ct_slices_IndexFunc_ACL (s : List ACLT) (f_0 : List UInt8) (hw : VSs.wf e_slices_IndexFunc_ACL.A (s, ((f_0, ()), ()), ())) (Q : Int × Unit → Prop) (hq : Q (e_slices_IndexFunc_ACL.g (s, ((f_0, ()), ()), ()))) : EvF G_slices_IndexFunc_ACL tb_slices_IndexFunc_ACL c_slices_IndexFunc_ACL (VSs.enc e_slices_IndexFunc_ACL.A (s, ((f_0, ()), ()), ())) (dq e_slices_IndexFunc_ACL.R Q) := by
  have _ := hw
  let FF := (fun y : Int => Q (y, ()))
  refine EvF.of (in_slices_IndexFunc_ACL s f_0 Q) ?_
  exact (lp_slices_IndexFunc_ACL_0 s f_0 Q hw) hq
/-! netverify/model.ACL -/
def G_model_ACL : List Ent := [e_slices_IndexFunc_ACL]
def c_model_ACL : AFunc := AFunc.mk 9 2 [(.t 4)] (.seq (.region [(.mk (some 2) none (.box (.t 0))), (.mk (some 3) none (.box (.t 1))), (.mk (some 4) none (.mov (.c (.f (.int .i64 0)))))] []) (.seq (.region [(.mk (some 5) none (.fld 5 (.t 2))), (.mk (some 6) none (.load false 1 (.t 5))), (.mk (some 7) none (.mkfn 52 [(.t 3)])), (.mk (some 8) none (.call 51 [(.t 6), (.t 7)])), (.mk (some 4) none (.mov (.t 8)))] []) .ret))
def tb_model_ACL : Tbl := fun _ => ([], .skip)
theorem ok_model_ACL : compF Try.prog Try.f35 = some c_model_ACL.strip := by kernel_rfl
theorem tk_model_ACL : TblOk tb_model_ACL c_model_ACL.body := ⟨trivial, ⟨trivial, trivial⟩⟩
theorem in_model_ACL (r : RouterT) (name : List UInt8) (Q : Int × Unit → Prop) : evF G_model_ACL (Lfp G_model_ACL tb_model_ACL) c_model_ACL (VSs.enc e_model_ACL.A (r, name, ())) (dq e_model_ACL.R Q) = (
  Q ((g_slices_IndexFunc_ACL r.2.2.2.2.2.1 name), ())) := by kernel_rfl
theorem au_model_ACL (r : RouterT) (name : List UInt8) (Q : Int × Unit → Prop) : evF G_model_ACL (Lfp G_model_ACL tb_model_ACL) c_model_ACL (VSs.enc e_model_ACL.A (r, name, ())) (dq e_model_ACL.R Q) = Q (e_model_ACL.g (r, name, ())) := (in_model_ACL r name Q).trans rfl
/-! netverify/acl.MatchesAddress -/
def G_acl_MatchesAddress : List Ent := []
def c_acl_MatchesAddress : AFunc := AFunc.mk 13 2 [(.t 4)] (.seq (.region [(.mk (some 2) none (.box (.t 0))), (.mk (some 4) none (.mov (.c (.f (.bool false)))))] []) (.seq (.region [(.mk (some 5) none (.mov (.t 1))), (.mk (some 6) none (.fld 0 (.t 2))), (.mk (some 7) none (.load false 1 (.t 6))), (.mk (some 8) none (.bin .xor (.t 5) (.t 7))), (.mk (some 9) none (.fld 1 (.t 2))), (.mk (some 10) none (.load false 1 (.t 9))), (.mk (some 11) none (.bin .andNot (.t 8) (.t 10))), (.mk (some 12) none (.bin .eql (.t 11) (.c (.f (.int .u32 0))))), (.mk (some 4) none (.mov (.t 12)))] []) .ret))
def tb_acl_MatchesAddress : Tbl := fun _ => ([], .skip)
theorem ok_acl_MatchesAddress : compF Try.prog Try.f60 = some c_acl_MatchesAddress.strip := by kernel_rfl
theorem tk_acl_MatchesAddress : TblOk tb_acl_MatchesAddress c_acl_MatchesAddress.body := ⟨trivial, ⟨trivial, trivial⟩⟩
theorem in_acl_MatchesAddress (w : WildcardT) (a : Int) (Q : Bool × Unit → Prop) : evF G_acl_MatchesAddress (Lfp G_acl_MatchesAddress tb_acl_MatchesAddress) c_acl_MatchesAddress (VSs.enc e_acl_MatchesAddress.A (w, a, ())) (dq e_acl_MatchesAddress.R Q) = (
  Q (((iandnot .u32 (ixor .u32 a w.1) w.2.1) == 0), ())) := by kernel_rfl
theorem au_acl_MatchesAddress (w : WildcardT) (a : Int) (Q : Bool × Unit → Prop) : evF G_acl_MatchesAddress (Lfp G_acl_MatchesAddress tb_acl_MatchesAddress) c_acl_MatchesAddress (VSs.enc e_acl_MatchesAddress.A (w, a, ())) (dq e_acl_MatchesAddress.R Q) = Q (e_acl_MatchesAddress.g (w, a, ())) := (in_acl_MatchesAddress w a Q).trans rfl
/-! netverify/acl.inRange -/
def G_acl_inRange : List Ent := []
def c_acl_inRange : AFunc := AFunc.mk 15 2 [(.t 4)] (.seq (.region [(.mk (some 2) none (.box (.t 0))), (.mk (some 4) none (.mov (.c (.f (.bool false)))))] []) (.seq (.region [(.mk (some 5) none (.fld 0 (.t 2))), (.mk (some 6) none (.load false 1 (.t 5))), (.mk (some 7) none (.mov (.t 1))), (.mk (some 8) none (.bin .leq (.t 6) (.t 7))), (.mk (some 9) none (.mov (.t 8))), (.mk (some 10) (some (9, true)) (.mov (.t 1))), (.mk (some 11) (some (9, true)) (.fld 1 (.t 2))), (.mk (some 12) (some (9, true)) (.load false 1 (.t 11))), (.mk (some 13) (some (9, true)) (.bin .leq (.t 10) (.t 12))), (.mk (some 14) none (.pick 9 (.t 13) (.c (.f (.bool false))))), (.mk (some 4) none (.mov (.t 14)))] []) .ret))
def tb_acl_inRange : Tbl := fun _ => ([], .skip)
theorem ok_acl_inRange : compF Try.prog Try.f61 = some c_acl_inRange.strip := by kernel_rfl
theorem tk_acl_inRange : TblOk tb_acl_inRange c_acl_inRange.body := ⟨trivial, ⟨trivial, trivial⟩⟩
theorem in_acl_inRange (x0 : PortRangeT) (n : Int) (Q : Bool × Unit → Prop) : evF G_acl_inRange (Lfp G_acl_inRange tb_acl_inRange) c_acl_inRange (VSs.enc e_acl_inRange.A (x0, n, ())) (dq e_acl_inRange.R Q) = (
  Q (((decide (x0.1 ≤ n)) && (decide (n ≤ x0.2.1))), ())) := by kernel_rfl
theorem au_acl_inRange (x0 : PortRangeT) (n : Int) (Q : Bool × Unit → Prop) : evF G_acl_inRange (Lfp G_acl_inRange tb_acl_inRange) c_acl_inRange (VSs.enc e_acl_inRange.A (x0, n, ())) (dq e_acl_inRange.R Q) = Q (e_acl_inRange.g (x0, n, ())) := (in_acl_inRange x0 n Q).trans rfl
/-! netverify/acl.Matches -/
def G_acl_Matches : List Ent := [e_acl_MatchesAddress, e_acl_inRange]
def c_acl_Matches : AFunc := AFunc.mk 43 2 [(.t 4)] (.seq (.region [(.mk (some 2) none (.box (.t 0))), (.mk (some 3) none (.box (.t 1))), (.mk (some 4) none (.mov (.c (.f (.bool false)))))] []) (.seq (.region [(.mk (some 5) none (.fld 1 (.t 2))), (.mk (some 6) none (.load false 1 (.t 5))), (.mk (some 7) none (.bin .eql (.t 6) (.c (.f (.int .i64 (-1)))))), (.mk (some 8) none (.mov (.t 7))), (.mk (some 9) (some (8, false)) (.fld 1 (.t 2))), (.mk (some 10) (some (8, false)) (.load false 1 (.t 9))), (.mk (some 11) (some (8, false)) (.fld 2 (.t 3))), (.mk (some 12) (some (8, false)) (.load false 1 (.t 11))), (.mk (some 13) (some (8, false)) (.bin .eql (.t 10) (.t 12))), (.mk (some 14) none (.pick 8 (.c (.f (.bool true))) (.t 13))), (.mk (some 15) none (.mov (.t 14))), (.mk (some 16) (some (15, true)) (.fld 2 (.t 2))), (.mk (some 17) (some (15, true)) (.load true 2 (.t 16))), (.mk (some 18) (some (15, true)) (.fld 0 (.t 3))), (.mk (some 19) (some (15, true)) (.load false 1 (.t 18))), (.mk (some 20) (some (15, true)) (.call 60 [(.t 17), (.t 19)])), (.mk (some 21) none (.pick 15 (.t 20) (.c (.f (.bool false))))), (.mk (some 22) none (.mov (.t 21))), (.mk (some 23) (some (22, true)) (.fld 4 (.t 2))), (.mk (some 24) (some (22, true)) (.load true 2 (.t 23))), (.mk (some 25) (some (22, true)) (.fld 1 (.t 3))), (.mk (some 26) (some (22, true)) (.load false 1 (.t 25))), (.mk (some 27) (some (22, true)) (.call 60 [(.t 24), (.t 26)])), (.mk (some 28) none (.pick 22 (.t 27) (.c (.f (.bool false))))), (.mk (some 29) none (.mov (.t 28))), (.mk (some 30) (some (29, true)) (.fld 6 (.t 2))), (.mk (some 31) (some (29, true)) (.load true 2 (.t 30))), (.mk (some 32) (some (29, true)) (.fld 3 (.t 3))), (.mk (some 33) (some (29, true)) (.load false 1 (.t 32))), (.mk (some 34) (some (29, true)) (.call 61 [(.t 31), (.t 33)])), (.mk (some 35) none (.pick 29 (.t 34) (.c (.f (.bool false))))), (.mk (some 36) none (.mov (.t 35))), (.mk (some 37) (some (36, true)) (.fld 8 (.t 2))), (.mk (some 38) (some (36, true)) (.load true 2 (.t 37))), (.mk (some 39) (some (36, true)) (.fld 4 (.t 3))), (.mk (some 40) (some (36, true)) (.load false 1 (.t 39))), (.mk (some 41) (some (36, true)) (.call 61 [(.t 38), (.t 40)])), (.mk (some 42) none (.pick 36 (.t 41) (.c (.f (.bool false))))), (.mk (some 4) none (.mov (.t 42)))] []) .ret))
def tb_acl_Matches : Tbl := fun _ => ([], .skip)
theorem ok_acl_Matches : compF Try.prog Try.f53 = some c_acl_Matches.strip := by kernel_rfl
theorem tk_acl_Matches : TblOk tb_acl_Matches c_acl_Matches.body := ⟨trivial, ⟨trivial, trivial⟩⟩
theorem in_acl_Matches (x0 : RuleT) (p : PacketT) (Q : Bool × Unit → Prop) : evF G_acl_Matches (Lfp G_acl_Matches tb_acl_Matches) c_acl_Matches (VSs.enc e_acl_Matches.A (x0, p, ())) (dq e_acl_Matches.R Q) = (
  Q (((((((x0.2.1 == (-1)) || (x0.2.1 == p.2.2.1)) && (g_acl_MatchesAddress (x0.2.2.1, x0.2.2.2.1, ()) p.1)) && (g_acl_MatchesAddress (x0.2.2.2.2.1, x0.2.2.2.2.2.1, ()) p.2.1)) && (g_acl_inRange (x0.2.2.2.2.2.2.1, x0.2.2.2.2.2.2.2.1, ()) p.2.2.2.1)) && (g_acl_inRange x0.2.2.2.2.2.2.2.2 p.2.2.2.2.1)), ())) := by kernel_rfl
theorem au_acl_Matches (x0 : RuleT) (p : PacketT) (Q : Bool × Unit → Prop) : evF G_acl_Matches (Lfp G_acl_Matches tb_acl_Matches) c_acl_Matches (VSs.enc e_acl_Matches.A (x0, p, ())) (dq e_acl_Matches.R Q) = Q (e_acl_Matches.g (x0, p, ())) := (in_acl_Matches x0 p Q).trans rfl
/-! netverify/acl.First -/
def G_acl_First : List Ent := [e_acl_Matches]
def b_acl_First_0 : ACode := (.seq (.region [(.mk (some 11) none (.bin .lss (.t 10) (.t 9)))] []) (.seq (.cond 11 .skip (.exit 0)) (.seq (.block 1 (.seq (.region [(.mk (some 12) none (.mov (.t 10))), (.mk (some 13) none (.ixa 10 (.t 8) (.t 10))), (.mk (some 14) none (.load true 10 (.t 13))), (.mk (some 6) none (.alloc [(.f (.bool false)), (.f (.int .i64 0)), (.f (.int .u32 0)), (.f (.int .u32 0)), (.f (.int .u32 0)), (.f (.int .u32 0)), (.f (.int .i64 0)), (.f (.int .i64 0)), (.f (.int .i64 0)), (.f (.int .i64 0))])), (.mk (some 5) none (.mov (.t 12))), (.mk none none (.store 10 (.t 6) (.t 14)))] []) (.seq (.region [(.mk (some 15) none (.load true 10 (.t 6))), (.mk (some 16) none (.load true 5 (.t 3))), (.mk (some 17) none (.call 53 [(.t 15), (.t 16)]))] []) (.cond 17 (.seq (.region [(.mk (some 18) none (.mov (.t 5))), (.mk (some 4) none (.mov (.t 18)))] []) .ret) .skip)))) (.region [(.mk (some 19) none (.bin .add (.t 10) (.c (.f (.int .i64 1))))), (.mk (some 10) none (.mov (.t 19)))] []))))
def r_acl_First_0 : ACode := (.seq (.region [(.mk (some 4) none (.mov (.c (.f (.int .i64 (-1))))))] []) .ret)
def c_acl_First : AFunc := AFunc.mk 20 2 [(.t 4)] (.seq (.region [(.mk (some 2) none (.box (.t 0))), (.mk (some 3) none (.box (.t 1))), (.mk (some 4) none (.mov (.c (.f (.int .i64 0)))))] []) (.seq (.seq (.region [(.mk (some 7) none (.fld 1 (.t 2))), (.mk (some 8) none (.load false 1 (.t 7))), (.mk (some 9) none (.len (.t 8))), (.mk (some 10) none (.mov (.c (.f (.int .i64 0)))))] []) (.block 0 (.loop 0 [(3, none), (8, none), (9, none), (10, none)] b_acl_First_0))) r_acl_First_0))
def tb_acl_First : Tbl
  | 0 => ([(3, none), (8, none), (9, none), (10, none)], b_acl_First_0)
  | _ => ([], .skip)
theorem ok_acl_First : compF Try.prog Try.f36 = some c_acl_First.strip := by kernel_rfl
theorem tk_acl_First : TblOk tb_acl_First c_acl_First.body := ⟨trivial, ⟨⟨trivial, ⟨rfl, ⟨trivial, ⟨⟨trivial, trivial⟩, ⟨⟨trivial, ⟨trivial, ⟨⟨trivial, trivial⟩, trivial⟩⟩⟩, trivial⟩⟩⟩⟩⟩, ⟨trivial, trivial⟩⟩⟩
def k_acl_First_0 (Q : Int × Unit → Prop) : K := (kBlock 0 (kSeq (evC G_acl_First (Lfp G_acl_First tb_acl_First) r_acl_First_0) (kDone c_acl_First (dq e_acl_First.R Q))))
def s_acl_First_0 (l : ACLT) (p : PacketT) (v0 : Int) : St := ⟨[(3, [], .ptr 0 0), (8, [], .f (.fs RuleS l.2.1)), (9, [], .f (.int .i64 (l.2.1.length : Int))), (10, [], .f (.int .i64 v0))], [.box [.f (.int .u32 p.1), .f (.int .u32 p.2.1), .f (.int .i64 p.2.2.1), .f (.int .i64 p.2.2.2.1), .f (.int .i64 p.2.2.2.2.1)]]⟩
def L_acl_First_0 (l : ACLT) (p : PacketT) (v0 : Int) (Q : Int × Unit → Prop) : Prop := Lfp G_acl_First tb_acl_First 0 (s_acl_First_0 l p v0) (k_acl_First_0 Q)
theorem in_acl_First (l : ACLT) (p : PacketT) (Q : Int × Unit → Prop) : evF G_acl_First (Lfp G_acl_First tb_acl_First) c_acl_First (VSs.enc e_acl_First.A (l, p, ())) (dq e_acl_First.R Q) = (
  L_acl_First_0 l p 0 Q) := by kernel_rfl
theorem rd_acl_First_0 (l : ACLT) (p : PacketT) (v0 : Int) (Q : Int × Unit → Prop) (h :
  cond (decide (v0 < (l.2.1.length : Int)))
  (cond (okIx v0 (l.2.1.length : Int))
    (cond (g_acl_Matches (List.getD l.2.1 (Int.toNat v0) RuleD) p)
      (Q (v0, ()))
      (L_acl_First_0 l p (IntKind.wrap .i64 (v0 + 1)) Q))
    False)
  (Q ((-1), ()))) : L_acl_First_0 l p v0 Q := Lfp.step ((by kernel_rfl : evC G_acl_First (Lfp G_acl_First tb_acl_First) (tb_acl_First 0).2 (s_acl_First_0 l p v0) (kLoop (tb_acl_First 0).1 (Lfp G_acl_First tb_acl_First 0) (k_acl_First_0 Q)) = (
  cond (decide (v0 < (l.2.1.length : Int)))
  (cond (okIx v0 (l.2.1.length : Int))
    (cond (g_acl_Matches (List.getD l.2.1 (Int.toNat v0) RuleD) p)
      (Q (v0, ()))
      (L_acl_First_0 l p (IntKind.wrap .i64 (v0 + 1)) Q))
    False)
  (Q ((-1), ())))).symm ▸ h)
theorem lp_acl_First_0 (l : ACLT) (p : PacketT) (Q : Int × Unit → Prop) (hw : VSs.wf e_acl_First.A (l, p, ()))  : (fun y : Int => Q (y, ())) (S_acl_First_0 l p) → L_acl_First_0 l p 0 Q := by
  have _ := hw
  let FF := (fun y : Int => Q (y, ()))
  refine upV_loop (F := FF) (k := .i64) (L := (fun c0 : Int => L_acl_First_0 l p c0 Q)) (wrap_i64n (show _ ≤ _ from (((hw.1).2).1).1)) (fun c0 hc0 hF => rd_acl_First_0 l p (c0 : Int) Q (cond_ge (n := l.2.1.length) rfl hc0 (id hF))) (fun c0 _ hc0 next0 hn0 hF => rd_acl_First_0 l p (c0 : Int) Q (cond_lt (n := l.2.1.length) rfl hc0 ((vc_f (F := FF) (by first | ((repeat' (first | rfl | exact nn_d64 _ | exact okIx_nat hc0 | refine and_t ?_ ?_ | refine or_l ?_)); done) | (simp [-List.getD_eq_getElem?_getD, okIx_nat hc0, nn_u64, nn_u32]; done) | (have hry : roomy = 1048576 := rfl; simp [-List.getD_eq_getElem?_getD, okIx, okSlc, okApp, len_slcL, len_segL] <;> omega)) /- 1 -/ (cond_f (F := FF) (fun h0 => id) (fun h0 => hn0))) hF)))
theorem ct_acl_First (l : ACLT) (p : PacketT) (hw : VSs.wf e_acl_First.A (l, p, ())) (Q : Int × Unit → Prop) (hq : Q (e_acl_First.g (l, p, ()))) : EvF G_acl_First tb_acl_First c_acl_First (VSs.enc e_acl_First.A (l, p, ())) (dq e_acl_First.R Q) := by
  have _ := hw
  let FF := (fun y : Int => Q (y, ()))
  refine EvF.of (in_acl_First l p Q) ?_
  exact (lp_acl_First_0 l p Q hw) hq
/-! netverify/acl.Permits -/
def G_acl_Permits : List Ent := [e_model_ACL, e_acl_First]
def c_acl_Permits : AFunc := AFunc.mk 37 3 [(.t 6)] (.seq (.region [(.mk (some 3) none (.box (.t 0))), (.mk (some 5) none (.box (.t 2))), (.mk (some 6) none (.mov (.c (.f (.bool false)))))] []) (.seq (.seq (.region [(.mk (some 9) none (.mov (.t 1))), (.mk (some 10) none (.bin .eql (.t 9) (.c (.f (.str [])))))] []) (.cond 10 (.seq (.region [(.mk (some 6) none (.mov (.c (.f (.bool true)))))] []) .ret) .skip)) (.seq (.region [(.mk (some 11) none (.load true 25 (.t 3))), (.mk (some 12) none (.mov (.t 1))), (.mk (some 13) none (.call 35 [(.t 11), (.t 12)])), (.mk (some 7) none (.mov (.t 13)))] []) (.seq (.seq (.region [(.mk (some 14) none (.mov (.t 7))), (.mk (some 15) none (.bin .lss (.t 14) (.c (.f (.int .i64 0)))))] []) (.cond 15 (.seq (.region [(.mk (some 6) none (.mov (.c (.f (.bool false)))))] []) .ret) .skip)) (.seq (.region [(.mk (some 16) none (.fld 5 (.t 3))), (.mk (some 17) none (.load false 1 (.t 16))), (.mk (some 18) none (.mov (.t 7))), (.mk (some 19) none (.ixa 2 (.t 17) (.t 18))), (.mk (some 20) none (.load true 2 (.t 19))), (.mk (some 21) none (.load true 5 (.t 5))), (.mk (some 22) none (.call 36 [(.t 20), (.t 21)])), (.mk (some 8) none (.mov (.t 22)))] []) (.seq (.region [(.mk (some 23) none (.mov (.t 8))), (.mk (some 24) none (.bin .geq (.t 23) (.c (.f (.int .i64 0))))), (.mk (some 25) none (.mov (.t 24))), (.mk (some 26) (some (25, true)) (.fld 5 (.t 3))), (.mk (some 27) (some (25, true)) (.load false 1 (.t 26))), (.mk (some 28) (some (25, true)) (.mov (.t 7))), (.mk (some 29) (some (25, true)) (.ixa 2 (.t 27) (.t 28))), (.mk (some 30) (some (25, true)) (.fld 1 (.t 29))), (.mk (some 31) (some (25, true)) (.load false 1 (.t 30))), (.mk (some 32) (some (25, true)) (.mov (.t 8))), (.mk (some 33) (some (25, true)) (.ixa 10 (.t 31) (.t 32))), (.mk (some 34) (some (25, true)) (.fld 0 (.t 33))), (.mk (some 35) (some (25, true)) (.load false 1 (.t 34))), (.mk (some 36) none (.pick 25 (.t 35) (.c (.f (.bool false))))), (.mk (some 6) none (.mov (.t 36)))] []) .ret))))))
def tb_acl_Permits : Tbl := fun _ => ([], .skip)
theorem ok_acl_Permits : compF Try.prog Try.f21 = some c_acl_Permits.strip := by kernel_rfl
theorem tk_acl_Permits : TblOk tb_acl_Permits c_acl_Permits.body := ⟨trivial, ⟨⟨trivial, ⟨⟨trivial, trivial⟩, trivial⟩⟩, ⟨trivial, ⟨⟨trivial, ⟨⟨trivial, trivial⟩, trivial⟩⟩, ⟨trivial, ⟨trivial, trivial⟩⟩⟩⟩⟩⟩
theorem in_acl_Permits (r : RouterT) (name : List UInt8) (p : PacketT) (Q : Bool × Unit → Prop) : evF G_acl_Permits (Lfp G_acl_Permits tb_acl_Permits) c_acl_Permits (VSs.enc e_acl_Permits.A (r, name, p, ())) (dq e_acl_Permits.R Q) = (
  cond (name == [])
  (Q (true, ()))
  (cond (decide ((g_model_ACL r name) < 0))
    (Q (false, ()))
    (cond ((okIx (g_model_ACL r name) (r.2.2.2.2.2.1.length : Int)) && true)
      (cond (((okIx (g_model_ACL r name) (r.2.2.2.2.2.1.length : Int)) || (!(((decide ((g_acl_First (List.getD r.2.2.2.2.2.1 (Int.toNat (g_model_ACL r name)) ACLD) p) ≥ 0)) == true) && true))) && ((okIx (g_acl_First (List.getD r.2.2.2.2.2.1 (Int.toNat (g_model_ACL r name)) ACLD) p) ((List.getD r.2.2.2.2.2.1 (Int.toNat (g_model_ACL r name)) ACLD).2.1.length : Int)) || (!(((decide ((g_acl_First (List.getD r.2.2.2.2.2.1 (Int.toNat (g_model_ACL r name)) ACLD) p) ≥ 0)) == true) && true))))
        (Q (((decide ((g_acl_First (List.getD r.2.2.2.2.2.1 (Int.toNat (g_model_ACL r name)) ACLD) p) ≥ 0)) && (List.getD (List.getD r.2.2.2.2.2.1 (Int.toNat (g_model_ACL r name)) ACLD).2.1 (Int.toNat (g_acl_First (List.getD r.2.2.2.2.2.1 (Int.toNat (g_model_ACL r name)) ACLD) p)) RuleD).1), ()))
        False)
      False))) := by kernel_rfl
theorem ct_acl_Permits (r : RouterT) (name : List UInt8) (p : PacketT) (hw : VSs.wf e_acl_Permits.A (r, name, p, ())) (Q : Bool × Unit → Prop) (hq : Q (e_acl_Permits.g (r, name, p, ()))) : EvF G_acl_Permits tb_acl_Permits c_acl_Permits (VSs.enc e_acl_Permits.A (r, name, p, ())) (dq e_acl_Permits.R Q) := by
  have _ := hw
  let FF := (fun y : Bool => Q (y, ()))
  refine EvF.of (in_acl_Permits r name p Q) ?_
  exact (cond_f (F := FF) (fun h0 => id) (fun h0 => (cond_f (F := FF) (fun h1 => id) (fun h1 => (vc_f (F := FF) (by rcases ix_model_ACL r name with h | h <;> simp_all) (vc_f (F := FF) (by rcases ix_model_ACL r name with h | h <;> rcases ix_acl_First (List.getD r.2.2.2.2.2.1 (Int.toNat (g_model_ACL r name)) ACLD) p with h3 | h3 <;> simp_all) id)))))) hq
/-! netverify/nat.pool -/
def G_nat_pool : List Ent := []
def b_nat_pool_0 : ACode := (.seq (.seq (.region [(.mk (some 10) none (.mov (.t 6))), (.mk (some 11) none (.fld 8 (.t 2))), (.mk (some 12) none (.load false 1 (.t 11))), (.mk (some 13) none (.conv .u64 (.t 12))), (.mk (some 14) none (.bin .leq (.t 10) (.t 13))), (.mk (some 15) none (.mov (.t 14))), (.mk (some 16) (some (15, true)) (.mov (.t 5))), (.mk (some 17) (some (15, true)) (.len (.t 16))), (.mk (some 18) (some (15, true)) (.bin .lss (.t 17) (.c (.f (.int .i64 8))))), (.mk (some 19) none (.pick 15 (.t 18) (.c (.f (.bool false)))))] []) (.cond 19 .skip (.exit 0))) (.seq (.block 1 (.seq (.region [(.mk (some 22) none (.mov (.t 6))), (.mk (some 23) none (.conv .u32 (.t 22))), (.mk (some 24) none (.fld 0 (.t 3))), (.mk none none (.store 1 (.t 24) (.t 23)))] []) (.region [(.mk (some 25) none (.mov (.t 5))), (.mk (some 26) none (.load true 5 (.t 3))), (.mk (some 27) none (.bslice PacketS 32 [(.f (.int .u32 0)), (.f (.int .u32 0)), (.f (.int .i64 0)), (.f (.int .i64 0)), (.f (.int .i64 0))] 1 [(0, (.t 26))])), (.mk (some 28) none (.app PacketS 32 (.t 25) (.t 27))), (.mk (some 5) none (.mov (.t 28)))] []))) (.region [(.mk (some 20) none (.mov (.t 6))), (.mk (some 21) none (.bin .add (.t 20) (.c (.f (.int .u64 1))))), (.mk (some 6) none (.mov (.t 21)))] [])))
def r_nat_pool_0 : ACode := (.seq (.region [(.mk (some 29) none (.mov (.t 5))), (.mk (some 4) none (.mov (.t 29)))] []) .ret)
def c_nat_pool : AFunc := AFunc.mk 30 2 [(.t 4)] (.seq (.region [(.mk (some 2) none (.box (.t 0))), (.mk (some 3) none (.box (.t 1))), (.mk (some 4) none (.mov (.c (.f .nils))))] []) (.seq (.region [(.mk (some 5) none (.mov (.c (.f .nils))))] []) (.seq (.seq (.region [(.mk (some 7) none (.fld 7 (.t 2))), (.mk (some 8) none (.load false 1 (.t 7))), (.mk (some 9) none (.conv .u64 (.t 8))), (.mk (some 6) none (.mov (.t 9)))] []) (.block 0 (.loop 0 [(2, none), (3, none), (5, some PacketS), (6, none)] b_nat_pool_0))) r_nat_pool_0)))
def tb_nat_pool : Tbl
  | 0 => ([(2, none), (3, none), (5, some PacketS), (6, none)], b_nat_pool_0)
  | _ => ([], .skip)
theorem ok_nat_pool : compF Try.prog Try.f22 = some c_nat_pool.strip := by kernel_rfl
theorem tk_nat_pool : TblOk tb_nat_pool c_nat_pool.body := ⟨trivial, ⟨trivial, ⟨⟨trivial, ⟨rfl, ⟨⟨trivial, ⟨trivial, trivial⟩⟩, ⟨⟨trivial, trivial⟩, trivial⟩⟩⟩⟩, ⟨trivial, trivial⟩⟩⟩⟩
def k_nat_pool_0 (Q : (List PacketT) × Unit → Prop) : K := (kBlock 0 (kSeq (evC G_nat_pool (Lfp G_nat_pool tb_nat_pool) r_nat_pool_0) (kDone c_nat_pool (dq e_nat_pool.R Q))))
def s_nat_pool_0 (t : TranslationT) (p : PacketT) (v0 : Nat) (v1 : Int) (v2 : PacketT) (v3 : List PacketT) : St := ⟨[(2, [], .ptr 0 0), (3, [], .ptr 1 0), (5, [], .sl 2 5 0 v0), (6, [], .f (.int .u64 v1))], [.box [.f (.int .i64 t.1), .f (.int .u32 t.2.1), .f (.int .u32 t.2.2.1), .f (.int .i64 t.2.2.2.1), .f (.int .i64 t.2.2.2.2.1), .f (.int .i64 t.2.2.2.2.2.1), .f (.str t.2.2.2.2.2.2.1), .f (.int .u32 t.2.2.2.2.2.2.2.1), .f (.int .u32 t.2.2.2.2.2.2.2.2.1)], .box [.f (.int .u32 v2.1), .f (.int .u32 v2.2.1), .f (.int .i64 v2.2.2.1), .f (.int .i64 v2.2.2.2.1), .f (.int .i64 v2.2.2.2.2.1)], .row PacketS v3]⟩
def L_nat_pool_0 (t : TranslationT) (p : PacketT) (v0 : Nat) (v1 : Int) (v2 : PacketT) (v3 : List PacketT) (Q : (List PacketT) × Unit → Prop) : Prop := Lfp G_nat_pool tb_nat_pool 0 (s_nat_pool_0 t p v0 v1 v2 v3) (k_nat_pool_0 Q)
theorem in_nat_pool (t : TranslationT) (p : PacketT) (Q : (List PacketT) × Unit → Prop) : evF G_nat_pool (Lfp G_nat_pool tb_nat_pool) c_nat_pool (VSs.enc e_nat_pool.A (t, p, ())) (dq e_nat_pool.R Q) = (
  L_nat_pool_0 t p 0 (IntKind.wrap .u64 t.2.2.2.2.2.2.2.1) p [] Q) := by kernel_rfl
theorem rd_nat_pool_0 (t : TranslationT) (p : PacketT) (v0 : Nat) (v1 : Int) (v2 : PacketT) (v3 : List PacketT) (Q : (List PacketT) × Unit → Prop) (h :
  cond ((decide (v1 ≤ (IntKind.wrap .u64 t.2.2.2.2.2.2.2.2.1))) && (decide ((v0 : Int) < 8)))
  (cond (okApp v0 v3.length 1)
    (L_nat_pool_0 t p (v0 + 1) (IntKind.wrap .u64 (v1 + 1)) ((IntKind.wrap .u32 v1), v2.2.1, v2.2.2.1, v2.2.2.2.1, v2.2.2.2.2.1, ()) (v3 ++ [((IntKind.wrap .u32 v1), v2.2.1, v2.2.2.1, v2.2.2.2.1, v2.2.2.2.2.1, ())]) Q)
    False)
  (Q ((segL v3 0 v0), ()))) : L_nat_pool_0 t p v0 v1 v2 v3 Q := Lfp.step ((by kernel_rfl : evC G_nat_pool (Lfp G_nat_pool tb_nat_pool) (tb_nat_pool 0).2 (s_nat_pool_0 t p v0 v1 v2 v3) (kLoop (tb_nat_pool 0).1 (Lfp G_nat_pool tb_nat_pool 0) (k_nat_pool_0 Q)) = (
  cond ((decide (v1 ≤ (IntKind.wrap .u64 t.2.2.2.2.2.2.2.2.1))) && (decide ((v0 : Int) < 8)))
  (cond (okApp v0 v3.length 1)
    (L_nat_pool_0 t p (v0 + 1) (IntKind.wrap .u64 (v1 + 1)) ((IntKind.wrap .u32 v1), v2.2.1, v2.2.2.1, v2.2.2.2.1, v2.2.2.2.2.1, ()) (v3 ++ [((IntKind.wrap .u32 v1), v2.2.1, v2.2.2.1, v2.2.2.2.1, v2.2.2.2.2.1, ())]) Q)
    False)
  (Q ((segL v3 0 v0), ())))).symm ▸ h)
/-! netverify/nat.Source -/
def G_nat_Source : List Ent := [e_acl_Permits, e_nat_pool]
def b_nat_Source_0 : ACode := (.seq (.region [(.mk (some 11) none (.bin .lss (.t 10) (.t 9)))] []) (.seq (.cond 11 .skip (.exit 0)) (.seq (.block 1 (.seq (.region [(.mk (some 12) none (.ixa 9 (.t 8) (.t 10))), (.mk (some 13) none (.load true 9 (.t 12))), (.mk (some 6) none (.alloc [(.f (.int .i64 0)), (.f (.int .u32 0)), (.f (.int .u32 0)), (.f (.int .i64 0)), (.f (.int .i64 0)), (.f (.int .i64 0)), (.f (.str [])), (.f (.int .u32 0)), (.f (.int .u32 0))])), (.mk none none (.store 9 (.t 6) (.t 13)))] []) (.block 2 (.seq (.region [(.mk (some 15) none (.fld 0 (.t 6))), (.mk (some 16) none (.load false 1 (.t 15))), (.mk (some 17) none (.bin .eql (.t 16) (.c (.f (.int .i64 1))))), (.mk (some 18) none (.mov (.t 17))), (.mk (some 19) (some (18, true)) (.fld 1 (.t 6))), (.mk (some 20) (some (18, true)) (.load false 1 (.t 19))), (.mk (some 21) (some (18, true)) (.fld 0 (.t 3))), (.mk (some 22) (some (18, true)) (.load false 1 (.t 21))), (.mk (some 23) (some (18, true)) (.bin .eql (.t 20) (.t 22))), (.mk (some 24) none (.pick 18 (.t 23) (.c (.f (.bool false))))), (.mk (some 14) none (.mov (.t 24)))] []) (.cond 14 (.seq (.region [(.mk (some 25) none (.fld 2 (.t 6))), (.mk (some 26) none (.load false 1 (.t 25))), (.mk (some 27) none (.fld 0 (.t 3))), (.mk none none (.store 1 (.t 27) (.t 26)))] []) (.seq (.region [(.mk (some 28) none (.load true 5 (.t 3))), (.mk (some 29) none (.bslice PacketS 32 [(.f (.int .u32 0)), (.f (.int .u32 0)), (.f (.int .i64 0)), (.f (.int .i64 0)), (.f (.int .i64 0))] 1 [(0, (.t 28))])), (.mk (some 4) none (.mov (.t 29)))] []) .ret)) (.seq (.region [(.mk (some 31) none (.fld 0 (.t 6))), (.mk (some 32) none (.load false 1 (.t 31))), (.mk (some 33) none (.bin .eql (.t 32) (.c (.f (.int .i64 2))))), (.mk (some 34) none (.mov (.t 33))), (.mk (some 35) (some (34, true)) (.load true 25 (.t 2))), (.mk (some 36) (some (34, true)) (.fld 6 (.t 6))), (.mk (some 37) (some (34, true)) (.load false 1 (.t 36))), (.mk (some 38) (some (34, true)) (.load true 5 (.t 3))), (.mk (some 39) (some (34, true)) (.call 21 [(.t 35), (.t 37), (.t 38)])), (.mk (some 40) none (.pick 34 (.t 39) (.c (.f (.bool false))))), (.mk (some 30) none (.mov (.t 40)))] []) (.cond 30 (.seq (.region [(.mk (some 41) none (.load true 9 (.t 6))), (.mk (some 42) none (.load true 5 (.t 3))), (.mk (some 43) none (.call 22 [(.t 41), (.t 42)])), (.mk (some 4) none (.mov (.t 43)))] []) .ret) (.seq (.region [(.mk (some 45) none (.fld 0 (.t 6))), (.mk (some 46) none (.load false 1 (.t 45))), (.mk (some 47) none (.bin .eql (.t 46) (.c (.f (.int .i64 3))))), (.mk (some 48) none (.mov (.t 47))), (.mk (some 49) (some (48, true)) (.fld 1 (.t 6))), (.mk (some 50) (some (48, true)) (.load false 1 (.t 49))), (.mk (some 51) (some (48, true)) (.fld 0 (.t 3))), (.mk (some 52) (some (48, true)) (.load false 1 (.t 51))), (.mk (some 53) (some (48, true)) (.bin .eql (.t 50) (.t 52))), (.mk (some 54) none (.pick 48 (.t 53) (.c (.f (.bool false))))), (.mk (some 55) none (.mov (.t 54))), (.mk (some 56) (some (55, true)) (.fld 3 (.t 6))), (.mk (some 57) (some (55, true)) (.load false 1 (.t 56))), (.mk (some 58) (some (55, true)) (.fld 2 (.t 3))), (.mk (some 59) (some (55, true)) (.load false 1 (.t 58))), (.mk (some 60) (some (55, true)) (.bin .eql (.t 57) (.t 59))), (.mk (some 61) none (.pick 55 (.t 60) (.c (.f (.bool false))))), (.mk (some 62) none (.mov (.t 61))), (.mk (some 63) (some (62, true)) (.fld 4 (.t 6))), (.mk (some 64) (some (62, true)) (.load false 1 (.t 63))), (.mk (some 65) (some (62, true)) (.fld 3 (.t 3))), (.mk (some 66) (some (62, true)) (.load false 1 (.t 65))), (.mk (some 67) (some (62, true)) (.bin .eql (.t 64) (.t 66))), (.mk (some 68) none (.pick 62 (.t 67) (.c (.f (.bool false))))), (.mk (some 44) none (.mov (.t 68)))] []) (.cond 44 (.seq (.region [(.mk (some 69) none (.fld 2 (.t 6))), (.mk (some 70) none (.load false 1 (.t 69))), (.mk (some 71) none (.fld 5 (.t 6))), (.mk (some 72) none (.load false 1 (.t 71))), (.mk (some 73) none (.fld 0 (.t 3))), (.mk none none (.store 1 (.t 73) (.t 70))), (.mk (some 74) none (.fld 3 (.t 3))), (.mk none none (.store 1 (.t 74) (.t 72)))] [(3, 5)]) (.seq (.region [(.mk (some 75) none (.load true 5 (.t 3))), (.mk (some 76) none (.bslice PacketS 32 [(.f (.int .u32 0)), (.f (.int .u32 0)), (.f (.int .i64 0)), (.f (.int .i64 0)), (.f (.int .i64 0))] 1 [(0, (.t 75))])), (.mk (some 4) none (.mov (.t 76)))] []) .ret)) .skip))))))))) (.region [(.mk (some 77) none (.bin .add (.t 10) (.c (.f (.int .i64 1))))), (.mk (some 10) none (.mov (.t 77)))] []))))
def r_nat_Source_0 : ACode := (.seq (.region [(.mk (some 78) none (.load true 5 (.t 3))), (.mk (some 79) none (.bslice PacketS 32 [(.f (.int .u32 0)), (.f (.int .u32 0)), (.f (.int .i64 0)), (.f (.int .i64 0)), (.f (.int .i64 0))] 1 [(0, (.t 78))])), (.mk (some 4) none (.mov (.t 79)))] []) .ret)
def c_nat_Source : AFunc := AFunc.mk 80 2 [(.t 4)] (.seq (.region [(.mk (some 2) none (.box (.t 0))), (.mk (some 3) none (.box (.t 1))), (.mk (some 4) none (.mov (.c (.f .nils))))] []) (.seq (.seq (.region [(.mk (some 7) none (.fld 6 (.t 2))), (.mk (some 8) none (.load false 1 (.t 7))), (.mk (some 9) none (.len (.t 8))), (.mk (some 10) none (.mov (.c (.f (.int .i64 0)))))] []) (.block 0 (.loop 0 [(2, none), (3, none), (8, none), (9, none), (10, none)] b_nat_Source_0))) r_nat_Source_0))
def tb_nat_Source : Tbl
  | 0 => ([(2, none), (3, none), (8, none), (9, none), (10, none)], b_nat_Source_0)
  | _ => ([], .skip)
theorem ok_nat_Source : compF Try.prog Try.f13 = some c_nat_Source.strip := by kernel_rfl
theorem tk_nat_Source : TblOk tb_nat_Source c_nat_Source.body := ⟨trivial, ⟨⟨trivial, ⟨rfl, ⟨trivial, ⟨⟨trivial, trivial⟩, ⟨⟨trivial, ⟨trivial, ⟨⟨trivial, ⟨trivial, trivial⟩⟩, ⟨trivial, ⟨⟨trivial, trivial⟩, ⟨trivial, ⟨⟨trivial, ⟨trivial, trivial⟩⟩, trivial⟩⟩⟩⟩⟩⟩⟩, trivial⟩⟩⟩⟩⟩, ⟨trivial, trivial⟩⟩⟩
def k_nat_Source_0 (Q : (List PacketT) × Unit → Prop) : K := (kBlock 0 (kSeq (evC G_nat_Source (Lfp G_nat_Source tb_nat_Source) r_nat_Source_0) (kDone c_nat_Source (dq e_nat_Source.R Q))))
def s_nat_Source_0 (r : RouterT) (p : PacketT) (v0 : Int) : St := ⟨[(2, [], .ptr 0 0), (3, [], .ptr 1 0), (8, [], .f (.fs TranslationS r.2.2.2.2.2.2.1)), (9, [], .f (.int .i64 (r.2.2.2.2.2.2.1.length : Int))), (10, [], .f (.int .i64 v0))], [.box [.f (.str r.1), .f (.int .i64 r.2.1), .f (.fs InterfaceS r.2.2.1), .f (.fs PrefixListS r.2.2.2.1), .f (.fs RouteMapS r.2.2.2.2.1), .f (.fs ACLS r.2.2.2.2.2.1), .f (.fs TranslationS r.2.2.2.2.2.2.1), .f (.fs StaticRouteS r.2.2.2.2.2.2.2.1), .f (.bool r.2.2.2.2.2.2.2.2.1), .f (.int .i64 r.2.2.2.2.2.2.2.2.2.1), .f (.fs AreaRangeS r.2.2.2.2.2.2.2.2.2.2.1), .f (.fs RedistS r.2.2.2.2.2.2.2.2.2.2.2.1), .f (.bool r.2.2.2.2.2.2.2.2.2.2.2.2.1), .f (.int .i64 r.2.2.2.2.2.2.2.2.2.2.2.2.2.1), .f (.str r.2.2.2.2.2.2.2.2.2.2.2.2.2.2.1), .f (.str r.2.2.2.2.2.2.2.2.2.2.2.2.2.2.2.1), .f (.fs RedistS r.2.2.2.2.2.2.2.2.2.2.2.2.2.2.2.2.1), .f (.bool r.2.2.2.2.2.2.2.2.2.2.2.2.2.2.2.2.2.1), .f (.int .i64 r.2.2.2.2.2.2.2.2.2.2.2.2.2.2.2.2.2.2.1), .f (.int .i64 r.2.2.2.2.2.2.2.2.2.2.2.2.2.2.2.2.2.2.2.1), .f (.fs NeighborS r.2.2.2.2.2.2.2.2.2.2.2.2.2.2.2.2.2.2.2.2.1), .f (.fs PrefixS r.2.2.2.2.2.2.2.2.2.2.2.2.2.2.2.2.2.2.2.2.2.1), .f (.fs AggregateS r.2.2.2.2.2.2.2.2.2.2.2.2.2.2.2.2.2.2.2.2.2.2.1), .f (.fs ConditionS r.2.2.2.2.2.2.2.2.2.2.2.2.2.2.2.2.2.2.2.2.2.2.2.1), .f (.fs RedistS r.2.2.2.2.2.2.2.2.2.2.2.2.2.2.2.2.2.2.2.2.2.2.2.2.1)], .box [.f (.int .u32 p.1), .f (.int .u32 p.2.1), .f (.int .i64 p.2.2.1), .f (.int .i64 p.2.2.2.1), .f (.int .i64 p.2.2.2.2.1)]]⟩
def L_nat_Source_0 (r : RouterT) (p : PacketT) (v0 : Int) (Q : (List PacketT) × Unit → Prop) : Prop := Lfp G_nat_Source tb_nat_Source 0 (s_nat_Source_0 r p v0) (k_nat_Source_0 Q)
theorem in_nat_Source (r : RouterT) (p : PacketT) (Q : (List PacketT) × Unit → Prop) : evF G_nat_Source (Lfp G_nat_Source tb_nat_Source) c_nat_Source (VSs.enc e_nat_Source.A (r, p, ())) (dq e_nat_Source.R Q) = (
  L_nat_Source_0 r p 0 Q) := by kernel_rfl
theorem rd_nat_Source_0 (r : RouterT) (p : PacketT) (v0 : Int) (Q : (List PacketT) × Unit → Prop) (h :
  cond (decide (v0 < (r.2.2.2.2.2.2.1.length : Int)))
  (cond (okIx v0 (r.2.2.2.2.2.2.1.length : Int))
    (cond (((List.getD r.2.2.2.2.2.2.1 (Int.toNat v0) TranslationD).1 == 1) && ((List.getD r.2.2.2.2.2.2.1 (Int.toNat v0) TranslationD).2.1 == p.1))
      (Q ([((List.getD r.2.2.2.2.2.2.1 (Int.toNat v0) TranslationD).2.2.1, p.2.1, p.2.2.1, p.2.2.2.1, p.2.2.2.2.1, ())], ()))
      (cond (((List.getD r.2.2.2.2.2.2.1 (Int.toNat v0) TranslationD).1 == 2) && (g_acl_Permits r (List.getD r.2.2.2.2.2.2.1 (Int.toNat v0) TranslationD).2.2.2.2.2.2.1 p))
        (Q ((g_nat_pool (List.getD r.2.2.2.2.2.2.1 (Int.toNat v0) TranslationD) p), ()))
        (cond (((((List.getD r.2.2.2.2.2.2.1 (Int.toNat v0) TranslationD).1 == 3) && ((List.getD r.2.2.2.2.2.2.1 (Int.toNat v0) TranslationD).2.1 == p.1)) && ((List.getD r.2.2.2.2.2.2.1 (Int.toNat v0) TranslationD).2.2.2.1 == p.2.2.1)) && ((List.getD r.2.2.2.2.2.2.1 (Int.toNat v0) TranslationD).2.2.2.2.1 == p.2.2.2.1))
          (Q ([((List.getD r.2.2.2.2.2.2.1 (Int.toNat v0) TranslationD).2.2.1, p.2.1, p.2.2.1, (List.getD r.2.2.2.2.2.2.1 (Int.toNat v0) TranslationD).2.2.2.2.2.1, p.2.2.2.2.1, ())], ()))
          (L_nat_Source_0 r p (IntKind.wrap .i64 (v0 + 1)) Q))))
    False)
  (Q ([p], ()))) : L_nat_Source_0 r p v0 Q := Lfp.step ((by kernel_rfl : evC G_nat_Source (Lfp G_nat_Source tb_nat_Source) (tb_nat_Source 0).2 (s_nat_Source_0 r p v0) (kLoop (tb_nat_Source 0).1 (Lfp G_nat_Source tb_nat_Source 0) (k_nat_Source_0 Q)) = (
  cond (decide (v0 < (r.2.2.2.2.2.2.1.length : Int)))
  (cond (okIx v0 (r.2.2.2.2.2.2.1.length : Int))
    (cond (((List.getD r.2.2.2.2.2.2.1 (Int.toNat v0) TranslationD).1 == 1) && ((List.getD r.2.2.2.2.2.2.1 (Int.toNat v0) TranslationD).2.1 == p.1))
      (Q ([((List.getD r.2.2.2.2.2.2.1 (Int.toNat v0) TranslationD).2.2.1, p.2.1, p.2.2.1, p.2.2.2.1, p.2.2.2.2.1, ())], ()))
      (cond (((List.getD r.2.2.2.2.2.2.1 (Int.toNat v0) TranslationD).1 == 2) && (g_acl_Permits r (List.getD r.2.2.2.2.2.2.1 (Int.toNat v0) TranslationD).2.2.2.2.2.2.1 p))
        (Q ((g_nat_pool (List.getD r.2.2.2.2.2.2.1 (Int.toNat v0) TranslationD) p), ()))
        (cond (((((List.getD r.2.2.2.2.2.2.1 (Int.toNat v0) TranslationD).1 == 3) && ((List.getD r.2.2.2.2.2.2.1 (Int.toNat v0) TranslationD).2.1 == p.1)) && ((List.getD r.2.2.2.2.2.2.1 (Int.toNat v0) TranslationD).2.2.2.1 == p.2.2.1)) && ((List.getD r.2.2.2.2.2.2.1 (Int.toNat v0) TranslationD).2.2.2.2.1 == p.2.2.2.1))
          (Q ([((List.getD r.2.2.2.2.2.2.1 (Int.toNat v0) TranslationD).2.2.1, p.2.1, p.2.2.1, (List.getD r.2.2.2.2.2.2.1 (Int.toNat v0) TranslationD).2.2.2.2.2.1, p.2.2.2.2.1, ())], ()))
          (L_nat_Source_0 r p (IntKind.wrap .i64 (v0 + 1)) Q))))
    False)
  (Q ([p], ())))).symm ▸ h)
theorem lp_nat_Source_0 (r : RouterT) (p : PacketT) (Q : (List PacketT) × Unit → Prop) (hw : VSs.wf e_nat_Source.A (r, p, ()))  : (fun y : List PacketT => Q (y, ())) (S_nat_Source_0 r p) → L_nat_Source_0 r p 0 Q := by
  have _ := hw
  let FF := (fun y : List PacketT => Q (y, ()))
  refine upV_loop (F := FF) (k := .i64) (L := (fun c0 : Int => L_nat_Source_0 r p c0 Q)) (wrap_i64n (show _ ≤ _ from ((((((((hw.1).2).2).2).2).2).2).1).1)) (fun c0 hc0 hF => rd_nat_Source_0 r p (c0 : Int) Q (cond_ge (n := r.2.2.2.2.2.2.1.length) rfl hc0 (id hF))) (fun c0 _ hc0 next0 hn0 hF => rd_nat_Source_0 r p (c0 : Int) Q (cond_lt (n := r.2.2.2.2.2.2.1.length) rfl hc0 ((vc_f (F := FF) (by first | ((repeat' (first | rfl | exact nn_d64 _ | exact okIx_nat hc0 | refine and_t ?_ ?_ | refine or_l ?_)); done) | (simp [-List.getD_eq_getElem?_getD, okIx_nat hc0, nn_u64, nn_u32]; done) | (have hry : roomy = 1048576 := rfl; simp [-List.getD_eq_getElem?_getD, okIx, okSlc, okApp, len_slcL, len_segL] <;> omega)) /- 1 -/ (cond_f (F := FF) (fun h0 => id) (fun h0 => (cond_f (F := FF) (fun h1 => id) (fun h1 => (cond_f (F := FF) (fun h2 => id) (fun h2 => hn0))))))) hF)))
theorem ct_nat_Source (r : RouterT) (p : PacketT) (hw : VSs.wf e_nat_Source.A (r, p, ())) (Q : (List PacketT) × Unit → Prop) (hq : Q (e_nat_Source.g (r, p, ()))) : EvF G_nat_Source tb_nat_Source c_nat_Source (VSs.enc e_nat_Source.A (r, p, ())) (dq e_nat_Source.R Q) := by
  have _ := hw
  let FF := (fun y : List PacketT => Q (y, ()))
  refine EvF.of (in_nat_Source r p Q) ?_
  exact (lp_nat_Source_0 r p Q hw) hq
/-! netverify/netverifyref8.MatchesAddress -/
def G_r8_MatchesAddress : List Ent := []
def b_r8_MatchesAddress_0 : ACode := (.seq (.seq (.region [(.mk (some 6) none (.mov (.t 5))), (.mk (some 7) none (.bin .lss (.t 6) (.c (.f (.int .u64 32)))))] []) (.cond 7 .skip (.exit 0))) (.seq (.block 1 (.seq (.region [(.mk (some 10) none (.fld 1 (.t 2))), (.mk (some 11) none (.load false 1 (.t 10))), (.mk (some 12) none (.mov (.t 5))), (.mk (some 13) none (.bin .shr (.t 11) (.t 12))), (.mk (some 14) none (.bin .and (.t 13) (.c (.f (.int .u32 1))))), (.mk (some 15) none (.bin .eql (.t 14) (.c (.f (.int .u32 0))))), (.mk (some 16) none (.mov (.t 15))), (.mk (some 17) (some (16, true)) (.fld 0 (.t 2))), (.mk (some 18) (some (16, true)) (.load false 1 (.t 17))), (.mk (some 19) (some (16, true)) (.mov (.t 5))), (.mk (some 20) (some (16, true)) (.bin .shr (.t 18) (.t 19))), (.mk (some 21) (some (16, true)) (.bin .and (.t 20) (.c (.f (.int .u32 1))))), (.mk (some 22) (some (16, true)) (.mov (.t 1))), (.mk (some 23) (some (16, true)) (.mov (.t 5))), (.mk (some 24) (some (16, true)) (.bin .shr (.t 22) (.t 23))), (.mk (some 25) (some (16, true)) (.bin .and (.t 24) (.c (.f (.int .u32 1))))), (.mk (some 26) (some (16, true)) (.bin .neq (.t 21) (.t 25))), (.mk (some 27) none (.pick 16 (.t 26) (.c (.f (.bool false)))))] []) (.cond 27 (.seq (.region [(.mk (some 4) none (.mov (.c (.f (.bool false)))))] []) .ret) .skip))) (.region [(.mk (some 8) none (.mov (.t 5))), (.mk (some 9) none (.bin .add (.t 8) (.c (.f (.int .u64 1))))), (.mk (some 5) none (.mov (.t 9)))] [])))
def r_r8_MatchesAddress_0 : ACode := (.seq (.region [(.mk (some 4) none (.mov (.c (.f (.bool true)))))] []) .ret)
def c_r8_MatchesAddress : AFunc := AFunc.mk 28 2 [(.t 4)] (.seq (.region [(.mk (some 2) none (.box (.t 0))), (.mk (some 4) none (.mov (.c (.f (.bool false)))))] []) (.seq (.seq (.region [(.mk (some 5) none (.mov (.c (.f (.int .u64 0)))))] []) (.block 0 (.loop 0 [(1, none), (2, none), (5, none)] b_r8_MatchesAddress_0))) r_r8_MatchesAddress_0))
def tb_r8_MatchesAddress : Tbl
  | 0 => ([(1, none), (2, none), (5, none)], b_r8_MatchesAddress_0)
  | _ => ([], .skip)
theorem ok_r8_MatchesAddress : compF Try.prog Try.f62 = some c_r8_MatchesAddress.strip := by kernel_rfl
theorem tk_r8_MatchesAddress : TblOk tb_r8_MatchesAddress c_r8_MatchesAddress.body := ⟨trivial, ⟨⟨trivial, ⟨rfl, ⟨⟨trivial, ⟨trivial, trivial⟩⟩, ⟨⟨trivial, ⟨⟨trivial, trivial⟩, trivial⟩⟩, trivial⟩⟩⟩⟩, ⟨trivial, trivial⟩⟩⟩
def k_r8_MatchesAddress_0 (Q : Bool × Unit → Prop) : K := (kBlock 0 (kSeq (evC G_r8_MatchesAddress (Lfp G_r8_MatchesAddress tb_r8_MatchesAddress) r_r8_MatchesAddress_0) (kDone c_r8_MatchesAddress (dq e_r8_MatchesAddress.R Q))))
def s_r8_MatchesAddress_0 (w : WildcardT) (a : Int) (v0 : Int) : St := ⟨[(1, [], .f (.int .u32 a)), (2, [], .ptr 0 0), (5, [], .f (.int .u64 v0))], [.box [.f (.int .u32 w.1), .f (.int .u32 w.2.1)]]⟩
def L_r8_MatchesAddress_0 (w : WildcardT) (a : Int) (v0 : Int) (Q : Bool × Unit → Prop) : Prop := Lfp G_r8_MatchesAddress tb_r8_MatchesAddress 0 (s_r8_MatchesAddress_0 w a v0) (k_r8_MatchesAddress_0 Q)
theorem in_r8_MatchesAddress (w : WildcardT) (a : Int) (Q : Bool × Unit → Prop) : evF G_r8_MatchesAddress (Lfp G_r8_MatchesAddress tb_r8_MatchesAddress) c_r8_MatchesAddress (VSs.enc e_r8_MatchesAddress.A (w, a, ())) (dq e_r8_MatchesAddress.R Q) = (
  L_r8_MatchesAddress_0 w a 0 Q) := by kernel_rfl
theorem rd_r8_MatchesAddress_0 (w : WildcardT) (a : Int) (v0 : Int) (Q : Bool × Unit → Prop) (h :
  cond (decide (v0 < 32))
  (cond (((decide (0 ≤ v0)) && ((decide (0 ≤ v0)) || (!((((iand .u32 (ishr .u32 w.2.1 v0) 1) == 0) == true) && true)))) && ((decide (0 ≤ v0)) || (!((((iand .u32 (ishr .u32 w.2.1 v0) 1) == 0) == true) && true))))
    (cond (((iand .u32 (ishr .u32 w.2.1 v0) 1) == 0) && ((iand .u32 (ishr .u32 w.1 v0) 1) != (iand .u32 (ishr .u32 a v0) 1)))
      (Q (false, ()))
      (L_r8_MatchesAddress_0 w a (IntKind.wrap .u64 (v0 + 1)) Q))
    False)
  (Q (true, ()))) : L_r8_MatchesAddress_0 w a v0 Q := Lfp.step ((by kernel_rfl : evC G_r8_MatchesAddress (Lfp G_r8_MatchesAddress tb_r8_MatchesAddress) (tb_r8_MatchesAddress 0).2 (s_r8_MatchesAddress_0 w a v0) (kLoop (tb_r8_MatchesAddress 0).1 (Lfp G_r8_MatchesAddress tb_r8_MatchesAddress 0) (k_r8_MatchesAddress_0 Q)) = (
  cond (decide (v0 < 32))
  (cond (((decide (0 ≤ v0)) && ((decide (0 ≤ v0)) || (!((((iand .u32 (ishr .u32 w.2.1 v0) 1) == 0) == true) && true)))) && ((decide (0 ≤ v0)) || (!((((iand .u32 (ishr .u32 w.2.1 v0) 1) == 0) == true) && true))))
    (cond (((iand .u32 (ishr .u32 w.2.1 v0) 1) == 0) && ((iand .u32 (ishr .u32 w.1 v0) 1) != (iand .u32 (ishr .u32 a v0) 1)))
      (Q (false, ()))
      (L_r8_MatchesAddress_0 w a (IntKind.wrap .u64 (v0 + 1)) Q))
    False)
  (Q (true, ())))).symm ▸ h)
theorem lp_r8_MatchesAddress_0 (w : WildcardT) (a : Int) (Q : Bool × Unit → Prop) (hw : VSs.wf e_r8_MatchesAddress.A (w, a, ()))  : (fun y : Bool => Q (y, ())) (S_r8_MatchesAddress_0 w a) → L_r8_MatchesAddress_0 w a 0 Q := by
  have _ := hw
  let FF := (fun y : Bool => Q (y, ()))
  refine upV_loop (F := FF) (k := .u64) (L := (fun c0 : Int => L_r8_MatchesAddress_0 w a c0 Q)) (wrap_u64n (by decide)) (fun c0 hc0 hF => rd_r8_MatchesAddress_0 w a (c0 : Int) Q (cond_ge (n := 32) rfl hc0 (id hF))) (fun c0 _ hc0 next0 hn0 hF => rd_r8_MatchesAddress_0 w a (c0 : Int) Q (cond_lt (n := 32) rfl hc0 ((vc_f (F := FF) (by first | ((repeat' (first | rfl | exact nn_d64 _ | exact okIx_nat hc0 | refine and_t ?_ ?_ | refine or_l ?_)); done) | (simp [-List.getD_eq_getElem?_getD, okIx_nat hc0, nn_u64, nn_u32]; done) | (have hry : roomy = 1048576 := rfl; simp [-List.getD_eq_getElem?_getD, okIx, okSlc, okApp, len_slcL, len_segL] <;> omega)) /- 1 -/ (cond_f (F := FF) (fun h0 => id) (fun h0 => hn0))) hF)))
theorem ct_r8_MatchesAddress (w : WildcardT) (a : Int) (hw : VSs.wf e_r8_MatchesAddress.A (w, a, ())) (Q : Bool × Unit → Prop) (hq : Q (e_r8_MatchesAddress.g (w, a, ()))) : EvF G_r8_MatchesAddress tb_r8_MatchesAddress c_r8_MatchesAddress (VSs.enc e_r8_MatchesAddress.A (w, a, ())) (dq e_r8_MatchesAddress.R Q) := by
  have _ := hw
  let FF := (fun y : Bool => Q (y, ()))
  refine EvF.of (in_r8_MatchesAddress w a Q) ?_
  exact (lp_r8_MatchesAddress_0 w a Q hw) hq
/-! netverify/netverifyref8.Matches -/
def G_r8_Matches : List Ent := [e_r8_within, e_r8_MatchesAddress]
def c_r8_Matches : AFunc := AFunc.mk 49 2 [(.t 4)] (.seq (.region [(.mk (some 2) none (.box (.t 0))), (.mk (some 3) none (.box (.t 1))), (.mk (some 4) none (.mov (.c (.f (.bool false)))))] []) (.seq (.seq (.region [(.mk (some 5) none (.fld 1 (.t 2))), (.mk (some 6) none (.load false 1 (.t 5))), (.mk (some 7) none (.bin .neq (.t 6) (.c (.f (.int .i64 (-1)))))), (.mk (some 8) none (.mov (.t 7))), (.mk (some 9) (some (8, true)) (.fld 1 (.t 2))), (.mk (some 10) (some (8, true)) (.load false 1 (.t 9))), (.mk (some 11) (some (8, true)) (.fld 2 (.t 3))), (.mk (some 12) (some (8, true)) (.load false 1 (.t 11))), (.mk (some 13) (some (8, true)) (.bin .neq (.t 10) (.t 12))), (.mk (some 14) none (.pick 8 (.t 13) (.c (.f (.bool false)))))] []) (.cond 14 (.seq (.region [(.mk (some 4) none (.mov (.c (.f (.bool false)))))] []) .ret) .skip)) (.seq (.region [(.mk (some 15) none (.fld 2 (.t 2))), (.mk (some 16) none (.load true 2 (.t 15))), (.mk (some 17) none (.fld 0 (.t 3))), (.mk (some 18) none (.load false 1 (.t 17))), (.mk (some 19) none (.call 62 [(.t 16), (.t 18)])), (.mk (some 20) none (.mov (.t 19))), (.mk (some 21) (some (20, true)) (.fld 4 (.t 2))), (.mk (some 22) (some (20, true)) (.load true 2 (.t 21))), (.mk (some 23) (some (20, true)) (.fld 1 (.t 3))), (.mk (some 24) (some (20, true)) (.load false 1 (.t 23))), (.mk (some 25) (some (20, true)) (.call 62 [(.t 22), (.t 24)])), (.mk (some 26) none (.pick 20 (.t 25) (.c (.f (.bool false))))), (.mk (some 27) none (.mov (.t 26))), (.mk (some 28) (some (27, true)) (.fld 3 (.t 3))), (.mk (some 29) (some (27, true)) (.load false 1 (.t 28))), (.mk (some 30) (some (27, true)) (.fld 6 (.t 2))), (.mk (some 31) (some (27, true)) (.fld 0 (.t 30))), (.mk (some 32) (some (27, true)) (.load false 1 (.t 31))), (.mk (some 33) (some (27, true)) (.fld 6 (.t 2))), (.mk (some 34) (some (27, true)) (.fld 1 (.t 33))), (.mk (some 35) (some (27, true)) (.load false 1 (.t 34))), (.mk (some 36) (some (27, true)) (.call 20 [(.t 29), (.t 32), (.t 35)])), (.mk (some 37) none (.pick 27 (.t 36) (.c (.f (.bool false))))), (.mk (some 38) none (.mov (.t 37))), (.mk (some 39) (some (38, true)) (.fld 4 (.t 3))), (.mk (some 40) (some (38, true)) (.load false 1 (.t 39))), (.mk (some 41) (some (38, true)) (.fld 8 (.t 2))), (.mk (some 42) (some (38, true)) (.fld 0 (.t 41))), (.mk (some 43) (some (38, true)) (.load false 1 (.t 42))), (.mk (some 44) (some (38, true)) (.fld 8 (.t 2))), (.mk (some 45) (some (38, true)) (.fld 1 (.t 44))), (.mk (some 46) (some (38, true)) (.load false 1 (.t 45))), (.mk (some 47) (some (38, true)) (.call 20 [(.t 40), (.t 43), (.t 46)])), (.mk (some 48) none (.pick 38 (.t 47) (.c (.f (.bool false))))), (.mk (some 4) none (.mov (.t 48)))] []) .ret)))
def tb_r8_Matches : Tbl := fun _ => ([], .skip)
theorem ok_r8_Matches : compF Try.prog Try.f54 = some c_r8_Matches.strip := by kernel_rfl
theorem tk_r8_Matches : TblOk tb_r8_Matches c_r8_Matches.body := ⟨trivial, ⟨⟨trivial, ⟨⟨trivial, trivial⟩, trivial⟩⟩, ⟨trivial, trivial⟩⟩⟩
theorem in_r8_Matches (x0 : RuleT) (p : PacketT) (Q : Bool × Unit → Prop) : evF G_r8_Matches (Lfp G_r8_Matches tb_r8_Matches) c_r8_Matches (VSs.enc e_r8_Matches.A (x0, p, ())) (dq e_r8_Matches.R Q) = (
  cond ((x0.2.1 != (-1)) && (x0.2.1 != p.2.2.1))
  (Q (false, ()))
  (Q (((((g_r8_MatchesAddress (x0.2.2.1, x0.2.2.2.1, ()) p.1) && (g_r8_MatchesAddress (x0.2.2.2.2.1, x0.2.2.2.2.2.1, ()) p.2.1)) && (g_r8_within p.2.2.2.1 x0.2.2.2.2.2.2.1 x0.2.2.2.2.2.2.2.1)) && (g_r8_within p.2.2.2.2.1 x0.2.2.2.2.2.2.2.2.1 x0.2.2.2.2.2.2.2.2.2.1)), ()))) := by kernel_rfl
theorem au_r8_Matches (x0 : RuleT) (p : PacketT) (Q : Bool × Unit → Prop) : evF G_r8_Matches (Lfp G_r8_Matches tb_r8_Matches) c_r8_Matches (VSs.enc e_r8_Matches.A (x0, p, ())) (dq e_r8_Matches.R Q) = Q (e_r8_Matches.g (x0, p, ())) := (in_r8_Matches x0 p Q).trans (cond_q (F := fun y : Bool => Q (y, ())) rfl rfl)
/-! netverify/netverifyref8.First -/
def G_r8_First : List Ent := [e_r8_Matches]
def b_r8_First_0 : ACode := (.seq (.seq (.region [(.mk (some 6) none (.mov (.t 5))), (.mk (some 7) none (.fld 1 (.t 2))), (.mk (some 8) none (.load false 1 (.t 7))), (.mk (some 9) none (.len (.t 8))), (.mk (some 10) none (.bin .lss (.t 6) (.t 9)))] []) (.cond 10 .skip (.exit 0))) (.seq (.block 1 (.seq (.region [(.mk (some 13) none (.fld 1 (.t 2))), (.mk (some 14) none (.load false 1 (.t 13))), (.mk (some 15) none (.mov (.t 5))), (.mk (some 16) none (.ixa 10 (.t 14) (.t 15))), (.mk (some 17) none (.load true 10 (.t 16))), (.mk (some 18) none (.load true 5 (.t 3))), (.mk (some 19) none (.call 54 [(.t 17), (.t 18)]))] []) (.cond 19 (.seq (.region [(.mk (some 20) none (.mov (.t 5))), (.mk (some 4) none (.mov (.t 20)))] []) .ret) .skip))) (.region [(.mk (some 11) none (.mov (.t 5))), (.mk (some 12) none (.bin .add (.t 11) (.c (.f (.int .i64 1))))), (.mk (some 5) none (.mov (.t 12)))] [])))
def r_r8_First_0 : ACode := (.seq (.region [(.mk (some 4) none (.mov (.c (.f (.int .i64 (-1))))))] []) .ret)
def c_r8_First : AFunc := AFunc.mk 21 2 [(.t 4)] (.seq (.region [(.mk (some 2) none (.box (.t 0))), (.mk (some 3) none (.box (.t 1))), (.mk (some 4) none (.mov (.c (.f (.int .i64 0)))))] []) (.seq (.seq (.region [(.mk (some 5) none (.mov (.c (.f (.int .i64 0)))))] []) (.block 0 (.loop 0 [(2, none), (3, none), (5, none)] b_r8_First_0))) r_r8_First_0))
def tb_r8_First : Tbl
  | 0 => ([(2, none), (3, none), (5, none)], b_r8_First_0)
  | _ => ([], .skip)
theorem ok_r8_First : compF Try.prog Try.f38 = some c_r8_First.strip := by kernel_rfl
theorem tk_r8_First : TblOk tb_r8_First c_r8_First.body := ⟨trivial, ⟨⟨trivial, ⟨rfl, ⟨⟨trivial, ⟨trivial, trivial⟩⟩, ⟨⟨trivial, ⟨⟨trivial, trivial⟩, trivial⟩⟩, trivial⟩⟩⟩⟩, ⟨trivial, trivial⟩⟩⟩
def k_r8_First_0 (Q : Int × Unit → Prop) : K := (kBlock 0 (kSeq (evC G_r8_First (Lfp G_r8_First tb_r8_First) r_r8_First_0) (kDone c_r8_First (dq e_r8_First.R Q))))
def s_r8_First_0 (l : ACLT) (p : PacketT) (v0 : Int) : St := ⟨[(2, [], .ptr 0 0), (3, [], .ptr 1 0), (5, [], .f (.int .i64 v0))], [.box [.f (.str l.1), .f (.fs RuleS l.2.1)], .box [.f (.int .u32 p.1), .f (.int .u32 p.2.1), .f (.int .i64 p.2.2.1), .f (.int .i64 p.2.2.2.1), .f (.int .i64 p.2.2.2.2.1)]]⟩
def L_r8_First_0 (l : ACLT) (p : PacketT) (v0 : Int) (Q : Int × Unit → Prop) : Prop := Lfp G_r8_First tb_r8_First 0 (s_r8_First_0 l p v0) (k_r8_First_0 Q)
theorem in_r8_First (l : ACLT) (p : PacketT) (Q : Int × Unit → Prop) : evF G_r8_First (Lfp G_r8_First tb_r8_First) c_r8_First (VSs.enc e_r8_First.A (l, p, ())) (dq e_r8_First.R Q) = (
  L_r8_First_0 l p 0 Q) := by kernel_rfl
theorem rd_r8_First_0 (l : ACLT) (p : PacketT) (v0 : Int) (Q : Int × Unit → Prop) (h :
  cond (decide (v0 < (l.2.1.length : Int)))
  (cond ((okIx v0 (l.2.1.length : Int)) && true)
    (cond (g_r8_Matches (List.getD l.2.1 (Int.toNat v0) RuleD) p)
      (Q (v0, ()))
      (L_r8_First_0 l p (IntKind.wrap .i64 (v0 + 1)) Q))
    False)
  (Q ((-1), ()))) : L_r8_First_0 l p v0 Q := Lfp.step ((by kernel_rfl : evC G_r8_First (Lfp G_r8_First tb_r8_First) (tb_r8_First 0).2 (s_r8_First_0 l p v0) (kLoop (tb_r8_First 0).1 (Lfp G_r8_First tb_r8_First 0) (k_r8_First_0 Q)) = (
  cond (decide (v0 < (l.2.1.length : Int)))
  (cond ((okIx v0 (l.2.1.length : Int)) && true)
    (cond (g_r8_Matches (List.getD l.2.1 (Int.toNat v0) RuleD) p)
      (Q (v0, ()))
      (L_r8_First_0 l p (IntKind.wrap .i64 (v0 + 1)) Q))
    False)
  (Q ((-1), ())))).symm ▸ h)
theorem lp_r8_First_0 (l : ACLT) (p : PacketT) (Q : Int × Unit → Prop) (hw : VSs.wf e_r8_First.A (l, p, ()))  : (fun y : Int => Q (y, ())) (S_r8_First_0 l p) → L_r8_First_0 l p 0 Q := by
  have _ := hw
  let FF := (fun y : Int => Q (y, ()))
  refine upV_loop (F := FF) (k := .i64) (L := (fun c0 : Int => L_r8_First_0 l p c0 Q)) (wrap_i64n (show _ ≤ _ from (((hw.1).2).1).1)) (fun c0 hc0 hF => rd_r8_First_0 l p (c0 : Int) Q (cond_ge (n := l.2.1.length) rfl hc0 (id hF))) (fun c0 _ hc0 next0 hn0 hF => rd_r8_First_0 l p (c0 : Int) Q (cond_lt (n := l.2.1.length) rfl hc0 ((vc_f (F := FF) (by first | ((repeat' (first | rfl | exact nn_d64 _ | exact okIx_nat hc0 | refine and_t ?_ ?_ | refine or_l ?_)); done) | (simp [-List.getD_eq_getElem?_getD, okIx_nat hc0, nn_u64, nn_u32]; done) | (have hry : roomy = 1048576 := rfl; simp [-List.getD_eq_getElem?_getD, okIx, okSlc, okApp, len_slcL, len_segL] <;> omega)) /- 1 -/ (cond_f (F := FF) (fun h0 => id) (fun h0 => hn0))) hF)))
theorem ct_r8_First (l : ACLT) (p : PacketT) (hw : VSs.wf e_r8_First.A (l, p, ())) (Q : Int × Unit → Prop) (hq : Q (e_r8_First.g (l, p, ()))) : EvF G_r8_First tb_r8_First c_r8_First (VSs.enc e_r8_First.A (l, p, ())) (dq e_r8_First.R Q) := by
  have _ := hw
  let FF := (fun y : Int => Q (y, ()))
  refine EvF.of (in_r8_First l p Q) ?_
  exact (lp_r8_First_0 l p Q hw) hq
/-! netverify/netverifyref8.Permits -/
def G_r8_Permits : List Ent := [e_r8_ACL, e_r8_First]
def c_r8_Permits : AFunc := AFunc.mk 37 3 [(.t 6)] (.seq (.region [(.mk (some 3) none (.box (.t 0))), (.mk (some 5) none (.box (.t 2))), (.mk (some 6) none (.mov (.c (.f (.bool false)))))] []) (.seq (.seq (.region [(.mk (some 9) none (.mov (.t 1))), (.mk (some 10) none (.bin .eql (.t 9) (.c (.f (.str [])))))] []) (.cond 10 (.seq (.region [(.mk (some 6) none (.mov (.c (.f (.bool true)))))] []) .ret) .skip)) (.seq (.region [(.mk (some 11) none (.load true 25 (.t 3))), (.mk (some 12) none (.mov (.t 1))), (.mk (some 13) none (.call 37 [(.t 11), (.t 12)])), (.mk (some 7) none (.mov (.t 13)))] []) (.seq (.seq (.region [(.mk (some 14) none (.mov (.t 7))), (.mk (some 15) none (.bin .lss (.t 14) (.c (.f (.int .i64 0)))))] []) (.cond 15 (.seq (.region [(.mk (some 6) none (.mov (.c (.f (.bool false)))))] []) .ret) .skip)) (.seq (.region [(.mk (some 16) none (.fld 5 (.t 3))), (.mk (some 17) none (.load false 1 (.t 16))), (.mk (some 18) none (.mov (.t 7))), (.mk (some 19) none (.ixa 2 (.t 17) (.t 18))), (.mk (some 20) none (.load true 2 (.t 19))), (.mk (some 21) none (.load true 5 (.t 5))), (.mk (some 22) none (.call 38 [(.t 20), (.t 21)])), (.mk (some 8) none (.mov (.t 22)))] []) (.seq (.region [(.mk (some 23) none (.mov (.t 8))), (.mk (some 24) none (.bin .geq (.t 23) (.c (.f (.int .i64 0))))), (.mk (some 25) none (.mov (.t 24))), (.mk (some 26) (some (25, true)) (.fld 5 (.t 3))), (.mk (some 27) (some (25, true)) (.load false 1 (.t 26))), (.mk (some 28) (some (25, true)) (.mov (.t 7))), (.mk (some 29) (some (25, true)) (.ixa 2 (.t 27) (.t 28))), (.mk (some 30) (some (25, true)) (.fld 1 (.t 29))), (.mk (some 31) (some (25, true)) (.load false 1 (.t 30))), (.mk (some 32) (some (25, true)) (.mov (.t 8))), (.mk (some 33) (some (25, true)) (.ixa 10 (.t 31) (.t 32))), (.mk (some 34) (some (25, true)) (.fld 0 (.t 33))), (.mk (some 35) (some (25, true)) (.load false 1 (.t 34))), (.mk (some 36) none (.pick 25 (.t 35) (.c (.f (.bool false))))), (.mk (some 6) none (.mov (.t 36)))] []) .ret))))))
def tb_r8_Permits : Tbl := fun _ => ([], .skip)
theorem ok_r8_Permits : compF Try.prog Try.f23 = some c_r8_Permits.strip := by kernel_rfl
theorem tk_r8_Permits : TblOk tb_r8_Permits c_r8_Permits.body := ⟨trivial, ⟨⟨trivial, ⟨⟨trivial, trivial⟩, trivial⟩⟩, ⟨trivial, ⟨⟨trivial, ⟨⟨trivial, trivial⟩, trivial⟩⟩, ⟨trivial, ⟨trivial, trivial⟩⟩⟩⟩⟩⟩
theorem in_r8_Permits (r : RouterT) (name : List UInt8) (p : PacketT) (Q : Bool × Unit → Prop) : evF G_r8_Permits (Lfp G_r8_Permits tb_r8_Permits) c_r8_Permits (VSs.enc e_r8_Permits.A (r, name, p, ())) (dq e_r8_Permits.R Q) = (
  cond (name == [])
  (Q (true, ()))
  (cond (decide ((g_r8_ACL r name) < 0))
    (Q (false, ()))
    (cond ((okIx (g_r8_ACL r name) (r.2.2.2.2.2.1.length : Int)) && true)
      (cond (((okIx (g_r8_ACL r name) (r.2.2.2.2.2.1.length : Int)) || (!(((decide ((g_r8_First (List.getD r.2.2.2.2.2.1 (Int.toNat (g_r8_ACL r name)) ACLD) p) ≥ 0)) == true) && true))) && ((okIx (g_r8_First (List.getD r.2.2.2.2.2.1 (Int.toNat (g_r8_ACL r name)) ACLD) p) ((List.getD r.2.2.2.2.2.1 (Int.toNat (g_r8_ACL r name)) ACLD).2.1.length : Int)) || (!(((decide ((g_r8_First (List.getD r.2.2.2.2.2.1 (Int.toNat (g_r8_ACL r name)) ACLD) p) ≥ 0)) == true) && true))))
        (Q (((decide ((g_r8_First (List.getD r.2.2.2.2.2.1 (Int.toNat (g_r8_ACL r name)) ACLD) p) ≥ 0)) && (List.getD (List.getD r.2.2.2.2.2.1 (Int.toNat (g_r8_ACL r name)) ACLD).2.1 (Int.toNat (g_r8_First (List.getD r.2.2.2.2.2.1 (Int.toNat (g_r8_ACL r name)) ACLD) p)) RuleD).1), ()))
        False)
      False))) := by kernel_rfl
theorem ct_r8_Permits (r : RouterT) (name : List UInt8) (p : PacketT) (hw : VSs.wf e_r8_Permits.A (r, name, p, ())) (Q : Bool × Unit → Prop) (hq : Q (e_r8_Permits.g (r, name, p, ()))) : EvF G_r8_Permits tb_r8_Permits c_r8_Permits (VSs.enc e_r8_Permits.A (r, name, p, ())) (dq e_r8_Permits.R Q) := by
  have _ := hw
  let FF := (fun y : Bool => Q (y, ()))
  refine EvF.of (in_r8_Permits r name p Q) ?_
  exact (cond_f (F := FF) (fun h0 => id) (fun h0 => (cond_f (F := FF) (fun h1 => id) (fun h1 => (vc_f (F := FF) (by rcases ix_r8_ACL r name with h | h <;> simp_all) (vc_f (F := FF) (by rcases ix_r8_ACL r name with h | h <;> rcases ix_r8_First (List.getD r.2.2.2.2.2.1 (Int.toNat (g_r8_ACL r name)) ACLD) p with h3 | h3 <;> simp_all) id)))))) hq
/-! netverify/netverifyref8.Source -/
def G_r8_Source : List Ent := [e_r8_Permits]
def b_r8_Source_1 : ACode := (.seq (.seq (.region [(.mk (some 43) none (.mov (.t 8))), (.mk (some 44) none (.fld 8 (.t 6))), (.mk (some 45) none (.load false 1 (.t 44))), (.mk (some 46) none (.fld 7 (.t 6))), (.mk (some 47) none (.load false 1 (.t 46))), (.mk (some 48) none (.bin .sub (.t 45) (.t 47))), (.mk (some 49) none (.bin .leq (.t 43) (.t 48))), (.mk (some 50) none (.mov (.t 49))), (.mk (some 51) (some (50, true)) (.mov (.t 8))), (.mk (some 52) (some (50, true)) (.bin .lss (.t 51) (.c (.f (.int .u32 8))))), (.mk (some 53) none (.pick 50 (.t 52) (.c (.f (.bool false)))))] []) (.cond 53 .skip (.exit 3))) (.seq (.block 4 (.seq (.region [(.mk (some 56) none (.load true 5 (.t 3))), (.mk (some 9) none (.alloc [(.f (.int .u32 0)), (.f (.int .u32 0)), (.f (.int .i64 0)), (.f (.int .i64 0)), (.f (.int .i64 0))])), (.mk none none (.store 5 (.t 9) (.t 56)))] []) (.seq (.region [(.mk (some 57) none (.fld 7 (.t 6))), (.mk (some 58) none (.load false 1 (.t 57))), (.mk (some 59) none (.mov (.t 8))), (.mk (some 60) none (.bin .add (.t 58) (.t 59))), (.mk (some 61) none (.fld 0 (.t 9))), (.mk none none (.store 1 (.t 61) (.t 60)))] []) (.region [(.mk (some 62) none (.mov (.t 7))), (.mk (some 63) none (.load true 5 (.t 9))), (.mk (some 64) none (.bslice PacketS 32 [(.f (.int .u32 0)), (.f (.int .u32 0)), (.f (.int .i64 0)), (.f (.int .i64 0)), (.f (.int .i64 0))] 1 [(0, (.t 63))])), (.mk (some 65) none (.app PacketS 32 (.t 62) (.t 64))), (.mk (some 7) none (.mov (.t 65)))] [])))) (.region [(.mk (some 54) none (.mov (.t 8))), (.mk (some 55) none (.bin .add (.t 54) (.c (.f (.int .u32 1))))), (.mk (some 8) none (.mov (.t 55)))] [])))
def r_r8_Source_0 : ACode := (.seq (.region [(.mk (some 66) none (.mov (.t 7))), (.mk (some 4) none (.mov (.t 66)))] []) .ret)
def r_r8_Source_1 : ACode := (.region [(.mk (some 15) none (.mov (.t 5))), (.mk (some 16) none (.bin .add (.t 15) (.c (.f (.int .i64 1))))), (.mk (some 5) none (.mov (.t 16)))] [])
def b_r8_Source_0 : ACode := (.seq (.seq (.region [(.mk (some 10) none (.mov (.t 5))), (.mk (some 11) none (.fld 6 (.t 2))), (.mk (some 12) none (.load false 1 (.t 11))), (.mk (some 13) none (.len (.t 12))), (.mk (some 14) none (.bin .lss (.t 10) (.t 13)))] []) (.cond 14 .skip (.exit 0))) (.seq (.block 1 (.seq (.region [(.mk (some 17) none (.fld 6 (.t 2))), (.mk (some 18) none (.load false 1 (.t 17))), (.mk (some 19) none (.mov (.t 5))), (.mk (some 20) none (.ixa 9 (.t 18) (.t 19))), (.mk (some 21) none (.load true 9 (.t 20))), (.mk (some 6) none (.alloc [(.f (.int .i64 0)), (.f (.int .u32 0)), (.f (.int .u32 0)), (.f (.int .i64 0)), (.f (.int .i64 0)), (.f (.int .i64 0)), (.f (.str [])), (.f (.int .u32 0)), (.f (.int .u32 0))])), (.mk none none (.store 9 (.t 6) (.t 21)))] []) (.seq (.region [(.mk (some 22) none (.fld 0 (.t 6))), (.mk (some 23) none (.load false 1 (.t 22)))] []) (.block 2 (.seq (.region [(.mk (some 25) none (.bin .eql (.t 23) (.c (.f (.int .i64 1))))), (.mk (some 24) none (.mov (.t 25)))] []) (.cond 24 (.seq (.region [(.mk (some 26) none (.fld 1 (.t 6))), (.mk (some 27) none (.load false 1 (.t 26))), (.mk (some 28) none (.fld 0 (.t 3))), (.mk (some 29) none (.load false 1 (.t 28))), (.mk (some 30) none (.bin .eql (.t 27) (.t 29)))] []) (.cond 30 (.seq (.region [(.mk (some 31) none (.fld 2 (.t 6))), (.mk (some 32) none (.load false 1 (.t 31))), (.mk (some 33) none (.fld 0 (.t 3))), (.mk none none (.store 1 (.t 33) (.t 32)))] []) (.seq (.region [(.mk (some 34) none (.load true 5 (.t 3))), (.mk (some 35) none (.bslice PacketS 32 [(.f (.int .u32 0)), (.f (.int .u32 0)), (.f (.int .i64 0)), (.f (.int .i64 0)), (.f (.int .i64 0))] 1 [(0, (.t 34))])), (.mk (some 4) none (.mov (.t 35)))] []) .ret)) .skip)) (.seq (.region [(.mk (some 37) none (.bin .eql (.t 23) (.c (.f (.int .i64 2))))), (.mk (some 36) none (.mov (.t 37)))] []) (.cond 36 (.seq (.region [(.mk (some 38) none (.load true 25 (.t 2))), (.mk (some 39) none (.fld 6 (.t 6))), (.mk (some 40) none (.load false 1 (.t 39))), (.mk (some 41) none (.load true 5 (.t 3))), (.mk (some 42) none (.call 23 [(.t 38), (.t 40), (.t 41)]))] []) (.cond 42 (.seq (.region [(.mk (some 7) none (.mov (.c (.f .nils))))] []) (.seq (.seq (.region [(.mk (some 8) none (.mov (.c (.f (.int .u32 0)))))] []) (.block 3 (.loop 1 [(3, none), (6, none), (7, some PacketS), (8, none)] b_r8_Source_1))) r_r8_Source_0)) .skip)) (.seq (.region [(.mk (some 68) none (.bin .eql (.t 23) (.c (.f (.int .i64 3))))), (.mk (some 67) none (.mov (.t 68)))] []) (.cond 67 (.seq (.region [(.mk (some 69) none (.fld 1 (.t 6))), (.mk (some 70) none (.load false 1 (.t 69))), (.mk (some 71) none (.fld 0 (.t 3))), (.mk (some 72) none (.load false 1 (.t 71))), (.mk (some 73) none (.bin .eql (.t 70) (.t 72))), (.mk (some 74) none (.mov (.t 73))), (.mk (some 75) (some (74, true)) (.fld 3 (.t 6))), (.mk (some 76) (some (74, true)) (.load false 1 (.t 75))), (.mk (some 77) (some (74, true)) (.fld 2 (.t 3))), (.mk (some 78) (some (74, true)) (.load false 1 (.t 77))), (.mk (some 79) (some (74, true)) (.bin .eql (.t 76) (.t 78))), (.mk (some 80) none (.pick 74 (.t 79) (.c (.f (.bool false))))), (.mk (some 81) none (.mov (.t 80))), (.mk (some 82) (some (81, true)) (.fld 4 (.t 6))), (.mk (some 83) (some (81, true)) (.load false 1 (.t 82))), (.mk (some 84) (some (81, true)) (.fld 3 (.t 3))), (.mk (some 85) (some (81, true)) (.load false 1 (.t 84))), (.mk (some 86) (some (81, true)) (.bin .eql (.t 83) (.t 85))), (.mk (some 87) none (.pick 81 (.t 86) (.c (.f (.bool false)))))] []) (.cond 87 (.seq (.region [(.mk (some 88) none (.fld 2 (.t 6))), (.mk (some 89) none (.load false 1 (.t 88))), (.mk (some 90) none (.fld 0 (.t 3))), (.mk none none (.store 1 (.t 90) (.t 89)))] []) (.seq (.region [(.mk (some 91) none (.fld 5 (.t 6))), (.mk (some 92) none (.load false 1 (.t 91))), (.mk (some 93) none (.fld 3 (.t 3))), (.mk none none (.store 1 (.t 93) (.t 92)))] []) (.seq (.region [(.mk (some 94) none (.load true 5 (.t 3))), (.mk (some 95) none (.bslice PacketS 32 [(.f (.int .u32 0)), (.f (.int .u32 0)), (.f (.int .i64 0)), (.f (.int .i64 0)), (.f (.int .i64 0))] 1 [(0, (.t 94))])), (.mk (some 4) none (.mov (.t 95)))] []) .ret))) .skip)) .skip)))))))))) r_r8_Source_1))
def r_r8_Source_2 : ACode := (.seq (.region [(.mk (some 96) none (.load true 5 (.t 3))), (.mk (some 97) none (.bslice PacketS 32 [(.f (.int .u32 0)), (.f (.int .u32 0)), (.f (.int .i64 0)), (.f (.int .i64 0)), (.f (.int .i64 0))] 1 [(0, (.t 96))])), (.mk (some 4) none (.mov (.t 97)))] []) .ret)
def c_r8_Source : AFunc := AFunc.mk 98 2 [(.t 4)] (.seq (.region [(.mk (some 2) none (.box (.t 0))), (.mk (some 3) none (.box (.t 1))), (.mk (some 4) none (.mov (.c (.f .nils))))] []) (.seq (.seq (.region [(.mk (some 5) none (.mov (.c (.f (.int .i64 0)))))] []) (.block 0 (.loop 0 [(2, none), (3, none), (5, none)] b_r8_Source_0))) r_r8_Source_2))
def tb_r8_Source : Tbl
  | 0 => ([(2, none), (3, none), (5, none)], b_r8_Source_0)
  | 1 => ([(3, none), (6, none), (7, some PacketS), (8, none)], b_r8_Source_1)
  | _ => ([], .skip)
theorem ok_r8_Source : compF Try.prog Try.f14 = some c_r8_Source.strip := by kernel_rfl
theorem tk_r8_Source : TblOk tb_r8_Source c_r8_Source.body := ⟨trivial, ⟨⟨trivial, ⟨rfl, ⟨⟨trivial, ⟨trivial, trivial⟩⟩, ⟨⟨trivial, ⟨trivial, ⟨trivial, ⟨⟨trivial, ⟨⟨trivial, ⟨trivial, trivial⟩⟩, trivial⟩⟩, ⟨trivial, ⟨⟨trivial, ⟨⟨trivial, ⟨⟨trivial, ⟨rfl, ⟨⟨trivial, ⟨trivial, trivial⟩⟩, ⟨⟨trivial, ⟨trivial, trivial⟩⟩, trivial⟩⟩⟩⟩, ⟨trivial, trivial⟩⟩⟩, trivial⟩⟩, ⟨trivial, ⟨⟨trivial, ⟨⟨trivial, ⟨trivial, ⟨trivial, trivial⟩⟩⟩, trivial⟩⟩, trivial⟩⟩⟩⟩⟩⟩⟩⟩, trivial⟩⟩⟩⟩, ⟨trivial, trivial⟩⟩⟩
def k_r8_Source_0 (Q : (List PacketT) × Unit → Prop) : K := (kBlock 0 (kSeq (evC G_r8_Source (Lfp G_r8_Source tb_r8_Source) r_r8_Source_2) (kDone c_r8_Source (dq e_r8_Source.R Q))))
def s_r8_Source_0 (r : RouterT) (p : PacketT) (v0 : Int) : St := ⟨[(2, [], .ptr 0 0), (3, [], .ptr 1 0), (5, [], .f (.int .i64 v0))], [.box [.f (.str r.1), .f (.int .i64 r.2.1), .f (.fs InterfaceS r.2.2.1), .f (.fs PrefixListS r.2.2.2.1), .f (.fs RouteMapS r.2.2.2.2.1), .f (.fs ACLS r.2.2.2.2.2.1), .f (.fs TranslationS r.2.2.2.2.2.2.1), .f (.fs StaticRouteS r.2.2.2.2.2.2.2.1), .f (.bool r.2.2.2.2.2.2.2.2.1), .f (.int .i64 r.2.2.2.2.2.2.2.2.2.1), .f (.fs AreaRangeS r.2.2.2.2.2.2.2.2.2.2.1), .f (.fs RedistS r.2.2.2.2.2.2.2.2.2.2.2.1), .f (.bool r.2.2.2.2.2.2.2.2.2.2.2.2.1), .f (.int .i64 r.2.2.2.2.2.2.2.2.2.2.2.2.2.1), .f (.str r.2.2.2.2.2.2.2.2.2.2.2.2.2.2.1), .f (.str r.2.2.2.2.2.2.2.2.2.2.2.2.2.2.2.1), .f (.fs RedistS r.2.2.2.2.2.2.2.2.2.2.2.2.2.2.2.2.1), .f (.bool r.2.2.2.2.2.2.2.2.2.2.2.2.2.2.2.2.2.1), .f (.int .i64 r.2.2.2.2.2.2.2.2.2.2.2.2.2.2.2.2.2.2.1), .f (.int .i64 r.2.2.2.2.2.2.2.2.2.2.2.2.2.2.2.2.2.2.2.1), .f (.fs NeighborS r.2.2.2.2.2.2.2.2.2.2.2.2.2.2.2.2.2.2.2.2.1), .f (.fs PrefixS r.2.2.2.2.2.2.2.2.2.2.2.2.2.2.2.2.2.2.2.2.2.1), .f (.fs AggregateS r.2.2.2.2.2.2.2.2.2.2.2.2.2.2.2.2.2.2.2.2.2.2.1), .f (.fs ConditionS r.2.2.2.2.2.2.2.2.2.2.2.2.2.2.2.2.2.2.2.2.2.2.2.1), .f (.fs RedistS r.2.2.2.2.2.2.2.2.2.2.2.2.2.2.2.2.2.2.2.2.2.2.2.2.1)], .box [.f (.int .u32 p.1), .f (.int .u32 p.2.1), .f (.int .i64 p.2.2.1), .f (.int .i64 p.2.2.2.1), .f (.int .i64 p.2.2.2.2.1)]]⟩
def L_r8_Source_0 (r : RouterT) (p : PacketT) (v0 : Int) (Q : (List PacketT) × Unit → Prop) : Prop := Lfp G_r8_Source tb_r8_Source 0 (s_r8_Source_0 r p v0) (k_r8_Source_0 Q)
def k_r8_Source_1 (Q : (List PacketT) × Unit → Prop) : K := (kBlock 3 (kSeq (evC G_r8_Source (Lfp G_r8_Source tb_r8_Source) r_r8_Source_0) (kBlock 2 (kBlock 1 (kSeq (evC G_r8_Source (Lfp G_r8_Source tb_r8_Source) r_r8_Source_1) (kLoop [(2, none), (3, none), (5, none)] (Lfp G_r8_Source tb_r8_Source 0) (k_r8_Source_0 Q)))))))
def s_r8_Source_1 (r : RouterT) (p : PacketT) (v0 : Nat) (v1 : Int) (v2 : List PacketT) (v3 : TranslationT) : St := ⟨[(3, [], .ptr 0 0), (6, [], .ptr 1 0), (7, [], .sl 2 5 0 v0), (8, [], .f (.int .u32 v1))], [.box [.f (.int .u32 p.1), .f (.int .u32 p.2.1), .f (.int .i64 p.2.2.1), .f (.int .i64 p.2.2.2.1), .f (.int .i64 p.2.2.2.2.1)], .box [.f (.int .i64 v3.1), .f (.int .u32 v3.2.1), .f (.int .u32 v3.2.2.1), .f (.int .i64 v3.2.2.2.1), .f (.int .i64 v3.2.2.2.2.1), .f (.int .i64 v3.2.2.2.2.2.1), .f (.str v3.2.2.2.2.2.2.1), .f (.int .u32 v3.2.2.2.2.2.2.2.1), .f (.int .u32 v3.2.2.2.2.2.2.2.2.1)], .row PacketS v2]⟩
def L_r8_Source_1 (r : RouterT) (p : PacketT) (v0 : Nat) (v1 : Int) (v2 : List PacketT) (v3 : TranslationT) (Q : (List PacketT) × Unit → Prop) : Prop := Lfp G_r8_Source tb_r8_Source 1 (s_r8_Source_1 r p v0 v1 v2 v3) (k_r8_Source_1 Q)
theorem in_r8_Source (r : RouterT) (p : PacketT) (Q : (List PacketT) × Unit → Prop) : evF G_r8_Source (Lfp G_r8_Source tb_r8_Source) c_r8_Source (VSs.enc e_r8_Source.A (r, p, ())) (dq e_r8_Source.R Q) = (
  L_r8_Source_0 r p 0 Q) := by kernel_rfl
theorem rd_r8_Source_0 (r : RouterT) (p : PacketT) (v0 : Int) (Q : (List PacketT) × Unit → Prop) (h :
  cond (decide (v0 < (r.2.2.2.2.2.2.1.length : Int)))
  (cond (okIx v0 (r.2.2.2.2.2.2.1.length : Int))
    (cond ((List.getD r.2.2.2.2.2.2.1 (Int.toNat v0) TranslationD).1 == 1)
      (cond ((List.getD r.2.2.2.2.2.2.1 (Int.toNat v0) TranslationD).2.1 == p.1)
        (Q ([((List.getD r.2.2.2.2.2.2.1 (Int.toNat v0) TranslationD).2.2.1, p.2.1, p.2.2.1, p.2.2.2.1, p.2.2.2.2.1, ())], ()))
        (L_r8_Source_0 r p (IntKind.wrap .i64 (v0 + 1)) Q))
      (cond ((List.getD r.2.2.2.2.2.2.1 (Int.toNat v0) TranslationD).1 == 2)
        (cond (g_r8_Permits r (List.getD r.2.2.2.2.2.2.1 (Int.toNat v0) TranslationD).2.2.2.2.2.2.1 p)
          (L_r8_Source_1 r p 0 0 [] (List.getD r.2.2.2.2.2.2.1 (Int.toNat v0) TranslationD) Q)
          (L_r8_Source_0 r p (IntKind.wrap .i64 (v0 + 1)) Q))
        (cond ((List.getD r.2.2.2.2.2.2.1 (Int.toNat v0) TranslationD).1 == 3)
          (cond ((((List.getD r.2.2.2.2.2.2.1 (Int.toNat v0) TranslationD).2.1 == p.1) && ((List.getD r.2.2.2.2.2.2.1 (Int.toNat v0) TranslationD).2.2.2.1 == p.2.2.1)) && ((List.getD r.2.2.2.2.2.2.1 (Int.toNat v0) TranslationD).2.2.2.2.1 == p.2.2.2.1))
            (Q ([((List.getD r.2.2.2.2.2.2.1 (Int.toNat v0) TranslationD).2.2.1, p.2.1, p.2.2.1, (List.getD r.2.2.2.2.2.2.1 (Int.toNat v0) TranslationD).2.2.2.2.2.1, p.2.2.2.2.1, ())], ()))
            (L_r8_Source_0 r p (IntKind.wrap .i64 (v0 + 1)) Q))
          (L_r8_Source_0 r p (IntKind.wrap .i64 (v0 + 1)) Q))))
    False)
  (Q ([p], ()))) : L_r8_Source_0 r p v0 Q := Lfp.step ((by kernel_rfl : evC G_r8_Source (Lfp G_r8_Source tb_r8_Source) (tb_r8_Source 0).2 (s_r8_Source_0 r p v0) (kLoop (tb_r8_Source 0).1 (Lfp G_r8_Source tb_r8_Source 0) (k_r8_Source_0 Q)) = (
  cond (decide (v0 < (r.2.2.2.2.2.2.1.length : Int)))
  (cond (okIx v0 (r.2.2.2.2.2.2.1.length : Int))
    (cond ((List.getD r.2.2.2.2.2.2.1 (Int.toNat v0) TranslationD).1 == 1)
      (cond ((List.getD r.2.2.2.2.2.2.1 (Int.toNat v0) TranslationD).2.1 == p.1)
        (Q ([((List.getD r.2.2.2.2.2.2.1 (Int.toNat v0) TranslationD).2.2.1, p.2.1, p.2.2.1, p.2.2.2.1, p.2.2.2.2.1, ())], ()))
        (L_r8_Source_0 r p (IntKind.wrap .i64 (v0 + 1)) Q))
      (cond ((List.getD r.2.2.2.2.2.2.1 (Int.toNat v0) TranslationD).1 == 2)
        (cond (g_r8_Permits r (List.getD r.2.2.2.2.2.2.1 (Int.toNat v0) TranslationD).2.2.2.2.2.2.1 p)
          (L_r8_Source_1 r p 0 0 [] (List.getD r.2.2.2.2.2.2.1 (Int.toNat v0) TranslationD) Q)
          (L_r8_Source_0 r p (IntKind.wrap .i64 (v0 + 1)) Q))
        (cond ((List.getD r.2.2.2.2.2.2.1 (Int.toNat v0) TranslationD).1 == 3)
          (cond ((((List.getD r.2.2.2.2.2.2.1 (Int.toNat v0) TranslationD).2.1 == p.1) && ((List.getD r.2.2.2.2.2.2.1 (Int.toNat v0) TranslationD).2.2.2.1 == p.2.2.1)) && ((List.getD r.2.2.2.2.2.2.1 (Int.toNat v0) TranslationD).2.2.2.2.1 == p.2.2.2.1))
            (Q ([((List.getD r.2.2.2.2.2.2.1 (Int.toNat v0) TranslationD).2.2.1, p.2.1, p.2.2.1, (List.getD r.2.2.2.2.2.2.1 (Int.toNat v0) TranslationD).2.2.2.2.2.1, p.2.2.2.2.1, ())], ()))
            (L_r8_Source_0 r p (IntKind.wrap .i64 (v0 + 1)) Q))
          (L_r8_Source_0 r p (IntKind.wrap .i64 (v0 + 1)) Q))))
    False)
  (Q ([p], ())))).symm ▸ h)
theorem rd_r8_Source_1 (r : RouterT) (p : PacketT) (v0 : Nat) (v1 : Int) (v2 : List PacketT) (v3 : TranslationT) (Q : (List PacketT) × Unit → Prop) (h :
  cond ((decide (v1 ≤ (IntKind.wrap .u32 (v3.2.2.2.2.2.2.2.2.1 - v3.2.2.2.2.2.2.2.1)))) && (decide (v1 < 8)))
  (cond (okApp v0 v2.length 1)
    (L_r8_Source_1 r p (v0 + 1) (IntKind.wrap .u32 (v1 + 1)) (v2 ++ [((IntKind.wrap .u32 (v3.2.2.2.2.2.2.2.1 + v1)), p.2.1, p.2.2.1, p.2.2.2.1, p.2.2.2.2.1, ())]) v3 Q)
    False)
  (Q ((segL v2 0 v0), ()))) : L_r8_Source_1 r p v0 v1 v2 v3 Q := Lfp.step ((by kernel_rfl : evC G_r8_Source (Lfp G_r8_Source tb_r8_Source) (tb_r8_Source 1).2 (s_r8_Source_1 r p v0 v1 v2 v3) (kLoop (tb_r8_Source 1).1 (Lfp G_r8_Source tb_r8_Source 1) (k_r8_Source_1 Q)) = (
  cond ((decide (v1 ≤ (IntKind.wrap .u32 (v3.2.2.2.2.2.2.2.2.1 - v3.2.2.2.2.2.2.2.1)))) && (decide (v1 < 8)))
  (cond (okApp v0 v2.length 1)
    (L_r8_Source_1 r p (v0 + 1) (IntKind.wrap .u32 (v1 + 1)) (v2 ++ [((IntKind.wrap .u32 (v3.2.2.2.2.2.2.2.1 + v1)), p.2.1, p.2.2.1, p.2.2.2.1, p.2.2.2.2.1, ())]) v3 Q)
    False)
  (Q ((segL v2 0 v0), ())))).symm ▸ h)
theorem lp_r8_Source_1 (r : RouterT) (p : PacketT) (c0 : Nat) (v3 : TranslationT) (next0 : List PacketT) (v20 : List PacketT) (Q : (List PacketT) × Unit → Prop) (hw : VSs.wf e_r8_Source.A (r, p, ())) (hc0 : c0 < r.2.2.2.2.2.2.1.length) (hn0 : (fun y : List PacketT => Q (y, ())) next0 → L_r8_Source_0 r p (IntKind.wrap .i64 ((c0 : Int) + 1)) Q) (hI0 : (fun (c : Nat) (s : List PacketT) => s.length ≤ c) 0 v20) : (fun y : List PacketT => Q (y, ())) (S_r8_Source_1 r p c0 v3 next0 v20) → L_r8_Source_1 r p (List.length v20) 0 v20 v3 Q := by
  have _ := hw
  have _ := hc0
  let FF := (fun y : List PacketT => Q (y, ()))
  refine upS_loop (F := FF) (k := .u32) (I := (fun (c : Nat) (s : List PacketT) => s.length ≤ c)) (L := (fun (c1 : Int) (s1 : (List PacketT)) => L_r8_Source_1 r p (List.length s1) c1 s1 v3 Q)) (wrap_u32n (by decide)) (fun c1 hc1 s1 hI hF => rd_r8_Source_1 r p (List.length s1) (c1 : Int) s1 v3 Q (cond_ge_r (n := 8) rfl hc1 (id hF))) (fun c1 _ hc1 next1 hn1 s1 hI hF => rd_r8_Source_1 r p (List.length s1) (c1 : Int) s1 v3 Q (cond_lt_r (n := 8) rfl hc1 ((cond_f (F := FF) (fun h0 => (vc_f (F := FF) (by first | ((repeat' (first | rfl | exact nn_d64 _ | exact okIx_nat hc0 | exact okIx_nat hc1 | refine and_t ?_ ?_ | refine or_l ?_)); done) | (simp [-List.getD_eq_getElem?_getD, okIx_nat hc0, okIx_nat hc1, nn_u64, nn_u32]; done) | (simp [-List.getD_eq_getElem?_getD, okIx_nat hc0, okIx_nat hc1, nn_u64, nn_u32, h0]; done) | (have hry : roomy = 1048576 := rfl; simp [-List.getD_eq_getElem?_getD, okIx, okSlc, okApp, len_slcL, len_segL] at h0 hI ⊢ <;> omega)) /- 1 -/ (fun hF => by have hL := hn1 _ (by simp at hI ⊢; omega) hF; simpa only [List.length_append, List.length_cons, List.length_nil, List.length_set, Nat.zero_add] using hL))) (fun h0 => id)) hF))) v20 hI0
theorem lp_r8_Source_0 (r : RouterT) (p : PacketT) (Q : (List PacketT) × Unit → Prop) (hw : VSs.wf e_r8_Source.A (r, p, ()))  : (fun y : List PacketT => Q (y, ())) (S_r8_Source_0 r p) → L_r8_Source_0 r p 0 Q := by
  have _ := hw
  let FF := (fun y : List PacketT => Q (y, ()))
  refine upV_loop (F := FF) (k := .i64) (L := (fun c0 : Int => L_r8_Source_0 r p c0 Q)) (wrap_i64n (show _ ≤ _ from ((((((((hw.1).2).2).2).2).2).2).1).1)) (fun c0 hc0 hF => rd_r8_Source_0 r p (c0 : Int) Q (cond_ge (n := r.2.2.2.2.2.2.1.length) rfl hc0 (id hF))) (fun c0 _ hc0 next0 hn0 hF => rd_r8_Source_0 r p (c0 : Int) Q (cond_lt (n := r.2.2.2.2.2.2.1.length) rfl hc0 ((vc_f (F := FF) (by first | ((repeat' (first | rfl | exact nn_d64 _ | exact okIx_nat hc0 | refine and_t ?_ ?_ | refine or_l ?_)); done) | (simp [-List.getD_eq_getElem?_getD, okIx_nat hc0, nn_u64, nn_u32]; done) | (have hry : roomy = 1048576 := rfl; simp [-List.getD_eq_getElem?_getD, okIx, okSlc, okApp, len_slcL, len_segL] <;> omega)) /- 2 -/ (cond_f (F := FF) (fun h0 => (cond_f (F := FF) (fun h1 => id) (fun h1 => hn0))) (fun h0 => (cond_f (F := FF) (fun h1 => (cond_f (F := FF) (fun h2 => (lp_r8_Source_1 r p c0 _ _ _ Q hw hc0 hn0 (by exact Nat.zero_le _))) (fun h2 => hn0))) (fun h1 => (cond_f (F := FF) (fun h2 => (cond_f (F := FF) (fun h3 => id) (fun h3 => hn0))) (fun h2 => hn0))))))) hF)))
theorem ct_r8_Source (r : RouterT) (p : PacketT) (hw : VSs.wf e_r8_Source.A (r, p, ())) (Q : (List PacketT) × Unit → Prop) (hq : Q (e_r8_Source.g (r, p, ()))) : EvF G_r8_Source tb_r8_Source c_r8_Source (VSs.enc e_r8_Source.A (r, p, ())) (dq e_r8_Source.R Q) := by
  have _ := hw
  let FF := (fun y : List PacketT => Q (y, ()))
  refine EvF.of (in_r8_Source r p Q) ?_
  exact (lp_r8_Source_0 r p Q hw) hq
/-! netverify/nat.Owner -/
def G_nat_Owner : List Ent := []
def b_nat_Owner_0 : ACode := (.seq (.region [(.mk (some 11) none (.bin .lss (.t 10) (.t 9)))] []) (.seq (.cond 11 .skip (.exit 0)) (.seq (.block 1 (.seq (.region [(.mk (some 12) none (.mov (.t 10))), (.mk (some 13) none (.ixa 9 (.t 8) (.t 10))), (.mk (some 14) none (.load true 9 (.t 13))), (.mk (some 6) none (.alloc [(.f (.int .i64 0)), (.f (.int .u32 0)), (.f (.int .u32 0)), (.f (.int .i64 0)), (.f (.int .i64 0)), (.f (.int .i64 0)), (.f (.str [])), (.f (.int .u32 0)), (.f (.int .u32 0))])), (.mk (some 5) none (.mov (.t 12))), (.mk none none (.store 9 (.t 6) (.t 14)))] []) (.seq (.region [(.mk (some 15) none (.fld 0 (.t 6))), (.mk (some 16) none (.load false 1 (.t 15)))] []) (.block 2 (.seq (.seq (.region [(.mk (some 18) none (.bin .eql (.t 16) (.c (.f (.int .i64 1))))), (.mk (some 17) none (.mov (.t 18)))] []) (.cond 17 .skip (.region [(.mk (some 19) none (.bin .eql (.t 16) (.c (.f (.int .i64 3))))), (.mk (some 17) none (.mov (.t 19)))] []))) (.cond 17 (.seq (.region [(.mk (some 20) none (.fld 2 (.t 6))), (.mk (some 21) none (.load false 1 (.t 20))), (.mk (some 22) none (.mov (.t 1))), (.mk (some 23) none (.bin .eql (.t 21) (.t 22)))] []) (.cond 23 (.seq (.region [(.mk (some 24) none (.mov (.t 5))), (.mk (some 4) none (.mov (.t 24)))] []) .ret) .skip)) (.seq (.region [(.mk (some 26) none (.bin .eql (.t 16) (.c (.f (.int .i64 2))))), (.mk (some 25) none (.mov (.t 26)))] []) (.cond 25 (.seq (.region [(.mk (some 27) none (.fld 7 (.t 6))), (.mk (some 28) none (.load false 1 (.t 27))), (.mk (some 29) none (.mov (.t 1))), (.mk (some 30) none (.bin .leq (.t 28) (.t 29))), (.mk (some 31) none (.mov (.t 30))), (.mk (some 32) (some (31, true)) (.mov (.t 1))), (.mk (some 33) (some (31, true)) (.fld 8 (.t 6))), (.mk (some 34) (some (31, true)) (.load false 1 (.t 33))), (.mk (some 35) (some (31, true)) (.bin .leq (.t 32) (.t 34))), (.mk (some 36) none (.pick 31 (.t 35) (.c (.f (.bool false)))))] []) (.cond 36 (.seq (.region [(.mk (some 37) none (.mov (.t 5))), (.mk (some 4) none (.mov (.t 37)))] []) .ret) .skip)) .skip)))))))) (.region [(.mk (some 38) none (.bin .add (.t 10) (.c (.f (.int .i64 1))))), (.mk (some 10) none (.mov (.t 38)))] []))))
def r_nat_Owner_0 : ACode := (.seq (.region [(.mk (some 4) none (.mov (.c (.f (.int .i64 (-1))))))] []) .ret)
def c_nat_Owner : AFunc := AFunc.mk 39 2 [(.t 4)] (.seq (.region [(.mk (some 2) none (.box (.t 0))), (.mk (some 4) none (.mov (.c (.f (.int .i64 0)))))] []) (.seq (.seq (.region [(.mk (some 7) none (.fld 6 (.t 2))), (.mk (some 8) none (.load false 1 (.t 7))), (.mk (some 9) none (.len (.t 8))), (.mk (some 10) none (.mov (.c (.f (.int .i64 0)))))] []) (.block 0 (.loop 0 [(1, none), (8, none), (9, none), (10, none)] b_nat_Owner_0))) r_nat_Owner_0))
def tb_nat_Owner : Tbl
  | 0 => ([(1, none), (8, none), (9, none), (10, none)], b_nat_Owner_0)
  | _ => ([], .skip)
theorem ok_nat_Owner : compF Try.prog Try.f16 = some c_nat_Owner.strip := by kernel_rfl
theorem tk_nat_Owner : TblOk tb_nat_Owner c_nat_Owner.body := ⟨trivial, ⟨⟨trivial, ⟨rfl, ⟨trivial, ⟨⟨trivial, trivial⟩, ⟨⟨trivial, ⟨trivial, ⟨⟨trivial, ⟨trivial, trivial⟩⟩, ⟨⟨trivial, ⟨⟨trivial, trivial⟩, trivial⟩⟩, ⟨trivial, ⟨⟨trivial, ⟨⟨trivial, trivial⟩, trivial⟩⟩, trivial⟩⟩⟩⟩⟩⟩, trivial⟩⟩⟩⟩⟩, ⟨trivial, trivial⟩⟩⟩
def k_nat_Owner_0 (Q : Int × Unit → Prop) : K := (kBlock 0 (kSeq (evC G_nat_Owner (Lfp G_nat_Owner tb_nat_Owner) r_nat_Owner_0) (kDone c_nat_Owner (dq e_nat_Owner.R Q))))
def s_nat_Owner_0 (r : RouterT) (a : Int) (v0 : Int) : St := ⟨[(1, [], .f (.int .u32 a)), (8, [], .f (.fs TranslationS r.2.2.2.2.2.2.1)), (9, [], .f (.int .i64 (r.2.2.2.2.2.2.1.length : Int))), (10, [], .f (.int .i64 v0))], []⟩
def L_nat_Owner_0 (r : RouterT) (a : Int) (v0 : Int) (Q : Int × Unit → Prop) : Prop := Lfp G_nat_Owner tb_nat_Owner 0 (s_nat_Owner_0 r a v0) (k_nat_Owner_0 Q)
theorem in_nat_Owner (r : RouterT) (a : Int) (Q : Int × Unit → Prop) : evF G_nat_Owner (Lfp G_nat_Owner tb_nat_Owner) c_nat_Owner (VSs.enc e_nat_Owner.A (r, a, ())) (dq e_nat_Owner.R Q) = (
  L_nat_Owner_0 r a 0 Q) := by kernel_rfl
theorem rd_nat_Owner_0 (r : RouterT) (a : Int) (v0 : Int) (Q : Int × Unit → Prop) (h :
  cond (decide (v0 < (r.2.2.2.2.2.2.1.length : Int)))
  (cond (okIx v0 (r.2.2.2.2.2.2.1.length : Int))
    (cond ((List.getD r.2.2.2.2.2.2.1 (Int.toNat v0) TranslationD).1 == 1)
      (cond ((List.getD r.2.2.2.2.2.2.1 (Int.toNat v0) TranslationD).1 == 1)
        (cond ((List.getD r.2.2.2.2.2.2.1 (Int.toNat v0) TranslationD).2.2.1 == a)
          (Q (v0, ()))
          (L_nat_Owner_0 r a (IntKind.wrap .i64 (v0 + 1)) Q))
        (cond ((List.getD r.2.2.2.2.2.2.1 (Int.toNat v0) TranslationD).1 == 2)
          (cond ((decide ((List.getD r.2.2.2.2.2.2.1 (Int.toNat v0) TranslationD).2.2.2.2.2.2.2.1 ≤ a)) && (decide (a ≤ (List.getD r.2.2.2.2.2.2.1 (Int.toNat v0) TranslationD).2.2.2.2.2.2.2.2.1)))
            (Q (v0, ()))
            (L_nat_Owner_0 r a (IntKind.wrap .i64 (v0 + 1)) Q))
          (L_nat_Owner_0 r a (IntKind.wrap .i64 (v0 + 1)) Q)))
      (cond ((List.getD r.2.2.2.2.2.2.1 (Int.toNat v0) TranslationD).1 == 3)
        (cond ((List.getD r.2.2.2.2.2.2.1 (Int.toNat v0) TranslationD).2.2.1 == a)
          (Q (v0, ()))
          (L_nat_Owner_0 r a (IntKind.wrap .i64 (v0 + 1)) Q))
        (cond ((List.getD r.2.2.2.2.2.2.1 (Int.toNat v0) TranslationD).1 == 2)
          (cond ((decide ((List.getD r.2.2.2.2.2.2.1 (Int.toNat v0) TranslationD).2.2.2.2.2.2.2.1 ≤ a)) && (decide (a ≤ (List.getD r.2.2.2.2.2.2.1 (Int.toNat v0) TranslationD).2.2.2.2.2.2.2.2.1)))
            (Q (v0, ()))
            (L_nat_Owner_0 r a (IntKind.wrap .i64 (v0 + 1)) Q))
          (L_nat_Owner_0 r a (IntKind.wrap .i64 (v0 + 1)) Q))))
    False)
  (Q ((-1), ()))) : L_nat_Owner_0 r a v0 Q := Lfp.step ((by kernel_rfl : evC G_nat_Owner (Lfp G_nat_Owner tb_nat_Owner) (tb_nat_Owner 0).2 (s_nat_Owner_0 r a v0) (kLoop (tb_nat_Owner 0).1 (Lfp G_nat_Owner tb_nat_Owner 0) (k_nat_Owner_0 Q)) = (
  cond (decide (v0 < (r.2.2.2.2.2.2.1.length : Int)))
  (cond (okIx v0 (r.2.2.2.2.2.2.1.length : Int))
    (cond ((List.getD r.2.2.2.2.2.2.1 (Int.toNat v0) TranslationD).1 == 1)
      (cond ((List.getD r.2.2.2.2.2.2.1 (Int.toNat v0) TranslationD).1 == 1)
        (cond ((List.getD r.2.2.2.2.2.2.1 (Int.toNat v0) TranslationD).2.2.1 == a)
          (Q (v0, ()))
          (L_nat_Owner_0 r a (IntKind.wrap .i64 (v0 + 1)) Q))
        (cond ((List.getD r.2.2.2.2.2.2.1 (Int.toNat v0) TranslationD).1 == 2)
          (cond ((decide ((List.getD r.2.2.2.2.2.2.1 (Int.toNat v0) TranslationD).2.2.2.2.2.2.2.1 ≤ a)) && (decide (a ≤ (List.getD r.2.2.2.2.2.2.1 (Int.toNat v0) TranslationD).2.2.2.2.2.2.2.2.1)))
            (Q (v0, ()))
            (L_nat_Owner_0 r a (IntKind.wrap .i64 (v0 + 1)) Q))
          (L_nat_Owner_0 r a (IntKind.wrap .i64 (v0 + 1)) Q)))
      (cond ((List.getD r.2.2.2.2.2.2.1 (Int.toNat v0) TranslationD).1 == 3)
        (cond ((List.getD r.2.2.2.2.2.2.1 (Int.toNat v0) TranslationD).2.2.1 == a)
          (Q (v0, ()))
          (L_nat_Owner_0 r a (IntKind.wrap .i64 (v0 + 1)) Q))
        (cond ((List.getD r.2.2.2.2.2.2.1 (Int.toNat v0) TranslationD).1 == 2)
          (cond ((decide ((List.getD r.2.2.2.2.2.2.1 (Int.toNat v0) TranslationD).2.2.2.2.2.2.2.1 ≤ a)) && (decide (a ≤ (List.getD r.2.2.2.2.2.2.1 (Int.toNat v0) TranslationD).2.2.2.2.2.2.2.2.1)))
            (Q (v0, ()))
            (L_nat_Owner_0 r a (IntKind.wrap .i64 (v0 + 1)) Q))
          (L_nat_Owner_0 r a (IntKind.wrap .i64 (v0 + 1)) Q))))
    False)
  (Q ((-1), ())))).symm ▸ h)
theorem lp_nat_Owner_0 (r : RouterT) (a : Int) (Q : Int × Unit → Prop) (hw : VSs.wf e_nat_Owner.A (r, a, ()))  : (fun y : Int => Q (y, ())) (S_nat_Owner_0 r a) → L_nat_Owner_0 r a 0 Q := by
  have _ := hw
  let FF := (fun y : Int => Q (y, ()))
  refine upV_loop (F := FF) (k := .i64) (L := (fun c0 : Int => L_nat_Owner_0 r a c0 Q)) (wrap_i64n (show _ ≤ _ from ((((((((hw.1).2).2).2).2).2).2).1).1)) (fun c0 hc0 hF => rd_nat_Owner_0 r a (c0 : Int) Q (cond_ge (n := r.2.2.2.2.2.2.1.length) rfl hc0 (id hF))) (fun c0 _ hc0 next0 hn0 hF => rd_nat_Owner_0 r a (c0 : Int) Q (cond_lt (n := r.2.2.2.2.2.2.1.length) rfl hc0 ((vc_f (F := FF) (by first | ((repeat' (first | rfl | exact nn_d64 _ | exact okIx_nat hc0 | refine and_t ?_ ?_ | refine or_l ?_)); done) | (simp [-List.getD_eq_getElem?_getD, okIx_nat hc0, nn_u64, nn_u32]; done) | (have hry : roomy = 1048576 := rfl; simp [-List.getD_eq_getElem?_getD, okIx, okSlc, okApp, len_slcL, len_segL] <;> omega)) /- 1 -/ (cond_f (F := FF) (fun h0 => (cond_f (F := FF) (fun h1 => (cond_f (F := FF) (fun h2 => id) (fun h2 => hn0))) (fun h1 => (cond_f (F := FF) (fun h2 => (cond_f (F := FF) (fun h3 => id) (fun h3 => hn0))) (fun h2 => hn0))))) (fun h0 => (cond_f (F := FF) (fun h1 => (cond_f (F := FF) (fun h2 => id) (fun h2 => hn0))) (fun h1 => (cond_f (F := FF) (fun h2 => (cond_f (F := FF) (fun h3 => id) (fun h3 => hn0))) (fun h2 => hn0))))))) hF)))
theorem ct_nat_Owner (r : RouterT) (a : Int) (hw : VSs.wf e_nat_Owner.A (r, a, ())) (Q : Int × Unit → Prop) (hq : Q (e_nat_Owner.g (r, a, ()))) : EvF G_nat_Owner tb_nat_Owner c_nat_Owner (VSs.enc e_nat_Owner.A (r, a, ())) (dq e_nat_Owner.R Q) := by
  have _ := hw
  let FF := (fun y : Int => Q (y, ()))
  refine EvF.of (in_nat_Owner r a Q) ?_
  exact (lp_nat_Owner_0 r a Q hw) hq
/-! netverify/netverifylaw8.sane -/
def G_law8_sane : List Ent := [e_nat_Destination, e_nat_Source, e_nat_Owner]
def c_law8_sane : AFunc := AFunc.mk 38 0 [(.t 0)] (.seq (.region [(.mk (some 0) none (.mov (.c (.f (.bool false)))))] []) (.seqF (.region [(.mk (some 4) none (.build [(.f (.int .i64 0)), (.f (.int .u32 0)), (.f (.int .u32 0)), (.f (.int .i64 0)), (.f (.int .i64 0)), (.f (.int .i64 0)), (.f (.str [])), (.f (.int .u32 0)), (.f (.int .u32 0))] [(0, (1, (.c (.f (.int .i64 1))))), (1, (1, (.c (.f (.int .u32 5))))), (2, (1, (.c (.f (.int .u32 7)))))])), (.mk (some 5) none (.bslice TranslationS 64 [(.f (.int .i64 0)), (.f (.int .u32 0)), (.f (.int .u32 0)), (.f (.int .i64 0)), (.f (.int .i64 0)), (.f (.int .i64 0)), (.f (.str [])), (.f (.int .u32 0)), (.f (.int .u32 0))] 1 [(0, (.t 4))])), (.mk (some 6) none (.build [(.f (.str [])), (.f (.int .i64 0)), (.f .nils), (.f .nils), (.f .nils), (.f .nils), (.f .nils), (.f .nils), (.f (.bool false)), (.f (.int .i64 0)), (.f .nils), (.f .nils), (.f (.bool false)), (.f (.int .i64 0)), (.f (.str [])), (.f (.str [])), (.f .nils), (.f (.bool false)), (.f (.int .i64 0)), (.f (.int .i64 0)), (.f .nils), (.f .nils), (.f .nils), (.f .nils), (.f .nils)] [(0, (1, (.c (.f (.str [114]))))), (6, (1, (.t 5)))])), (.mk (some 1) none (.alloc [(.f (.str [])), (.f (.int .i64 0)), (.f .nils), (.f .nils), (.f .nils), (.f .nils), (.f .nils), (.f .nils), (.f (.bool false)), (.f (.int .i64 0)), (.f .nils), (.f .nils), (.f (.bool false)), (.f (.int .i64 0)), (.f (.str [])), (.f (.str [])), (.f .nils), (.f (.bool false)), (.f (.int .i64 0)), (.f (.int .i64 0)), (.f .nils), (.f .nils), (.f .nils), (.f .nils), (.f .nils)])), (.mk none none (.store 25 (.t 1) (.t 6)))] []) (.seq (.region [(.mk (some 7) none (.load true 25 (.t 1))), (.mk (some 8) none (.build [(.f (.int .u32 0)), (.f (.int .u32 0)), (.f (.int .i64 0)), (.f (.int .i64 0)), (.f (.int .i64 0))] [(1, (1, (.c (.f (.int .u32 7)))))])), (.mk (some 9) none (.call 10 [(.t 7), (.t 8)])), (.mk (some 2) none (.alloc [(.f (.int .u32 0)), (.f (.int .u32 0)), (.f (.int .i64 0)), (.f (.int .i64 0)), (.f (.int .i64 0))])), (.mk none none (.store 5 (.t 2) (.t 9)))] []) (.seq (.region [(.mk (some 10) none (.load true 25 (.t 1))), (.mk (some 11) none (.build [(.f (.int .u32 0)), (.f (.int .u32 0)), (.f (.int .i64 0)), (.f (.int .i64 0)), (.f (.int .i64 0))] [(0, (1, (.c (.f (.int .u32 5)))))])), (.mk (some 12) none (.call 13 [(.t 10), (.t 11)])), (.mk (some 3) none (.mov (.t 12)))] []) (.seq (.region [(.mk (some 13) none (.fld 1 (.t 2))), (.mk (some 14) none (.load false 1 (.t 13))), (.mk (some 15) none (.bin .eql (.t 14) (.c (.f (.int .u32 5))))), (.mk (some 16) none (.mov (.t 15))), (.mk (some 17) (some (16, true)) (.mov (.t 3))), (.mk (some 18) (some (16, true)) (.len (.t 17))), (.mk (some 19) (some (16, true)) (.bin .eql (.t 18) (.c (.f (.int .i64 1))))), (.mk (some 20) none (.pick 16 (.t 19) (.c (.f (.bool false))))), (.mk (some 21) none (.mov (.t 20))), (.mk (some 22) (some (21, true)) (.mov (.t 3))), (.mk (some 23) (some (21, true)) (.ixa 5 (.t 22) (.c (.f (.int .i64 0))))), (.mk (some 24) (some (21, true)) (.fld 0 (.t 23))), (.mk (some 25) (some (21, true)) (.load false 1 (.t 24))), (.mk (some 26) (some (21, true)) (.bin .eql (.t 25) (.c (.f (.int .u32 7))))), (.mk (some 27) none (.pick 21 (.t 26) (.c (.f (.bool false))))), (.mk (some 28) none (.mov (.t 27))), (.mk (some 29) (some (28, true)) (.load true 25 (.t 1))), (.mk (some 30) (some (28, true)) (.call 16 [(.t 29), (.c (.f (.int .u32 7)))])), (.mk (some 31) (some (28, true)) (.bin .eql (.t 30) (.c (.f (.int .i64 0))))), (.mk (some 32) none (.pick 28 (.t 31) (.c (.f (.bool false))))), (.mk (some 33) none (.mov (.t 32))), (.mk (some 34) (some (33, true)) (.load true 25 (.t 1))), (.mk (some 35) (some (33, true)) (.call 16 [(.t 34), (.c (.f (.int .u32 5)))])), (.mk (some 36) (some (33, true)) (.bin .eql (.t 35) (.c (.f (.int .i64 (-1)))))), (.mk (some 37) none (.pick 33 (.t 36) (.c (.f (.bool false))))), (.mk (some 0) none (.mov (.t 37)))] []) .ret)))))
def tb_law8_sane : Tbl := fun _ => ([], .skip)
theorem ok_law8_sane : compF Try.prog Try.f15 = some c_law8_sane.strip := by kernel_rfl
theorem tk_law8_sane : TblOk tb_law8_sane c_law8_sane.body := ⟨trivial, ⟨trivial, ⟨trivial, ⟨trivial, ⟨trivial, trivial⟩⟩⟩⟩⟩
theorem in_law8_sane (Q : Bool × Unit → Prop) : evF G_law8_sane (Lfp G_law8_sane tb_law8_sane) c_law8_sane (VSs.enc e_law8_sane.A (())) (dq e_law8_sane.R Q) = (
  cond ((((okIx 0 ((g_nat_Source ([114], 0, [], [], [], [], [(1, 5, 7, 0, 0, 0, [], 0, 0, ())], [], false, 0, [], [], false, 0, [], [], [], false, 0, 0, [], [], [], [], [], ()) (5, 0, 0, 0, 0, ())).length : Int)) || (!(((((g_nat_Destination ([114], 0, [], [], [], [], [(1, 5, 7, 0, 0, 0, [], 0, 0, ())], [], false, 0, [], [], false, 0, [], [], [], false, 0, 0, [], [], [], [], [], ()) (0, 7, 0, 0, 0, ())).2.1 == 5) && (((g_nat_Source ([114], 0, [], [], [], [], [(1, 5, 7, 0, 0, 0, [], 0, 0, ())], [], false, 0, [], [], false, 0, [], [], [], false, 0, 0, [], [], [], [], [], ()) (5, 0, 0, 0, 0, ())).length : Int) == 1)) == true) && true))) && true) && true)
  (Q (((((((g_nat_Destination ([114], 0, [], [], [], [], [(1, 5, 7, 0, 0, 0, [], 0, 0, ())], [], false, 0, [], [], false, 0, [], [], [], false, 0, 0, [], [], [], [], [], ()) (0, 7, 0, 0, 0, ())).2.1 == 5) && (((g_nat_Source ([114], 0, [], [], [], [], [(1, 5, 7, 0, 0, 0, [], 0, 0, ())], [], false, 0, [], [], false, 0, [], [], [], false, 0, 0, [], [], [], [], [], ()) (5, 0, 0, 0, 0, ())).length : Int) == 1)) && ((List.getD (g_nat_Source ([114], 0, [], [], [], [], [(1, 5, 7, 0, 0, 0, [], 0, 0, ())], [], false, 0, [], [], false, 0, [], [], [], false, 0, 0, [], [], [], [], [], ()) (5, 0, 0, 0, 0, ())) 0 PacketD).1 == 7)) && ((g_nat_Owner ([114], 0, [], [], [], [], [(1, 5, 7, 0, 0, 0, [], 0, 0, ())], [], false, 0, [], [], false, 0, [], [], [], false, 0, 0, [], [], [], [], [], ()) 7) == 0)) && ((g_nat_Owner ([114], 0, [], [], [], [], [(1, 5, 7, 0, 0, 0, [], 0, 0, ())], [], false, 0, [], [], false, 0, [], [], [], false, 0, 0, [], [], [], [], [], ()) 5) == (-1))), ()))
  False) := by kernel_rfl
theorem au_law8_sane (Q : Bool × Unit → Prop) (hp : p_law8_sane = true) : evF G_law8_sane (Lfp G_law8_sane tb_law8_sane) c_law8_sane (VSs.enc e_law8_sane.A (())) (dq e_law8_sane.R Q) = Q (e_law8_sane.g (())) := (in_law8_sane  Q).trans ((vc_e (F := fun y : Bool => Q (y, ())) rfl) hp)
end Go.Proofs.Ytjejfgehcncohaa
