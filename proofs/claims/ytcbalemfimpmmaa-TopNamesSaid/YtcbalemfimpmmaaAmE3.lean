/-
  The codes and their equations.
-/
import Derived.Test.YtcbalemfimpmmaaAmG
import Derived.Test.YtcbalemfimpmmaaProg
import Derived.KernelRfl
namespace Go.Proofs.Ytcbalemfimpmmaa
open Go Go.AM
set_option maxRecDepth 100000
/-! netverify/netverifytop.sixth -/
def G_top_sixth : Env := ⟨[e_top_equal], []⟩
def c_top_sixth : AFunc := AFunc.mk 20 0 [(.t 0)] (.seq (.region [(.mk (some 0) none (.mov (.c (.f (.bool false)))))] []) (.seq (.region [(.mk (some 1) none (.build [(.f (.int .i64 0)), (.f (.int .i64 0))] [(0, (1, (.c (.f (.int .i64 0))))), (1, (1, (.c (.f (.int .i64 0)))))])), (.mk (some 2) none (.build [(.f (.int .i64 0)), (.f (.int .i64 0))] [(0, (1, (.c (.f (.int .i64 1))))), (1, (1, (.c (.f (.int .i64 1)))))])), (.mk (some 3) none (.build [(.f (.int .i64 0)), (.f (.int .i64 0))] [(0, (1, (.c (.f (.int .i64 2))))), (1, (1, (.c (.f (.int .i64 2)))))])), (.mk (some 4) none (.build [(.f (.int .i64 0)), (.f (.int .i64 0))] [(0, (1, (.c (.f (.int .i64 3))))), (1, (1, (.c (.f (.int .i64 3)))))])), (.mk (some 5) none (.build [(.f (.int .i64 0)), (.f (.int .i64 0))] [(0, (1, (.c (.f (.int .i64 4))))), (1, (1, (.c (.f (.int .i64 4)))))])), (.mk (some 6) none (.build [(.f (.int .i64 0)), (.f (.int .i64 0))] [(0, (1, (.c (.f (.int .i64 1))))), (1, (1, (.c (.f (.int .i64 1)))))])), (.mk (some 7) none (.build [(.f (.int .i64 0)), (.f (.int .i64 0))] [(0, (1, (.c (.f (.int .i64 2))))), (1, (1, (.c (.f (.int .i64 2)))))])), (.mk (some 8) none (.build [(.f (.int .i64 0)), (.f (.int .i64 0))] [(0, (1, (.c (.f (.int .i64 3))))), (1, (1, (.c (.f (.int .i64 3)))))])), (.mk (some 9) none (.build [(.f (.int .i64 0)), (.f (.int .i64 0))] [(0, (1, (.c (.f (.int .i64 4))))), (1, (1, (.c (.f (.int .i64 4)))))])), (.mk (some 10) none (.build [(.f (.int .i64 0)), (.f (.int .i64 0))] [(0, (1, (.c (.f (.int .i64 5))))), (1, (1, (.c (.f (.int .i64 5)))))])), (.mk (some 11) none (.build [(.f (.int .i64 0)), (.f (.int .i64 0))] [(0, (1, (.c (.f (.int .i64 6))))), (1, (1, (.c (.f (.int .i64 6)))))])), (.mk (some 12) none (.build [(.f (.int .i64 0)), (.f (.int .i64 0))] [(0, (1, (.c (.f (.int .i64 1))))), (1, (1, (.c (.f (.int .i64 1)))))])), (.mk (some 13) none (.build [(.f (.int .i64 0)), (.f (.int .i64 0))] [(0, (1, (.c (.f (.int .i64 2))))), (1, (1, (.c (.f (.int .i64 2)))))])), (.mk (some 14) none (.build [(.f (.int .i64 0)), (.f (.int .i64 0))] [(0, (1, (.c (.f (.int .i64 3))))), (1, (1, (.c (.f (.int .i64 3)))))])), (.mk (some 15) none (.build [(.f (.int .i64 0)), (.f (.int .i64 0))] [(0, (1, (.c (.f (.int .i64 1))))), (1, (1, (.c (.f (.int .i64 1)))))])), (.mk (some 16) none (.build [(.f (.int .i64 0)), (.f (.int .i64 0))] [(0, (1, (.c (.f (.int .i64 2))))), (1, (1, (.c (.f (.int .i64 2)))))])), (.mk (some 17) none (.build [(.f (.int .i64 0)), (.f (.int .i64 0))] [(0, (1, (.c (.f (.int .i64 3))))), (1, (1, (.c (.f (.int .i64 3)))))])), (.mk (some 18) none (.bslice Ti64i64S 16 [(.f (.int .i64 0)), (.f (.int .i64 0))] 17 [(0, (.t 1)), (1, (.t 2)), (2, (.t 3)), (3, (.t 4)), (4, (.t 5)), (5, (.t 6)), (6, (.t 7)), (7, (.t 8)), (8, (.t 9)), (9, (.t 10)), (10, (.t 11)), (11, (.t 12)), (12, (.t 13)), (13, (.t 14)), (14, (.t 15)), (15, (.t 16)), (16, (.t 17))])), (.mk (some 19) none (.call 10 [(.t 18)])), (.mk (some 0) none (.mov (.t 19)))] []) .ret))
def tb_top_sixth : Tbl := fun _ => ([], .skip)
theorem ok_top_sixth : compF Try.prog [] Try.f9 = some c_top_sixth.strip := by kernel_rfl
theorem tk_top_sixth : TblOk tb_top_sixth c_top_sixth.body := ⟨trivial, ⟨trivial, trivial⟩⟩
theorem in_top_sixth (Q : Bool × Unit → Prop) : evF G_top_sixth (Lfp G_top_sixth tb_top_sixth) c_top_sixth (VSs.enc e_top_sixth.A (())) (dq e_top_sixth.R Q) = (
  Q ((g_top_equal [(0, 0, ()), (1, 1, ()), (2, 2, ()), (3, 3, ()), (4, 4, ()), (1, 1, ()), (2, 2, ()), (3, 3, ()), (4, 4, ()), (5, 5, ()), (6, 6, ()), (1, 1, ()), (2, 2, ()), (3, 3, ()), (1, 1, ()), (2, 2, ()), (3, 3, ())]), ())) := by kernel_rfl
theorem au_top_sixth (Q : Bool × Unit → Prop) : evF G_top_sixth (Lfp G_top_sixth tb_top_sixth) c_top_sixth (VSs.enc e_top_sixth.A (())) (dq e_top_sixth.R Q) = Q (e_top_sixth.g (())) := (in_top_sixth  Q).trans rfl
/-! netverify/netverifytop.TopNames -/
def G_top_TopNames : Env := ⟨[e_top_first, e_top_second, e_top_third, e_top_fourth, e_top_fifth, e_top_sixth], []⟩
def c_top_TopNames : AFunc := AFunc.mk 17 0 [(.t 0)] (.seq (.region [(.mk (some 0) none (.mov (.c (.f (.bool false)))))] []) (.seq (.region [(.mk (some 1) none (.call 4 [])), (.mk (some 2) none (.mov (.t 1))), (.mk (some 3) (some (2, true)) (.call 5 [])), (.mk (some 4) none (.pick 2 (.t 3) (.c (.f (.bool false))))), (.mk (some 5) none (.mov (.t 4))), (.mk (some 6) (some (5, true)) (.call 6 [])), (.mk (some 7) none (.pick 5 (.t 6) (.c (.f (.bool false))))), (.mk (some 8) none (.mov (.t 7))), (.mk (some 9) (some (8, true)) (.call 7 [])), (.mk (some 10) none (.pick 8 (.t 9) (.c (.f (.bool false))))), (.mk (some 11) none (.mov (.t 10))), (.mk (some 12) (some (11, true)) (.call 8 [])), (.mk (some 13) none (.pick 11 (.t 12) (.c (.f (.bool false))))), (.mk (some 14) none (.mov (.t 13))), (.mk (some 15) (some (14, true)) (.call 9 [])), (.mk (some 16) none (.pick 14 (.t 15) (.c (.f (.bool false))))), (.mk (some 0) none (.mov (.t 16)))] []) .ret))
def tb_top_TopNames : Tbl := fun _ => ([], .skip)
theorem ok_top_TopNames : compF Try.prog [] Try.f3 = some c_top_TopNames.strip := by kernel_rfl
theorem tk_top_TopNames : TblOk tb_top_TopNames c_top_TopNames.body := ⟨trivial, ⟨trivial, trivial⟩⟩
theorem in_top_TopNames (Q : Bool × Unit → Prop) : evF G_top_TopNames (Lfp G_top_TopNames tb_top_TopNames) c_top_TopNames (VSs.enc e_top_TopNames.A (())) (dq e_top_TopNames.R Q) = (
  Q ((((((g_top_first && g_top_second) && g_top_third) && g_top_fourth) && g_top_fifth) && g_top_sixth), ())) := by kernel_rfl
theorem ct_top_TopNames  (hw : VSs.wf e_top_TopNames.A (())) (Q : Bool × Unit → Prop) (hq : Q (e_top_TopNames.g (()))) : EvF G_top_TopNames tb_top_TopNames c_top_TopNames (VSs.enc e_top_TopNames.A (())) (dq e_top_TopNames.R Q) := by
  have _ := hw
  let FF := (fun y : Bool => Q (y, ()))
  refine EvF.of (in_top_TopNames  Q) ?_
  exact id hq
end Go.Proofs.Ytcbalemfimpmmaa
