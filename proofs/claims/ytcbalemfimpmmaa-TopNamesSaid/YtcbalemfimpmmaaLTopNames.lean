/-
  The law TopNames, for every input: the call returns true and leaves its arguments as they were. No condition.
-/
import Derived.Test.YtcbalemfimpmmaaRows
import Derived.Test.YtcbalemfimpmmaaAmS
import Derived.Test.YtcbalemfimpmmaaPlain
import Derived.ProofKit
namespace Go.Proofs.Ytcbalemfimpmmaa
open Go Go.AM Go.ChangeShapes Go.WideShapes Go.ChangeAt Go.RowKit
set_option maxRecDepth 100000
theorem Try.own : ownKnob Try.prog.godebug = none := by kernel_rfl
theorem Try.laidOut : laidOutB Try.prog = true := by kernel_rfl
theorem pure_TopNames (x : VSs.den e_top_TopNames.A) (hw : VSs.wf e_top_TopNames.A x) : PureA Try.prog 3 (VSs.enc e_top_TopNames.A x) (.bool true) :=
  pure_ev (Γ := G_top_TopNames) (R := e_top_TopNames.R) (x := (true, ())) mixed ⟨⟨sd_top_first, sd_top_second, sd_top_third, sd_top_fourth, sd_top_fifth, sd_top_sixth, trivial⟩, trivial⟩ Try.func3 ok_top_TopNames tk_top_TopNames (by rw [vss_len]; decide) (by
  obtain ⟨⟩ := x
  exact ct_top_TopNames  hw _ (by show ((g_top_TopNames, ()) : Bool × Unit) = (true, ()); rw [true_top_TopNames  hw]))
theorem lifted_TopNames (os : Os) (started : os.Started) (H : Type) (enc : TypeId × Value → H) :
    ReturnsInHanded {} Try.checked os 3 .any (Rows.topNamesSpec.pre6 enc Try.prog Try.f3 Rows.topNamesRow.domain false) (Rows.topNamesSpec.post enc Try.prog Try.f3 false true false false) := by
  refine returnsInHanded_of_change (C := Try.checked) Try.own started (by kernel_rfl) Try.func3
    (ChangeSpec.witness6 (enc := enc) (C := Try.checked) false ⟨#[], #[], []⟩ 8 (by kernel_rfl) (by kernel_rfl) (by kernel_rfl) (by kernel_rfl)) ?_
  intro W base args ds gs before hval hW hcnd _
  refine law_post (A := e_top_TopNames.A) Try.laidOut rfl (by kernel_rfl) (by kernel_rfl) (by kernel_rfl) Try.underlying4 (fun ds hl => ?_) pure_TopNames hval hW
  match ds, hl with
  | [], _ => exact ⟨rfl, rfl, rfl⟩
theorem TopNames_holds : Rows.TopNamesSaid :=
  OpenClaim.holds_of_wide 3 Try.f3 rfl rfl rfl rfl rfl rfl rfl ⟨rfl, rfl, rfl, rfl, rfl⟩ rfl rfl rfl rfl rfl (by kernel_rfl) Try.func3 (by kernel_rfl)
    (of_decide_eq_true (by kernel_rfl)) (by unfold Func.isWrapper; first | (rw [if_pos (by decide +kernel)]; kernel_rfl) | (rw [if_neg (by decide +kernel)]; exact ⟨rfl, rfl⟩))
    (fun os started H enc _ => lifted_TopNames os started H enc)
end Go.Proofs.Ytcbalemfimpmmaa
