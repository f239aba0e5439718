/-
  The law LintPrunes, for every input: the call returns true and leaves its arguments as they were. No condition.
-/
import Derived.Test.YtokhlhnibpakiaaRows
import Derived.Test.YtokhlhnibpakiaaAmS
import Derived.Test.YtokhlhnibpakiaaPlain
import Derived.ProofKit
namespace Go.Proofs.Ytokhlhnibpakiaa
open Go Go.AM Go.ChangeShapes Go.WideShapes Go.ChangeAt Go.RowKit
set_option maxRecDepth 100000
theorem Try.own : ownKnob Try.prog.godebug = none := by kernel_rfl
theorem Try.laidOut : laidOutB Try.prog = true := by kernel_rfl
theorem pure_LintPrunes (x : VSs.den e_law11_LintPrunes.A) (hw : VSs.wf e_law11_LintPrunes.A x) : PureA Try.prog 6 (VSs.enc e_law11_LintPrunes.A x) (.bool true) :=
  pure_ev (Γ := G_law11_LintPrunes) (R := e_law11_LintPrunes.R) (x := (true, ())) mixed ⟨⟨sd_law11_right, sd_lint_Shadowed, sd_law11_sane, sd_lint_Unused, sd_r8_CheckRouter, sd_lint_Prune, sd_r8_Same, sd_r12_Prune, trivial⟩, trivial⟩ Try.func6 ok_law11_LintPrunes tk_law11_LintPrunes (by rw [vss_len]; decide) (by
  obtain ⟨a0, ⟨⟩⟩ := x
  exact ct_law11_LintPrunes a0 hw _ (by show ((g_law11_LintPrunes a0, ()) : Bool × Unit) = (true, ()); rw [true_law11_LintPrunes a0 hw]))
theorem lifted_LintPrunes (os : Os) (started : os.Started) (H : Type) (enc : TypeId × Value → H) :
    ReturnsInHanded {} Try.checked os 6 .any (Rows.lintPrunesSpec.pre6 enc Try.prog Try.f6 Rows.lintPrunesRow.domain false) (Rows.lintPrunesSpec.post enc Try.prog Try.f6 false true false false) := by
  refine returnsInHanded_of_change (C := Try.checked) Try.own started (by kernel_rfl) Try.func6
    (ChangeSpec.witness6 (enc := enc) (C := Try.checked) false ⟨#[], #[.agg #[.string (ByteArray.mk #[]), .int .i64 0, .slice none 0 0, .slice none 0 0, .slice none 0 0, .slice none 0 0, .slice none 0 0, .slice none 0 0, .bool false, .int .i64 0, .slice none 0 0, .slice none 0 0, .bool false, .int .i64 0, .string (ByteArray.mk #[]), .string (ByteArray.mk #[]), .slice none 0 0, .bool false, .int .i64 0, .int .i64 0, .slice none 0 0, .slice none 0 0, .slice none 0 0, .slice none 0 0, .slice none 0 0]], []⟩ 8 (by kernel_rfl) (by kernel_rfl) (by kernel_rfl) (by kernel_rfl)) ?_
  intro W base args ds gs before hval hW hcnd _
  refine law_post (A := e_law11_LintPrunes.A) Try.laidOut rfl (by kernel_rfl) (by kernel_rfl) (by kernel_rfl) Try.underlying4 (fun ds hl => ?_) pure_LintPrunes hval hW
  match ds, hl with
  | [d0], _ => exact ⟨rfl, rfl, rfl⟩
theorem LintPrunes_holds : Rows.LintPrunesSaid :=
  OpenClaim.holds_of_wide 6 Try.f6 rfl rfl rfl rfl rfl rfl rfl ⟨rfl, rfl, rfl, rfl, rfl⟩ rfl rfl rfl rfl rfl (by kernel_rfl) Try.func6 (by kernel_rfl)
    (of_decide_eq_true (by kernel_rfl)) (by unfold Func.isWrapper; first | (rw [if_pos (by decide +kernel)]; kernel_rfl) | (rw [if_neg (by decide +kernel)]; exact ⟨rfl, rfl⟩))
    (fun os started H enc _ => lifted_LintPrunes os started H enc)
end Go.Proofs.Ytokhlhnibpakiaa
