/-
  The law LintKeeps, for every input: the call returns true and leaves its arguments as they were. No condition.
-/
import Derived.Test.YtokhlhnibpakiaaGreatRows
import Derived.Test.YtokhlhnibpakiaaGreatAmS
import Derived.Test.YtokhlhnibpakiaaGreatPlain
import Derived.ProofKit
namespace Go.Proofs.YtokhlhnibpakiaaGreat
open Go Go.AM Go.ChangeShapes Go.WideShapes Go.ChangeAt Go.RowKit
set_option maxRecDepth 100000
theorem Tryz.own : ownKnob Tryz.prog.godebug = none := by kernel_rfl
theorem Tryz.laidOut : laidOutB Tryz.prog = true := by kernel_rfl
theorem pure_LintKeeps (x : VSs.den e_law11_LintKeeps.A) (hw : VSs.wf e_law11_LintKeeps.A x) : PureA Tryz.prog 3 (VSs.enc e_law11_LintKeeps.A x) (.bool true) :=
  pure_ev (Γ := G_law11_LintKeeps) (R := e_law11_LintKeeps.R) (x := (true, ())) mixed ⟨⟨sd_law11_right, sd_r8_ValidPacket, sd_r4_Valid, sd_lint_Prune, sd_policy_Permits, sd_policy_Apply, sd_law6_Same, sd_policy_Prepend, sd_acl_Permits, sd_law11_sane, trivial⟩, trivial⟩ Tryz.func3 ok_law11_LintKeeps tk_law11_LintKeeps (by rw [vss_len]; decide) (by
  obtain ⟨a0, a1, a2, ⟨⟩⟩ := x
  exact ct_law11_LintKeeps a0 a1 a2 hw _ (by show ((g_law11_LintKeeps a0 a1 a2, ()) : Bool × Unit) = (true, ()); rw [true_law11_LintKeeps a0 a1 a2 hw]))
theorem lifted_LintKeeps (os : Os) (started : os.Started) (H : Type) (enc : TypeId × Value → H) :
    ReturnsInHanded {} Tryz.checked os 3 .any (Rows.lintKeepsSpec.pre6 enc Tryz.prog Tryz.f3 Rows.lintKeepsRow.domain false) (Rows.lintKeepsSpec.post enc Tryz.prog Tryz.f3 false true false false) := by
  refine returnsInHanded_of_change (C := Tryz.checked) Tryz.own started (by kernel_rfl) Tryz.func3
    (ChangeSpec.witness6 (enc := enc) (C := Tryz.checked) false ⟨#[], #[.agg #[.string (ByteArray.mk #[]), .int .i64 0, .slice none 0 0, .slice none 0 0, .slice none 0 0, .slice none 0 0, .slice none 0 0, .slice none 0 0, .bool false, .int .i64 0, .slice none 0 0, .slice none 0 0, .bool false, .int .i64 0, .string (ByteArray.mk #[]), .string (ByteArray.mk #[]), .slice none 0 0, .bool false, .int .i64 0, .int .i64 0, .slice none 0 0, .slice none 0 0, .slice none 0 0, .slice none 0 0, .slice none 0 0], .agg #[.int .u32 0, .int .u32 0, .int .i64 0, .int .i64 0, .int .i64 0], .agg #[.int .u32 0, .int .i64 0, .int .i64 0, .int .i64 0, .int .i64 0, .int .i64 0, .int .i64 0, .int .i64 0, .int .i64 0, .slice none 0 0, .int .u32 0, .int .u32 0, .slice none 0 0, .bool false]], []⟩ 8 (by kernel_rfl) (by kernel_rfl) (by kernel_rfl) (by kernel_rfl)) ?_
  intro W base args ds gs before hval hW hcnd _
  refine law_post (A := e_law11_LintKeeps.A) Tryz.laidOut rfl (by kernel_rfl) (by kernel_rfl) (by kernel_rfl) Tryz.underlying4 (fun ds hl => ?_) pure_LintKeeps hval hW
  match ds, hl with
  | [d0, d1, d2], _ => exact ⟨rfl, rfl, rfl⟩
theorem LintKeeps_holds : Rows.LintKeepsSaid :=
  OpenClaim.holds_of_wide 3 Tryz.f3 rfl rfl rfl rfl rfl rfl rfl ⟨rfl, rfl, rfl, rfl, rfl⟩ rfl rfl rfl rfl rfl (by kernel_rfl) Tryz.func3 (by kernel_rfl)
    (of_decide_eq_true (by kernel_rfl)) (by unfold Func.isWrapper; first | (rw [if_pos (by decide +kernel)]; kernel_rfl) | (rw [if_neg (by decide +kernel)]; exact ⟨rfl, rfl⟩))
    (fun os started H enc _ => lifted_LintKeeps os started H enc)
end Go.Proofs.YtokhlhnibpakiaaGreat
