/-
  The law PolicyKeeps, for every input: the call returns true and leaves its arguments as they were. No condition.
-/
import Derived.Test.YtabhhkjjpmcodaaRows
import Derived.Test.YtabhhkjjpmcodaaAmS
import Derived.Test.YtabhhkjjpmcodaaPlain
import Derived.ProofKit
namespace Go.Proofs.Ytabhhkjjpmcodaa
open Go Go.AM Go.ChangeShapes Go.WideShapes Go.ChangeAt Go.RowKit
set_option maxRecDepth 100000
theorem Try.own : ownKnob Try.prog.godebug = none := by kernel_rfl
theorem Try.laidOut : laidOutB Try.prog = true := by kernel_rfl
theorem pure_PolicyKeeps (x : VSs.den e_law6_PolicyKeeps.A) (hw : VSs.wf e_law6_PolicyKeeps.A x) : PureA Try.prog 6 (VSs.enc e_law6_PolicyKeeps.A x) (.bool true) :=
  pure_ev (Γ := G_law6_PolicyKeeps) (R := e_law6_PolicyKeeps.R) (x := (true, ())) mixed ⟨sd_r4_Valid, sd_law6_sane, sd_law6_few, sd_law6_part, sd_policy_Apply, sd_policy_Clause, sd_law6_Same, trivial⟩ Try.func6 ok_law6_PolicyKeeps tk_law6_PolicyKeeps (by rw [vss_len]; decide) (by
  obtain ⟨a0, a1, a2, ⟨⟩⟩ := x
  exact ct_law6_PolicyKeeps a0 a1 a2 hw _ (by show ((g_law6_PolicyKeeps a0 a1 a2, ()) : Bool × Unit) = (true, ()); rw [true_law6_PolicyKeeps a0 a1 a2 hw]))
theorem lifted_PolicyKeeps (os : Os) (started : os.Started) (H : Type) (enc : TypeId × Value → H) :
    ReturnsInHanded {} Try.checked os 6 .any (Rows.policyKeepsSpec.pre6 enc Try.prog Try.f6 Rows.policyKeepsRow.domain false) (Rows.policyKeepsSpec.post enc Try.prog Try.f6 false true false false) := by
  refine returnsInHanded_of_change (C := Try.checked) Try.own started (by kernel_rfl) Try.func6
    (ChangeSpec.witness6 (enc := enc) (C := Try.checked) false ⟨#[], #[.agg #[.string (ByteArray.mk #[]), .int .i64 0, .slice none 0 0, .slice none 0 0, .slice none 0 0, .slice none 0 0, .slice none 0 0, .slice none 0 0, .bool false, .int .i64 0, .slice none 0 0, .slice none 0 0, .bool false, .int .i64 0, .string (ByteArray.mk #[]), .string (ByteArray.mk #[]), .slice none 0 0, .bool false, .int .i64 0, .int .i64 0, .slice none 0 0, .slice none 0 0, .slice none 0 0, .slice none 0 0, .slice none 0 0], .int .i64 0, .agg #[.int .u32 0, .int .i64 0, .int .i64 0, .int .i64 0, .int .i64 0, .int .i64 0, .int .i64 0, .int .i64 0, .int .i64 0, .slice none 0 0, .int .u32 0, .int .u32 0, .slice none 0 0, .bool false]], []⟩ 8 (by kernel_rfl) (by kernel_rfl) (by kernel_rfl) (by kernel_rfl)) ?_
  intro W base args ds gs before hval hW hcnd _
  refine law_post (A := e_law6_PolicyKeeps.A) Try.laidOut rfl (by kernel_rfl) (by kernel_rfl) (by kernel_rfl) Try.underlying4 (fun ds hl => ?_) pure_PolicyKeeps hval hW
  match ds, hl with
  | [d0, d1, d2], _ => exact ⟨rfl, rfl, rfl⟩
theorem PolicyKeeps_holds : Rows.PolicyKeepsSaid :=
  OpenClaim.holds_of_wide 6 Try.f6 rfl rfl rfl rfl rfl rfl rfl ⟨rfl, rfl, rfl, rfl, rfl⟩ rfl rfl rfl rfl rfl (by kernel_rfl) Try.func6 (by kernel_rfl)
    (of_decide_eq_true (by kernel_rfl)) (by unfold Func.isWrapper; first | (rw [if_pos (by decide +kernel)]; kernel_rfl) | (rw [if_neg (by decide +kernel)]; exact ⟨rfl, rfl⟩))
    (fun os started H enc _ => lifted_PolicyKeeps os started H enc)
end Go.Proofs.Ytabhhkjjpmcodaa
