/-
  The law PolicyApplies, for every input: the call returns true and leaves its arguments as they were. No condition.
-/
import Derived.Test.YtabhhkjjpmcodaaRows
import Derived.Test.YtabhhkjjpmcodaaAmS
import Derived.Test.YtabhhkjjpmcodaaPlain
import Derived.ProofKit
namespace Go.Proofs.Ytabhhkjjpmcodaa
open Go Go.AM Go.ChangeShapes Go.WideShapes Go.ChangeAt Go.RowKit
set_option maxRecDepth 100000
theorem Try.own : ownKnob Try.prog.godebug = none := by kernel_rfl
theorem Try.laidOut : laidOutB Try.prog = true := by kernel_rfl
theorem pure_PolicyApplies (x : VSs.den e_law6_PolicyApplies.A) (hw : VSs.wf e_law6_PolicyApplies.A x) : PureA Try.prog 5 (VSs.enc e_law6_PolicyApplies.A x) (.bool true) :=
  pure_ev (Γ := G_law6_PolicyApplies) (R := e_law6_PolicyApplies.R) (x := (true, ())) mixed ⟨sd_r4_Valid, sd_law6_sane, sd_law6_few, sd_law6_part, sd_policy_Apply, sd_r8_Apply, sd_policy_Clause, sd_r8_Clause, sd_law6_Same, sd_policy_Prepend, sd_r8_Prepend, trivial⟩ Try.func5 ok_law6_PolicyApplies tk_law6_PolicyApplies (by rw [vss_len]; decide) (by
  obtain ⟨a0, a1, a2, ⟨⟩⟩ := x
  exact ct_law6_PolicyApplies a0 a1 a2 hw _ (by show ((g_law6_PolicyApplies a0 a1 a2, ()) : Bool × Unit) = (true, ()); rw [true_law6_PolicyApplies a0 a1 a2 hw]))
theorem lifted_PolicyApplies (os : Os) (started : os.Started) (H : Type) (enc : TypeId × Value → H) :
    ReturnsInHanded {} Try.checked os 5 .any (Rows.policyAppliesSpec.pre6 enc Try.prog Try.f5 Rows.policyAppliesRow.domain false) (Rows.policyAppliesSpec.post enc Try.prog Try.f5 false true false false) := by
  refine returnsInHanded_of_change (C := Try.checked) Try.own started (by kernel_rfl) Try.func5
    (ChangeSpec.witness6 (enc := enc) (C := Try.checked) false ⟨#[], #[.agg #[.string (ByteArray.mk #[]), .int .i64 0, .slice none 0 0, .slice none 0 0, .slice none 0 0, .slice none 0 0, .slice none 0 0, .slice none 0 0, .bool false, .int .i64 0, .slice none 0 0, .slice none 0 0, .bool false, .int .i64 0, .string (ByteArray.mk #[]), .string (ByteArray.mk #[]), .slice none 0 0, .bool false, .int .i64 0, .int .i64 0, .slice none 0 0, .slice none 0 0, .slice none 0 0, .slice none 0 0, .slice none 0 0], .string (ByteArray.mk #[]), .agg #[.int .u32 0, .int .i64 0, .int .i64 0, .int .i64 0, .int .i64 0, .int .i64 0, .int .i64 0, .int .i64 0, .int .i64 0, .slice none 0 0, .int .u32 0, .int .u32 0, .slice none 0 0, .bool false]], []⟩ 8 (by kernel_rfl) (by kernel_rfl) (by kernel_rfl) (by kernel_rfl)) ?_
  intro W base args ds gs before hval hW hcnd _
  refine law_post (A := e_law6_PolicyApplies.A) Try.laidOut rfl (by kernel_rfl) (by kernel_rfl) (by kernel_rfl) Try.underlying4 (fun ds hl => ?_) pure_PolicyApplies hval hW
  match ds, hl with
  | [d0, d1, d2], _ => exact ⟨rfl, rfl, rfl⟩
theorem PolicyApplies_holds : Rows.PolicyAppliesSaid :=
  OpenClaim.holds_of_wide 5 Try.f5 rfl rfl rfl rfl rfl rfl rfl ⟨rfl, rfl, rfl, rfl, rfl⟩ rfl rfl rfl rfl rfl (by kernel_rfl) Try.func5 (by kernel_rfl)
    (of_decide_eq_true (by kernel_rfl)) (by unfold Func.isWrapper; first | (rw [if_pos (by decide +kernel)]; kernel_rfl) | (rw [if_neg (by decide +kernel)]; exact ⟨rfl, rfl⟩))
    (fun os started H enc _ => lifted_PolicyApplies os started H enc)
end Go.Proofs.Ytabhhkjjpmcodaa
