/-
  The law PolicyMatches, for every input: the call returns true and leaves its arguments as they were. No condition.
-/
import Derived.Test.YtabhhkjjpmcodaaRows
import Derived.Test.YtabhhkjjpmcodaaAmS
import Derived.Test.YtabhhkjjpmcodaaPlain
import Derived.ProofKit
namespace Go.Proofs.Ytabhhkjjpmcodaa
open Go Go.AM Go.ChangeShapes Go.WideShapes Go.ChangeAt Go.RowKit
set_option maxRecDepth 100000
theorem Try.own : ownKnob Try.prog.godebug = none := by kernel_rfl
theorem Try.laidOut : laidOutB Try.prog = true := by kernel_rfl
theorem pure_PolicyMatches (x : VSs.den e_law6_PolicyMatches.A) (hw : VSs.wf e_law6_PolicyMatches.A x) : PureA Try.prog 3 (VSs.enc e_law6_PolicyMatches.A x) (.bool true) :=
  pure_ev (Γ := G_law6_PolicyMatches) (R := e_law6_PolicyMatches.R) (x := (true, ())) mixed ⟨sd_r4_Valid, sd_r8_ValidPrefixRule, sd_policy_Matches, sd_r8_MatchesPrefix, sd_policy_First, sd_r8_FirstPrefix, sd_law6_sane, trivial⟩ Try.func3 ok_law6_PolicyMatches tk_law6_PolicyMatches (by rw [vss_len]; decide) (by
  obtain ⟨a0, a1, ⟨⟩⟩ := x
  exact ct_law6_PolicyMatches a0 a1 hw _ (by show ((g_law6_PolicyMatches a0 a1, ()) : Bool × Unit) = (true, ()); rw [true_law6_PolicyMatches a0 a1 hw]))
theorem lifted_PolicyMatches (os : Os) (started : os.Started) (H : Type) (enc : TypeId × Value → H) :
    ReturnsInHanded {} Try.checked os 3 .any (Rows.policyMatchesSpec.pre6 enc Try.prog Try.f3 Rows.policyMatchesRow.domain false) (Rows.policyMatchesSpec.post enc Try.prog Try.f3 false true false false) := by
  refine returnsInHanded_of_change (C := Try.checked) Try.own started (by kernel_rfl) Try.func3
    (ChangeSpec.witness6 (enc := enc) (C := Try.checked) false ⟨#[], #[.agg #[.string (ByteArray.mk #[]), .slice none 0 0], .agg #[.int .u32 0, .int .i64 0]], []⟩ 8 (by kernel_rfl) (by kernel_rfl) (by kernel_rfl) (by kernel_rfl)) ?_
  intro W base args ds gs before hval hW hcnd _
  refine law_post (A := e_law6_PolicyMatches.A) Try.laidOut rfl (by kernel_rfl) (by kernel_rfl) (by kernel_rfl) Try.underlying4 (fun ds hl => ?_) pure_PolicyMatches hval hW
  match ds, hl with
  | [d0, d1], _ => exact ⟨rfl, rfl, rfl⟩
theorem PolicyMatches_holds : Rows.PolicyMatchesSaid :=
  OpenClaim.holds_of_wide 3 Try.f3 rfl rfl rfl rfl rfl rfl rfl ⟨rfl, rfl, rfl, rfl, rfl⟩ rfl rfl rfl rfl rfl (by kernel_rfl) Try.func3 (by kernel_rfl)
    (of_decide_eq_true (by kernel_rfl)) (by unfold Func.isWrapper; first | (rw [if_pos (by decide +kernel)]; kernel_rfl) | (rw [if_neg (by decide +kernel)]; exact ⟨rfl, rfl⟩))
    (fun os started H enc _ => lifted_PolicyMatches os started H enc)
end Go.Proofs.Ytabhhkjjpmcodaa
