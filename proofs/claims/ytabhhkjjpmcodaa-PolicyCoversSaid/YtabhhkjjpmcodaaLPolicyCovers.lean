/-
  The law PolicyCovers, for every input: the call returns true and leaves its arguments as they were. No condition.
-/
import Derived.Test.YtabhhkjjpmcodaaRows
import Derived.Test.YtabhhkjjpmcodaaAmS
import Derived.Test.YtabhhkjjpmcodaaPlain
import Derived.ProofKit
namespace Go.Proofs.Ytabhhkjjpmcodaa
open Go Go.AM Go.ChangeShapes Go.WideShapes Go.ChangeAt Go.RowKit
set_option maxRecDepth 100000
theorem Try.own : ownKnob Try.prog.godebug = none := by kernel_rfl
theorem Try.laidOut : laidOutB Try.prog = true := by kernel_rfl
theorem pure_PolicyCovers (x : VSs.den e_law6_PolicyCovers.A) (hw : VSs.wf e_law6_PolicyCovers.A x) : PureA Try.prog 8 (VSs.enc e_law6_PolicyCovers.A x) (.bool true) :=
  pure_ev (Γ := G_law6_PolicyCovers) (R := e_law6_PolicyCovers.R) (x := (true, ())) mixed ⟨⟨sd_r4_Valid, sd_r8_ValidPrefixRule, sd_policy_Matches, sd_law6_sane, sd_policy_Covers, sd_r4_Network, sd_r4_Last, trivial⟩, trivial⟩ Try.func8 ok_law6_PolicyCovers tk_law6_PolicyCovers (by rw [vss_len]; decide) (by
  obtain ⟨a0, a1, a2, ⟨⟩⟩ := x
  exact ct_law6_PolicyCovers a0 a1 a2 hw _ (by show ((g_law6_PolicyCovers a0 a1 a2, ()) : Bool × Unit) = (true, ()); rw [true_law6_PolicyCovers a0 a1 a2 hw]))
theorem lifted_PolicyCovers (os : Os) (started : os.Started) (H : Type) (enc : TypeId × Value → H) :
    ReturnsInHanded {} Try.checked os 8 .any (Rows.policyCoversSpec.pre6 enc Try.prog Try.f8 Rows.policyCoversRow.domain false) (Rows.policyCoversSpec.post enc Try.prog Try.f8 false true false false) := by
  refine returnsInHanded_of_change (C := Try.checked) Try.own started (by kernel_rfl) Try.func8
    (ChangeSpec.witness6 (enc := enc) (C := Try.checked) false ⟨#[], #[.agg #[.bool false, .int .u32 0, .int .i64 0, .int .i64 0, .int .i64 0], .agg #[.bool false, .int .u32 0, .int .i64 0, .int .i64 0, .int .i64 0], .agg #[.int .u32 0, .int .i64 0]], []⟩ 8 (by kernel_rfl) (by kernel_rfl) (by kernel_rfl) (by kernel_rfl)) ?_
  intro W base args ds gs before hval hW hcnd _
  refine law_post (A := e_law6_PolicyCovers.A) Try.laidOut rfl (by kernel_rfl) (by kernel_rfl) (by kernel_rfl) Try.underlying4 (fun ds hl => ?_) pure_PolicyCovers hval hW
  match ds, hl with
  | [d0, d1, d2], _ => exact ⟨rfl, rfl, rfl⟩
theorem PolicyCovers_holds : Rows.PolicyCoversSaid :=
  OpenClaim.holds_of_wide 8 Try.f8 rfl rfl rfl rfl rfl rfl rfl ⟨rfl, rfl, rfl, rfl, rfl⟩ rfl rfl rfl rfl rfl (by kernel_rfl) Try.func8 (by kernel_rfl)
    (of_decide_eq_true (by kernel_rfl)) (by unfold Func.isWrapper; first | (rw [if_pos (by decide +kernel)]; kernel_rfl) | (rw [if_neg (by decide +kernel)]; exact ⟨rfl, rfl⟩))
    (fun os started H enc _ => lifted_PolicyCovers os started H enc)
end Go.Proofs.Ytabhhkjjpmcodaa
