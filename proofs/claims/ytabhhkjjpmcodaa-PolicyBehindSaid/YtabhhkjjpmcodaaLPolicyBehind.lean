/-
  The law PolicyBehind, for every input: the call returns true and leaves its arguments as they were. No condition.
-/
import Derived.Test.YtabhhkjjpmcodaaRows
import Derived.Test.YtabhhkjjpmcodaaAmS
import Derived.Test.YtabhhkjjpmcodaaPlain
import Derived.ProofKit
namespace Go.Proofs.Ytabhhkjjpmcodaa
open Go Go.AM Go.ChangeShapes Go.WideShapes Go.ChangeAt Go.RowKit
set_option maxRecDepth 100000
theorem Try.own : ownKnob Try.prog.godebug = none := by kernel_rfl
theorem Try.laidOut : laidOutB Try.prog = true := by kernel_rfl
theorem pure_PolicyBehind (x : VSs.den e_law6_PolicyBehind.A) (hw : VSs.wf e_law6_PolicyBehind.A x) : PureA Try.prog 7 (VSs.enc e_law6_PolicyBehind.A x) (.bool true) :=
  pure_ev (Γ := G_law6_PolicyBehind) (R := e_law6_PolicyBehind.R) (x := (true, ())) mixed ⟨sd_r4_Valid, sd_r8_ValidPrefixRule, sd_policy_First, sd_law6_sane, trivial⟩ Try.func7 ok_law6_PolicyBehind tk_law6_PolicyBehind (by rw [vss_len]; decide) (by
  obtain ⟨a0, a1, a2, ⟨⟩⟩ := x
  exact ct_law6_PolicyBehind a0 a1 a2 hw _ (by show ((g_law6_PolicyBehind a0 a1 a2, ()) : Bool × Unit) = (true, ()); rw [true_law6_PolicyBehind a0 a1 a2 hw]))
theorem lifted_PolicyBehind (os : Os) (started : os.Started) (H : Type) (enc : TypeId × Value → H) :
    ReturnsInHanded {} Try.checked os 7 .any (Rows.policyBehindSpec.pre6 enc Try.prog Try.f7 Rows.policyBehindRow.domain false) (Rows.policyBehindSpec.post enc Try.prog Try.f7 false true false false) := by
  refine returnsInHanded_of_change (C := Try.checked) Try.own started (by kernel_rfl) Try.func7
    (ChangeSpec.witness6 (enc := enc) (C := Try.checked) false ⟨#[], #[.agg #[.string (ByteArray.mk #[]), .slice none 0 0], .agg #[.string (ByteArray.mk #[]), .slice none 0 0], .agg #[.int .u32 0, .int .i64 0]], []⟩ 8 (by kernel_rfl) (by kernel_rfl) (by kernel_rfl) (by kernel_rfl)) ?_
  intro W base args ds gs before hval hW hcnd _
  refine law_post (A := e_law6_PolicyBehind.A) Try.laidOut rfl (by kernel_rfl) (by kernel_rfl) (by kernel_rfl) Try.underlying4 (fun ds hl => ?_) pure_PolicyBehind hval hW
  match ds, hl with
  | [d0, d1, d2], _ => exact ⟨rfl, rfl, rfl⟩
theorem PolicyBehind_holds : Rows.PolicyBehindSaid :=
  OpenClaim.holds_of_wide 7 Try.f7 rfl rfl rfl rfl rfl rfl rfl ⟨rfl, rfl, rfl, rfl, rfl⟩ rfl rfl rfl rfl rfl (by kernel_rfl) Try.func7 (by kernel_rfl)
    (of_decide_eq_true (by kernel_rfl)) (by unfold Func.isWrapper; first | (rw [if_pos (by decide +kernel)]; kernel_rfl) | (rw [if_neg (by decide +kernel)]; exact ⟨rfl, rfl⟩))
    (fun os started H enc _ => lifted_PolicyBehind os started H enc)
end Go.Proofs.Ytabhhkjjpmcodaa
