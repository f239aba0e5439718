/-
  The law AclMatches, for every input: the call returns true and leaves its arguments as they were. No condition.
-/
import Derived.Test.YthpocifmjeopiaaRows
import Derived.Test.YthpocifmjeopiaaAmS
import Derived.Test.YthpocifmjeopiaaPlain
import Derived.ProofKit
namespace Go.Proofs.Ythpocifmjeopiaa
open Go Go.AM Go.ChangeShapes Go.WideShapes Go.ChangeAt Go.RowKit
set_option maxRecDepth 100000
theorem Try.own : ownKnob Try.prog.godebug = none := by kernel_rfl
theorem Try.laidOut : laidOutB Try.prog = true := by kernel_rfl
theorem pure_AclMatches (x : VSs.den e_law7_AclMatches.A) (hw : VSs.wf e_law7_AclMatches.A x) : PureA Try.prog 4 (VSs.enc e_law7_AclMatches.A x) (.bool true) :=
  pure_ev (Γ := G_law7_AclMatches) (rs := [.bool true]) mixed ⟨sd_r8_ValidPacket, sd_law7_sane, sd_law7_right, sd_acl_Matches, sd_r8_Matches, sd_acl_First, sd_r8_First, trivial⟩ Try.func4 ok_law7_AclMatches tk_law7_AclMatches (by rw [vss_len]; decide) (by
  obtain ⟨a0, a1, ⟨⟩⟩ := x
  exact ct_law7_AclMatches a0 a1 hw _ (by show [FV.bool (g_law7_AclMatches a0 a1)] = [FV.bool true]; rw [true_law7_AclMatches a0 a1 hw]))
theorem lifted_AclMatches (os : Os) (started : os.Started) (H : Type) (enc : TypeId × Value → H) :
    ReturnsInHanded {} Try.checked os 4 .any (Rows.aclMatchesSpec.pre6 enc Try.prog Try.f4 Rows.aclMatchesRow.domain false) (Rows.aclMatchesSpec.post enc Try.prog Try.f4 false true false false) := by
  refine returnsInHanded_of_change (C := Try.checked) Try.own started (by kernel_rfl) Try.func4
    (ChangeSpec.witness6 (enc := enc) (C := Try.checked) false ⟨#[], #[.slice none 0 0, .agg #[.int .u32 0, .int .u32 0, .int .i64 0, .int .i64 0, .int .i64 0]], []⟩ 8 (by kernel_rfl) (by kernel_rfl) (by kernel_rfl) (by kernel_rfl)) ?_
  intro W base args ds gs before hval hW hcnd _
  refine law_post (A := e_law7_AclMatches.A) Try.laidOut rfl (by kernel_rfl) (by kernel_rfl) (by kernel_rfl) Try.underlying4 (fun ds hl => ?_) pure_AclMatches hval hW
  match ds, hl with
  | [d0, d1], _ => exact ⟨rfl, rfl, rfl⟩
theorem AclMatches_holds : Rows.AclMatchesSaid :=
  OpenClaim.holds_of_wide 4 Try.f4 rfl rfl rfl rfl rfl rfl rfl ⟨rfl, rfl, rfl, rfl, rfl⟩ rfl rfl rfl rfl rfl (by kernel_rfl) Try.func4 (by kernel_rfl)
    (of_decide_eq_true (by kernel_rfl)) (by unfold Func.isWrapper; first | (rw [if_pos (by decide +kernel)]; kernel_rfl) | (rw [if_neg (by decide +kernel)]; exact ⟨rfl, rfl⟩))
    (fun os started H enc _ => lifted_AclMatches os started H enc)
end Go.Proofs.Ythpocifmjeopiaa
