/-
  The law AclShadowed, for every input: the call returns true and leaves its arguments as they were. No condition.
-/
import Derived.Test.YthpocifmjeopiaaRows
import Derived.Test.YthpocifmjeopiaaAmS
import Derived.Test.YthpocifmjeopiaaPlain
import Derived.ProofKit
namespace Go.Proofs.Ythpocifmjeopiaa
open Go Go.AM Go.ChangeShapes Go.WideShapes Go.ChangeAt Go.RowKit
set_option maxRecDepth 100000
theorem Try.own : ownKnob Try.prog.godebug = none := by kernel_rfl
theorem Try.laidOut : laidOutB Try.prog = true := by kernel_rfl
theorem pure_AclShadowed (x : VSs.den e_law7_AclShadowed.A) (hw : VSs.wf e_law7_AclShadowed.A x) : PureA Try.prog 8 (VSs.enc e_law7_AclShadowed.A x) (.bool true) :=
  pure_ev (Γ := G_law7_AclShadowed) (rs := [.bool true]) mixed ⟨sd_r8_ValidPacket, sd_law7_sane, sd_law7_right, sd_acl_First, sd_acl_Permits, sd_acl_Covers, trivial⟩ Try.func8 ok_law7_AclShadowed tk_law7_AclShadowed (by rw [vss_len]; decide) (by
  obtain ⟨a0, a1, a2, ⟨⟩⟩ := x
  exact ct_law7_AclShadowed a0 a1 a2 hw _ (by show [FV.bool (g_law7_AclShadowed a0 a1 a2)] = [FV.bool true]; rw [true_law7_AclShadowed a0 a1 a2 hw]))
theorem lifted_AclShadowed (os : Os) (started : os.Started) (H : Type) (enc : TypeId × Value → H) :
    ReturnsInHanded {} Try.checked os 8 .any (Rows.aclShadowedSpec.pre6 enc Try.prog Try.f8 Rows.aclShadowedRow.domain false) (Rows.aclShadowedSpec.post enc Try.prog Try.f8 false true false false) := by
  refine returnsInHanded_of_change (C := Try.checked) Try.own started (by kernel_rfl) Try.func8
    (ChangeSpec.witness6 (enc := enc) (C := Try.checked) false ⟨#[], #[.slice none 0 0, .int .i64 0, .agg #[.int .u32 0, .int .u32 0, .int .i64 0, .int .i64 0, .int .i64 0]], []⟩ 8 (by kernel_rfl) (by kernel_rfl) (by kernel_rfl) (by kernel_rfl)) ?_
  intro W base args ds gs before hval hW hcnd _
  refine law_post (A := e_law7_AclShadowed.A) Try.laidOut rfl (by kernel_rfl) (by kernel_rfl) (by kernel_rfl) Try.underlying4 (fun ds hl => ?_) pure_AclShadowed hval hW
  match ds, hl with
  | [d0, d1, d2], _ => exact ⟨rfl, rfl, rfl⟩
theorem AclShadowed_holds : Rows.AclShadowedSaid :=
  OpenClaim.holds_of_wide 8 Try.f8 rfl rfl rfl rfl rfl rfl rfl ⟨rfl, rfl, rfl, rfl, rfl⟩ rfl rfl rfl rfl rfl (by kernel_rfl) Try.func8 (by kernel_rfl)
    (of_decide_eq_true (by kernel_rfl)) (by unfold Func.isWrapper; first | (rw [if_pos (by decide +kernel)]; kernel_rfl) | (rw [if_neg (by decide +kernel)]; exact ⟨rfl, rfl⟩))
    (fun os started H enc _ => lifted_AclShadowed os started H enc)
end Go.Proofs.Ythpocifmjeopiaa
