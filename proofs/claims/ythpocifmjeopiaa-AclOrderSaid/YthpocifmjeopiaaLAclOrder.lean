/-
  The law AclOrder, for every input: the call returns true and leaves its arguments as they were. No condition.
-/
import Derived.Test.YthpocifmjeopiaaRows
import Derived.Test.YthpocifmjeopiaaAmS
import Derived.Test.YthpocifmjeopiaaPlain
import Derived.ProofKit
namespace Go.Proofs.Ythpocifmjeopiaa
open Go Go.AM Go.ChangeShapes Go.WideShapes Go.ChangeAt Go.RowKit
set_option maxRecDepth 100000
theorem Try.own : ownKnob Try.prog.godebug = none := by kernel_rfl
theorem Try.laidOut : laidOutB Try.prog = true := by kernel_rfl
theorem pure_AclOrder (x : VSs.den e_law7_AclOrder.A) (hw : VSs.wf e_law7_AclOrder.A x) : PureA Try.prog 9 (VSs.enc e_law7_AclOrder.A x) (.bool true) :=
  pure_ev (Γ := G_law7_AclOrder) (rs := [.bool true]) mixed ⟨sd_law7_sane, sd_law7_right, sd_acl_Covers, trivial⟩ Try.func9 ok_law7_AclOrder tk_law7_AclOrder (by rw [vss_len]; decide) (by
  obtain ⟨a0, a1, a2, ⟨⟩⟩ := x
  exact ct_law7_AclOrder a0 a1 a2 hw _ (by show [FV.bool (g_law7_AclOrder a0 a1 a2)] = [FV.bool true]; rw [true_law7_AclOrder a0 a1 a2 hw]))
theorem lifted_AclOrder (os : Os) (started : os.Started) (H : Type) (enc : TypeId × Value → H) :
    ReturnsInHanded {} Try.checked os 9 .any (Rows.aclOrderSpec.pre6 enc Try.prog Try.f9 Rows.aclOrderRow.domain false) (Rows.aclOrderSpec.post enc Try.prog Try.f9 false true false false) := by
  refine returnsInHanded_of_change (C := Try.checked) Try.own started (by kernel_rfl) Try.func9
    (ChangeSpec.witness6 (enc := enc) (C := Try.checked) false ⟨#[], #[.agg #[.bool false, .int .i64 0, .int .u32 0, .int .u32 0, .int .u32 0, .int .u32 0, .int .i64 0, .int .i64 0, .int .i64 0, .int .i64 0], .agg #[.bool false, .int .i64 0, .int .u32 0, .int .u32 0, .int .u32 0, .int .u32 0, .int .i64 0, .int .i64 0, .int .i64 0, .int .i64 0], .agg #[.bool false, .int .i64 0, .int .u32 0, .int .u32 0, .int .u32 0, .int .u32 0, .int .i64 0, .int .i64 0, .int .i64 0, .int .i64 0]], []⟩ 8 (by kernel_rfl) (by kernel_rfl) (by kernel_rfl) (by kernel_rfl)) ?_
  intro W base args ds gs before hval hW hcnd _
  refine law_post (A := e_law7_AclOrder.A) Try.laidOut rfl (by kernel_rfl) (by kernel_rfl) (by kernel_rfl) Try.underlying4 (fun ds hl => ?_) pure_AclOrder hval hW
  match ds, hl with
  | [d0, d1, d2], _ => exact ⟨rfl, rfl, rfl⟩
theorem AclOrder_holds : Rows.AclOrderSaid :=
  OpenClaim.holds_of_wide 9 Try.f9 rfl rfl rfl rfl rfl rfl rfl ⟨rfl, rfl, rfl, rfl, rfl⟩ rfl rfl rfl rfl rfl (by kernel_rfl) Try.func9 (by kernel_rfl)
    (of_decide_eq_true (by kernel_rfl)) (by unfold Func.isWrapper; first | (rw [if_pos (by decide +kernel)]; kernel_rfl) | (rw [if_neg (by decide +kernel)]; exact ⟨rfl, rfl⟩))
    (fun os started H enc _ => lifted_AclOrder os started H enc)
end Go.Proofs.Ythpocifmjeopiaa
