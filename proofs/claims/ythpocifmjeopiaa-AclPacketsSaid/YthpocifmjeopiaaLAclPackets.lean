/-
  The law AclPackets, for every input: the call returns true and leaves its arguments as they were. No condition.
-/
import Derived.Test.YthpocifmjeopiaaRows
import Derived.Test.YthpocifmjeopiaaAmS
import Derived.Test.YthpocifmjeopiaaPlain
import Derived.ProofKit
namespace Go.Proofs.Ythpocifmjeopiaa
open Go Go.AM Go.ChangeShapes Go.WideShapes Go.ChangeAt Go.RowKit
set_option maxRecDepth 100000
theorem Try.own : ownKnob Try.prog.godebug = none := by kernel_rfl
theorem Try.laidOut : laidOutB Try.prog = true := by kernel_rfl
theorem pure_AclPackets (x : VSs.den e_law7_AclPackets.A) (hw : VSs.wf e_law7_AclPackets.A x) : PureA Try.prog 3 (VSs.enc e_law7_AclPackets.A x) (.bool true) :=
  pure_ev (Γ := G_law7_AclPackets) (rs := [.bool true]) mixed ⟨sd_acl_ValidPacket, sd_r8_ValidPacket, sd_acl_MatchesAddress, sd_r8_MatchesAddress, sd_law7_sane, trivial⟩ Try.func3 ok_law7_AclPackets tk_law7_AclPackets (by rw [vss_len]; decide) (by
  obtain ⟨a0, a1, a2, ⟨⟩⟩ := x
  exact ct_law7_AclPackets a0 a1 a2 hw _ (by show [FV.bool (g_law7_AclPackets a0 a1 a2)] = [FV.bool true]; rw [true_law7_AclPackets a0 a1 a2 hw]))
theorem lifted_AclPackets (os : Os) (started : os.Started) (H : Type) (enc : TypeId × Value → H) :
    ReturnsInHanded {} Try.checked os 3 .any (Rows.aclPacketsSpec.pre6 enc Try.prog Try.f3 Rows.aclPacketsRow.domain false) (Rows.aclPacketsSpec.post enc Try.prog Try.f3 false true false false) := by
  refine returnsInHanded_of_change (C := Try.checked) Try.own started (by kernel_rfl) Try.func3
    (ChangeSpec.witness6 (enc := enc) (C := Try.checked) false ⟨#[], #[.agg #[.int .u32 0, .int .u32 0, .int .i64 0, .int .i64 0, .int .i64 0], .agg #[.int .u32 0, .int .u32 0], .int .u32 0], []⟩ 8 (by kernel_rfl) (by kernel_rfl) (by kernel_rfl) (by kernel_rfl)) ?_
  intro W base args ds gs before hval hW hcnd _
  refine law_post (A := e_law7_AclPackets.A) Try.laidOut rfl (by kernel_rfl) (by kernel_rfl) (by kernel_rfl) Try.underlying4 (fun ds hl => ?_) pure_AclPackets hval hW
  match ds, hl with
  | [d0, d1, d2], _ => exact ⟨rfl, rfl, rfl⟩
theorem AclPackets_holds : Rows.AclPacketsSaid :=
  OpenClaim.holds_of_wide 3 Try.f3 rfl rfl rfl rfl rfl rfl rfl ⟨rfl, rfl, rfl, rfl, rfl⟩ rfl rfl rfl rfl rfl (by kernel_rfl) Try.func3 (by kernel_rfl)
    (of_decide_eq_true (by kernel_rfl)) (by unfold Func.isWrapper; first | (rw [if_pos (by decide +kernel)]; kernel_rfl) | (rw [if_neg (by decide +kernel)]; exact ⟨rfl, rfl⟩))
    (fun os started H enc _ => lifted_AclPackets os started H enc)
end Go.Proofs.Ythpocifmjeopiaa
