/-
  The law NatReply, for every input: the call returns true and leaves its arguments as they were. No condition.
-/
import Derived.Test.YtjejfgehcncohaaRows
import Derived.Test.YtjejfgehcncohaaAmS
import Derived.Test.YtjejfgehcncohaaPlain
import Derived.ProofKit
namespace Go.Proofs.Ytjejfgehcncohaa
open Go Go.AM Go.ChangeShapes Go.WideShapes Go.ChangeAt Go.RowKit
set_option maxRecDepth 100000
theorem Try.own : ownKnob Try.prog.godebug = none := by kernel_rfl
theorem Try.laidOut : laidOutB Try.prog = true := by kernel_rfl
theorem pure_NatReply (x : VSs.den e_law8_NatReply.A) (hw : VSs.wf e_law8_NatReply.A x) : PureA Try.prog 5 (VSs.enc e_law8_NatReply.A x) (.bool true) :=
  pure_ev (Γ := G_law8_NatReply) (R := e_law8_NatReply.R) (x := (true, ())) mixed ⟨sd_law8_router, sd_r8_ValidPacket, sd_nat_Destination, sd_nat_Source, sd_law8_sane, trivial⟩ Try.func5 ok_law8_NatReply tk_law8_NatReply (by rw [vss_len]; decide) (by
  obtain ⟨a0, a1, a2, ⟨⟩⟩ := x
  exact ct_law8_NatReply a0 a1 a2 hw _ (by show ((g_law8_NatReply a0 a1 a2, ()) : Bool × Unit) = (true, ()); rw [true_law8_NatReply a0 a1 a2 hw]))
theorem lifted_NatReply (os : Os) (started : os.Started) (H : Type) (enc : TypeId × Value → H) :
    ReturnsInHanded {} Try.checked os 5 .any (Rows.natReplySpec.pre6 enc Try.prog Try.f5 Rows.natReplyRow.domain false) (Rows.natReplySpec.post enc Try.prog Try.f5 false true false false) := by
  refine returnsInHanded_of_change (C := Try.checked) Try.own started (by kernel_rfl) Try.func5
    (ChangeSpec.witness6 (enc := enc) (C := Try.checked) false ⟨#[], #[.slice none 0 0, .agg #[.int .u32 0, .int .u32 0, .int .i64 0, .int .i64 0, .int .i64 0], .int .i64 0], []⟩ 8 (by kernel_rfl) (by kernel_rfl) (by kernel_rfl) (by kernel_rfl)) ?_
  intro W base args ds gs before hval hW hcnd _
  refine law_post (A := e_law8_NatReply.A) Try.laidOut rfl (by kernel_rfl) (by kernel_rfl) (by kernel_rfl) Try.underlying4 (fun ds hl => ?_) pure_NatReply hval hW
  match ds, hl with
  | [d0, d1, d2], _ => exact ⟨rfl, rfl, rfl⟩
theorem NatReply_holds : Rows.NatReplySaid :=
  OpenClaim.holds_of_wide 5 Try.f5 rfl rfl rfl rfl rfl rfl rfl ⟨rfl, rfl, rfl, rfl, rfl⟩ rfl rfl rfl rfl rfl (by kernel_rfl) Try.func5 (by kernel_rfl)
    (of_decide_eq_true (by kernel_rfl)) (by unfold Func.isWrapper; first | (rw [if_pos (by decide +kernel)]; kernel_rfl) | (rw [if_neg (by decide +kernel)]; exact ⟨rfl, rfl⟩))
    (fun os started H enc _ => lifted_NatReply os started H enc)
end Go.Proofs.Ytjejfgehcncohaa
