/-
  The law NatFirst, for every input: the call returns true and leaves its arguments as they were. No condition.
-/
import Derived.Test.YtjejfgehcncohaaRows
import Derived.Test.YtjejfgehcncohaaAmS
import Derived.Test.YtjejfgehcncohaaPlain
import Derived.ProofKit
namespace Go.Proofs.Ytjejfgehcncohaa
open Go Go.AM Go.ChangeShapes Go.WideShapes Go.ChangeAt Go.RowKit
set_option maxRecDepth 100000
theorem Try.own : ownKnob Try.prog.godebug = none := by kernel_rfl
theorem Try.laidOut : laidOutB Try.prog = true := by kernel_rfl
theorem pure_NatFirst (x : VSs.den e_law8_NatFirst.A) (hw : VSs.wf e_law8_NatFirst.A x) : PureA Try.prog 6 (VSs.enc e_law8_NatFirst.A x) (.bool true) :=
  pure_ev (Γ := G_law8_NatFirst) (R := e_law8_NatFirst.R) (x := (true, ())) mixed ⟨sd_law8_router, sd_r8_ValidPacket, sd_keep_Packets, sd_nat_Source, sd_law8_sane, sd_law8_applies, trivial⟩ Try.func6 ok_law8_NatFirst tk_law8_NatFirst (by rw [vss_len]; decide) (by
  obtain ⟨a0, a1, a2, ⟨⟩⟩ := x
  exact ct_law8_NatFirst a0 a1 a2 hw _ (by show ((g_law8_NatFirst a0 a1 a2, ()) : Bool × Unit) = (true, ()); rw [true_law8_NatFirst a0 a1 a2 hw]))
theorem lifted_NatFirst (os : Os) (started : os.Started) (H : Type) (enc : TypeId × Value → H) :
    ReturnsInHanded {} Try.checked os 6 .any (Rows.natFirstSpec.pre6 enc Try.prog Try.f6 Rows.natFirstRow.domain false) (Rows.natFirstSpec.post enc Try.prog Try.f6 false true false false) := by
  refine returnsInHanded_of_change (C := Try.checked) Try.own started (by kernel_rfl) Try.func6
    (ChangeSpec.witness6 (enc := enc) (C := Try.checked) false ⟨#[], #[.slice none 0 0, .slice none 0 0, .agg #[.int .u32 0, .int .u32 0, .int .i64 0, .int .i64 0, .int .i64 0]], []⟩ 8 (by kernel_rfl) (by kernel_rfl) (by kernel_rfl) (by kernel_rfl)) ?_
  intro W base args ds gs before hval hW hcnd _
  refine law_post (A := e_law8_NatFirst.A) Try.laidOut rfl (by kernel_rfl) (by kernel_rfl) (by kernel_rfl) Try.underlying4 (fun ds hl => ?_) pure_NatFirst hval hW
  match ds, hl with
  | [d0, d1, d2], _ => exact ⟨rfl, rfl, rfl⟩
theorem NatFirst_holds : Rows.NatFirstSaid :=
  OpenClaim.holds_of_wide 6 Try.f6 rfl rfl rfl rfl rfl rfl rfl ⟨rfl, rfl, rfl, rfl, rfl⟩ rfl rfl rfl rfl rfl (by kernel_rfl) Try.func6 (by kernel_rfl)
    (of_decide_eq_true (by kernel_rfl)) (by unfold Func.isWrapper; first | (rw [if_pos (by decide +kernel)]; kernel_rfl) | (rw [if_neg (by decide +kernel)]; exact ⟨rfl, rfl⟩))
    (fun os started H enc _ => lifted_NatFirst os started H enc)
end Go.Proofs.Ytjejfgehcncohaa
