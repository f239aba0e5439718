/-
  The law NatOwners, for every input: the call returns true and leaves its arguments as they were. No condition.
-/
import Derived.Test.YtjejfgehcncohaaRows
import Derived.Test.YtjejfgehcncohaaAmS
import Derived.Test.YtjejfgehcncohaaPlain
import Derived.ProofKit
namespace Go.Proofs.Ytjejfgehcncohaa
open Go Go.AM Go.ChangeShapes Go.WideShapes Go.ChangeAt Go.RowKit
set_option maxRecDepth 100000
theorem Try.own : ownKnob Try.prog.godebug = none := by kernel_rfl
theorem Try.laidOut : laidOutB Try.prog = true := by kernel_rfl
theorem pure_NatOwners (x : VSs.den e_law8_NatOwners.A) (hw : VSs.wf e_law8_NatOwners.A x) : PureA Try.prog 7 (VSs.enc e_law8_NatOwners.A x) (.bool true) :=
  pure_ev (Γ := G_law8_NatOwners) (R := e_law8_NatOwners.R) (x := (true, ())) mixed ⟨sd_law8_router, sd_law8_sane, sd_nat_Owner, sd_r8_Owner, trivial⟩ Try.func7 ok_law8_NatOwners tk_law8_NatOwners (by rw [vss_len]; decide) (by
  obtain ⟨a0, a1, a2, ⟨⟩⟩ := x
  exact ct_law8_NatOwners a0 a1 a2 hw _ (by show ((g_law8_NatOwners a0 a1 a2, ()) : Bool × Unit) = (true, ()); rw [true_law8_NatOwners a0 a1 a2 hw]))
theorem lifted_NatOwners (os : Os) (started : os.Started) (H : Type) (enc : TypeId × Value → H) :
    ReturnsInHanded {} Try.checked os 7 .any (Rows.natOwnersSpec.pre6 enc Try.prog Try.f7 Rows.natOwnersRow.domain false) (Rows.natOwnersSpec.post enc Try.prog Try.f7 false true false false) := by
  refine returnsInHanded_of_change (C := Try.checked) Try.own started (by kernel_rfl) Try.func7
    (ChangeSpec.witness6 (enc := enc) (C := Try.checked) false ⟨#[], #[.slice none 0 0, .slice none 0 0, .int .u32 0], []⟩ 8 (by kernel_rfl) (by kernel_rfl) (by kernel_rfl) (by kernel_rfl)) ?_
  intro W base args ds gs before hval hW hcnd _
  refine law_post (A := e_law8_NatOwners.A) Try.laidOut rfl (by kernel_rfl) (by kernel_rfl) (by kernel_rfl) Try.underlying4 (fun ds hl => ?_) pure_NatOwners hval hW
  match ds, hl with
  | [d0, d1, d2], _ => exact ⟨rfl, rfl, rfl⟩
theorem NatOwners_holds : Rows.NatOwnersSaid :=
  OpenClaim.holds_of_wide 7 Try.f7 rfl rfl rfl rfl rfl rfl rfl ⟨rfl, rfl, rfl, rfl, rfl⟩ rfl rfl rfl rfl rfl (by kernel_rfl) Try.func7 (by kernel_rfl)
    (of_decide_eq_true (by kernel_rfl)) (by unfold Func.isWrapper; first | (rw [if_pos (by decide +kernel)]; kernel_rfl) | (rw [if_neg (by decide +kernel)]; exact ⟨rfl, rfl⟩))
    (fun os started H enc _ => lifted_NatOwners os started H enc)
end Go.Proofs.Ytjejfgehcncohaa
