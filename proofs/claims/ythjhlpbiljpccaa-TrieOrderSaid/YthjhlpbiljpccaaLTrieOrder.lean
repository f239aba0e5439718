/-
  The law TrieOrder, for every input: the call returns true and leaves its arguments as they were. No condition.
-/
import Derived.Test.YthjhlpbiljpccaaRows
import Derived.Test.YthjhlpbiljpccaaAmS
import Derived.Test.YthjhlpbiljpccaaPlain
import Derived.ProofKit
namespace Go.Proofs.Ythjhlpbiljpccaa
open Go Go.AM Go.ChangeShapes Go.WideShapes Go.ChangeAt Go.RowKit
set_option maxRecDepth 100000
theorem Try.own : ownKnob Try.prog.godebug = none := by kernel_rfl
theorem Try.laidOut : laidOutB Try.prog = true := by kernel_rfl
theorem pure_TrieOrder (x : VSs.den e_law4_TrieOrder.A) (hw : VSs.wf e_law4_TrieOrder.A x) : PureA Try.prog 5 (VSs.enc e_law4_TrieOrder.A x) (.bool true) :=
  pure_ev (Γ := G_law4_TrieOrder) (R := e_law4_TrieOrder.R) (x := (true, ())) mixed ⟨⟨sd_law4_sane, sd_keep_Entries, trivial⟩, ⟨sd_law4_built, sd_fn_9, sd_fn_10, sd_fn_16, sd_fn_17, sd_fn_18, sd_fn_20, trivial⟩⟩ Try.func5 ok_law4_TrieOrder tk_law4_TrieOrder (by rw [vss_len]; decide) (by
  obtain ⟨a0, a1, a2, ⟨⟩⟩ := x
  exact ct_law4_TrieOrder a0 a1 a2 hw _ (by show ((g_law4_TrieOrder a0 a1 a2, ()) : Bool × Unit) = (true, ()); rw [true_law4_TrieOrder a0 a1 a2 hw]))
theorem lifted_TrieOrder (os : Os) (started : os.Started) (H : Type) (enc : TypeId × Value → H) :
    ReturnsInHanded {} Try.checked os 5 .any (Rows.trieOrderSpec.pre6 enc Try.prog Try.f5 Rows.trieOrderRow.domain false) (Rows.trieOrderSpec.post enc Try.prog Try.f5 false true false false) := by
  refine returnsInHanded_of_change (C := Try.checked) Try.own started (by kernel_rfl) Try.func5
    (ChangeSpec.witness6 (enc := enc) (C := Try.checked) false ⟨#[], #[.slice none 0 0, .slice none 0 0, .int .u32 0], []⟩ 8 (by kernel_rfl) (by kernel_rfl) (by kernel_rfl) (by kernel_rfl)) ?_
  intro W base args ds gs before hval hW hcnd _
  refine law_post (A := e_law4_TrieOrder.A) Try.laidOut rfl (by kernel_rfl) (by kernel_rfl) (by kernel_rfl) Try.underlying4 (fun ds hl => ?_) pure_TrieOrder (fun _ _ _ h => by cases h) hval hW
  match ds, hl with
  | [d0, d1, d2], _ => exact ⟨rfl, rfl, rfl⟩
theorem TrieOrder_holds : Rows.TrieOrderSaid :=
  OpenClaim.holds_of_wide 5 Try.f5 rfl rfl rfl rfl rfl rfl rfl ⟨rfl, rfl, rfl, rfl, rfl⟩ rfl rfl rfl rfl rfl (by kernel_rfl) Try.func5 (by kernel_rfl)
    (of_decide_eq_true (by kernel_rfl)) (by unfold Func.isWrapper; first | (rw [if_pos (by decide +kernel)]; kernel_rfl) | (rw [if_neg (by decide +kernel)]; exact ⟨rfl, rfl⟩))
    (fun os started H enc _ => lifted_TrieOrder os started H enc)
end Go.Proofs.Ythjhlpbiljpccaa
