/-
  The law TrieCovers, for every input: the call returns true and leaves its arguments as they were. No condition.
-/
import Derived.Test.YthjhlpbiljpccaaRows
import Derived.Test.YthjhlpbiljpccaaAmS
import Derived.Test.YthjhlpbiljpccaaPlainC
import Derived.ProofKit
namespace Go.Proofs.Ythjhlpbiljpccaa
open Go Go.AM Go.ChangeShapes Go.WideShapes Go.ChangeAt Go.RowKit
set_option maxRecDepth 100000
theorem Try.own : ownKnob Try.prog.godebug = none := by kernel_rfl
theorem Try.laidOut : laidOutB Try.prog = true := by kernel_rfl
theorem pure_TrieCovers (x : VSs.den e_law4_TrieCovers.A) (hw : VSs.wf e_law4_TrieCovers.A x) : PureA Try.prog 4 (VSs.enc e_law4_TrieCovers.A x) (.bool true) :=
  pure_ev (Γ := G_law4_TrieCovers) (R := e_law4_TrieCovers.R) (x := (true, ())) mixed ⟨⟨sd_r4_Valid, sd_law4_sane, sd_r4_Covers, trivial⟩, ⟨sd_law4_built, sd_fn_9, sd_fn_10, sd_fn_14, sd_fn_16, trivial⟩⟩ Try.func4 ok_law4_TrieCovers tk_law4_TrieCovers (by rw [vss_len]; decide) (by
  obtain ⟨a0, a1, ⟨⟩⟩ := x
  exact ct_law4_TrieCovers a0 a1 hw _ (by show ((g_law4_TrieCovers a0 a1, ()) : Bool × Unit) = (true, ()); rw [true_law4_TrieCovers a0 a1 hw]))
theorem lifted_TrieCovers (os : Os) (started : os.Started) (H : Type) (enc : TypeId × Value → H) :
    ReturnsInHanded {} Try.checked os 4 .any (Rows.trieCoversSpec.pre6 enc Try.prog Try.f4 Rows.trieCoversRow.domain false) (Rows.trieCoversSpec.post enc Try.prog Try.f4 false true false false) := by
  refine returnsInHanded_of_change (C := Try.checked) Try.own started (by kernel_rfl) Try.func4
    (ChangeSpec.witness6 (enc := enc) (C := Try.checked) false ⟨#[], #[.slice none 0 0, .agg #[.int .u32 0, .int .i64 0]], []⟩ 8 (by kernel_rfl) (by kernel_rfl) (by kernel_rfl) (by kernel_rfl)) ?_
  intro W base args ds gs before hval hW hcnd _
  refine law_post (A := e_law4_TrieCovers.A) Try.laidOut rfl (by kernel_rfl) (by kernel_rfl) (by kernel_rfl) Try.underlying4 (fun ds hl => ?_) pure_TrieCovers (fun _ _ _ h => by cases h) hval hW
  match ds, hl with
  | [d0, d1], _ => exact ⟨rfl, rfl, rfl⟩
theorem TrieCovers_holds : Rows.TrieCoversSaid :=
  OpenClaim.holds_of_wide 4 Try.f4 rfl rfl rfl rfl rfl rfl rfl ⟨rfl, rfl, rfl, rfl, rfl⟩ rfl rfl rfl rfl rfl (by kernel_rfl) Try.func4 (by kernel_rfl)
    (of_decide_eq_true (by kernel_rfl)) (by unfold Func.isWrapper; first | (rw [if_pos (by decide +kernel)]; kernel_rfl) | (rw [if_neg (by decide +kernel)]; exact ⟨rfl, rfl⟩))
    (fun os started H enc _ => lifted_TrieCovers os started H enc)
end Go.Proofs.Ythjhlpbiljpccaa
