/-
  The law TrieDeletes, for every input: the call returns true and leaves its arguments as they were. No condition.
-/
import Derived.Test.YthjhlpbiljpccaaRows
import Derived.Test.YthjhlpbiljpccaaAmS
import Derived.Test.YthjhlpbiljpccaaPlain
import Derived.ProofKit
namespace Go.Proofs.Ythjhlpbiljpccaa
open Go Go.AM Go.ChangeShapes Go.WideShapes Go.ChangeAt Go.RowKit
set_option maxRecDepth 100000
theorem Try.own : ownKnob Try.prog.godebug = none := by kernel_rfl
theorem Try.laidOut : laidOutB Try.prog = true := by kernel_rfl
theorem pure_TrieDeletes (x : VSs.den e_law4_TrieDeletes.A) (hw : VSs.wf e_law4_TrieDeletes.A x) : PureA Try.prog 6 (VSs.enc e_law4_TrieDeletes.A x) (.bool true) :=
  pure_ev (Γ := G_law4_TrieDeletes) (R := e_law4_TrieDeletes.R) (x := (true, ())) mixed ⟨⟨sd_r4_Valid, sd_law4_sane, sd_keep_Entries, trivial⟩, ⟨sd_law4_built, sd_fn_10, sd_fn_16, sd_fn_17, sd_fn_18, sd_fn_20, trivial⟩⟩ Try.func6 ok_law4_TrieDeletes tk_law4_TrieDeletes (by rw [vss_len]; decide) (by
  obtain ⟨a0, a1, ⟨⟩⟩ := x
  exact ct_law4_TrieDeletes a0 a1 hw _ (by show ((g_law4_TrieDeletes a0 a1, ()) : Bool × Unit) = (true, ()); rw [true_law4_TrieDeletes a0 a1 hw]))
theorem lifted_TrieDeletes (os : Os) (started : os.Started) (H : Type) (enc : TypeId × Value → H) :
    ReturnsInHanded {} Try.checked os 6 .any (Rows.trieDeletesSpec.pre6 enc Try.prog Try.f6 Rows.trieDeletesRow.domain false) (Rows.trieDeletesSpec.post enc Try.prog Try.f6 false true false false) := by
  refine returnsInHanded_of_change (C := Try.checked) Try.own started (by kernel_rfl) Try.func6
    (ChangeSpec.witness6 (enc := enc) (C := Try.checked) false ⟨#[], #[.slice none 0 0, .int .i64 0], []⟩ 8 (by kernel_rfl) (by kernel_rfl) (by kernel_rfl) (by kernel_rfl)) ?_
  intro W base args ds gs before hval hW hcnd _
  refine law_post (A := e_law4_TrieDeletes.A) Try.laidOut rfl (by kernel_rfl) (by kernel_rfl) (by kernel_rfl) Try.underlying4 (fun ds hl => ?_) pure_TrieDeletes (fun _ _ _ h => by cases h) hval hW
  match ds, hl with
  | [d0, d1], _ => exact ⟨rfl, rfl, rfl⟩
theorem TrieDeletes_holds : Rows.TrieDeletesSaid :=
  OpenClaim.holds_of_wide 6 Try.f6 rfl rfl rfl rfl rfl rfl rfl ⟨rfl, rfl, rfl, rfl, rfl⟩ rfl rfl rfl rfl rfl (by kernel_rfl) Try.func6 (by kernel_rfl)
    (of_decide_eq_true (by kernel_rfl)) (by unfold Func.isWrapper; first | (rw [if_pos (by decide +kernel)]; kernel_rfl) | (rw [if_neg (by decide +kernel)]; exact ⟨rfl, rfl⟩))
    (fun os started H enc _ => lifted_TrieDeletes os started H enc)
end Go.Proofs.Ythjhlpbiljpccaa
