/-
  The law TriePlays, for every input: the call returns true and leaves its arguments as they were. No condition.
-/
import Derived.Test.YthjhlpbiljpccaaRows
import Derived.Test.YthjhlpbiljpccaaAmS
import Derived.Test.YthjhlpbiljpccaaPlainP
import Derived.ProofKit
namespace Go.Proofs.Ythjhlpbiljpccaa
open Go Go.AM Go.ChangeShapes Go.WideShapes Go.ChangeAt Go.RowKit
set_option maxRecDepth 100000
theorem Try.own : ownKnob Try.prog.godebug = none := by kernel_rfl
theorem Try.laidOut : laidOutB Try.prog = true := by kernel_rfl
theorem pure_TriePlays (x : VSs.den e_law4_TriePlays.A) (hw : VSs.wf e_law4_TriePlays.A x) : PureA Try.prog 7 (VSs.enc e_law4_TriePlays.A x) (.bool true) :=
  pure_ev (Γ := G_law4_TriePlays) (R := e_law4_TriePlays.R) (x := (true, ())) mixed ⟨⟨sd_law4_sane, sd_keep_Entries, sd_fn_23, sd_fn_24, sd_keep_Prefixes, trivial⟩, ⟨sd_fn_9, sd_fn_10, sd_fn_14, sd_fn_16, sd_fn_17, sd_fn_18, sd_fn_20, sd_trie_New, sd_fn_22, sd_fn_26, sd_fn_27, trivial⟩⟩ Try.func7 ok_law4_TriePlays tk_law4_TriePlays (by rw [vss_len]; decide) (by
  obtain ⟨a0, ⟨⟩⟩ := x
  exact ct_law4_TriePlays a0 hw _ (by show ((g_law4_TriePlays a0, ()) : Bool × Unit) = (true, ()); rw [true_law4_TriePlays a0 hw]))
theorem lifted_TriePlays (os : Os) (started : os.Started) (H : Type) (enc : TypeId × Value → H) :
    ReturnsInHanded {} Try.checked os 7 .any (Rows.triePlaysSpec.pre6 enc Try.prog Try.f7 Rows.triePlaysRow.domain false) (Rows.triePlaysSpec.post enc Try.prog Try.f7 false true false false) := by
  refine returnsInHanded_of_change (C := Try.checked) Try.own started (by kernel_rfl) Try.func7
    (ChangeSpec.witness6 (enc := enc) (C := Try.checked) false ⟨#[], #[.slice none 0 0], []⟩ 8 (by kernel_rfl) (by kernel_rfl) (by kernel_rfl) (by kernel_rfl)) ?_
  intro W base args ds gs before hval hW hcnd _
  refine law_post (A := e_law4_TriePlays.A) Try.laidOut rfl (by kernel_rfl) (by kernel_rfl) (by kernel_rfl) Try.underlying4 (fun ds hl => ?_) pure_TriePlays (fun _ _ _ h => by cases h) hval hW
  match ds, hl with
  | [d0], _ => exact ⟨rfl, rfl, rfl⟩
theorem TriePlays_holds : Rows.TriePlaysSaid :=
  OpenClaim.holds_of_wide 7 Try.f7 rfl rfl rfl rfl rfl rfl rfl ⟨rfl, rfl, rfl, rfl, rfl⟩ rfl rfl rfl rfl rfl (by kernel_rfl) Try.func7 (by kernel_rfl)
    (of_decide_eq_true (by kernel_rfl)) (by unfold Func.isWrapper; first | (rw [if_pos (by decide +kernel)]; kernel_rfl) | (rw [if_neg (by decide +kernel)]; exact ⟨rfl, rfl⟩))
    (fun os started H enc _ => lifted_TriePlays os started H enc)
end Go.Proofs.Ythjhlpbiljpccaa
