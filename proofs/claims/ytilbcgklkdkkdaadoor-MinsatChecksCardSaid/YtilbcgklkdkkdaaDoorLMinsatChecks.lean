/-
  The law MinsatChecks, for every input: the call returns true and leaves its arguments as they were. No condition.
-/
import Derived.Test.YtilbcgklkdkkdaaDoorRows
import Derived.Test.YtilbcgklkdkkdaaDoorAmS
import Derived.Test.YtilbcgklkdkkdaaDoorPlain
import Derived.Test.YtilbcgklkdkkdaaDoorCards
import Derived.Test.YtilbcgklkdkkdaaDoorTie
import Derived.ProofKit
import Derived.LaidMore
import Derived.OpenShut
import Derived.Stop.Joined
import Derived.SevenTiedAt
namespace Go.Proofs.YtilbcgklkdkkdaaDoor
open Go Go.AM Go.ChangeShapes Go.WideShapes Go.ChangeAt Go.RowKit Go.WideMaps Go.WideElems
set_option maxRecDepth 100000
theorem Tryd.own : ownKnob Tryd.prog.godebug = none := by kernel_rfl
theorem Tryd.laidOut : laidOutB Tryd.prog = true := by kernel_rfl
theorem gT : Tryd.prog.globalNamed "math/bits.deBruijn32tab" = some 0 := by kernel_rfl
theorem tT : (Tryd.prog.globals[0]?).map (·.type) = some 68 := by kernel_rfl
abbrev laidL {H : Type} : List (String × DataW H) := [("math/bits.deBruijn32tab", Rows.laid_math_bits_deBruijn32tab)]
theorem glob_of {W : World} (h : laidMetH Tryd.prog laidL W) : GlobOk AnyB W := by
  rw [MakeChecks.laidMetH_plain _ _ _ (by kernel_rfl)] at h
  obtain ⟨ps, ⟨g0, t0, cs0, f0, p0, q0, hg0, ht0, hv0, hd0, _⟩, _, _⟩ := h
  obtain rfl := Option.some.inj (gT.symm.trans hg0)
  obtain rfl := Option.some.inj (tT.symm.trans ht0)
  obtain ⟨xs, m1, rfl, hx1, hlen, hn3, hel⟩ := DataW.trod_array Tryd.underlying68 hd0
  have ce : Tryd.prog.cellsOf 5 = 1 := by kernel_rfl
  have hmap : xs.map (·.1) = gtab0.map fun n => .lit (.int .u8 n) := by
    have h1 := (Prod.mk.inj hx1).1
    injection h1 with h1
    exact h1.symm
  intro j k l hg i x hi
  have hjk : j = 0 ∧ k = .u8 ∧ l = gtab0 := by
    unfold globs globOf at hg
    cases hj : (0 == j) with
    | false => rw [hj] at hg; cases hg
    | true =>
      rw [hj] at hg
      have hj := eq_of_beq hj
      simp only [cond_true, Option.some.injEq, Prod.mk.injEq] at hg
      exact ⟨hj.symm, hg.1.symm, hg.2.symm⟩
  obtain ⟨rfl, rfl, rfl⟩ := hjk
  have hlt : i < 32 := (List.getElem?_eq_some_iff.1 hi).1
  have h2 : (xs.map (·.1))[i]? = some (.lit (.int .u8 x)) := by rw [hmap, List.getElem?_map, hi]; rfl
  rw [List.getElem?_map] at h2
  obtain ⟨y, hy, hyx⟩ := Option.map_eq_some_iff.1 h2
  have h1 := (hel i hlt).trans hy
  rw [ce, Nat.mul_one] at h1
  obtain ⟨n, e1, e2, e3⟩ := DataW.trod_int Tryd.underlying5 h1
  rw [e2] at hyx
  have hnx : n = x := by simpa using hyx
  subst hnx
  refine ⟨trivial, ?_, by simpa [Lit.wf, inR] using e3⟩
  rw [World.var?_cell hg0 hv0 i]
  have h3 : (cs0.toList.drop i)[0]? = some (.int .u8 n) := by
    have : ((cs0.toList.drop i).take 1)[0]? = some (.int .u8 n) := by rw [e1]; rfl
    rw [List.getElem?_take] at this
    simpa using this
  rw [List.getElem?_drop] at h3
  simpa using h3
theorem door_met (os : Os) (args : Array Value) : laidMetH Tryd.prog laidL ((World.doorLaid Tryd.prog 400 os).forCall (fun _ _ => 0) ⟨#[], args, []⟩).memory :=
  laidMetH_of_parts3 (fuel := 8) (laidMet_of_run' 8 (by kernel_rfl) (by kernel_rfl)) (by kernel_rfl) (by kernel_rfl)
theorem pure_MinsatChecks (x : VSs.den e_law43_MinsatChecks.A) (hw : VSs.wf e_law43_MinsatChecks.A x) : PureA Tryd.prog 7 (VSs.enc e_law43_MinsatChecks.A x) (.bool true) :=
  pure_ev (Γ := G_law43_MinsatChecks) (R := e_law43_MinsatChecks.R) (x := (true, ())) mixed ⟨⟨sd_law43_awake, sd_r42_Check, sd_r42_Satisfies, sd_minsat_Check, sd_minsat_Satisfies, trivial⟩, trivial⟩ Tryd.func7 ok_law43_MinsatChecks tk_law43_MinsatChecks (by rw [vss_len]; decide) (by
  obtain ⟨a0, a1, a2, ⟨⟩⟩ := x
  exact ct_law43_MinsatChecks a0 a1 a2 hw _ (by show ((g_law43_MinsatChecks a0 a1 a2, ()) : Bool × Unit) = (true, ()); rw [true_law43_MinsatChecks a0 a1 a2 hw]))
theorem lifted_MinsatChecks (os : Os) (started : os.Started) (H : Type) (enc : TypeId × Value → H) :
    ReturnsInHanded {} Tryd.checked os 7 .any (fun w args => (Rows.minsatChecksSpec.pre enc Tryd.prog Tryd.f7 [] false w args ∧ laidMetH Tryd.prog laidL w) ∧ sizedMet enc Tryd.prog Tryd.f7 (OpenSpec.ofChange Rows.minsatChecksSpec) false w args)
      (Rows.minsatChecksSpec.post enc Tryd.prog Tryd.f7 false true false false) := by
  refine returnsInHanded_of_change_and (C := Tryd.checked) (X := fun w _ => laidMetH Tryd.prog laidL w) (fun _ _ _ hh h => h.of_heap hh) Tryd.own started (by kernel_rfl) Tryd.func7
    (ChangeSpec.witness_shaped (enc := enc) (C := Tryd.checked) (os := os) (X := fun w _ => laidMetH Tryd.prog laidL w) false (World.doorLaid Tryd.prog 400 os) #[.int .i64 0, .slice none 0 0, .slice none 0 0] 8 rfl (World.shaped_of_RefB (by kernel_rfl) (by kernel_rfl)) (by kernel_rfl) (by kernel_rfl) (by kernel_rfl) (door_met os _)) ?_
  intro W base args ds gs before hval hW _ _ hL _
  refine law_post (A := e_law43_MinsatChecks.A) Tryd.laidOut rfl (by kernel_rfl) (by kernel_rfl) (by kernel_rfl) Tryd.underlying4 (fun ds hl => ?_) pure_MinsatChecks (glob_of hL) hval hW
  match ds, hl with
  | [d0, d1, d2], _ => exact ⟨rfl, rfl, rfl⟩
theorem MinsatChecks_row : Rows.MinsatChecksSaid :=
  OpenClaim.holds_of_wide 7 Tryd.f7 rfl rfl rfl rfl rfl rfl rfl ⟨rfl, rfl, rfl, rfl, rfl⟩ rfl rfl rfl rfl rfl (by kernel_rfl) Tryd.func7 (by kernel_rfl)
    (of_decide_eq_true (by kernel_rfl)) (by unfold Func.isWrapper; first | (rw [if_pos (by decide +kernel)]; kernel_rfl) | (rw [if_neg (by decide +kernel)]; exact ⟨rfl, rfl⟩))
    (fun os started H enc _ => lifted_MinsatChecks os started H enc)
theorem MinsatChecks_holds : Rows.MinsatChecksCardSaid :=
  Claim7.holds_tied_plain_at .later [] [.data] true (true, "072b1b42b95cc5323f9b1403f08a04031188f2b79d38e9ba900fbe0885011016") false
    MinsatChecks_row (fun _ h => by cases h) (by kernel_rfl) (fun _ h => by cases h) minsatChecks_row_tie rfl ⟨rfl, rfl⟩ (by kernel_rfl) rfl
    (fun f fn hf hfn => by
      obtain rfl : f = 7 := Option.some.inj ((show Tryd.prog.funcNamed "netverify/netverifylaw43.MinsatChecks" = some 7 by kernel_rfl).symm.trans hf) |>.symm
      obtain rfl : fn = Tryd.f7 := (Option.some.inj (Tryd.func7.symm.trans hfn)).symm
      exact ⟨by kernel_rfl, fun j t ht => by
        have hp : Tryd.f7.params = #[3, 22, 26] := by kernel_rfl
        rw [hp] at ht
        have hm : t ∈ [3, 22, 26] := by simpa using Array.mem_of_getElem? ht
        have hall : ([3, 22, 26].all fun u => !Tryd.prog.wantsStandIn u) = true := by kernel_rfl
        exact (show Tryd.prog.wantsStandIn t = false by simpa using List.all_eq_true.1 hall t hm)⟩)
    (by kernel_rfl)
end Go.Proofs.YtilbcgklkdkkdaaDoor
