/-
  The contracts, joined.
-/
import Derived.Test.YtilbcgklkdkkdaaDoorAmP
namespace Go.Proofs.YtilbcgklkdkkdaaDoor
open Go Go.AM
set_option maxRecDepth 100000
theorem mixed : Tryd.prog.follows .mixedOrders = true := by kernel_rfl
theorem sd_minsat_Check_1 : SoundE Tryd.prog e_minsat_Check_1 := sound_ev (Γ := G_minsat_Check_1) mixed ⟨trivial, trivial⟩ Tryd.func31 (by kernel_rfl) ok_minsat_Check_1 tk_minsat_Check_1 (by decide) (by
  intro x hw hp
  obtain ⟨a0, a1, ⟨⟩⟩ := x
  exact EvF.of (au_minsat_Check_1 a0 a1 _) rfl)
theorem sd_slices_IndexFunc_int_minsat_Check_1 : SoundE Tryd.prog e_slices_IndexFunc_int_minsat_Check_1 := sound_ev (Γ := G_slices_IndexFunc_int_minsat_Check_1) mixed ⟨⟨sd_minsat_Check_1, trivial⟩, trivial⟩ Tryd.func38 (by kernel_rfl) ok_slices_IndexFunc_int_minsat_Check_1 tk_slices_IndexFunc_int_minsat_Check_1 (by decide) (by
  intro x hw hp
  obtain ⟨a0, ⟨⟨a1_0, ⟨⟩⟩, ⟨⟩⟩, ⟨⟩⟩ := x
  exact ct_slices_IndexFunc_int_minsat_Check_1 a0 a1_0 hw _ rfl)
theorem sd_minsat_Core_1 : SoundE Tryd.prog e_minsat_Core_1 := sound_ev (Γ := G_minsat_Core_1) mixed ⟨trivial, trivial⟩ Tryd.func28 (by kernel_rfl) ok_minsat_Core_1 tk_minsat_Core_1 (by decide) (by
  intro x hw hp
  obtain ⟨a0, a1, ⟨⟩⟩ := x
  exact EvF.of (au_minsat_Core_1 a0 a1 _) rfl)
theorem sd_slices_IndexFunc_int_minsat_Core_1 : SoundE Tryd.prog e_slices_IndexFunc_int_minsat_Core_1 := sound_ev (Γ := G_slices_IndexFunc_int_minsat_Core_1) mixed ⟨⟨sd_minsat_Core_1, trivial⟩, trivial⟩ Tryd.func38 (by kernel_rfl) ok_slices_IndexFunc_int_minsat_Core_1 tk_slices_IndexFunc_int_minsat_Core_1 (by decide) (by
  intro x hw hp
  obtain ⟨a0, ⟨⟨a1_0, ⟨⟩⟩, ⟨⟩⟩, ⟨⟩⟩ := x
  exact ct_slices_IndexFunc_int_minsat_Core_1 a0 a1_0 hw _ rfl)
theorem sd_minsat_Satisfies_1 : SoundE Tryd.prog e_minsat_Satisfies_1 := sound_ev (Γ := G_minsat_Satisfies_1) mixed ⟨trivial, trivial⟩ Tryd.func33 (by kernel_rfl) ok_minsat_Satisfies_1 tk_minsat_Satisfies_1 (by decide) (by
  intro x hw hp
  obtain ⟨a0, a1, ⟨⟩⟩ := x
  exact EvF.of (au_minsat_Satisfies_1 a0 a1 _) rfl)
theorem sd_slices_IndexFunc_int_minsat_Satisfies_1 : SoundE Tryd.prog e_slices_IndexFunc_int_minsat_Satisfies_1 := sound_ev (Γ := G_slices_IndexFunc_int_minsat_Satisfies_1) mixed ⟨⟨sd_minsat_Satisfies_1, trivial⟩, trivial⟩ Tryd.func38 (by kernel_rfl) ok_slices_IndexFunc_int_minsat_Satisfies_1 tk_slices_IndexFunc_int_minsat_Satisfies_1 (by decide) (by
  intro x hw hp
  obtain ⟨a0, ⟨⟨a1_0, ⟨⟩⟩, ⟨⟩⟩, ⟨⟩⟩ := x
  exact ct_slices_IndexFunc_int_minsat_Satisfies_1 a0 a1_0 hw _ rfl)
theorem sd_minsat_Satisfies_2 : SoundE Tryd.prog e_minsat_Satisfies_2 := sound_ev (Γ := G_minsat_Satisfies_2) mixed ⟨trivial, trivial⟩ Tryd.func34 (by kernel_rfl) ok_minsat_Satisfies_2 tk_minsat_Satisfies_2 (by decide) (by
  intro x hw hp
  obtain ⟨a0, a1, ⟨⟩⟩ := x
  exact EvF.of (au_minsat_Satisfies_2 a0 a1 _) rfl)
theorem sd_slices_IndexFunc_int_minsat_Satisfies_2 : SoundE Tryd.prog e_slices_IndexFunc_int_minsat_Satisfies_2 := sound_ev (Γ := G_slices_IndexFunc_int_minsat_Satisfies_2) mixed ⟨⟨sd_minsat_Satisfies_2, trivial⟩, trivial⟩ Tryd.func38 (by kernel_rfl) ok_slices_IndexFunc_int_minsat_Satisfies_2 tk_slices_IndexFunc_int_minsat_Satisfies_2 (by decide) (by
  intro x hw hp
  obtain ⟨a0, ⟨⟨a1_0, ⟨⟩⟩, ⟨⟩⟩, ⟨⟩⟩ := x
  exact ct_slices_IndexFunc_int_minsat_Satisfies_2 a0 a1_0 hw _ rfl)
theorem sd_slices_ContainsFunc_int_minsat_Check_1 : SoundE Tryd.prog e_slices_ContainsFunc_int_minsat_Check_1 := sound_ev (Γ := G_slices_ContainsFunc_int_minsat_Check_1) mixed ⟨⟨sd_slices_IndexFunc_int_minsat_Check_1, trivial⟩, trivial⟩ Tryd.func32 (by kernel_rfl) ok_slices_ContainsFunc_int_minsat_Check_1 tk_slices_ContainsFunc_int_minsat_Check_1 (by decide) (by
  intro x hw hp
  obtain ⟨a0, ⟨⟨a1_0, ⟨⟩⟩, ⟨⟩⟩, ⟨⟩⟩ := x
  exact EvF.of (au_slices_ContainsFunc_int_minsat_Check_1 a0 a1_0 _) rfl)
theorem sd_slices_ContainsFunc_int_minsat_Satisfies_1 : SoundE Tryd.prog e_slices_ContainsFunc_int_minsat_Satisfies_1 := sound_ev (Γ := G_slices_ContainsFunc_int_minsat_Satisfies_1) mixed ⟨⟨sd_slices_IndexFunc_int_minsat_Satisfies_1, trivial⟩, trivial⟩ Tryd.func32 (by kernel_rfl) ok_slices_ContainsFunc_int_minsat_Satisfies_1 tk_slices_ContainsFunc_int_minsat_Satisfies_1 (by decide) (by
  intro x hw hp
  obtain ⟨a0, ⟨⟨a1_0, ⟨⟩⟩, ⟨⟩⟩, ⟨⟩⟩ := x
  exact EvF.of (au_slices_ContainsFunc_int_minsat_Satisfies_1 a0 a1_0 _) rfl)
theorem sd_slices_ContainsFunc_int_minsat_Satisfies_2 : SoundE Tryd.prog e_slices_ContainsFunc_int_minsat_Satisfies_2 := sound_ev (Γ := G_slices_ContainsFunc_int_minsat_Satisfies_2) mixed ⟨⟨sd_slices_IndexFunc_int_minsat_Satisfies_2, trivial⟩, trivial⟩ Tryd.func32 (by kernel_rfl) ok_slices_ContainsFunc_int_minsat_Satisfies_2 tk_slices_ContainsFunc_int_minsat_Satisfies_2 (by decide) (by
  intro x hw hp
  obtain ⟨a0, ⟨⟨a1_0, ⟨⟩⟩, ⟨⟩⟩, ⟨⟩⟩ := x
  exact EvF.of (au_slices_ContainsFunc_int_minsat_Satisfies_2 a0 a1_0 _) rfl)
theorem sd_minsat_Check : SoundE Tryd.prog e_minsat_Check := sound_ev (Γ := G_minsat_Check) mixed ⟨⟨sd_slices_ContainsFunc_int_minsat_Check_1, trivial⟩, trivial⟩ Tryd.func19 (by kernel_rfl) ok_minsat_Check tk_minsat_Check (by decide) (by
  intro x hw hp
  obtain ⟨a0, a1, ⟨⟩⟩ := x
  exact ct_minsat_Check a0 a1 hw _ rfl)
theorem sd_minsat_mask : SoundE Tryd.prog e_minsat_mask := sound_ev (Γ := G_minsat_mask) mixed ⟨trivial, trivial⟩ Tryd.func35 (by kernel_rfl) ok_minsat_mask tk_minsat_mask (by decide) (by
  intro x hw hp
  obtain ⟨a0, ⟨⟩⟩ := x
  exact ct_minsat_mask a0 hw hp _ rfl)
theorem sd_minsat_clauses : SoundE Tryd.prog e_minsat_clauses := sound_ev (Γ := G_minsat_clauses) mixed ⟨⟨sd_minsat_mask, trivial⟩, trivial⟩ Tryd.func21 (by kernel_rfl) ok_minsat_clauses tk_minsat_clauses (by decide) (by
  intro x hw hp
  obtain ⟨a0, ⟨⟩⟩ := x
  exact ct_minsat_clauses a0 hw hp _ rfl)
theorem sd_bits_OnesCount32 : SoundE Tryd.prog e_bits_OnesCount32 := sound_ev (Γ := G_bits_OnesCount32) mixed ⟨trivial, trivial⟩ Tryd.func40 (by kernel_rfl) ok_bits_OnesCount32 tk_bits_OnesCount32 (by decide) (by
  intro x hw hp
  obtain ⟨a0, ⟨⟩⟩ := x
  exact ct_bits_OnesCount32 a0 hw _ rfl)
theorem sd_fn_36 : SoundE Tryd.prog e_fn_36 := sound_ev (Γ := G_fn_36) mixed ⟨⟨sd_bits_OnesCount32, trivial⟩, trivial⟩ Tryd.func36 (by kernel_rfl) ok_fn_36 tk_fn_36 (by decide) (by
  intro x hw hp
  obtain ⟨a0, a1, a2, a3, ⟨⟩⟩ := x
  exact ct_fn_36 a0 a1 a2 a3 hw hp _ rfl)
theorem sd_bits_TrailingZeros32 : SoundE Tryd.prog e_bits_TrailingZeros32 := sound_ev (Γ := G_bits_TrailingZeros32) mixed ⟨trivial, trivial⟩ Tryd.func37 (by kernel_rfl) ok_bits_TrailingZeros32 tk_bits_TrailingZeros32 (by decide) (by
  intro x hw hp
  obtain ⟨a0, ⟨⟩⟩ := x
  exact ct_bits_TrailingZeros32 a0 hw _ rfl)
theorem sk_fn_22 : ∀ k, SoundE Tryd.prog (ek_fn_22 k)
  | 0 => ⟨⟨Tryd.f22, Tryd.func22, by kernel_rfl, by kernel_rfl⟩, fun x hp => Bool.noConfusion ((show (ek_fn_22 0).pre x = false from pk0_fn_22 _ _ _ _).symm.trans hp)⟩
  | k + 1 => sound_ev (Γ := G_fn_22 k) (e := ek_fn_22 (k + 1)) mixed ⟨⟨sk_fn_22 k, sd_fn_36, sd_bits_TrailingZeros32, trivial⟩, trivial⟩ Tryd.func22 (by kernel_rfl) ok_fn_22 tk_fn_22 (by show e_fn_22.A.length ≤ c_fn_22.ntmps; decide) (by
    intro x hw hp
    obtain ⟨a0, a1, a2, a3, ⟨⟩⟩ := x
    exact ct_fn_22 k a0 a1 a2 a3 hw hp _ rfl)
theorem sd_fn_22 : SoundE Tryd.prog e_fn_22 := ⟨(sk_fn_22 0).1, fun x hp => (sk_fn_22 33).2 x (pk_of_fn_22 hp)⟩
theorem sd_minsat_elements : SoundE Tryd.prog e_minsat_elements := sound_ev (Γ := G_minsat_elements) mixed ⟨⟨sd_bits_TrailingZeros32, trivial⟩, trivial⟩ Tryd.func23 (by kernel_rfl) ok_minsat_elements tk_minsat_elements (by decide) (by
  intro x hw hp
  obtain ⟨a0, ⟨⟩⟩ := x
  exact ct_minsat_elements a0 hw _ rfl)
theorem sd_minsat_Minimum : SoundE Tryd.prog e_minsat_Minimum := sound_ev (Γ := G_minsat_Minimum) mixed ⟨⟨sd_minsat_Check, sd_minsat_clauses, sd_fn_22, sd_minsat_elements, trivial⟩, trivial⟩ Tryd.func11 (by kernel_rfl) ok_minsat_Minimum tk_minsat_Minimum (by decide) (by
  intro x hw hp
  obtain ⟨a0, a1, ⟨⟩⟩ := x
  exact ct_minsat_Minimum a0 a1 hw _ rfl)
theorem sd_keep_Ints : SoundE Tryd.prog e_keep_Ints := sound_ev (Γ := G_keep_Ints) mixed ⟨trivial, trivial⟩ Tryd.func14 (by kernel_rfl) ok_keep_Ints tk_keep_Ints (by decide) (by
  intro x hw hp
  obtain ⟨a0, a1, ⟨⟩⟩ := x
  exact ct_keep_Ints a0 a1 hw _ rfl)
theorem sd_slices_DeleteFunc_int : SoundM Tryd.prog e_slices_DeleteFunc_int.ent := sound_evO (Γ := G_slices_DeleteFunc_int) (e := e_slices_DeleteFunc_int) mixed ⟨⟨sd_minsat_Core_1, sd_slices_IndexFunc_int_minsat_Core_1, trivial⟩, trivial⟩ Tryd.func26 (by kernel_rfl) ok_slices_DeleteFunc_int tk_slices_DeleteFunc_int (by decide) (by decide) (by kernel_rfl) ⟨_, rfl⟩ (by
  intro x hw hp
  obtain ⟨a0, ⟨⟨a1_0, ⟨⟩⟩, ⟨⟩⟩, ⟨⟩⟩ := x
  exact ct_slices_DeleteFunc_int a0 a1_0 hw hp _ rfl)
theorem sd_slices_Clone_int : SoundM Tryd.prog e_slices_Clone_int.ent := sound_evO (Γ := G_slices_Clone_int) (e := e_slices_Clone_int) mixed ⟨trivial, trivial⟩ Tryd.func27 (by kernel_rfl) ok_slices_Clone_int tk_slices_Clone_int (by decide) (by decide) (by kernel_rfl) ⟨_, rfl⟩ (by
  intro x hw hp
  obtain ⟨a0, ⟨⟩⟩ := x
  exact ct_slices_Clone_int a0 hw hp _ rfl)
theorem sd_minsat_Core : SoundE Tryd.prog e_minsat_Core := sound_ev (Γ := G_minsat_Core) mixed ⟨⟨sd_minsat_Check, sd_minsat_clauses, sd_fn_22, trivial⟩, ⟨sd_slices_DeleteFunc_int, sd_slices_Clone_int, trivial⟩⟩ Tryd.func15 (by kernel_rfl) ok_minsat_Core tk_minsat_Core (by decide) (by
  intro x hw hp
  obtain ⟨a0, a1, ⟨⟩⟩ := x
  exact ct_minsat_Core a0 a1 hw _ rfl)
theorem sd_law43_awake : SoundE Tryd.prog e_law43_awake := sound_ev (Γ := G_law43_awake) mixed ⟨⟨sd_minsat_Minimum, sd_keep_Ints, sd_minsat_Core, trivial⟩, trivial⟩ Tryd.func8 (by kernel_rfl) ok_law43_awake tk_law43_awake (by decide) (by
  intro x hw hp
  obtain ⟨⟩ := x
  exact EvF.of (au_law43_awake  _) rfl)
theorem sd_r42_elements : SoundE Tryd.prog e_r42_elements := sound_ev (Γ := G_r42_elements) mixed ⟨trivial, trivial⟩ Tryd.func24 (by kernel_rfl) ok_r42_elements tk_r42_elements (by decide) (by
  intro x hw hp
  obtain ⟨a0, a1, ⟨⟩⟩ := x
  exact ct_r42_elements a0 a1 hw _ rfl)
theorem sd_r42_Check : SoundE Tryd.prog e_r42_Check := sound_ev (Γ := G_r42_Check) mixed ⟨⟨sd_r42_elements, trivial⟩, trivial⟩ Tryd.func12 (by kernel_rfl) ok_r42_Check tk_r42_Check (by decide) (by
  intro x hw hp
  obtain ⟨a0, a1, ⟨⟩⟩ := x
  exact ct_r42_Check a0 a1 hw _ rfl)
theorem sd_r42_has : SoundE Tryd.prog e_r42_has := sound_ev (Γ := G_r42_has) mixed ⟨trivial, trivial⟩ Tryd.func39 (by kernel_rfl) ok_r42_has tk_r42_has (by decide) (by
  intro x hw hp
  obtain ⟨a0, a1, ⟨⟩⟩ := x
  exact ct_r42_has a0 a1 hw _ rfl)
theorem sd_r42_Satisfied : SoundE Tryd.prog e_r42_Satisfied := sound_ev (Γ := G_r42_Satisfied) mixed ⟨⟨sd_r42_has, trivial⟩, trivial⟩ Tryd.func30 (by kernel_rfl) ok_r42_Satisfied tk_r42_Satisfied (by decide) (by
  intro x hw hp
  obtain ⟨a0, a1, ⟨⟩⟩ := x
  exact ct_r42_Satisfied a0 a1 hw _ rfl)
theorem sd_r42_Satisfies : SoundE Tryd.prog e_r42_Satisfies := sound_ev (Γ := G_r42_Satisfies) mixed ⟨⟨sd_r42_Satisfied, trivial⟩, trivial⟩ Tryd.func17 (by kernel_rfl) ok_r42_Satisfies tk_r42_Satisfies (by decide) (by
  intro x hw hp
  obtain ⟨a0, a1, ⟨⟩⟩ := x
  exact ct_r42_Satisfies a0 a1 hw _ rfl)
theorem sd_minsat_Satisfies : SoundE Tryd.prog e_minsat_Satisfies := sound_ev (Γ := G_minsat_Satisfies) mixed ⟨⟨sd_slices_ContainsFunc_int_minsat_Satisfies_1, sd_slices_ContainsFunc_int_minsat_Satisfies_2, trivial⟩, trivial⟩ Tryd.func20 (by kernel_rfl) ok_minsat_Satisfies tk_minsat_Satisfies (by decide) (by
  intro x hw hp
  obtain ⟨a0, a1, ⟨⟩⟩ := x
  exact ct_minsat_Satisfies a0 a1 hw _ rfl)
end Go.Proofs.YtilbcgklkdkkdaaDoor
