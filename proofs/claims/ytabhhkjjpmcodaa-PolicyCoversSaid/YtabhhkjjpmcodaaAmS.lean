/-
  The contracts, joined.
-/
import Derived.Test.YtabhhkjjpmcodaaAmP
namespace Go.Proofs.Ytabhhkjjpmcodaa
open Go Go.AM
set_option maxRecDepth 100000
theorem mixed : Try.prog.follows .mixedOrders = true := by kernel_rfl
theorem sd_r4_Mask : SoundE Try.prog e_r4_Mask := sound_ev (Γ := G_r4_Mask) mixed ⟨trivial, trivial⟩ Try.func30 (by kernel_rfl) ok_r4_Mask tk_r4_Mask (by decide) (by
  intro x hw hp
  obtain ⟨a0, ⟨⟩⟩ := x
  exact ct_r4_Mask a0 hw _ rfl)
theorem sd_r4_Valid : SoundE Try.prog e_r4_Valid := sound_ev (Γ := G_r4_Valid) mixed ⟨⟨sd_r4_Mask, trivial⟩, trivial⟩ Try.func9 (by kernel_rfl) ok_r4_Valid tk_r4_Valid (by decide) (by
  intro x hw hp
  obtain ⟨a0, ⟨⟩⟩ := x
  exact EvF.of (au_r4_Valid a0 _) rfl)
theorem sd_r8_ValidPrefixRule : SoundE Try.prog e_r8_ValidPrefixRule := sound_ev (Γ := G_r8_ValidPrefixRule) mixed ⟨⟨sd_r4_Valid, trivial⟩, trivial⟩ Try.func10 (by kernel_rfl) ok_r8_ValidPrefixRule tk_r8_ValidPrefixRule (by decide) (by
  intro x hw hp
  obtain ⟨a0, ⟨⟩⟩ := x
  exact EvF.of (au_r8_ValidPrefixRule a0 _) rfl)
theorem sd_addr_clamp : SoundE Try.prog e_addr_clamp := sound_ev (Γ := G_addr_clamp) mixed ⟨trivial, trivial⟩ Try.func69 (by kernel_rfl) ok_addr_clamp tk_addr_clamp (by decide) (by
  intro x hw hp
  obtain ⟨a0, ⟨⟩⟩ := x
  exact EvF.of (au_addr_clamp a0 _) rfl)
theorem sd_addr_Mask : SoundE Try.prog e_addr_Mask := sound_ev (Γ := G_addr_Mask) mixed ⟨⟨sd_addr_clamp, trivial⟩, trivial⟩ Try.func59 (by kernel_rfl) ok_addr_Mask tk_addr_Mask (by decide) (by
  intro x hw hp
  obtain ⟨a0, ⟨⟩⟩ := x
  exact ct_addr_Mask a0 hw _ rfl)
theorem sd_addr_Contains : SoundE Try.prog e_addr_Contains := sound_ev (Γ := G_addr_Contains) mixed ⟨⟨sd_addr_Mask, trivial⟩, trivial⟩ Try.func41 (by kernel_rfl) ok_addr_Contains tk_addr_Contains (by decide) (by
  intro x hw hp
  obtain ⟨a0, a1, ⟨⟩⟩ := x
  exact EvF.of (au_addr_Contains a0 a1 _) rfl)
theorem sd_addr_Covers : SoundE Try.prog e_addr_Covers := sound_ev (Γ := G_addr_Covers) mixed ⟨⟨sd_addr_Contains, trivial⟩, trivial⟩ Try.func31 (by kernel_rfl) ok_addr_Covers tk_addr_Covers (by decide) (by
  intro x hw hp
  obtain ⟨a0, a1, ⟨⟩⟩ := x
  exact EvF.of (au_addr_Covers a0 a1 _) rfl)
theorem sd_policy_Matches : SoundE Try.prog e_policy_Matches := sound_ev (Γ := G_policy_Matches) mixed ⟨⟨sd_addr_Covers, trivial⟩, trivial⟩ Try.func11 (by kernel_rfl) ok_policy_Matches tk_policy_Matches (by decide) (by
  intro x hw hp
  obtain ⟨a0, a1, ⟨⟩⟩ := x
  exact EvF.of (au_policy_Matches a0 a1 _) rfl)
theorem sd_policy_First : SoundE Try.prog e_policy_First := sound_ev (Γ := G_policy_First) mixed ⟨⟨sd_policy_Matches, trivial⟩, trivial⟩ Try.func13 (by kernel_rfl) ok_policy_First tk_policy_First (by decide) (by
  intro x hw hp
  obtain ⟨a0, a1, ⟨⟩⟩ := x
  exact ct_policy_First a0 a1 hw _ rfl)
theorem sd_model_PrefixList_1 : SoundE Try.prog e_model_PrefixList_1 := sound_ev (Γ := G_model_PrefixList_1) mixed ⟨trivial, trivial⟩ Try.func56 (by kernel_rfl) ok_model_PrefixList_1 tk_model_PrefixList_1 (by decide) (by
  intro x hw hp
  obtain ⟨a0, a1, ⟨⟩⟩ := x
  exact EvF.of (au_model_PrefixList_1 a0 a1 _) rfl)
theorem sd_slices_IndexFunc_PrefixList : SoundE Try.prog e_slices_IndexFunc_PrefixList := sound_ev (Γ := G_slices_IndexFunc_PrefixList) mixed ⟨⟨sd_model_PrefixList_1, trivial⟩, trivial⟩ Try.func55 (by kernel_rfl) ok_slices_IndexFunc_PrefixList tk_slices_IndexFunc_PrefixList (by decide) (by
  intro x hw hp
  obtain ⟨a0, ⟨⟨a1_0, ⟨⟩⟩, ⟨⟩⟩, ⟨⟩⟩ := x
  exact ct_slices_IndexFunc_PrefixList a0 a1_0 hw _ rfl)
theorem sd_model_PrefixList : SoundE Try.prog e_model_PrefixList := sound_ev (Γ := G_model_PrefixList) mixed ⟨⟨sd_slices_IndexFunc_PrefixList, trivial⟩, trivial⟩ Try.func34 (by kernel_rfl) ok_model_PrefixList tk_model_PrefixList (by decide) (by
  intro x hw hp
  obtain ⟨a0, a1, ⟨⟩⟩ := x
  exact EvF.of (au_model_PrefixList a0 a1 _) rfl)
theorem sd_policy_Permits : SoundE Try.prog e_policy_Permits := sound_ev (Γ := G_policy_Permits) mixed ⟨⟨sd_policy_First, sd_model_PrefixList, trivial⟩, trivial⟩ Try.func18 (by kernel_rfl) ok_policy_Permits tk_policy_Permits (by decide) (by
  intro x hw hp
  obtain ⟨a0, a1, a2, ⟨⟩⟩ := x
  exact ct_policy_Permits a0 a1 a2 hw _ rfl)
theorem sd_slices_Clone_int : SoundE Try.prog e_slices_Clone_int := sound_ev (Γ := G_slices_Clone_int) mixed ⟨trivial, trivial⟩ Try.func36 (by kernel_rfl) ok_slices_Clone_int tk_slices_Clone_int (by decide) (by
  intro x hw hp
  obtain ⟨a0, ⟨⟩⟩ := x
  exact ct_slices_Clone_int a0 hw hp _ rfl)
theorem sd_slices_Clone_Hop : SoundE Try.prog e_slices_Clone_Hop := sound_ev (Γ := G_slices_Clone_Hop) mixed ⟨trivial, trivial⟩ Try.func37 (by kernel_rfl) ok_slices_Clone_Hop tk_slices_Clone_Hop (by decide) (by
  intro x hw hp
  obtain ⟨a0, ⟨⟩⟩ := x
  exact ct_slices_Clone_Hop a0 hw hp _ rfl)
theorem sd_model_RouteMap_1 : SoundE Try.prog e_model_RouteMap_1 := sound_ev (Γ := G_model_RouteMap_1) mixed ⟨trivial, trivial⟩ Try.func58 (by kernel_rfl) ok_model_RouteMap_1 tk_model_RouteMap_1 (by decide) (by
  intro x hw hp
  obtain ⟨a0, a1, ⟨⟩⟩ := x
  exact EvF.of (au_model_RouteMap_1 a0 a1 _) rfl)
theorem sd_slices_IndexFunc_RouteMap : SoundE Try.prog e_slices_IndexFunc_RouteMap := sound_ev (Γ := G_slices_IndexFunc_RouteMap) mixed ⟨⟨sd_model_RouteMap_1, trivial⟩, trivial⟩ Try.func57 (by kernel_rfl) ok_slices_IndexFunc_RouteMap tk_slices_IndexFunc_RouteMap (by decide) (by
  intro x hw hp
  obtain ⟨a0, ⟨⟨a1_0, ⟨⟩⟩, ⟨⟩⟩, ⟨⟩⟩ := x
  exact ct_slices_IndexFunc_RouteMap a0 a1_0 hw _ rfl)
theorem sd_model_RouteMap : SoundE Try.prog e_model_RouteMap := sound_ev (Γ := G_model_RouteMap) mixed ⟨⟨sd_slices_IndexFunc_RouteMap, trivial⟩, trivial⟩ Try.func40 (by kernel_rfl) ok_model_RouteMap tk_model_RouteMap (by decide) (by
  intro x hw hp
  obtain ⟨a0, a1, ⟨⟩⟩ := x
  exact EvF.of (au_model_RouteMap a0 a1 _) rfl)
theorem sd_policy_Clause : SoundE Try.prog e_policy_Clause := sound_ev (Γ := G_policy_Clause) mixed ⟨⟨sd_policy_Permits, sd_model_RouteMap, trivial⟩, trivial⟩ Try.func22 (by kernel_rfl) ok_policy_Clause tk_policy_Clause (by decide) (by
  intro x hw hp
  obtain ⟨a0, a1, a2, ⟨⟩⟩ := x
  exact ct_policy_Clause a0 a1 a2 hw _ rfl)
theorem sd_policy_permitting : SoundE Try.prog e_policy_permitting := sound_ev (Γ := G_policy_permitting) mixed ⟨⟨sd_policy_Clause, sd_model_RouteMap, trivial⟩, trivial⟩ Try.func38 (by kernel_rfl) ok_policy_permitting tk_policy_permitting (by decide) (by
  intro x hw hp
  obtain ⟨a0, a1, a2, ⟨⟩⟩ := x
  exact ct_policy_permitting a0 a1 a2 hw _ rfl)
theorem sd_policy_Apply : SoundE Try.prog e_policy_Apply := sound_ev (Γ := G_policy_Apply) mixed ⟨⟨sd_slices_Clone_int, sd_slices_Clone_Hop, sd_policy_permitting, trivial⟩, trivial⟩ Try.func20 (by kernel_rfl) ok_policy_Apply tk_policy_Apply (by decide) (by
  intro x hw hp
  obtain ⟨a0, a1, a2, ⟨⟩⟩ := x
  exact EvF.of (au_policy_Apply a0 a1 a2 _ hp) rfl)
theorem sd_policy_Prepend : SoundE Try.prog e_policy_Prepend := sound_ev (Γ := G_policy_Prepend) mixed ⟨⟨sd_policy_permitting, trivial⟩, trivial⟩ Try.func25 (by kernel_rfl) ok_policy_Prepend tk_policy_Prepend (by decide) (by
  intro x hw hp
  obtain ⟨a0, a1, a2, ⟨⟩⟩ := x
  exact EvF.of (au_policy_Prepend a0 a1 a2 _) rfl)
theorem sd_law6_sane : SoundE Try.prog e_law6_sane := sound_ev (Γ := G_law6_sane) mixed ⟨⟨sd_policy_Permits, sd_policy_Apply, sd_policy_Prepend, trivial⟩, trivial⟩ Try.func15 (by kernel_rfl) ok_law6_sane tk_law6_sane (by decide) (by
  intro x hw hp
  obtain ⟨⟩ := x
  exact EvF.of (au_law6_sane _ (pok_law6_sane hw)) rfl)
theorem sd_policy_Covers : SoundE Try.prog e_policy_Covers := sound_ev (Γ := G_policy_Covers) mixed ⟨⟨sd_addr_Covers, trivial⟩, trivial⟩ Try.func27 (by kernel_rfl) ok_policy_Covers tk_policy_Covers (by decide) (by
  intro x hw hp
  obtain ⟨a0, a1, ⟨⟩⟩ := x
  exact EvF.of (au_policy_Covers a0 a1 _) rfl)
theorem sd_r4_Network : SoundE Try.prog e_r4_Network := sound_ev (Γ := G_r4_Network) mixed ⟨⟨sd_r4_Mask, trivial⟩, trivial⟩ Try.func28 (by kernel_rfl) ok_r4_Network tk_r4_Network (by decide) (by
  intro x hw hp
  obtain ⟨a0, a1, ⟨⟩⟩ := x
  exact EvF.of (au_r4_Network a0 a1 _) rfl)
theorem sd_r4_Last : SoundE Try.prog e_r4_Last := sound_ev (Γ := G_r4_Last) mixed ⟨⟨sd_r4_Mask, trivial⟩, trivial⟩ Try.func29 (by kernel_rfl) ok_r4_Last tk_r4_Last (by decide) (by
  intro x hw hp
  obtain ⟨a0, ⟨⟩⟩ := x
  exact EvF.of (au_r4_Last a0 _) rfl)
end Go.Proofs.Ytabhhkjjpmcodaa
