/-
  The contracts, joined.
-/
import Derived.Test.YtabhhkjjpmcodaaAmP
namespace Go.Proofs.Ytabhhkjjpmcodaa
open Go Go.AM
set_option maxRecDepth 100000
theorem mixed : Try.prog.follows .mixedOrders = true := by kernel_rfl
theorem sd_r4_Mask : SoundE Try.prog e_r4_Mask := sound_ev (Γ := G_r4_Mask) mixed trivial Try.func30 (by kernel_rfl) ok_r4_Mask tk_r4_Mask (by decide) (by
  intro x hw hp
  obtain ⟨a0, ⟨⟩⟩ := x
  exact ct_r4_Mask a0 hw _ rfl)
theorem sd_r4_Valid : SoundE Try.prog e_r4_Valid := sound_ev (Γ := G_r4_Valid) mixed ⟨sd_r4_Mask, trivial⟩ Try.func9 (by kernel_rfl) ok_r4_Valid tk_r4_Valid (by decide) (by
  intro x hw hp
  obtain ⟨a0, ⟨⟩⟩ := x
  exact EvF.of (au_r4_Valid a0 _) rfl)
theorem sd_r8_ValidPrefixRule : SoundE Try.prog e_r8_ValidPrefixRule := sound_ev (Γ := G_r8_ValidPrefixRule) mixed ⟨sd_r4_Valid, trivial⟩ Try.func10 (by kernel_rfl) ok_r8_ValidPrefixRule tk_r8_ValidPrefixRule (by decide) (by
  intro x hw hp
  obtain ⟨a0, ⟨⟩⟩ := x
  exact EvF.of (au_r8_ValidPrefixRule a0 _) rfl)
theorem sd_addr_clamp : SoundE Try.prog e_addr_clamp := sound_ev (Γ := G_addr_clamp) mixed trivial Try.func69 (by kernel_rfl) ok_addr_clamp tk_addr_clamp (by decide) (by
  intro x hw hp
  obtain ⟨a0, ⟨⟩⟩ := x
  exact EvF.of (au_addr_clamp a0 _) rfl)
theorem sd_addr_Mask : SoundE Try.prog e_addr_Mask := sound_ev (Γ := G_addr_Mask) mixed ⟨sd_addr_clamp, trivial⟩ Try.func59 (by kernel_rfl) ok_addr_Mask tk_addr_Mask (by decide) (by
  intro x hw hp
  obtain ⟨a0, ⟨⟩⟩ := x
  exact ct_addr_Mask a0 hw _ rfl)
theorem sd_addr_Contains : SoundE Try.prog e_addr_Contains := sound_ev (Γ := G_addr_Contains) mixed ⟨sd_addr_Mask, trivial⟩ Try.func41 (by kernel_rfl) ok_addr_Contains tk_addr_Contains (by decide) (by
  intro x hw hp
  obtain ⟨a0, a1, ⟨⟩⟩ := x
  exact EvF.of (au_addr_Contains a0 a1 _) rfl)
theorem sd_addr_Covers : SoundE Try.prog e_addr_Covers := sound_ev (Γ := G_addr_Covers) mixed ⟨sd_addr_Contains, trivial⟩ Try.func31 (by kernel_rfl) ok_addr_Covers tk_addr_Covers (by decide) (by
  intro x hw hp
  obtain ⟨a0, a1, ⟨⟩⟩ := x
  exact EvF.of (au_addr_Covers a0 a1 _) rfl)
theorem sd_policy_Matches : SoundE Try.prog e_policy_Matches := sound_ev (Γ := G_policy_Matches) mixed ⟨sd_addr_Covers, trivial⟩ Try.func11 (by kernel_rfl) ok_policy_Matches tk_policy_Matches (by decide) (by
  intro x hw hp
  obtain ⟨a0, a1, ⟨⟩⟩ := x
  exact EvF.of (au_policy_Matches a0 a1 _) rfl)
theorem sd_r4_Contains : SoundE Try.prog e_r4_Contains := sound_ev (Γ := G_r4_Contains) mixed ⟨sd_r4_Mask, trivial⟩ Try.func42 (by kernel_rfl) ok_r4_Contains tk_r4_Contains (by decide) (by
  intro x hw hp
  obtain ⟨a0, a1, ⟨⟩⟩ := x
  exact EvF.of (au_r4_Contains a0 a1 _) rfl)
theorem sd_r4_Covers : SoundE Try.prog e_r4_Covers := sound_ev (Γ := G_r4_Covers) mixed ⟨sd_r4_Contains, trivial⟩ Try.func32 (by kernel_rfl) ok_r4_Covers tk_r4_Covers (by decide) (by
  intro x hw hp
  obtain ⟨a0, a1, ⟨⟩⟩ := x
  exact EvF.of (au_r4_Covers a0 a1 _) rfl)
theorem sd_r8_MatchesPrefix : SoundE Try.prog e_r8_MatchesPrefix := sound_ev (Γ := G_r8_MatchesPrefix) mixed ⟨sd_r4_Covers, trivial⟩ Try.func12 (by kernel_rfl) ok_r8_MatchesPrefix tk_r8_MatchesPrefix (by decide) (by
  intro x hw hp
  obtain ⟨a0, a1, ⟨⟩⟩ := x
  exact EvF.of (au_r8_MatchesPrefix a0 a1 _) rfl)
theorem sd_policy_First : SoundE Try.prog e_policy_First := sound_ev (Γ := G_policy_First) mixed ⟨sd_policy_Matches, trivial⟩ Try.func13 (by kernel_rfl) ok_policy_First tk_policy_First (by decide) (by
  intro x hw hp
  obtain ⟨a0, a1, ⟨⟩⟩ := x
  exact ct_policy_First a0 a1 hw _ rfl)
theorem sd_r8_FirstPrefix : SoundE Try.prog e_r8_FirstPrefix := sound_ev (Γ := G_r8_FirstPrefix) mixed ⟨sd_r8_MatchesPrefix, trivial⟩ Try.func14 (by kernel_rfl) ok_r8_FirstPrefix tk_r8_FirstPrefix (by decide) (by
  intro x hw hp
  obtain ⟨a0, a1, ⟨⟩⟩ := x
  exact ct_r8_FirstPrefix a0 a1 hw _ rfl)
theorem sd_model_PrefixList_1 : SoundE Try.prog e_model_PrefixList_1 := sound_ev (Γ := G_model_PrefixList_1) mixed trivial Try.func56 (by kernel_rfl) ok_model_PrefixList_1 tk_model_PrefixList_1 (by decide) (by
  intro x hw hp
  obtain ⟨a0, a1, ⟨⟩⟩ := x
  exact EvF.of (au_model_PrefixList_1 a0 a1 _) rfl)
theorem sd_slices_IndexFunc_PrefixList : SoundE Try.prog e_slices_IndexFunc_PrefixList := sound_ev (Γ := G_slices_IndexFunc_PrefixList) mixed ⟨sd_model_PrefixList_1, trivial⟩ Try.func55 (by kernel_rfl) ok_slices_IndexFunc_PrefixList tk_slices_IndexFunc_PrefixList (by decide) (by
  intro x hw hp
  obtain ⟨a0, ⟨⟨a1_0, ⟨⟩⟩, ⟨⟩⟩, ⟨⟩⟩ := x
  exact ct_slices_IndexFunc_PrefixList a0 a1_0 hw _ rfl)
theorem sd_model_PrefixList : SoundE Try.prog e_model_PrefixList := sound_ev (Γ := G_model_PrefixList) mixed ⟨sd_slices_IndexFunc_PrefixList, trivial⟩ Try.func34 (by kernel_rfl) ok_model_PrefixList tk_model_PrefixList (by decide) (by
  intro x hw hp
  obtain ⟨a0, a1, ⟨⟩⟩ := x
  exact EvF.of (au_model_PrefixList a0 a1 _) rfl)
theorem sd_policy_Permits : SoundE Try.prog e_policy_Permits := sound_ev (Γ := G_policy_Permits) mixed ⟨sd_policy_First, sd_model_PrefixList, trivial⟩ Try.func18 (by kernel_rfl) ok_policy_Permits tk_policy_Permits (by decide) (by
  intro x hw hp
  obtain ⟨a0, a1, a2, ⟨⟩⟩ := x
  exact ct_policy_Permits a0 a1 a2 hw _ rfl)
theorem sd_slices_Clone_int : SoundE Try.prog e_slices_Clone_int := sound_ev (Γ := G_slices_Clone_int) mixed trivial Try.func36 (by kernel_rfl) ok_slices_Clone_int tk_slices_Clone_int (by decide) (by
  intro x hw hp
  obtain ⟨a0, ⟨⟩⟩ := x
  exact ct_slices_Clone_int a0 hw hp _ rfl)
theorem sd_slices_Clone_Hop : SoundE Try.prog e_slices_Clone_Hop := sound_ev (Γ := G_slices_Clone_Hop) mixed trivial Try.func37 (by kernel_rfl) ok_slices_Clone_Hop tk_slices_Clone_Hop (by decide) (by
  intro x hw hp
  obtain ⟨a0, ⟨⟩⟩ := x
  exact ct_slices_Clone_Hop a0 hw hp _ rfl)
theorem sd_model_RouteMap_1 : SoundE Try.prog e_model_RouteMap_1 := sound_ev (Γ := G_model_RouteMap_1) mixed trivial Try.func58 (by kernel_rfl) ok_model_RouteMap_1 tk_model_RouteMap_1 (by decide) (by
  intro x hw hp
  obtain ⟨a0, a1, ⟨⟩⟩ := x
  exact EvF.of (au_model_RouteMap_1 a0 a1 _) rfl)
theorem sd_slices_IndexFunc_RouteMap : SoundE Try.prog e_slices_IndexFunc_RouteMap := sound_ev (Γ := G_slices_IndexFunc_RouteMap) mixed ⟨sd_model_RouteMap_1, trivial⟩ Try.func57 (by kernel_rfl) ok_slices_IndexFunc_RouteMap tk_slices_IndexFunc_RouteMap (by decide) (by
  intro x hw hp
  obtain ⟨a0, ⟨⟨a1_0, ⟨⟩⟩, ⟨⟩⟩, ⟨⟩⟩ := x
  exact ct_slices_IndexFunc_RouteMap a0 a1_0 hw _ rfl)
theorem sd_model_RouteMap : SoundE Try.prog e_model_RouteMap := sound_ev (Γ := G_model_RouteMap) mixed ⟨sd_slices_IndexFunc_RouteMap, trivial⟩ Try.func40 (by kernel_rfl) ok_model_RouteMap tk_model_RouteMap (by decide) (by
  intro x hw hp
  obtain ⟨a0, a1, ⟨⟩⟩ := x
  exact EvF.of (au_model_RouteMap a0 a1 _) rfl)
theorem sd_policy_Clause : SoundE Try.prog e_policy_Clause := sound_ev (Γ := G_policy_Clause) mixed ⟨sd_policy_Permits, sd_model_RouteMap, trivial⟩ Try.func22 (by kernel_rfl) ok_policy_Clause tk_policy_Clause (by decide) (by
  intro x hw hp
  obtain ⟨a0, a1, a2, ⟨⟩⟩ := x
  exact ct_policy_Clause a0 a1 a2 hw _ rfl)
theorem sd_policy_permitting : SoundE Try.prog e_policy_permitting := sound_ev (Γ := G_policy_permitting) mixed ⟨sd_policy_Clause, sd_model_RouteMap, trivial⟩ Try.func38 (by kernel_rfl) ok_policy_permitting tk_policy_permitting (by decide) (by
  intro x hw hp
  obtain ⟨a0, a1, a2, ⟨⟩⟩ := x
  exact ct_policy_permitting a0 a1 a2 hw _ rfl)
theorem sd_policy_Apply : SoundE Try.prog e_policy_Apply := sound_ev (Γ := G_policy_Apply) mixed ⟨sd_slices_Clone_int, sd_slices_Clone_Hop, sd_policy_permitting, trivial⟩ Try.func20 (by kernel_rfl) ok_policy_Apply tk_policy_Apply (by decide) (by
  intro x hw hp
  obtain ⟨a0, a1, a2, ⟨⟩⟩ := x
  exact EvF.of (au_policy_Apply a0 a1 a2 _ hp) rfl)
theorem sd_policy_Prepend : SoundE Try.prog e_policy_Prepend := sound_ev (Γ := G_policy_Prepend) mixed ⟨sd_policy_permitting, trivial⟩ Try.func25 (by kernel_rfl) ok_policy_Prepend tk_policy_Prepend (by decide) (by
  intro x hw hp
  obtain ⟨a0, a1, a2, ⟨⟩⟩ := x
  exact EvF.of (au_policy_Prepend a0 a1 a2 _) rfl)
theorem sd_law6_sane : SoundE Try.prog e_law6_sane := sound_ev (Γ := G_law6_sane) mixed ⟨sd_policy_Permits, sd_policy_Apply, sd_policy_Prepend, trivial⟩ Try.func15 (by kernel_rfl) ok_law6_sane tk_law6_sane (by decide) (by
  intro x hw hp
  obtain ⟨⟩ := x
  exact EvF.of (au_law6_sane _ (pok_law6_sane hw)) rfl)
theorem sd_r4_letter : SoundE Try.prog e_r4_letter := sound_ev (Γ := G_r4_letter) mixed trivial Try.func60 (by kernel_rfl) ok_r4_letter tk_r4_letter (by decide) (by
  intro x hw hp
  obtain ⟨a0, ⟨⟩⟩ := x
  exact EvF.of (au_r4_letter a0 _) rfl)
theorem sd_r4_Name : SoundE Try.prog e_r4_Name := sound_ev (Γ := G_r4_Name) mixed ⟨sd_r4_letter, trivial⟩ Try.func43 (by kernel_rfl) ok_r4_Name tk_r4_Name (by decide) (by
  intro x hw hp
  obtain ⟨a0, ⟨⟩⟩ := x
  exact ct_r4_Name a0 hw _ rfl)
theorem sd_r8_within : SoundE Try.prog e_r8_within := sound_ev (Γ := G_r8_within) mixed trivial Try.func44 (by kernel_rfl) ok_r8_within tk_r8_within (by decide) (by
  intro x hw hp
  obtain ⟨a0, a1, a2, ⟨⟩⟩ := x
  exact EvF.of (au_r8_within a0 a1 a2 _) rfl)
theorem sd_r4_Network : SoundE Try.prog e_r4_Network := sound_ev (Γ := G_r4_Network) mixed ⟨sd_r4_Mask, trivial⟩ Try.func28 (by kernel_rfl) ok_r4_Network tk_r4_Network (by decide) (by
  intro x hw hp
  obtain ⟨a0, a1, ⟨⟩⟩ := x
  exact EvF.of (au_r4_Network a0 a1 _) rfl)
theorem sd_r4_Overlaps : SoundE Try.prog e_r4_Overlaps := sound_ev (Γ := G_r4_Overlaps) mixed ⟨sd_r4_Covers, trivial⟩ Try.func61 (by kernel_rfl) ok_r4_Overlaps tk_r4_Overlaps (by decide) (by
  intro x hw hp
  obtain ⟨a0, a1, ⟨⟩⟩ := x
  exact EvF.of (au_r4_Overlaps a0 a1 _) rfl)
theorem sd_r8_interfaces : SoundE Try.prog e_r8_interfaces := sound_ev (Γ := G_r8_interfaces) mixed ⟨sd_r4_Network, sd_r4_Name, sd_r8_within, sd_r4_Overlaps, trivial⟩ Try.func45 (by kernel_rfl) ok_r8_interfaces tk_r8_interfaces (by decide) (by
  intro x hw hp
  obtain ⟨a0, ⟨⟩⟩ := x
  exact ct_r8_interfaces a0 hw _ rfl)
theorem sd_r8_prefixLists : SoundE Try.prog e_r8_prefixLists := sound_ev (Γ := G_r8_prefixLists) mixed ⟨sd_r8_ValidPrefixRule, sd_r4_Name, trivial⟩ Try.func46 (by kernel_rfl) ok_r8_prefixLists tk_r8_prefixLists (by decide) (by
  intro x hw hp
  obtain ⟨a0, ⟨⟩⟩ := x
  exact ct_r8_prefixLists a0 hw _ rfl)
theorem sd_r8_PrefixList : SoundE Try.prog e_r8_PrefixList := sound_ev (Γ := G_r8_PrefixList) mixed trivial Try.func35 (by kernel_rfl) ok_r8_PrefixList tk_r8_PrefixList (by decide) (by
  intro x hw hp
  obtain ⟨a0, a1, ⟨⟩⟩ := x
  exact ct_r8_PrefixList a0 a1 hw _ rfl)
theorem sd_r8_routeMaps : SoundE Try.prog e_r8_routeMaps := sound_ev (Γ := G_r8_routeMaps) mixed ⟨sd_r8_PrefixList, sd_r4_Name, sd_r8_within, trivial⟩ Try.func47 (by kernel_rfl) ok_r8_routeMaps tk_r8_routeMaps (by decide) (by
  intro x hw hp
  obtain ⟨a0, ⟨⟩⟩ := x
  exact ct_r8_routeMaps a0 hw _ rfl)
theorem sd_r8_ports : SoundE Try.prog e_r8_ports := sound_ev (Γ := G_r8_ports) mixed trivial Try.func70 (by kernel_rfl) ok_r8_ports tk_r8_ports (by decide) (by
  intro x hw hp
  obtain ⟨a0, ⟨⟩⟩ := x
  exact EvF.of (au_r8_ports a0 _) rfl)
theorem sd_r8_all : SoundE Try.prog e_r8_all := sound_ev (Γ := G_r8_all) mixed trivial Try.func71 (by kernel_rfl) ok_r8_all tk_r8_all (by decide) (by
  intro x hw hp
  obtain ⟨a0, ⟨⟩⟩ := x
  exact EvF.of (au_r8_all a0 _) rfl)
theorem sd_r8_ValidRule : SoundE Try.prog e_r8_ValidRule := sound_ev (Γ := G_r8_ValidRule) mixed ⟨sd_r8_within, sd_r8_ports, sd_r8_all, trivial⟩ Try.func62 (by kernel_rfl) ok_r8_ValidRule tk_r8_ValidRule (by decide) (by
  intro x hw hp
  obtain ⟨a0, ⟨⟩⟩ := x
  exact EvF.of (au_r8_ValidRule a0 _) rfl)
theorem sd_r8_accessLists : SoundE Try.prog e_r8_accessLists := sound_ev (Γ := G_r8_accessLists) mixed ⟨sd_r4_Name, sd_r8_ValidRule, trivial⟩ Try.func48 (by kernel_rfl) ok_r8_accessLists tk_r8_accessLists (by decide) (by
  intro x hw hp
  obtain ⟨a0, ⟨⟩⟩ := x
  exact ct_r8_accessLists a0 hw _ rfl)
theorem sd_r8_ACL : SoundE Try.prog e_r8_ACL := sound_ev (Γ := G_r8_ACL) mixed trivial Try.func63 (by kernel_rfl) ok_r8_ACL tk_r8_ACL (by decide) (by
  intro x hw hp
  obtain ⟨a0, a1, ⟨⟩⟩ := x
  exact ct_r8_ACL a0 a1 hw _ rfl)
theorem sd_r8_translations : SoundE Try.prog e_r8_translations := sound_ev (Γ := G_r8_translations) mixed ⟨sd_r8_within, sd_r8_ACL, trivial⟩ Try.func49 (by kernel_rfl) ok_r8_translations tk_r8_translations (by decide) (by
  intro x hw hp
  obtain ⟨a0, ⟨⟩⟩ := x
  exact ct_r8_translations a0 hw _ rfl)
theorem sd_r8_filters : SoundE Try.prog e_r8_filters := sound_ev (Γ := G_r8_filters) mixed ⟨sd_r8_ACL, trivial⟩ Try.func50 (by kernel_rfl) ok_r8_filters tk_r8_filters (by decide) (by
  intro x hw hp
  obtain ⟨a0, ⟨⟩⟩ := x
  exact ct_r8_filters a0 hw _ rfl)
theorem sd_r8_Address : SoundE Try.prog e_r8_Address := sound_ev (Γ := G_r8_Address) mixed trivial Try.func64 (by kernel_rfl) ok_r8_Address tk_r8_Address (by decide) (by
  intro x hw hp
  obtain ⟨a0, a1, ⟨⟩⟩ := x
  exact ct_r8_Address a0 a1 hw _ rfl)
theorem sd_r8_Interface : SoundE Try.prog e_r8_Interface := sound_ev (Γ := G_r8_Interface) mixed trivial Try.func65 (by kernel_rfl) ok_r8_Interface tk_r8_Interface (by decide) (by
  intro x hw hp
  obtain ⟨a0, a1, ⟨⟩⟩ := x
  exact ct_r8_Interface a0 a1 hw _ rfl)
theorem sd_r8_statics : SoundE Try.prog e_r8_statics := sound_ev (Γ := G_r8_statics) mixed ⟨sd_r4_Valid, sd_r8_within, sd_r8_Address, sd_r8_Interface, trivial⟩ Try.func51 (by kernel_rfl) ok_r8_statics tk_r8_statics (by decide) (by
  intro x hw hp
  obtain ⟨a0, ⟨⟩⟩ := x
  exact ct_r8_statics a0 hw _ rfl)
theorem sd_r8_RouteMap : SoundE Try.prog e_r8_RouteMap := sound_ev (Γ := G_r8_RouteMap) mixed trivial Try.func39 (by kernel_rfl) ok_r8_RouteMap tk_r8_RouteMap (by decide) (by
  intro x hw hp
  obtain ⟨a0, a1, ⟨⟩⟩ := x
  exact ct_r8_RouteMap a0 a1 hw _ rfl)
theorem sd_r8_redistributions : SoundE Try.prog e_r8_redistributions := sound_ev (Γ := G_r8_redistributions) mixed ⟨sd_r8_RouteMap, sd_r8_within, trivial⟩ Try.func66 (by kernel_rfl) ok_r8_redistributions tk_r8_redistributions (by decide) (by
  intro x hw hp
  obtain ⟨a0, a1, a2, a3, a4, ⟨⟩⟩ := x
  exact ct_r8_redistributions a0 a1 a2 a3 a4 hw _ rfl)
theorem sd_r8_linkState : SoundE Try.prog e_r8_linkState := sound_ev (Γ := G_r8_linkState) mixed ⟨sd_r4_Valid, sd_r8_within, sd_r4_Overlaps, sd_r8_redistributions, trivial⟩ Try.func52 (by kernel_rfl) ok_r8_linkState tk_r8_linkState (by decide) (by
  intro x hw hp
  obtain ⟨a0, ⟨⟩⟩ := x
  exact ct_r8_linkState a0 hw _ rfl)
theorem sd_r8_distance : SoundE Try.prog e_r8_distance := sound_ev (Γ := G_r8_distance) mixed ⟨sd_r8_PrefixList, sd_r8_within, sd_r8_redistributions, trivial⟩ Try.func53 (by kernel_rfl) ok_r8_distance tk_r8_distance (by decide) (by
  intro x hw hp
  obtain ⟨a0, ⟨⟩⟩ := x
  exact EvF.of (au_r8_distance a0 _) rfl)
theorem sd_r8_neighbors : SoundE Try.prog e_r8_neighbors := sound_ev (Γ := G_r8_neighbors) mixed ⟨sd_r8_RouteMap, sd_r8_within, trivial⟩ Try.func67 (by kernel_rfl) ok_r8_neighbors tk_r8_neighbors (by decide) (by
  intro x hw hp
  obtain ⟨a0, ⟨⟩⟩ := x
  exact ct_r8_neighbors a0 hw _ rfl)
theorem sd_r8_originations : SoundE Try.prog e_r8_originations := sound_ev (Γ := G_r8_originations) mixed ⟨sd_r4_Valid, trivial⟩ Try.func68 (by kernel_rfl) ok_r8_originations tk_r8_originations (by decide) (by
  intro x hw hp
  obtain ⟨a0, ⟨⟩⟩ := x
  exact ct_r8_originations a0 hw _ rfl)
theorem sd_r8_pathVector : SoundE Try.prog e_r8_pathVector := sound_ev (Γ := G_r8_pathVector) mixed ⟨sd_r8_within, sd_r8_redistributions, sd_r8_neighbors, sd_r8_originations, trivial⟩ Try.func54 (by kernel_rfl) ok_r8_pathVector tk_r8_pathVector (by decide) (by
  intro x hw hp
  obtain ⟨a0, ⟨⟩⟩ := x
  exact EvF.of (au_r8_pathVector a0 _) rfl)
theorem sd_r8_CheckRouter : SoundE Try.prog e_r8_CheckRouter := sound_ev (Γ := G_r8_CheckRouter) mixed ⟨sd_r4_Name, sd_r8_within, sd_r8_interfaces, sd_r8_prefixLists, sd_r8_routeMaps, sd_r8_accessLists, sd_r8_translations, sd_r8_filters, sd_r8_statics, sd_r8_linkState, sd_r8_distance, sd_r8_pathVector, trivial⟩ Try.func33 (by kernel_rfl) ok_r8_CheckRouter tk_r8_CheckRouter (by decide) (by
  intro x hw hp
  obtain ⟨a0, ⟨⟩⟩ := x
  exact ct_r8_CheckRouter a0 hw _ rfl)
theorem sd_law6_few : SoundE Try.prog e_law6_few := sound_ev (Γ := G_law6_few) mixed ⟨sd_r8_CheckRouter, trivial⟩ Try.func16 (by kernel_rfl) ok_law6_few tk_law6_few (by decide) (by
  intro x hw hp
  obtain ⟨a0, ⟨⟩⟩ := x
  exact ct_law6_few a0 hw _ rfl)
theorem sd_law6_part : SoundE Try.prog e_law6_part := sound_ev (Γ := G_law6_part) mixed trivial Try.func17 (by kernel_rfl) ok_law6_part tk_law6_part (by decide) (by
  intro x hw hp
  obtain ⟨a0, ⟨⟩⟩ := x
  exact EvF.of (au_law6_part a0 _) rfl)
theorem sd_r8_PermitsPrefix : SoundE Try.prog e_r8_PermitsPrefix := sound_ev (Γ := G_r8_PermitsPrefix) mixed ⟨sd_r8_FirstPrefix, sd_r8_PrefixList, trivial⟩ Try.func19 (by kernel_rfl) ok_r8_PermitsPrefix tk_r8_PermitsPrefix (by decide) (by
  intro x hw hp
  obtain ⟨a0, a1, a2, ⟨⟩⟩ := x
  exact ct_r8_PermitsPrefix a0 a1 a2 hw _ rfl)
theorem sd_r8_Clause : SoundE Try.prog e_r8_Clause := sound_ev (Γ := G_r8_Clause) mixed ⟨sd_r8_PermitsPrefix, sd_r8_RouteMap, trivial⟩ Try.func23 (by kernel_rfl) ok_r8_Clause tk_r8_Clause (by decide) (by
  intro x hw hp
  obtain ⟨a0, a1, a2, ⟨⟩⟩ := x
  exact ct_r8_Clause a0 a1 a2 hw _ rfl)
theorem sd_r8_Apply : SoundE Try.prog e_r8_Apply := sound_ev (Γ := G_r8_Apply) mixed ⟨sd_r8_Clause, sd_r8_RouteMap, trivial⟩ Try.func21 (by kernel_rfl) ok_r8_Apply tk_r8_Apply (by decide) (by
  intro x hw hp
  obtain ⟨a0, a1, a2, ⟨⟩⟩ := x
  exact ct_r8_Apply a0 a1 a2 hw _ rfl)
theorem sd_law6_Same : SoundE Try.prog e_law6_Same := sound_ev (Γ := G_law6_Same) mixed trivial Try.func24 (by kernel_rfl) ok_law6_Same tk_law6_Same (by decide) (by
  intro x hw hp
  obtain ⟨a0, a1, ⟨⟩⟩ := x
  exact ct_law6_Same a0 a1 hw _ rfl)
theorem sd_r8_Prepend : SoundE Try.prog e_r8_Prepend := sound_ev (Γ := G_r8_Prepend) mixed ⟨sd_r8_Clause, sd_r8_RouteMap, trivial⟩ Try.func26 (by kernel_rfl) ok_r8_Prepend tk_r8_Prepend (by decide) (by
  intro x hw hp
  obtain ⟨a0, a1, a2, ⟨⟩⟩ := x
  exact ct_r8_Prepend a0 a1 a2 hw _ rfl)
theorem sd_policy_Covers : SoundE Try.prog e_policy_Covers := sound_ev (Γ := G_policy_Covers) mixed ⟨sd_addr_Covers, trivial⟩ Try.func27 (by kernel_rfl) ok_policy_Covers tk_policy_Covers (by decide) (by
  intro x hw hp
  obtain ⟨a0, a1, ⟨⟩⟩ := x
  exact EvF.of (au_policy_Covers a0 a1 _) rfl)
theorem sd_r4_Last : SoundE Try.prog e_r4_Last := sound_ev (Γ := G_r4_Last) mixed ⟨sd_r4_Mask, trivial⟩ Try.func29 (by kernel_rfl) ok_r4_Last tk_r4_Last (by decide) (by
  intro x hw hp
  obtain ⟨a0, ⟨⟩⟩ := x
  exact EvF.of (au_r4_Last a0 _) rfl)
end Go.Proofs.Ytabhhkjjpmcodaa
