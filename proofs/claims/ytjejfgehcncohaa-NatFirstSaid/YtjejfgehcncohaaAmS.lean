/-
  The contracts, joined.
-/
import Derived.Test.YtjejfgehcncohaaAmP
namespace Go.Proofs.Ytjejfgehcncohaa
open Go Go.AM
set_option maxRecDepth 100000
theorem mixed : Try.prog.follows .mixedOrders = true := by kernel_rfl
theorem sd_r8_within : SoundE Try.prog e_r8_within := sound_ev (Γ := G_r8_within) mixed trivial Try.func20 (by kernel_rfl) ok_r8_within tk_r8_within (by decide) (by
  intro x hw hp
  obtain ⟨a0, a1, a2, ⟨⟩⟩ := x
  exact EvF.of (au_r8_within a0 a1 a2 _) rfl)
theorem sd_r4_letter : SoundE Try.prog e_r4_letter := sound_ev (Γ := G_r4_letter) mixed trivial Try.func39 (by kernel_rfl) ok_r4_letter tk_r4_letter (by decide) (by
  intro x hw hp
  obtain ⟨a0, ⟨⟩⟩ := x
  exact EvF.of (au_r4_letter a0 _) rfl)
theorem sd_r4_Name : SoundE Try.prog e_r4_Name := sound_ev (Γ := G_r4_Name) mixed ⟨sd_r4_letter, trivial⟩ Try.func24 (by kernel_rfl) ok_r4_Name tk_r4_Name (by decide) (by
  intro x hw hp
  obtain ⟨a0, ⟨⟩⟩ := x
  exact ct_r4_Name a0 hw _ rfl)
theorem sd_r4_Mask : SoundE Try.prog e_r4_Mask := sound_ev (Γ := G_r4_Mask) mixed trivial Try.func56 (by kernel_rfl) ok_r4_Mask tk_r4_Mask (by decide) (by
  intro x hw hp
  obtain ⟨a0, ⟨⟩⟩ := x
  exact ct_r4_Mask a0 hw _ rfl)
theorem sd_r4_Contains : SoundE Try.prog e_r4_Contains := sound_ev (Γ := G_r4_Contains) mixed ⟨sd_r4_Mask, trivial⟩ Try.func63 (by kernel_rfl) ok_r4_Contains tk_r4_Contains (by decide) (by
  intro x hw hp
  obtain ⟨a0, a1, ⟨⟩⟩ := x
  exact EvF.of (au_r4_Contains a0 a1 _) rfl)
theorem sd_r4_Covers : SoundE Try.prog e_r4_Covers := sound_ev (Γ := G_r4_Covers) mixed ⟨sd_r4_Contains, trivial⟩ Try.func55 (by kernel_rfl) ok_r4_Covers tk_r4_Covers (by decide) (by
  intro x hw hp
  obtain ⟨a0, a1, ⟨⟩⟩ := x
  exact EvF.of (au_r4_Covers a0 a1 _) rfl)
theorem sd_r4_Overlaps : SoundE Try.prog e_r4_Overlaps := sound_ev (Γ := G_r4_Overlaps) mixed ⟨sd_r4_Covers, trivial⟩ Try.func40 (by kernel_rfl) ok_r4_Overlaps tk_r4_Overlaps (by decide) (by
  intro x hw hp
  obtain ⟨a0, a1, ⟨⟩⟩ := x
  exact EvF.of (au_r4_Overlaps a0 a1 _) rfl)
theorem sd_r4_Network : SoundE Try.prog e_r4_Network := sound_ev (Γ := G_r4_Network) mixed ⟨sd_r4_Mask, trivial⟩ Try.func41 (by kernel_rfl) ok_r4_Network tk_r4_Network (by decide) (by
  intro x hw hp
  obtain ⟨a0, a1, ⟨⟩⟩ := x
  exact EvF.of (au_r4_Network a0 a1 _) rfl)
theorem sd_r8_interfaces : SoundE Try.prog e_r8_interfaces := sound_ev (Γ := G_r8_interfaces) mixed ⟨sd_r8_within, sd_r4_Name, sd_r4_Overlaps, sd_r4_Network, trivial⟩ Try.func25 (by kernel_rfl) ok_r8_interfaces tk_r8_interfaces (by decide) (by
  intro x hw hp
  obtain ⟨a0, ⟨⟩⟩ := x
  exact ct_r8_interfaces a0 hw _ rfl)
theorem sd_r4_Valid : SoundE Try.prog e_r4_Valid := sound_ev (Γ := G_r4_Valid) mixed ⟨sd_r4_Mask, trivial⟩ Try.func45 (by kernel_rfl) ok_r4_Valid tk_r4_Valid (by decide) (by
  intro x hw hp
  obtain ⟨a0, ⟨⟩⟩ := x
  exact EvF.of (au_r4_Valid a0 _) rfl)
theorem sd_r8_ValidPrefixRule : SoundE Try.prog e_r8_ValidPrefixRule := sound_ev (Γ := G_r8_ValidPrefixRule) mixed ⟨sd_r4_Valid, trivial⟩ Try.func42 (by kernel_rfl) ok_r8_ValidPrefixRule tk_r8_ValidPrefixRule (by decide) (by
  intro x hw hp
  obtain ⟨a0, ⟨⟩⟩ := x
  exact EvF.of (au_r8_ValidPrefixRule a0 _) rfl)
theorem sd_r8_prefixLists : SoundE Try.prog e_r8_prefixLists := sound_ev (Γ := G_r8_prefixLists) mixed ⟨sd_r4_Name, sd_r8_ValidPrefixRule, trivial⟩ Try.func26 (by kernel_rfl) ok_r8_prefixLists tk_r8_prefixLists (by decide) (by
  intro x hw hp
  obtain ⟨a0, ⟨⟩⟩ := x
  exact ct_r8_prefixLists a0 hw _ rfl)
theorem sd_r8_PrefixList : SoundE Try.prog e_r8_PrefixList := sound_ev (Γ := G_r8_PrefixList) mixed trivial Try.func43 (by kernel_rfl) ok_r8_PrefixList tk_r8_PrefixList (by decide) (by
  intro x hw hp
  obtain ⟨a0, a1, ⟨⟩⟩ := x
  exact ct_r8_PrefixList a0 a1 hw _ rfl)
theorem sd_r8_routeMaps : SoundE Try.prog e_r8_routeMaps := sound_ev (Γ := G_r8_routeMaps) mixed ⟨sd_r8_within, sd_r4_Name, sd_r8_PrefixList, trivial⟩ Try.func27 (by kernel_rfl) ok_r8_routeMaps tk_r8_routeMaps (by decide) (by
  intro x hw hp
  obtain ⟨a0, ⟨⟩⟩ := x
  exact ct_r8_routeMaps a0 hw _ rfl)
theorem sd_r8_ports : SoundE Try.prog e_r8_ports := sound_ev (Γ := G_r8_ports) mixed trivial Try.func57 (by kernel_rfl) ok_r8_ports tk_r8_ports (by decide) (by
  intro x hw hp
  obtain ⟨a0, ⟨⟩⟩ := x
  exact EvF.of (au_r8_ports a0 _) rfl)
theorem sd_r8_all : SoundE Try.prog e_r8_all := sound_ev (Γ := G_r8_all) mixed trivial Try.func58 (by kernel_rfl) ok_r8_all tk_r8_all (by decide) (by
  intro x hw hp
  obtain ⟨a0, ⟨⟩⟩ := x
  exact EvF.of (au_r8_all a0 _) rfl)
theorem sd_r8_ValidRule : SoundE Try.prog e_r8_ValidRule := sound_ev (Γ := G_r8_ValidRule) mixed ⟨sd_r8_within, sd_r8_ports, sd_r8_all, trivial⟩ Try.func44 (by kernel_rfl) ok_r8_ValidRule tk_r8_ValidRule (by decide) (by
  intro x hw hp
  obtain ⟨a0, ⟨⟩⟩ := x
  exact EvF.of (au_r8_ValidRule a0 _) rfl)
theorem sd_r8_accessLists : SoundE Try.prog e_r8_accessLists := sound_ev (Γ := G_r8_accessLists) mixed ⟨sd_r4_Name, sd_r8_ValidRule, trivial⟩ Try.func28 (by kernel_rfl) ok_r8_accessLists tk_r8_accessLists (by decide) (by
  intro x hw hp
  obtain ⟨a0, ⟨⟩⟩ := x
  exact ct_r8_accessLists a0 hw _ rfl)
theorem sd_r8_ACL : SoundE Try.prog e_r8_ACL := sound_ev (Γ := G_r8_ACL) mixed trivial Try.func37 (by kernel_rfl) ok_r8_ACL tk_r8_ACL (by decide) (by
  intro x hw hp
  obtain ⟨a0, a1, ⟨⟩⟩ := x
  exact ct_r8_ACL a0 a1 hw _ rfl)
theorem sd_r8_translations : SoundE Try.prog e_r8_translations := sound_ev (Γ := G_r8_translations) mixed ⟨sd_r8_within, sd_r8_ACL, trivial⟩ Try.func29 (by kernel_rfl) ok_r8_translations tk_r8_translations (by decide) (by
  intro x hw hp
  obtain ⟨a0, ⟨⟩⟩ := x
  exact ct_r8_translations a0 hw _ rfl)
theorem sd_r8_filters : SoundE Try.prog e_r8_filters := sound_ev (Γ := G_r8_filters) mixed ⟨sd_r8_ACL, trivial⟩ Try.func30 (by kernel_rfl) ok_r8_filters tk_r8_filters (by decide) (by
  intro x hw hp
  obtain ⟨a0, ⟨⟩⟩ := x
  exact ct_r8_filters a0 hw _ rfl)
theorem sd_r8_Address : SoundE Try.prog e_r8_Address := sound_ev (Γ := G_r8_Address) mixed trivial Try.func46 (by kernel_rfl) ok_r8_Address tk_r8_Address (by decide) (by
  intro x hw hp
  obtain ⟨a0, a1, ⟨⟩⟩ := x
  exact ct_r8_Address a0 a1 hw _ rfl)
theorem sd_r8_Interface : SoundE Try.prog e_r8_Interface := sound_ev (Γ := G_r8_Interface) mixed trivial Try.func47 (by kernel_rfl) ok_r8_Interface tk_r8_Interface (by decide) (by
  intro x hw hp
  obtain ⟨a0, a1, ⟨⟩⟩ := x
  exact ct_r8_Interface a0 a1 hw _ rfl)
theorem sd_r8_statics : SoundE Try.prog e_r8_statics := sound_ev (Γ := G_r8_statics) mixed ⟨sd_r8_within, sd_r4_Valid, sd_r8_Address, sd_r8_Interface, trivial⟩ Try.func31 (by kernel_rfl) ok_r8_statics tk_r8_statics (by decide) (by
  intro x hw hp
  obtain ⟨a0, ⟨⟩⟩ := x
  exact ct_r8_statics a0 hw _ rfl)
theorem sd_r8_RouteMap : SoundE Try.prog e_r8_RouteMap := sound_ev (Γ := G_r8_RouteMap) mixed trivial Try.func59 (by kernel_rfl) ok_r8_RouteMap tk_r8_RouteMap (by decide) (by
  intro x hw hp
  obtain ⟨a0, a1, ⟨⟩⟩ := x
  exact ct_r8_RouteMap a0 a1 hw _ rfl)
theorem sd_r8_redistributions : SoundE Try.prog e_r8_redistributions := sound_ev (Γ := G_r8_redistributions) mixed ⟨sd_r8_within, sd_r8_RouteMap, trivial⟩ Try.func48 (by kernel_rfl) ok_r8_redistributions tk_r8_redistributions (by decide) (by
  intro x hw hp
  obtain ⟨a0, a1, a2, a3, a4, ⟨⟩⟩ := x
  exact ct_r8_redistributions a0 a1 a2 a3 a4 hw _ rfl)
theorem sd_r8_linkState : SoundE Try.prog e_r8_linkState := sound_ev (Γ := G_r8_linkState) mixed ⟨sd_r8_within, sd_r4_Overlaps, sd_r4_Valid, sd_r8_redistributions, trivial⟩ Try.func32 (by kernel_rfl) ok_r8_linkState tk_r8_linkState (by decide) (by
  intro x hw hp
  obtain ⟨a0, ⟨⟩⟩ := x
  exact ct_r8_linkState a0 hw _ rfl)
theorem sd_r8_distance : SoundE Try.prog e_r8_distance := sound_ev (Γ := G_r8_distance) mixed ⟨sd_r8_within, sd_r8_PrefixList, sd_r8_redistributions, trivial⟩ Try.func33 (by kernel_rfl) ok_r8_distance tk_r8_distance (by decide) (by
  intro x hw hp
  obtain ⟨a0, ⟨⟩⟩ := x
  exact EvF.of (au_r8_distance a0 _) rfl)
theorem sd_r8_neighbors : SoundE Try.prog e_r8_neighbors := sound_ev (Γ := G_r8_neighbors) mixed ⟨sd_r8_within, sd_r8_RouteMap, trivial⟩ Try.func49 (by kernel_rfl) ok_r8_neighbors tk_r8_neighbors (by decide) (by
  intro x hw hp
  obtain ⟨a0, ⟨⟩⟩ := x
  exact ct_r8_neighbors a0 hw _ rfl)
theorem sd_r8_originations : SoundE Try.prog e_r8_originations := sound_ev (Γ := G_r8_originations) mixed ⟨sd_r4_Valid, trivial⟩ Try.func50 (by kernel_rfl) ok_r8_originations tk_r8_originations (by decide) (by
  intro x hw hp
  obtain ⟨a0, ⟨⟩⟩ := x
  exact ct_r8_originations a0 hw _ rfl)
theorem sd_r8_pathVector : SoundE Try.prog e_r8_pathVector := sound_ev (Γ := G_r8_pathVector) mixed ⟨sd_r8_within, sd_r8_redistributions, sd_r8_neighbors, sd_r8_originations, trivial⟩ Try.func34 (by kernel_rfl) ok_r8_pathVector tk_r8_pathVector (by decide) (by
  intro x hw hp
  obtain ⟨a0, ⟨⟩⟩ := x
  exact EvF.of (au_r8_pathVector a0 _) rfl)
theorem sd_r8_CheckRouter : SoundE Try.prog e_r8_CheckRouter := sound_ev (Γ := G_r8_CheckRouter) mixed ⟨sd_r8_within, sd_r4_Name, sd_r8_interfaces, sd_r8_prefixLists, sd_r8_routeMaps, sd_r8_accessLists, sd_r8_translations, sd_r8_filters, sd_r8_statics, sd_r8_linkState, sd_r8_distance, sd_r8_pathVector, trivial⟩ Try.func19 (by kernel_rfl) ok_r8_CheckRouter tk_r8_CheckRouter (by decide) (by
  intro x hw hp
  obtain ⟨a0, ⟨⟩⟩ := x
  exact ct_r8_CheckRouter a0 hw _ rfl)
theorem sd_law8_router : SoundE Try.prog e_law8_router := sound_ev (Γ := G_law8_router) mixed ⟨sd_r8_CheckRouter, trivial⟩ Try.func8 (by kernel_rfl) ok_law8_router tk_law8_router (by decide) (by
  intro x hw hp
  obtain ⟨a0, a1, ⟨⟩⟩ := x
  exact ct_law8_router a0 a1 hw _ rfl)
theorem sd_r8_ValidPacket : SoundE Try.prog e_r8_ValidPacket := sound_ev (Γ := G_r8_ValidPacket) mixed ⟨sd_r8_within, trivial⟩ Try.func9 (by kernel_rfl) ok_r8_ValidPacket tk_r8_ValidPacket (by decide) (by
  intro x hw hp
  obtain ⟨a0, ⟨⟩⟩ := x
  exact EvF.of (au_r8_ValidPacket a0 _) rfl)
theorem sd_nat_Destination : SoundE Try.prog e_nat_Destination := sound_ev (Γ := G_nat_Destination) mixed trivial Try.func10 (by kernel_rfl) ok_nat_Destination tk_nat_Destination (by decide) (by
  intro x hw hp
  obtain ⟨a0, a1, ⟨⟩⟩ := x
  exact ct_nat_Destination a0 a1 hw _ rfl)
theorem sd_r8_Destination : SoundE Try.prog e_r8_Destination := sound_ev (Γ := G_r8_Destination) mixed trivial Try.func11 (by kernel_rfl) ok_r8_Destination tk_r8_Destination (by decide) (by
  intro x hw hp
  obtain ⟨a0, a1, ⟨⟩⟩ := x
  exact ct_r8_Destination a0 a1 hw _ rfl)
theorem sd_keep_Packets : SoundE Try.prog e_keep_Packets := sound_ev (Γ := G_keep_Packets) mixed trivial Try.func12 (by kernel_rfl) ok_keep_Packets tk_keep_Packets (by decide) (by
  intro x hw hp
  obtain ⟨a0, a1, ⟨⟩⟩ := x
  exact ct_keep_Packets a0 a1 hw _ rfl)
theorem sd_model_ACL_1 : SoundE Try.prog e_model_ACL_1 := sound_ev (Γ := G_model_ACL_1) mixed trivial Try.func52 (by kernel_rfl) ok_model_ACL_1 tk_model_ACL_1 (by decide) (by
  intro x hw hp
  obtain ⟨a0, a1, ⟨⟩⟩ := x
  exact EvF.of (au_model_ACL_1 a0 a1 _) rfl)
theorem sd_slices_IndexFunc_ACL : SoundE Try.prog e_slices_IndexFunc_ACL := sound_ev (Γ := G_slices_IndexFunc_ACL) mixed ⟨sd_model_ACL_1, trivial⟩ Try.func51 (by kernel_rfl) ok_slices_IndexFunc_ACL tk_slices_IndexFunc_ACL (by decide) (by
  intro x hw hp
  obtain ⟨a0, ⟨⟨a1_0, ⟨⟩⟩, ⟨⟩⟩, ⟨⟩⟩ := x
  exact ct_slices_IndexFunc_ACL a0 a1_0 hw _ rfl)
theorem sd_model_ACL : SoundE Try.prog e_model_ACL := sound_ev (Γ := G_model_ACL) mixed ⟨sd_slices_IndexFunc_ACL, trivial⟩ Try.func35 (by kernel_rfl) ok_model_ACL tk_model_ACL (by decide) (by
  intro x hw hp
  obtain ⟨a0, a1, ⟨⟩⟩ := x
  exact EvF.of (au_model_ACL a0 a1 _) rfl)
theorem sd_acl_MatchesAddress : SoundE Try.prog e_acl_MatchesAddress := sound_ev (Γ := G_acl_MatchesAddress) mixed trivial Try.func60 (by kernel_rfl) ok_acl_MatchesAddress tk_acl_MatchesAddress (by decide) (by
  intro x hw hp
  obtain ⟨a0, a1, ⟨⟩⟩ := x
  exact EvF.of (au_acl_MatchesAddress a0 a1 _) rfl)
theorem sd_acl_inRange : SoundE Try.prog e_acl_inRange := sound_ev (Γ := G_acl_inRange) mixed trivial Try.func61 (by kernel_rfl) ok_acl_inRange tk_acl_inRange (by decide) (by
  intro x hw hp
  obtain ⟨a0, a1, ⟨⟩⟩ := x
  exact EvF.of (au_acl_inRange a0 a1 _) rfl)
theorem sd_acl_Matches : SoundE Try.prog e_acl_Matches := sound_ev (Γ := G_acl_Matches) mixed ⟨sd_acl_MatchesAddress, sd_acl_inRange, trivial⟩ Try.func53 (by kernel_rfl) ok_acl_Matches tk_acl_Matches (by decide) (by
  intro x hw hp
  obtain ⟨a0, a1, ⟨⟩⟩ := x
  exact EvF.of (au_acl_Matches a0 a1 _) rfl)
theorem sd_acl_First : SoundE Try.prog e_acl_First := sound_ev (Γ := G_acl_First) mixed ⟨sd_acl_Matches, trivial⟩ Try.func36 (by kernel_rfl) ok_acl_First tk_acl_First (by decide) (by
  intro x hw hp
  obtain ⟨a0, a1, ⟨⟩⟩ := x
  exact ct_acl_First a0 a1 hw _ rfl)
theorem sd_acl_Permits : SoundE Try.prog e_acl_Permits := sound_ev (Γ := G_acl_Permits) mixed ⟨sd_model_ACL, sd_acl_First, trivial⟩ Try.func21 (by kernel_rfl) ok_acl_Permits tk_acl_Permits (by decide) (by
  intro x hw hp
  obtain ⟨a0, a1, a2, ⟨⟩⟩ := x
  exact ct_acl_Permits a0 a1 a2 hw _ rfl)
theorem sd_nat_pool : SoundE Try.prog e_nat_pool := sound_ev (Γ := G_nat_pool) mixed trivial Try.func22 (by kernel_rfl) ok_nat_pool tk_nat_pool (by decide) (by
  intro x hw hp
  obtain ⟨a0, a1, ⟨⟩⟩ := x
  exact ct_nat_pool a0 a1 hw hp _ rfl)
theorem sd_nat_Source : SoundE Try.prog e_nat_Source := sound_ev (Γ := G_nat_Source) mixed ⟨sd_acl_Permits, sd_nat_pool, trivial⟩ Try.func13 (by kernel_rfl) ok_nat_Source tk_nat_Source (by decide) (by
  intro x hw hp
  obtain ⟨a0, a1, ⟨⟩⟩ := x
  exact ct_nat_Source a0 a1 hw _ rfl)
theorem sd_r8_MatchesAddress : SoundE Try.prog e_r8_MatchesAddress := sound_ev (Γ := G_r8_MatchesAddress) mixed trivial Try.func62 (by kernel_rfl) ok_r8_MatchesAddress tk_r8_MatchesAddress (by decide) (by
  intro x hw hp
  obtain ⟨a0, a1, ⟨⟩⟩ := x
  exact ct_r8_MatchesAddress a0 a1 hw _ rfl)
theorem sd_r8_Matches : SoundE Try.prog e_r8_Matches := sound_ev (Γ := G_r8_Matches) mixed ⟨sd_r8_within, sd_r8_MatchesAddress, trivial⟩ Try.func54 (by kernel_rfl) ok_r8_Matches tk_r8_Matches (by decide) (by
  intro x hw hp
  obtain ⟨a0, a1, ⟨⟩⟩ := x
  exact EvF.of (au_r8_Matches a0 a1 _) rfl)
theorem sd_r8_First : SoundE Try.prog e_r8_First := sound_ev (Γ := G_r8_First) mixed ⟨sd_r8_Matches, trivial⟩ Try.func38 (by kernel_rfl) ok_r8_First tk_r8_First (by decide) (by
  intro x hw hp
  obtain ⟨a0, a1, ⟨⟩⟩ := x
  exact ct_r8_First a0 a1 hw _ rfl)
theorem sd_r8_Permits : SoundE Try.prog e_r8_Permits := sound_ev (Γ := G_r8_Permits) mixed ⟨sd_r8_ACL, sd_r8_First, trivial⟩ Try.func23 (by kernel_rfl) ok_r8_Permits tk_r8_Permits (by decide) (by
  intro x hw hp
  obtain ⟨a0, a1, a2, ⟨⟩⟩ := x
  exact ct_r8_Permits a0 a1 a2 hw _ rfl)
theorem sd_r8_Source : SoundE Try.prog e_r8_Source := sound_ev (Γ := G_r8_Source) mixed ⟨sd_r8_Permits, trivial⟩ Try.func14 (by kernel_rfl) ok_r8_Source tk_r8_Source (by decide) (by
  intro x hw hp
  obtain ⟨a0, a1, ⟨⟩⟩ := x
  exact ct_r8_Source a0 a1 hw _ rfl)
theorem sd_nat_Owner : SoundE Try.prog e_nat_Owner := sound_ev (Γ := G_nat_Owner) mixed trivial Try.func16 (by kernel_rfl) ok_nat_Owner tk_nat_Owner (by decide) (by
  intro x hw hp
  obtain ⟨a0, a1, ⟨⟩⟩ := x
  exact ct_nat_Owner a0 a1 hw _ rfl)
theorem sd_law8_sane : SoundE Try.prog e_law8_sane := sound_ev (Γ := G_law8_sane) mixed ⟨sd_nat_Destination, sd_nat_Source, sd_nat_Owner, trivial⟩ Try.func15 (by kernel_rfl) ok_law8_sane tk_law8_sane (by decide) (by
  intro x hw hp
  obtain ⟨⟩ := x
  exact EvF.of (au_law8_sane _ (pok_law8_sane hw)) rfl)
theorem sd_law8_applies : SoundE Try.prog e_law8_applies := sound_ev (Γ := G_law8_applies) mixed ⟨sd_r8_Permits, trivial⟩ Try.func17 (by kernel_rfl) ok_law8_applies tk_law8_applies (by decide) (by
  intro x hw hp
  obtain ⟨a0, a1, a2, ⟨⟩⟩ := x
  exact EvF.of (au_law8_applies a0 a1 a2 _) rfl)
theorem sd_r8_Owner : SoundE Try.prog e_r8_Owner := sound_ev (Γ := G_r8_Owner) mixed trivial Try.func18 (by kernel_rfl) ok_r8_Owner tk_r8_Owner (by decide) (by
  intro x hw hp
  obtain ⟨a0, a1, ⟨⟩⟩ := x
  exact ct_r8_Owner a0 a1 hw _ rfl)
end Go.Proofs.Ytjejfgehcncohaa
