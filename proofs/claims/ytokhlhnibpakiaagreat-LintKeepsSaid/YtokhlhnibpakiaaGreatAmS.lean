/-
  The contracts, joined.
-/
import Derived.Test.YtokhlhnibpakiaaGreatAmP
namespace Go.Proofs.YtokhlhnibpakiaaGreat
open Go Go.AM
set_option maxRecDepth 100000
theorem mixed : Tryz.prog.follows .mixedOrders = true := by kernel_rfl
theorem sd_law5_Small : SoundE Tryz.prog e_law5_Small := sound_ev (Γ := G_law5_Small) mixed ⟨trivial, trivial⟩ Tryz.func14 (by kernel_rfl) ok_law5_Small tk_law5_Small (by decide) (by
  intro x hw hp
  obtain ⟨a0, ⟨⟩⟩ := x
  exact ct_law5_Small a0 hw _ rfl)
theorem sd_r8_within : SoundE Tryz.prog e_r8_within := sound_ev (Γ := G_r8_within) mixed ⟨trivial, trivial⟩ Tryz.func16 (by kernel_rfl) ok_r8_within tk_r8_within (by decide) (by
  intro x hw hp
  obtain ⟨a0, a1, a2, ⟨⟩⟩ := x
  exact EvF.of (au_r8_within a0 a1 a2 _) rfl)
theorem sd_r4_letter : SoundE Tryz.prog e_r4_letter := sound_ev (Γ := G_r4_letter) mixed ⟨trivial, trivial⟩ Tryz.func75 (by kernel_rfl) ok_r4_letter tk_r4_letter (by decide) (by
  intro x hw hp
  obtain ⟨a0, ⟨⟩⟩ := x
  exact EvF.of (au_r4_letter a0 _) rfl)
theorem sd_r4_Name : SoundE Tryz.prog e_r4_Name := sound_ev (Γ := G_r4_Name) mixed ⟨⟨sd_r4_letter, trivial⟩, trivial⟩ Tryz.func37 (by kernel_rfl) ok_r4_Name tk_r4_Name (by decide) (by
  intro x hw hp
  obtain ⟨a0, ⟨⟩⟩ := x
  exact ct_r4_Name a0 hw _ rfl)
theorem sd_r4_Mask : SoundE Tryz.prog e_r4_Mask := sound_ev (Γ := G_r4_Mask) mixed ⟨trivial, trivial⟩ Tryz.func17 (by kernel_rfl) ok_r4_Mask tk_r4_Mask (by decide) (by
  intro x hw hp
  obtain ⟨a0, ⟨⟩⟩ := x
  exact ct_r4_Mask a0 hw _ rfl)
theorem sd_r4_Contains : SoundE Tryz.prog e_r4_Contains := sound_ev (Γ := G_r4_Contains) mixed ⟨⟨sd_r4_Mask, trivial⟩, trivial⟩ Tryz.func104 (by kernel_rfl) ok_r4_Contains tk_r4_Contains (by decide) (by
  intro x hw hp
  obtain ⟨a0, a1, ⟨⟩⟩ := x
  exact EvF.of (au_r4_Contains a0 a1 _) rfl)
theorem sd_r4_Covers : SoundE Tryz.prog e_r4_Covers := sound_ev (Γ := G_r4_Covers) mixed ⟨⟨sd_r4_Contains, trivial⟩, trivial⟩ Tryz.func99 (by kernel_rfl) ok_r4_Covers tk_r4_Covers (by decide) (by
  intro x hw hp
  obtain ⟨a0, a1, ⟨⟩⟩ := x
  exact EvF.of (au_r4_Covers a0 a1 _) rfl)
theorem sd_r4_Overlaps : SoundE Tryz.prog e_r4_Overlaps := sound_ev (Γ := G_r4_Overlaps) mixed ⟨⟨sd_r4_Covers, trivial⟩, trivial⟩ Tryz.func76 (by kernel_rfl) ok_r4_Overlaps tk_r4_Overlaps (by decide) (by
  intro x hw hp
  obtain ⟨a0, a1, ⟨⟩⟩ := x
  exact EvF.of (au_r4_Overlaps a0 a1 _) rfl)
theorem sd_r4_Network : SoundE Tryz.prog e_r4_Network := sound_ev (Γ := G_r4_Network) mixed ⟨⟨sd_r4_Mask, trivial⟩, trivial⟩ Tryz.func77 (by kernel_rfl) ok_r4_Network tk_r4_Network (by decide) (by
  intro x hw hp
  obtain ⟨a0, a1, ⟨⟩⟩ := x
  exact EvF.of (au_r4_Network a0 a1 _) rfl)
theorem sd_r8_interfaces : SoundE Tryz.prog e_r8_interfaces := sound_ev (Γ := G_r8_interfaces) mixed ⟨⟨sd_r8_within, sd_r4_Name, sd_r4_Overlaps, sd_r4_Network, trivial⟩, trivial⟩ Tryz.func38 (by kernel_rfl) ok_r8_interfaces tk_r8_interfaces (by decide) (by
  intro x hw hp
  obtain ⟨a0, ⟨⟩⟩ := x
  exact ct_r8_interfaces a0 hw _ rfl)
theorem sd_r4_Valid : SoundE Tryz.prog e_r4_Valid := sound_ev (Γ := G_r4_Valid) mixed ⟨⟨sd_r4_Mask, trivial⟩, trivial⟩ Tryz.func6 (by kernel_rfl) ok_r4_Valid tk_r4_Valid (by decide) (by
  intro x hw hp
  obtain ⟨a0, ⟨⟩⟩ := x
  exact EvF.of (au_r4_Valid a0 _) rfl)
theorem sd_r8_ValidPrefixRule : SoundE Tryz.prog e_r8_ValidPrefixRule := sound_ev (Γ := G_r8_ValidPrefixRule) mixed ⟨⟨sd_r4_Valid, trivial⟩, trivial⟩ Tryz.func78 (by kernel_rfl) ok_r8_ValidPrefixRule tk_r8_ValidPrefixRule (by decide) (by
  intro x hw hp
  obtain ⟨a0, ⟨⟩⟩ := x
  exact EvF.of (au_r8_ValidPrefixRule a0 _) rfl)
theorem sd_r8_prefixLists : SoundE Tryz.prog e_r8_prefixLists := sound_ev (Γ := G_r8_prefixLists) mixed ⟨⟨sd_r4_Name, sd_r8_ValidPrefixRule, trivial⟩, trivial⟩ Tryz.func39 (by kernel_rfl) ok_r8_prefixLists tk_r8_prefixLists (by decide) (by
  intro x hw hp
  obtain ⟨a0, ⟨⟩⟩ := x
  exact ct_r8_prefixLists a0 hw _ rfl)
theorem sd_r8_PrefixList : SoundE Tryz.prog e_r8_PrefixList := sound_ev (Γ := G_r8_PrefixList) mixed ⟨trivial, trivial⟩ Tryz.func79 (by kernel_rfl) ok_r8_PrefixList tk_r8_PrefixList (by decide) (by
  intro x hw hp
  obtain ⟨a0, a1, ⟨⟩⟩ := x
  exact ct_r8_PrefixList a0 a1 hw _ rfl)
theorem sd_r8_routeMaps : SoundE Tryz.prog e_r8_routeMaps := sound_ev (Γ := G_r8_routeMaps) mixed ⟨⟨sd_r8_within, sd_r4_Name, sd_r8_PrefixList, trivial⟩, trivial⟩ Tryz.func40 (by kernel_rfl) ok_r8_routeMaps tk_r8_routeMaps (by decide) (by
  intro x hw hp
  obtain ⟨a0, ⟨⟩⟩ := x
  exact ct_r8_routeMaps a0 hw _ rfl)
theorem sd_r8_ports : SoundE Tryz.prog e_r8_ports := sound_ev (Γ := G_r8_ports) mixed ⟨trivial, trivial⟩ Tryz.func100 (by kernel_rfl) ok_r8_ports tk_r8_ports (by decide) (by
  intro x hw hp
  obtain ⟨a0, ⟨⟩⟩ := x
  exact EvF.of (au_r8_ports a0 _) rfl)
theorem sd_r8_all : SoundE Tryz.prog e_r8_all := sound_ev (Γ := G_r8_all) mixed ⟨trivial, trivial⟩ Tryz.func101 (by kernel_rfl) ok_r8_all tk_r8_all (by decide) (by
  intro x hw hp
  obtain ⟨a0, ⟨⟩⟩ := x
  exact EvF.of (au_r8_all a0 _) rfl)
theorem sd_r8_ValidRule : SoundE Tryz.prog e_r8_ValidRule := sound_ev (Γ := G_r8_ValidRule) mixed ⟨⟨sd_r8_within, sd_r8_ports, sd_r8_all, trivial⟩, trivial⟩ Tryz.func80 (by kernel_rfl) ok_r8_ValidRule tk_r8_ValidRule (by decide) (by
  intro x hw hp
  obtain ⟨a0, ⟨⟩⟩ := x
  exact EvF.of (au_r8_ValidRule a0 _) rfl)
theorem sd_r8_accessLists : SoundE Tryz.prog e_r8_accessLists := sound_ev (Γ := G_r8_accessLists) mixed ⟨⟨sd_r4_Name, sd_r8_ValidRule, trivial⟩, trivial⟩ Tryz.func41 (by kernel_rfl) ok_r8_accessLists tk_r8_accessLists (by decide) (by
  intro x hw hp
  obtain ⟨a0, ⟨⟩⟩ := x
  exact ct_r8_accessLists a0 hw _ rfl)
theorem sd_r8_ACL : SoundE Tryz.prog e_r8_ACL := sound_ev (Γ := G_r8_ACL) mixed ⟨trivial, trivial⟩ Tryz.func81 (by kernel_rfl) ok_r8_ACL tk_r8_ACL (by decide) (by
  intro x hw hp
  obtain ⟨a0, a1, ⟨⟩⟩ := x
  exact ct_r8_ACL a0 a1 hw _ rfl)
theorem sd_r8_translations : SoundE Tryz.prog e_r8_translations := sound_ev (Γ := G_r8_translations) mixed ⟨⟨sd_r8_within, sd_r8_ACL, trivial⟩, trivial⟩ Tryz.func42 (by kernel_rfl) ok_r8_translations tk_r8_translations (by decide) (by
  intro x hw hp
  obtain ⟨a0, ⟨⟩⟩ := x
  exact ct_r8_translations a0 hw _ rfl)
theorem sd_r8_filters : SoundE Tryz.prog e_r8_filters := sound_ev (Γ := G_r8_filters) mixed ⟨⟨sd_r8_ACL, trivial⟩, trivial⟩ Tryz.func43 (by kernel_rfl) ok_r8_filters tk_r8_filters (by decide) (by
  intro x hw hp
  obtain ⟨a0, ⟨⟩⟩ := x
  exact ct_r8_filters a0 hw _ rfl)
theorem sd_r8_Address : SoundE Tryz.prog e_r8_Address := sound_ev (Γ := G_r8_Address) mixed ⟨trivial, trivial⟩ Tryz.func82 (by kernel_rfl) ok_r8_Address tk_r8_Address (by decide) (by
  intro x hw hp
  obtain ⟨a0, a1, ⟨⟩⟩ := x
  exact ct_r8_Address a0 a1 hw _ rfl)
theorem sd_r8_Interface : SoundE Tryz.prog e_r8_Interface := sound_ev (Γ := G_r8_Interface) mixed ⟨trivial, trivial⟩ Tryz.func83 (by kernel_rfl) ok_r8_Interface tk_r8_Interface (by decide) (by
  intro x hw hp
  obtain ⟨a0, a1, ⟨⟩⟩ := x
  exact ct_r8_Interface a0 a1 hw _ rfl)
theorem sd_r8_statics : SoundE Tryz.prog e_r8_statics := sound_ev (Γ := G_r8_statics) mixed ⟨⟨sd_r4_Valid, sd_r8_within, sd_r8_Address, sd_r8_Interface, trivial⟩, trivial⟩ Tryz.func44 (by kernel_rfl) ok_r8_statics tk_r8_statics (by decide) (by
  intro x hw hp
  obtain ⟨a0, ⟨⟩⟩ := x
  exact ct_r8_statics a0 hw _ rfl)
theorem sd_r8_RouteMap : SoundE Tryz.prog e_r8_RouteMap := sound_ev (Γ := G_r8_RouteMap) mixed ⟨trivial, trivial⟩ Tryz.func102 (by kernel_rfl) ok_r8_RouteMap tk_r8_RouteMap (by decide) (by
  intro x hw hp
  obtain ⟨a0, a1, ⟨⟩⟩ := x
  exact ct_r8_RouteMap a0 a1 hw _ rfl)
theorem sd_r8_redistributions : SoundE Tryz.prog e_r8_redistributions := sound_ev (Γ := G_r8_redistributions) mixed ⟨⟨sd_r8_within, sd_r8_RouteMap, trivial⟩, trivial⟩ Tryz.func84 (by kernel_rfl) ok_r8_redistributions tk_r8_redistributions (by decide) (by
  intro x hw hp
  obtain ⟨a0, a1, a2, a3, a4, ⟨⟩⟩ := x
  exact ct_r8_redistributions a0 a1 a2 a3 a4 hw _ rfl)
theorem sd_r8_linkState : SoundE Tryz.prog e_r8_linkState := sound_ev (Γ := G_r8_linkState) mixed ⟨⟨sd_r4_Valid, sd_r8_within, sd_r4_Overlaps, sd_r8_redistributions, trivial⟩, trivial⟩ Tryz.func45 (by kernel_rfl) ok_r8_linkState tk_r8_linkState (by decide) (by
  intro x hw hp
  obtain ⟨a0, ⟨⟩⟩ := x
  exact ct_r8_linkState a0 hw _ rfl)
theorem sd_r8_distance : SoundE Tryz.prog e_r8_distance := sound_ev (Γ := G_r8_distance) mixed ⟨⟨sd_r8_within, sd_r8_PrefixList, sd_r8_redistributions, trivial⟩, trivial⟩ Tryz.func46 (by kernel_rfl) ok_r8_distance tk_r8_distance (by decide) (by
  intro x hw hp
  obtain ⟨a0, ⟨⟩⟩ := x
  exact EvF.of (au_r8_distance a0 _) rfl)
theorem sd_r8_neighbors : SoundE Tryz.prog e_r8_neighbors := sound_ev (Γ := G_r8_neighbors) mixed ⟨⟨sd_r8_within, sd_r8_RouteMap, trivial⟩, trivial⟩ Tryz.func85 (by kernel_rfl) ok_r8_neighbors tk_r8_neighbors (by decide) (by
  intro x hw hp
  obtain ⟨a0, ⟨⟩⟩ := x
  exact ct_r8_neighbors a0 hw _ rfl)
theorem sd_r8_originations : SoundE Tryz.prog e_r8_originations := sound_ev (Γ := G_r8_originations) mixed ⟨⟨sd_r4_Valid, trivial⟩, trivial⟩ Tryz.func86 (by kernel_rfl) ok_r8_originations tk_r8_originations (by decide) (by
  intro x hw hp
  obtain ⟨a0, ⟨⟩⟩ := x
  exact ct_r8_originations a0 hw _ rfl)
theorem sd_r8_pathVector : SoundE Tryz.prog e_r8_pathVector := sound_ev (Γ := G_r8_pathVector) mixed ⟨⟨sd_r8_within, sd_r8_redistributions, sd_r8_neighbors, sd_r8_originations, trivial⟩, trivial⟩ Tryz.func47 (by kernel_rfl) ok_r8_pathVector tk_r8_pathVector (by decide) (by
  intro x hw hp
  obtain ⟨a0, ⟨⟩⟩ := x
  exact EvF.of (au_r8_pathVector a0 _) rfl)
theorem sd_r8_CheckRouter : SoundE Tryz.prog e_r8_CheckRouter := sound_ev (Γ := G_r8_CheckRouter) mixed ⟨⟨sd_r8_within, sd_r4_Name, sd_r8_interfaces, sd_r8_prefixLists, sd_r8_routeMaps, sd_r8_accessLists, sd_r8_translations, sd_r8_filters, sd_r8_statics, sd_r8_linkState, sd_r8_distance, sd_r8_pathVector, trivial⟩, trivial⟩ Tryz.func15 (by kernel_rfl) ok_r8_CheckRouter tk_r8_CheckRouter (by decide) (by
  intro x hw hp
  obtain ⟨a0, ⟨⟩⟩ := x
  exact ct_r8_CheckRouter a0 hw _ rfl)
theorem sd_law11_right : SoundE Tryz.prog e_law11_right := sound_ev (Γ := G_law11_right) mixed ⟨⟨sd_law5_Small, sd_r8_CheckRouter, trivial⟩, trivial⟩ Tryz.func4 (by kernel_rfl) ok_law11_right tk_law11_right (by decide) (by
  intro x hw hp
  obtain ⟨a0, ⟨⟩⟩ := x
  exact EvF.of (au_law11_right a0 _) rfl)
theorem sd_r8_ValidPacket : SoundE Tryz.prog e_r8_ValidPacket := sound_ev (Γ := G_r8_ValidPacket) mixed ⟨⟨sd_r8_within, trivial⟩, trivial⟩ Tryz.func5 (by kernel_rfl) ok_r8_ValidPacket tk_r8_ValidPacket (by decide) (by
  intro x hw hp
  obtain ⟨a0, ⟨⟩⟩ := x
  exact EvF.of (au_r8_ValidPacket a0 _) rfl)
theorem sd_slices_Clone_Interface : SoundE Tryz.prog e_slices_Clone_Interface := sound_ev (Γ := G_slices_Clone_Interface) mixed ⟨trivial, trivial⟩ Tryz.func48 (by kernel_rfl) ok_slices_Clone_Interface tk_slices_Clone_Interface (by decide) (by
  intro x hw hp
  obtain ⟨a0, ⟨⟩⟩ := x
  exact ct_slices_Clone_Interface a0 hw hp _ rfl)
theorem sd_slices_Clone_Translation : SoundE Tryz.prog e_slices_Clone_Translation := sound_ev (Γ := G_slices_Clone_Translation) mixed ⟨trivial, trivial⟩ Tryz.func49 (by kernel_rfl) ok_slices_Clone_Translation tk_slices_Clone_Translation (by decide) (by
  intro x hw hp
  obtain ⟨a0, ⟨⟩⟩ := x
  exact ct_slices_Clone_Translation a0 hw hp _ rfl)
theorem sd_slices_Clone_StaticRoute : SoundE Tryz.prog e_slices_Clone_StaticRoute := sound_ev (Γ := G_slices_Clone_StaticRoute) mixed ⟨trivial, trivial⟩ Tryz.func50 (by kernel_rfl) ok_slices_Clone_StaticRoute tk_slices_Clone_StaticRoute (by decide) (by
  intro x hw hp
  obtain ⟨a0, ⟨⟩⟩ := x
  exact ct_slices_Clone_StaticRoute a0 hw hp _ rfl)
theorem sd_slices_Clone_AreaRange : SoundE Tryz.prog e_slices_Clone_AreaRange := sound_ev (Γ := G_slices_Clone_AreaRange) mixed ⟨trivial, trivial⟩ Tryz.func51 (by kernel_rfl) ok_slices_Clone_AreaRange tk_slices_Clone_AreaRange (by decide) (by
  intro x hw hp
  obtain ⟨a0, ⟨⟩⟩ := x
  exact ct_slices_Clone_AreaRange a0 hw hp _ rfl)
theorem sd_slices_Clone_Redist : SoundE Tryz.prog e_slices_Clone_Redist := sound_ev (Γ := G_slices_Clone_Redist) mixed ⟨trivial, trivial⟩ Tryz.func52 (by kernel_rfl) ok_slices_Clone_Redist tk_slices_Clone_Redist (by decide) (by
  intro x hw hp
  obtain ⟨a0, ⟨⟩⟩ := x
  exact ct_slices_Clone_Redist a0 hw hp _ rfl)
theorem sd_slices_Clone_Neighbor : SoundE Tryz.prog e_slices_Clone_Neighbor := sound_ev (Γ := G_slices_Clone_Neighbor) mixed ⟨trivial, trivial⟩ Tryz.func53 (by kernel_rfl) ok_slices_Clone_Neighbor tk_slices_Clone_Neighbor (by decide) (by
  intro x hw hp
  obtain ⟨a0, ⟨⟩⟩ := x
  exact ct_slices_Clone_Neighbor a0 hw hp _ rfl)
theorem sd_slices_Clone_Prefix : SoundE Tryz.prog e_slices_Clone_Prefix := sound_ev (Γ := G_slices_Clone_Prefix) mixed ⟨trivial, trivial⟩ Tryz.func54 (by kernel_rfl) ok_slices_Clone_Prefix tk_slices_Clone_Prefix (by decide) (by
  intro x hw hp
  obtain ⟨a0, ⟨⟩⟩ := x
  exact ct_slices_Clone_Prefix a0 hw hp _ rfl)
theorem sd_slices_Clone_Aggregate : SoundE Tryz.prog e_slices_Clone_Aggregate := sound_ev (Γ := G_slices_Clone_Aggregate) mixed ⟨trivial, trivial⟩ Tryz.func55 (by kernel_rfl) ok_slices_Clone_Aggregate tk_slices_Clone_Aggregate (by decide) (by
  intro x hw hp
  obtain ⟨a0, ⟨⟩⟩ := x
  exact ct_slices_Clone_Aggregate a0 hw hp _ rfl)
theorem sd_slices_Clone_Condition : SoundE Tryz.prog e_slices_Clone_Condition := sound_ev (Γ := G_slices_Clone_Condition) mixed ⟨trivial, trivial⟩ Tryz.func56 (by kernel_rfl) ok_slices_Clone_Condition tk_slices_Clone_Condition (by decide) (by
  intro x hw hp
  obtain ⟨a0, ⟨⟩⟩ := x
  exact ct_slices_Clone_Condition a0 hw hp _ rfl)
theorem sd_lint_clone : SoundE Tryz.prog e_lint_clone := sound_ev (Γ := G_lint_clone) mixed ⟨⟨sd_slices_Clone_Interface, sd_slices_Clone_Translation, sd_slices_Clone_StaticRoute, sd_slices_Clone_AreaRange, sd_slices_Clone_Redist, sd_slices_Clone_Neighbor, sd_slices_Clone_Prefix, sd_slices_Clone_Aggregate, sd_slices_Clone_Condition, trivial⟩, trivial⟩ Tryz.func18 (by kernel_rfl) ok_lint_clone tk_lint_clone (by decide) (by
  intro x hw hp
  obtain ⟨a0, ⟨⟩⟩ := x
  exact EvF.of (au_lint_clone a0 _ hp) rfl)
theorem sd_lint_CoversClause : SoundE Tryz.prog e_lint_CoversClause := sound_ev (Γ := G_lint_CoversClause) mixed ⟨trivial, trivial⟩ Tryz.func21 (by kernel_rfl) ok_lint_CoversClause tk_lint_CoversClause (by decide) (by
  intro x hw hp
  obtain ⟨a0, a1, ⟨⟩⟩ := x
  exact EvF.of (au_lint_CoversClause a0 a1 _) rfl)
theorem sd_slices_Grow_Redist : SoundM Tryz.prog e_slices_Grow_Redist.ent := sound_evO (Γ := G_slices_Grow_Redist) (e := e_slices_Grow_Redist) mixed ⟨trivial, trivial⟩ Tryz.func87 (by kernel_rfl) ok_slices_Grow_Redist tk_slices_Grow_Redist (by decide) (by decide) (by kernel_rfl) ⟨_, rfl⟩ (by
  intro x hw hp
  obtain ⟨⟨⟩, a1, ⟨⟩⟩ := x
  exact EvO.of (au_slices_Grow_Redist a1 _ hp) rfl)
theorem sd_slices_Concat_Redist : SoundM Tryz.prog e_slices_Concat_Redist.ent := sound_evO (Γ := G_slices_Concat_Redist) (e := e_slices_Concat_Redist) mixed ⟨trivial, ⟨sd_slices_Grow_Redist, trivial⟩⟩ Tryz.func57 (by kernel_rfl) ok_slices_Concat_Redist tk_slices_Concat_Redist (by decide) (by decide) (by kernel_rfl) ⟨_, rfl⟩ (by
  intro x hw hp
  obtain ⟨a0, ⟨⟩⟩ := x
  exact ct_slices_Concat_Redist a0 hw hp _ rfl)
theorem sd_lint_usesMap : SoundE Tryz.prog e_lint_usesMap := sound_ev (Γ := G_lint_usesMap) mixed ⟨trivial, ⟨sd_slices_Concat_Redist, trivial⟩⟩ Tryz.func19 (by kernel_rfl) ok_lint_usesMap tk_lint_usesMap (by decide) (by
  intro x hw hp
  obtain ⟨a0, a1, ⟨⟩⟩ := x
  exact ct_lint_usesMap a0 a1 hw hp _ rfl)
theorem sd_lint_shadowedBy_Clause : SoundE Tryz.prog e_lint_shadowedBy_Clause := sound_ev (Γ := G_lint_shadowedBy_Clause) mixed ⟨⟨sd_lint_CoversClause, trivial⟩, trivial⟩ Tryz.func89 (by kernel_rfl) ok_lint_shadowedBy_Clause tk_lint_shadowedBy_Clause (by decide) (by
  intro x hw hp
  obtain ⟨a0, a1, a2, a3, ⟨⟩⟩ := x
  exact EvF.of (au_lint_shadowedBy_Clause a0 a1 a2 a3 _ hp) rfl)
theorem sd_slices_IndexFunc_Clause : SoundE Tryz.prog e_slices_IndexFunc_Clause := sound_ev (Γ := G_slices_IndexFunc_Clause) mixed ⟨⟨sd_lint_shadowedBy_Clause, trivial⟩, trivial⟩ Tryz.func88 (by kernel_rfl) ok_slices_IndexFunc_Clause tk_slices_IndexFunc_Clause (by decide) (by
  intro x hw hp
  obtain ⟨a0, ⟨⟨a1_0, ⟨⟩⟩, ⟨a1_1, ⟨⟩⟩, ⟨a1_2, ⟨⟩⟩, ⟨⟩⟩, ⟨⟩⟩ := x
  exact ct_slices_IndexFunc_Clause a0 a1_0 a1_1 a1_2 hw hp _ rfl)
theorem sd_lint_shadowedBy_Clause2 : SoundE Tryz.prog e_lint_shadowedBy_Clause2 := sound_ev (Γ := G_lint_shadowedBy_Clause2) mixed ⟨⟨sd_slices_IndexFunc_Clause, trivial⟩, trivial⟩ Tryz.func58 (by kernel_rfl) ok_lint_shadowedBy_Clause2 tk_lint_shadowedBy_Clause2 (by decide) (by
  intro x hw hp
  obtain ⟨a0, a1, ⟨⟩, ⟨⟩⟩ := x
  exact EvF.of (au_lint_shadowedBy_Clause2 a0 a1 _ hp) rfl)
theorem sd_lint_visible_Clause : SoundE Tryz.prog e_lint_visible_Clause := sound_ev (Γ := G_lint_visible_Clause) mixed ⟨⟨sd_lint_shadowedBy_Clause2, trivial⟩, trivial⟩ Tryz.func20 (by kernel_rfl) ok_lint_visible_Clause tk_lint_visible_Clause (by decide) (by
  intro x hw hp
  obtain ⟨a0, ⟨⟩, ⟨⟩⟩ := x
  exact ct_lint_visible_Clause a0 hw hp _ rfl)
theorem sd_lint_usesACL : SoundE Tryz.prog e_lint_usesACL := sound_ev (Γ := G_lint_usesACL) mixed ⟨trivial, trivial⟩ Tryz.func22 (by kernel_rfl) ok_lint_usesACL tk_lint_usesACL (by decide) (by
  intro x hw hp
  obtain ⟨a0, a1, ⟨⟩⟩ := x
  exact ct_lint_usesACL a0 a1 hw _ rfl)
theorem sd_acl_MatchesAddress : SoundE Tryz.prog e_acl_MatchesAddress := sound_ev (Γ := G_acl_MatchesAddress) mixed ⟨trivial, trivial⟩ Tryz.func92 (by kernel_rfl) ok_acl_MatchesAddress tk_acl_MatchesAddress (by decide) (by
  intro x hw hp
  obtain ⟨a0, a1, ⟨⟩⟩ := x
  exact EvF.of (au_acl_MatchesAddress a0 a1 _) rfl)
theorem sd_acl_coversAddresses : SoundE Tryz.prog e_acl_coversAddresses := sound_ev (Γ := G_acl_coversAddresses) mixed ⟨⟨sd_acl_MatchesAddress, trivial⟩, trivial⟩ Tryz.func60 (by kernel_rfl) ok_acl_coversAddresses tk_acl_coversAddresses (by decide) (by
  intro x hw hp
  obtain ⟨a0, a1, ⟨⟩⟩ := x
  exact EvF.of (au_acl_coversAddresses a0 a1 _) rfl)
theorem sd_acl_coversPorts : SoundE Tryz.prog e_acl_coversPorts := sound_ev (Γ := G_acl_coversPorts) mixed ⟨trivial, trivial⟩ Tryz.func61 (by kernel_rfl) ok_acl_coversPorts tk_acl_coversPorts (by decide) (by
  intro x hw hp
  obtain ⟨a0, a1, ⟨⟩⟩ := x
  exact EvF.of (au_acl_coversPorts a0 a1 _) rfl)
theorem sd_acl_Covers : SoundE Tryz.prog e_acl_Covers := sound_ev (Γ := G_acl_Covers) mixed ⟨⟨sd_acl_coversAddresses, sd_acl_coversPorts, trivial⟩, trivial⟩ Tryz.func24 (by kernel_rfl) ok_acl_Covers tk_acl_Covers (by decide) (by
  intro x hw hp
  obtain ⟨a0, a1, ⟨⟩⟩ := x
  exact EvF.of (au_acl_Covers a0 a1 _) rfl)
theorem sd_lint_shadowedBy_Rule : SoundE Tryz.prog e_lint_shadowedBy_Rule := sound_ev (Γ := G_lint_shadowedBy_Rule) mixed ⟨⟨sd_acl_Covers, trivial⟩, trivial⟩ Tryz.func91 (by kernel_rfl) ok_lint_shadowedBy_Rule tk_lint_shadowedBy_Rule (by decide) (by
  intro x hw hp
  obtain ⟨a0, a1, a2, a3, ⟨⟩⟩ := x
  exact EvF.of (au_lint_shadowedBy_Rule a0 a1 a2 a3 _ hp) rfl)
theorem sd_slices_IndexFunc_Rule : SoundE Tryz.prog e_slices_IndexFunc_Rule := sound_ev (Γ := G_slices_IndexFunc_Rule) mixed ⟨⟨sd_lint_shadowedBy_Rule, trivial⟩, trivial⟩ Tryz.func90 (by kernel_rfl) ok_slices_IndexFunc_Rule tk_slices_IndexFunc_Rule (by decide) (by
  intro x hw hp
  obtain ⟨a0, ⟨⟨a1_0, ⟨⟩⟩, ⟨a1_1, ⟨⟩⟩, ⟨a1_2, ⟨⟩⟩, ⟨⟩⟩, ⟨⟩⟩ := x
  exact ct_slices_IndexFunc_Rule a0 a1_0 a1_1 a1_2 hw hp _ rfl)
theorem sd_lint_shadowedBy_Rule2 : SoundE Tryz.prog e_lint_shadowedBy_Rule2 := sound_ev (Γ := G_lint_shadowedBy_Rule2) mixed ⟨⟨sd_slices_IndexFunc_Rule, trivial⟩, trivial⟩ Tryz.func59 (by kernel_rfl) ok_lint_shadowedBy_Rule2 tk_lint_shadowedBy_Rule2 (by decide) (by
  intro x hw hp
  obtain ⟨a0, a1, ⟨⟩, ⟨⟩⟩ := x
  exact EvF.of (au_lint_shadowedBy_Rule2 a0 a1 _ hp) rfl)
theorem sd_lint_visible_Rule : SoundE Tryz.prog e_lint_visible_Rule := sound_ev (Γ := G_lint_visible_Rule) mixed ⟨⟨sd_lint_shadowedBy_Rule2, trivial⟩, trivial⟩ Tryz.func23 (by kernel_rfl) ok_lint_visible_Rule tk_lint_visible_Rule (by decide) (by
  intro x hw hp
  obtain ⟨a0, ⟨⟩, ⟨⟩⟩ := x
  exact ct_lint_visible_Rule a0 hw hp _ rfl)
theorem sd_lint_usesPrefixList : SoundE Tryz.prog e_lint_usesPrefixList := sound_ev (Γ := G_lint_usesPrefixList) mixed ⟨trivial, trivial⟩ Tryz.func25 (by kernel_rfl) ok_lint_usesPrefixList tk_lint_usesPrefixList (by decide) (by
  intro x hw hp
  obtain ⟨a0, a1, ⟨⟩⟩ := x
  exact ct_lint_usesPrefixList a0 a1 hw _ rfl)
theorem sd_addr_clamp : SoundE Tryz.prog e_addr_clamp := sound_ev (Γ := G_addr_clamp) mixed ⟨trivial, trivial⟩ Tryz.func105 (by kernel_rfl) ok_addr_clamp tk_addr_clamp (by decide) (by
  intro x hw hp
  obtain ⟨a0, ⟨⟩⟩ := x
  exact EvF.of (au_addr_clamp a0 _) rfl)
theorem sd_addr_Mask : SoundE Tryz.prog e_addr_Mask := sound_ev (Γ := G_addr_Mask) mixed ⟨⟨sd_addr_clamp, trivial⟩, trivial⟩ Tryz.func103 (by kernel_rfl) ok_addr_Mask tk_addr_Mask (by decide) (by
  intro x hw hp
  obtain ⟨a0, ⟨⟩⟩ := x
  exact ct_addr_Mask a0 hw _ rfl)
theorem sd_addr_Contains : SoundE Tryz.prog e_addr_Contains := sound_ev (Γ := G_addr_Contains) mixed ⟨⟨sd_addr_Mask, trivial⟩, trivial⟩ Tryz.func95 (by kernel_rfl) ok_addr_Contains tk_addr_Contains (by decide) (by
  intro x hw hp
  obtain ⟨a0, a1, ⟨⟩⟩ := x
  exact EvF.of (au_addr_Contains a0 a1 _) rfl)
theorem sd_addr_Covers : SoundE Tryz.prog e_addr_Covers := sound_ev (Γ := G_addr_Covers) mixed ⟨⟨sd_addr_Contains, trivial⟩, trivial⟩ Tryz.func63 (by kernel_rfl) ok_addr_Covers tk_addr_Covers (by decide) (by
  intro x hw hp
  obtain ⟨a0, a1, ⟨⟩⟩ := x
  exact EvF.of (au_addr_Covers a0 a1 _) rfl)
theorem sd_policy_Covers : SoundE Tryz.prog e_policy_Covers := sound_ev (Γ := G_policy_Covers) mixed ⟨⟨sd_addr_Covers, trivial⟩, trivial⟩ Tryz.func27 (by kernel_rfl) ok_policy_Covers tk_policy_Covers (by decide) (by
  intro x hw hp
  obtain ⟨a0, a1, ⟨⟩⟩ := x
  exact EvF.of (au_policy_Covers a0 a1 _) rfl)
theorem sd_lint_shadowedBy_PrefixRule : SoundE Tryz.prog e_lint_shadowedBy_PrefixRule := sound_ev (Γ := G_lint_shadowedBy_PrefixRule) mixed ⟨⟨sd_policy_Covers, trivial⟩, trivial⟩ Tryz.func94 (by kernel_rfl) ok_lint_shadowedBy_PrefixRule tk_lint_shadowedBy_PrefixRule (by decide) (by
  intro x hw hp
  obtain ⟨a0, a1, a2, a3, ⟨⟩⟩ := x
  exact EvF.of (au_lint_shadowedBy_PrefixRule a0 a1 a2 a3 _ hp) rfl)
theorem sd_slices_IndexFunc_PrefixRule : SoundE Tryz.prog e_slices_IndexFunc_PrefixRule := sound_ev (Γ := G_slices_IndexFunc_PrefixRule) mixed ⟨⟨sd_lint_shadowedBy_PrefixRule, trivial⟩, trivial⟩ Tryz.func93 (by kernel_rfl) ok_slices_IndexFunc_PrefixRule tk_slices_IndexFunc_PrefixRule (by decide) (by
  intro x hw hp
  obtain ⟨a0, ⟨⟨a1_0, ⟨⟩⟩, ⟨a1_1, ⟨⟩⟩, ⟨a1_2, ⟨⟩⟩, ⟨⟩⟩, ⟨⟩⟩ := x
  exact ct_slices_IndexFunc_PrefixRule a0 a1_0 a1_1 a1_2 hw hp _ rfl)
theorem sd_lint_shadowedBy_PrefixRule2 : SoundE Tryz.prog e_lint_shadowedBy_PrefixRule2 := sound_ev (Γ := G_lint_shadowedBy_PrefixRule2) mixed ⟨⟨sd_slices_IndexFunc_PrefixRule, trivial⟩, trivial⟩ Tryz.func62 (by kernel_rfl) ok_lint_shadowedBy_PrefixRule2 tk_lint_shadowedBy_PrefixRule2 (by decide) (by
  intro x hw hp
  obtain ⟨a0, a1, ⟨⟩, ⟨⟩⟩ := x
  exact EvF.of (au_lint_shadowedBy_PrefixRule2 a0 a1 _ hp) rfl)
theorem sd_lint_visible_PrefixRule : SoundE Tryz.prog e_lint_visible_PrefixRule := sound_ev (Γ := G_lint_visible_PrefixRule) mixed ⟨⟨sd_lint_shadowedBy_PrefixRule2, trivial⟩, trivial⟩ Tryz.func26 (by kernel_rfl) ok_lint_visible_PrefixRule tk_lint_visible_PrefixRule (by decide) (by
  intro x hw hp
  obtain ⟨a0, ⟨⟩, ⟨⟩⟩ := x
  exact ct_lint_visible_PrefixRule a0 hw hp _ rfl)
theorem sd_lint_Prune : SoundE Tryz.prog e_lint_Prune := sound_ev (Γ := G_lint_Prune) mixed ⟨⟨sd_lint_clone, sd_lint_usesMap, sd_lint_visible_Clause, sd_lint_usesACL, sd_lint_visible_Rule, sd_lint_usesPrefixList, sd_lint_visible_PrefixRule, trivial⟩, trivial⟩ Tryz.func7 (by kernel_rfl) ok_lint_Prune tk_lint_Prune (by decide) (by
  intro x hw hp
  obtain ⟨a0, ⟨⟩⟩ := x
  exact ct_lint_Prune a0 hw hp _ rfl)
theorem sd_model_PrefixList_1 : SoundE Tryz.prog e_model_PrefixList_1 := sound_ev (Γ := G_model_PrefixList_1) mixed ⟨trivial, trivial⟩ Tryz.func65 (by kernel_rfl) ok_model_PrefixList_1 tk_model_PrefixList_1 (by decide) (by
  intro x hw hp
  obtain ⟨a0, a1, ⟨⟩⟩ := x
  exact EvF.of (au_model_PrefixList_1 a0 a1 _) rfl)
theorem sd_slices_IndexFunc_PrefixList : SoundE Tryz.prog e_slices_IndexFunc_PrefixList := sound_ev (Γ := G_slices_IndexFunc_PrefixList) mixed ⟨⟨sd_model_PrefixList_1, trivial⟩, trivial⟩ Tryz.func64 (by kernel_rfl) ok_slices_IndexFunc_PrefixList tk_slices_IndexFunc_PrefixList (by decide) (by
  intro x hw hp
  obtain ⟨a0, ⟨⟨a1_0, ⟨⟩⟩, ⟨⟩⟩, ⟨⟩⟩ := x
  exact ct_slices_IndexFunc_PrefixList a0 a1_0 hw _ rfl)
theorem sd_model_PrefixList : SoundE Tryz.prog e_model_PrefixList := sound_ev (Γ := G_model_PrefixList) mixed ⟨⟨sd_slices_IndexFunc_PrefixList, trivial⟩, trivial⟩ Tryz.func28 (by kernel_rfl) ok_model_PrefixList tk_model_PrefixList (by decide) (by
  intro x hw hp
  obtain ⟨a0, a1, ⟨⟩⟩ := x
  exact EvF.of (au_model_PrefixList a0 a1 _) rfl)
theorem sd_policy_Matches : SoundE Tryz.prog e_policy_Matches := sound_ev (Γ := G_policy_Matches) mixed ⟨⟨sd_addr_Covers, trivial⟩, trivial⟩ Tryz.func66 (by kernel_rfl) ok_policy_Matches tk_policy_Matches (by decide) (by
  intro x hw hp
  obtain ⟨a0, a1, ⟨⟩⟩ := x
  exact EvF.of (au_policy_Matches a0 a1 _) rfl)
theorem sd_policy_First : SoundE Tryz.prog e_policy_First := sound_ev (Γ := G_policy_First) mixed ⟨⟨sd_policy_Matches, trivial⟩, trivial⟩ Tryz.func29 (by kernel_rfl) ok_policy_First tk_policy_First (by decide) (by
  intro x hw hp
  obtain ⟨a0, a1, ⟨⟩⟩ := x
  exact ct_policy_First a0 a1 hw _ rfl)
theorem sd_policy_Permits : SoundE Tryz.prog e_policy_Permits := sound_ev (Γ := G_policy_Permits) mixed ⟨⟨sd_model_PrefixList, sd_policy_First, trivial⟩, trivial⟩ Tryz.func8 (by kernel_rfl) ok_policy_Permits tk_policy_Permits (by decide) (by
  intro x hw hp
  obtain ⟨a0, a1, a2, ⟨⟩⟩ := x
  exact ct_policy_Permits a0 a1 a2 hw _ rfl)
theorem sd_slices_Clone_int : SoundE Tryz.prog e_slices_Clone_int := sound_ev (Γ := G_slices_Clone_int) mixed ⟨trivial, trivial⟩ Tryz.func30 (by kernel_rfl) ok_slices_Clone_int tk_slices_Clone_int (by decide) (by
  intro x hw hp
  obtain ⟨a0, ⟨⟩⟩ := x
  exact ct_slices_Clone_int a0 hw hp _ rfl)
theorem sd_slices_Clone_Hop : SoundE Tryz.prog e_slices_Clone_Hop := sound_ev (Γ := G_slices_Clone_Hop) mixed ⟨trivial, trivial⟩ Tryz.func31 (by kernel_rfl) ok_slices_Clone_Hop tk_slices_Clone_Hop (by decide) (by
  intro x hw hp
  obtain ⟨a0, ⟨⟩⟩ := x
  exact ct_slices_Clone_Hop a0 hw hp _ rfl)
theorem sd_model_RouteMap_1 : SoundE Tryz.prog e_model_RouteMap_1 := sound_ev (Γ := G_model_RouteMap_1) mixed ⟨trivial, trivial⟩ Tryz.func97 (by kernel_rfl) ok_model_RouteMap_1 tk_model_RouteMap_1 (by decide) (by
  intro x hw hp
  obtain ⟨a0, a1, ⟨⟩⟩ := x
  exact EvF.of (au_model_RouteMap_1 a0 a1 _) rfl)
theorem sd_slices_IndexFunc_RouteMap : SoundE Tryz.prog e_slices_IndexFunc_RouteMap := sound_ev (Γ := G_slices_IndexFunc_RouteMap) mixed ⟨⟨sd_model_RouteMap_1, trivial⟩, trivial⟩ Tryz.func96 (by kernel_rfl) ok_slices_IndexFunc_RouteMap tk_slices_IndexFunc_RouteMap (by decide) (by
  intro x hw hp
  obtain ⟨a0, ⟨⟨a1_0, ⟨⟩⟩, ⟨⟩⟩, ⟨⟩⟩ := x
  exact ct_slices_IndexFunc_RouteMap a0 a1_0 hw _ rfl)
theorem sd_model_RouteMap : SoundE Tryz.prog e_model_RouteMap := sound_ev (Γ := G_model_RouteMap) mixed ⟨⟨sd_slices_IndexFunc_RouteMap, trivial⟩, trivial⟩ Tryz.func68 (by kernel_rfl) ok_model_RouteMap tk_model_RouteMap (by decide) (by
  intro x hw hp
  obtain ⟨a0, a1, ⟨⟩⟩ := x
  exact EvF.of (au_model_RouteMap a0 a1 _) rfl)
theorem sd_policy_Clause : SoundE Tryz.prog e_policy_Clause := sound_ev (Γ := G_policy_Clause) mixed ⟨⟨sd_policy_Permits, sd_model_RouteMap, trivial⟩, trivial⟩ Tryz.func67 (by kernel_rfl) ok_policy_Clause tk_policy_Clause (by decide) (by
  intro x hw hp
  obtain ⟨a0, a1, a2, ⟨⟩⟩ := x
  exact ct_policy_Clause a0 a1 a2 hw _ rfl)
theorem sd_policy_permitting : SoundE Tryz.prog e_policy_permitting := sound_ev (Γ := G_policy_permitting) mixed ⟨⟨sd_policy_Clause, sd_model_RouteMap, trivial⟩, trivial⟩ Tryz.func32 (by kernel_rfl) ok_policy_permitting tk_policy_permitting (by decide) (by
  intro x hw hp
  obtain ⟨a0, a1, a2, ⟨⟩⟩ := x
  exact ct_policy_permitting a0 a1 a2 hw _ rfl)
theorem sd_policy_Apply : SoundE Tryz.prog e_policy_Apply := sound_ev (Γ := G_policy_Apply) mixed ⟨⟨sd_slices_Clone_int, sd_slices_Clone_Hop, sd_policy_permitting, trivial⟩, trivial⟩ Tryz.func9 (by kernel_rfl) ok_policy_Apply tk_policy_Apply (by decide) (by
  intro x hw hp
  obtain ⟨a0, a1, a2, ⟨⟩⟩ := x
  exact EvF.of (au_policy_Apply a0 a1 a2 _ hp) rfl)
theorem sd_law6_Same : SoundE Tryz.prog e_law6_Same := sound_ev (Γ := G_law6_Same) mixed ⟨trivial, trivial⟩ Tryz.func10 (by kernel_rfl) ok_law6_Same tk_law6_Same (by decide) (by
  intro x hw hp
  obtain ⟨a0, a1, ⟨⟩⟩ := x
  exact ct_law6_Same a0 a1 hw _ rfl)
theorem sd_policy_Prepend : SoundE Tryz.prog e_policy_Prepend := sound_ev (Γ := G_policy_Prepend) mixed ⟨⟨sd_policy_permitting, trivial⟩, trivial⟩ Tryz.func11 (by kernel_rfl) ok_policy_Prepend tk_policy_Prepend (by decide) (by
  intro x hw hp
  obtain ⟨a0, a1, a2, ⟨⟩⟩ := x
  exact EvF.of (au_policy_Prepend a0 a1 a2 _) rfl)
theorem sd_model_ACL_1 : SoundE Tryz.prog e_model_ACL_1 := sound_ev (Γ := G_model_ACL_1) mixed ⟨trivial, trivial⟩ Tryz.func70 (by kernel_rfl) ok_model_ACL_1 tk_model_ACL_1 (by decide) (by
  intro x hw hp
  obtain ⟨a0, a1, ⟨⟩⟩ := x
  exact EvF.of (au_model_ACL_1 a0 a1 _) rfl)
theorem sd_slices_IndexFunc_ACL : SoundE Tryz.prog e_slices_IndexFunc_ACL := sound_ev (Γ := G_slices_IndexFunc_ACL) mixed ⟨⟨sd_model_ACL_1, trivial⟩, trivial⟩ Tryz.func69 (by kernel_rfl) ok_slices_IndexFunc_ACL tk_slices_IndexFunc_ACL (by decide) (by
  intro x hw hp
  obtain ⟨a0, ⟨⟨a1_0, ⟨⟩⟩, ⟨⟩⟩, ⟨⟩⟩ := x
  exact ct_slices_IndexFunc_ACL a0 a1_0 hw _ rfl)
theorem sd_model_ACL : SoundE Tryz.prog e_model_ACL := sound_ev (Γ := G_model_ACL) mixed ⟨⟨sd_slices_IndexFunc_ACL, trivial⟩, trivial⟩ Tryz.func33 (by kernel_rfl) ok_model_ACL tk_model_ACL (by decide) (by
  intro x hw hp
  obtain ⟨a0, a1, ⟨⟩⟩ := x
  exact EvF.of (au_model_ACL a0 a1 _) rfl)
theorem sd_acl_inRange : SoundE Tryz.prog e_acl_inRange := sound_ev (Γ := G_acl_inRange) mixed ⟨trivial, trivial⟩ Tryz.func98 (by kernel_rfl) ok_acl_inRange tk_acl_inRange (by decide) (by
  intro x hw hp
  obtain ⟨a0, a1, ⟨⟩⟩ := x
  exact EvF.of (au_acl_inRange a0 a1 _) rfl)
theorem sd_acl_Matches : SoundE Tryz.prog e_acl_Matches := sound_ev (Γ := G_acl_Matches) mixed ⟨⟨sd_acl_MatchesAddress, sd_acl_inRange, trivial⟩, trivial⟩ Tryz.func71 (by kernel_rfl) ok_acl_Matches tk_acl_Matches (by decide) (by
  intro x hw hp
  obtain ⟨a0, a1, ⟨⟩⟩ := x
  exact EvF.of (au_acl_Matches a0 a1 _) rfl)
theorem sd_acl_First : SoundE Tryz.prog e_acl_First := sound_ev (Γ := G_acl_First) mixed ⟨⟨sd_acl_Matches, trivial⟩, trivial⟩ Tryz.func34 (by kernel_rfl) ok_acl_First tk_acl_First (by decide) (by
  intro x hw hp
  obtain ⟨a0, a1, ⟨⟩⟩ := x
  exact ct_acl_First a0 a1 hw _ rfl)
theorem sd_acl_Permits : SoundE Tryz.prog e_acl_Permits := sound_ev (Γ := G_acl_Permits) mixed ⟨⟨sd_model_ACL, sd_acl_First, trivial⟩, trivial⟩ Tryz.func12 (by kernel_rfl) ok_acl_Permits tk_acl_Permits (by decide) (by
  intro x hw hp
  obtain ⟨a0, a1, a2, ⟨⟩⟩ := x
  exact ct_acl_Permits a0 a1 a2 hw _ rfl)
theorem sd_lint_findings_PrefixRule : SoundM Tryz.prog e_lint_findings_PrefixRule.ent := sound_evO (Γ := G_lint_findings_PrefixRule) (e := e_lint_findings_PrefixRule) mixed ⟨⟨sd_lint_shadowedBy_PrefixRule2, trivial⟩, trivial⟩ Tryz.func72 (by kernel_rfl) ok_lint_findings_PrefixRule tk_lint_findings_PrefixRule (by decide) (by decide) (by kernel_rfl) ⟨_, rfl⟩ (by
  intro x hw hp
  obtain ⟨a0, a1, a2, a3, ⟨⟩, ⟨⟩⟩ := x
  exact ct_lint_findings_PrefixRule a0 a1 a2 a3 hw hp _ rfl)
theorem sd_lint_findings_Clause : SoundM Tryz.prog e_lint_findings_Clause.ent := sound_evO (Γ := G_lint_findings_Clause) (e := e_lint_findings_Clause) mixed ⟨⟨sd_lint_shadowedBy_Clause2, trivial⟩, trivial⟩ Tryz.func73 (by kernel_rfl) ok_lint_findings_Clause tk_lint_findings_Clause (by decide) (by decide) (by kernel_rfl) ⟨_, rfl⟩ (by
  intro x hw hp
  obtain ⟨a0, a1, a2, a3, ⟨⟩, ⟨⟩⟩ := x
  exact ct_lint_findings_Clause a0 a1 a2 a3 hw hp _ rfl)
theorem sd_lint_findings_Rule : SoundM Tryz.prog e_lint_findings_Rule.ent := sound_evO (Γ := G_lint_findings_Rule) (e := e_lint_findings_Rule) mixed ⟨⟨sd_lint_shadowedBy_Rule2, trivial⟩, trivial⟩ Tryz.func74 (by kernel_rfl) ok_lint_findings_Rule tk_lint_findings_Rule (by decide) (by decide) (by kernel_rfl) ⟨_, rfl⟩ (by
  intro x hw hp
  obtain ⟨a0, a1, a2, a3, ⟨⟩, ⟨⟩⟩ := x
  exact ct_lint_findings_Rule a0 a1 a2 a3 hw hp _ rfl)
theorem sd_lint_Shadowed : SoundE Tryz.prog e_lint_Shadowed := sound_ev (Γ := G_lint_Shadowed) mixed ⟨trivial, ⟨sd_lint_findings_PrefixRule, sd_lint_findings_Clause, sd_lint_findings_Rule, trivial⟩⟩ Tryz.func35 (by kernel_rfl) ok_lint_Shadowed tk_lint_Shadowed (by decide) (by
  intro x hw hp
  obtain ⟨a0, ⟨⟩⟩ := x
  exact ct_lint_Shadowed a0 hw hp _ rfl)
theorem sd_lint_Unused : SoundE Tryz.prog e_lint_Unused := sound_ev (Γ := G_lint_Unused) mixed ⟨⟨sd_lint_usesMap, sd_lint_usesACL, sd_lint_usesPrefixList, trivial⟩, trivial⟩ Tryz.func36 (by kernel_rfl) ok_lint_Unused tk_lint_Unused (by decide) (by
  intro x hw hp
  obtain ⟨a0, ⟨⟩⟩ := x
  exact ct_lint_Unused a0 hw hp _ rfl)
theorem sd_law11_sane : SoundE Tryz.prog e_law11_sane := sound_ev (Γ := G_law11_sane) mixed ⟨⟨sd_lint_Prune, sd_lint_Shadowed, sd_lint_Unused, trivial⟩, trivial⟩ Tryz.func13 (by kernel_rfl) ok_law11_sane tk_law11_sane (by decide) (by
  intro x hw hp
  obtain ⟨⟩ := x
  exact EvF.of (au_law11_sane _ (pok_law11_sane hw)) rfl)
end Go.Proofs.YtokhlhnibpakiaaGreat
