/-
  The contracts, joined.
-/
import Derived.Test.YtokhlhnibpakiaaAmP
namespace Go.Proofs.Ytokhlhnibpakiaa
open Go Go.AM
set_option maxRecDepth 100000
theorem mixed : Try.prog.follows .mixedOrders = true := by kernel_rfl
theorem sd_r4_letter : SoundE Try.prog e_r4_letter := sound_ev (Γ := G_r4_letter) mixed ⟨trivial, trivial⟩ Try.func70 (by kernel_rfl) ok_r4_letter tk_r4_letter (by decide) (by
  intro x hw hp
  obtain ⟨a0, ⟨⟩⟩ := x
  exact EvF.of (au_r4_letter a0 _) rfl)
theorem sd_r4_Name : SoundE Try.prog e_r4_Name := sound_ev (Γ := G_r4_Name) mixed ⟨⟨sd_r4_letter, trivial⟩, trivial⟩ Try.func39 (by kernel_rfl) ok_r4_Name tk_r4_Name (by decide) (by
  intro x hw hp
  obtain ⟨a0, ⟨⟩⟩ := x
  exact ct_r4_Name a0 hw _ rfl)
theorem sd_r8_within : SoundE Try.prog e_r8_within := sound_ev (Γ := G_r8_within) mixed ⟨trivial, trivial⟩ Try.func40 (by kernel_rfl) ok_r8_within tk_r8_within (by decide) (by
  intro x hw hp
  obtain ⟨a0, a1, a2, ⟨⟩⟩ := x
  exact EvF.of (au_r8_within a0 a1 a2 _) rfl)
theorem sd_r4_Mask : SoundE Try.prog e_r4_Mask := sound_ev (Γ := G_r4_Mask) mixed ⟨trivial, trivial⟩ Try.func102 (by kernel_rfl) ok_r4_Mask tk_r4_Mask (by decide) (by
  intro x hw hp
  obtain ⟨a0, ⟨⟩⟩ := x
  exact ct_r4_Mask a0 hw _ rfl)
theorem sd_r4_Contains : SoundE Try.prog e_r4_Contains := sound_ev (Γ := G_r4_Contains) mixed ⟨⟨sd_r4_Mask, trivial⟩, trivial⟩ Try.func107 (by kernel_rfl) ok_r4_Contains tk_r4_Contains (by decide) (by
  intro x hw hp
  obtain ⟨a0, a1, ⟨⟩⟩ := x
  exact EvF.of (au_r4_Contains a0 a1 _) rfl)
theorem sd_r4_Covers : SoundE Try.prog e_r4_Covers := sound_ev (Γ := G_r4_Covers) mixed ⟨⟨sd_r4_Contains, trivial⟩, trivial⟩ Try.func99 (by kernel_rfl) ok_r4_Covers tk_r4_Covers (by decide) (by
  intro x hw hp
  obtain ⟨a0, a1, ⟨⟩⟩ := x
  exact EvF.of (au_r4_Covers a0 a1 _) rfl)
theorem sd_r4_Overlaps : SoundE Try.prog e_r4_Overlaps := sound_ev (Γ := G_r4_Overlaps) mixed ⟨⟨sd_r4_Covers, trivial⟩, trivial⟩ Try.func71 (by kernel_rfl) ok_r4_Overlaps tk_r4_Overlaps (by decide) (by
  intro x hw hp
  obtain ⟨a0, a1, ⟨⟩⟩ := x
  exact EvF.of (au_r4_Overlaps a0 a1 _) rfl)
theorem sd_r4_Network : SoundE Try.prog e_r4_Network := sound_ev (Γ := G_r4_Network) mixed ⟨⟨sd_r4_Mask, trivial⟩, trivial⟩ Try.func72 (by kernel_rfl) ok_r4_Network tk_r4_Network (by decide) (by
  intro x hw hp
  obtain ⟨a0, a1, ⟨⟩⟩ := x
  exact EvF.of (au_r4_Network a0 a1 _) rfl)
theorem sd_r8_interfaces : SoundE Try.prog e_r8_interfaces := sound_ev (Γ := G_r8_interfaces) mixed ⟨⟨sd_r4_Name, sd_r8_within, sd_r4_Overlaps, sd_r4_Network, trivial⟩, trivial⟩ Try.func41 (by kernel_rfl) ok_r8_interfaces tk_r8_interfaces (by decide) (by
  intro x hw hp
  obtain ⟨a0, ⟨⟩⟩ := x
  exact ct_r8_interfaces a0 hw _ rfl)
theorem sd_r4_Valid : SoundE Try.prog e_r4_Valid := sound_ev (Γ := G_r4_Valid) mixed ⟨⟨sd_r4_Mask, trivial⟩, trivial⟩ Try.func76 (by kernel_rfl) ok_r4_Valid tk_r4_Valid (by decide) (by
  intro x hw hp
  obtain ⟨a0, ⟨⟩⟩ := x
  exact EvF.of (au_r4_Valid a0 _) rfl)
theorem sd_r8_ValidPrefixRule : SoundE Try.prog e_r8_ValidPrefixRule := sound_ev (Γ := G_r8_ValidPrefixRule) mixed ⟨⟨sd_r4_Valid, trivial⟩, trivial⟩ Try.func73 (by kernel_rfl) ok_r8_ValidPrefixRule tk_r8_ValidPrefixRule (by decide) (by
  intro x hw hp
  obtain ⟨a0, ⟨⟩⟩ := x
  exact EvF.of (au_r8_ValidPrefixRule a0 _) rfl)
theorem sd_r8_prefixLists : SoundE Try.prog e_r8_prefixLists := sound_ev (Γ := G_r8_prefixLists) mixed ⟨⟨sd_r4_Name, sd_r8_ValidPrefixRule, trivial⟩, trivial⟩ Try.func42 (by kernel_rfl) ok_r8_prefixLists tk_r8_prefixLists (by decide) (by
  intro x hw hp
  obtain ⟨a0, ⟨⟩⟩ := x
  exact ct_r8_prefixLists a0 hw _ rfl)
theorem sd_r8_PrefixList : SoundE Try.prog e_r8_PrefixList := sound_ev (Γ := G_r8_PrefixList) mixed ⟨trivial, trivial⟩ Try.func74 (by kernel_rfl) ok_r8_PrefixList tk_r8_PrefixList (by decide) (by
  intro x hw hp
  obtain ⟨a0, a1, ⟨⟩⟩ := x
  exact ct_r8_PrefixList a0 a1 hw _ rfl)
theorem sd_r8_routeMaps : SoundE Try.prog e_r8_routeMaps := sound_ev (Γ := G_r8_routeMaps) mixed ⟨⟨sd_r4_Name, sd_r8_within, sd_r8_PrefixList, trivial⟩, trivial⟩ Try.func43 (by kernel_rfl) ok_r8_routeMaps tk_r8_routeMaps (by decide) (by
  intro x hw hp
  obtain ⟨a0, ⟨⟩⟩ := x
  exact ct_r8_routeMaps a0 hw _ rfl)
theorem sd_r8_ports : SoundE Try.prog e_r8_ports := sound_ev (Γ := G_r8_ports) mixed ⟨trivial, trivial⟩ Try.func103 (by kernel_rfl) ok_r8_ports tk_r8_ports (by decide) (by
  intro x hw hp
  obtain ⟨a0, ⟨⟩⟩ := x
  exact EvF.of (au_r8_ports a0 _) rfl)
theorem sd_r8_all : SoundE Try.prog e_r8_all := sound_ev (Γ := G_r8_all) mixed ⟨trivial, trivial⟩ Try.func104 (by kernel_rfl) ok_r8_all tk_r8_all (by decide) (by
  intro x hw hp
  obtain ⟨a0, ⟨⟩⟩ := x
  exact EvF.of (au_r8_all a0 _) rfl)
theorem sd_r8_ValidRule : SoundE Try.prog e_r8_ValidRule := sound_ev (Γ := G_r8_ValidRule) mixed ⟨⟨sd_r8_within, sd_r8_ports, sd_r8_all, trivial⟩, trivial⟩ Try.func75 (by kernel_rfl) ok_r8_ValidRule tk_r8_ValidRule (by decide) (by
  intro x hw hp
  obtain ⟨a0, ⟨⟩⟩ := x
  exact EvF.of (au_r8_ValidRule a0 _) rfl)
theorem sd_r8_accessLists : SoundE Try.prog e_r8_accessLists := sound_ev (Γ := G_r8_accessLists) mixed ⟨⟨sd_r4_Name, sd_r8_ValidRule, trivial⟩, trivial⟩ Try.func44 (by kernel_rfl) ok_r8_accessLists tk_r8_accessLists (by decide) (by
  intro x hw hp
  obtain ⟨a0, ⟨⟩⟩ := x
  exact ct_r8_accessLists a0 hw _ rfl)
theorem sd_r8_ACL : SoundE Try.prog e_r8_ACL := sound_ev (Γ := G_r8_ACL) mixed ⟨trivial, trivial⟩ Try.func20 (by kernel_rfl) ok_r8_ACL tk_r8_ACL (by decide) (by
  intro x hw hp
  obtain ⟨a0, a1, ⟨⟩⟩ := x
  exact ct_r8_ACL a0 a1 hw _ rfl)
theorem sd_r8_translations : SoundE Try.prog e_r8_translations := sound_ev (Γ := G_r8_translations) mixed ⟨⟨sd_r8_ACL, sd_r8_within, trivial⟩, trivial⟩ Try.func45 (by kernel_rfl) ok_r8_translations tk_r8_translations (by decide) (by
  intro x hw hp
  obtain ⟨a0, ⟨⟩⟩ := x
  exact ct_r8_translations a0 hw _ rfl)
theorem sd_r8_filters : SoundE Try.prog e_r8_filters := sound_ev (Γ := G_r8_filters) mixed ⟨⟨sd_r8_ACL, trivial⟩, trivial⟩ Try.func46 (by kernel_rfl) ok_r8_filters tk_r8_filters (by decide) (by
  intro x hw hp
  obtain ⟨a0, ⟨⟩⟩ := x
  exact ct_r8_filters a0 hw _ rfl)
theorem sd_r8_Address : SoundE Try.prog e_r8_Address := sound_ev (Γ := G_r8_Address) mixed ⟨trivial, trivial⟩ Try.func77 (by kernel_rfl) ok_r8_Address tk_r8_Address (by decide) (by
  intro x hw hp
  obtain ⟨a0, a1, ⟨⟩⟩ := x
  exact ct_r8_Address a0 a1 hw _ rfl)
theorem sd_r8_Interface : SoundE Try.prog e_r8_Interface := sound_ev (Γ := G_r8_Interface) mixed ⟨trivial, trivial⟩ Try.func78 (by kernel_rfl) ok_r8_Interface tk_r8_Interface (by decide) (by
  intro x hw hp
  obtain ⟨a0, a1, ⟨⟩⟩ := x
  exact ct_r8_Interface a0 a1 hw _ rfl)
theorem sd_r8_statics : SoundE Try.prog e_r8_statics := sound_ev (Γ := G_r8_statics) mixed ⟨⟨sd_r8_within, sd_r4_Valid, sd_r8_Address, sd_r8_Interface, trivial⟩, trivial⟩ Try.func47 (by kernel_rfl) ok_r8_statics tk_r8_statics (by decide) (by
  intro x hw hp
  obtain ⟨a0, ⟨⟩⟩ := x
  exact ct_r8_statics a0 hw _ rfl)
theorem sd_r8_RouteMap : SoundE Try.prog e_r8_RouteMap := sound_ev (Γ := G_r8_RouteMap) mixed ⟨trivial, trivial⟩ Try.func105 (by kernel_rfl) ok_r8_RouteMap tk_r8_RouteMap (by decide) (by
  intro x hw hp
  obtain ⟨a0, a1, ⟨⟩⟩ := x
  exact ct_r8_RouteMap a0 a1 hw _ rfl)
theorem sd_r8_redistributions : SoundE Try.prog e_r8_redistributions := sound_ev (Γ := G_r8_redistributions) mixed ⟨⟨sd_r8_within, sd_r8_RouteMap, trivial⟩, trivial⟩ Try.func79 (by kernel_rfl) ok_r8_redistributions tk_r8_redistributions (by decide) (by
  intro x hw hp
  obtain ⟨a0, a1, a2, a3, a4, ⟨⟩⟩ := x
  exact ct_r8_redistributions a0 a1 a2 a3 a4 hw _ rfl)
theorem sd_r8_linkState : SoundE Try.prog e_r8_linkState := sound_ev (Γ := G_r8_linkState) mixed ⟨⟨sd_r8_within, sd_r4_Overlaps, sd_r4_Valid, sd_r8_redistributions, trivial⟩, trivial⟩ Try.func48 (by kernel_rfl) ok_r8_linkState tk_r8_linkState (by decide) (by
  intro x hw hp
  obtain ⟨a0, ⟨⟩⟩ := x
  exact ct_r8_linkState a0 hw _ rfl)
theorem sd_r8_distance : SoundE Try.prog e_r8_distance := sound_ev (Γ := G_r8_distance) mixed ⟨⟨sd_r8_within, sd_r8_PrefixList, sd_r8_redistributions, trivial⟩, trivial⟩ Try.func49 (by kernel_rfl) ok_r8_distance tk_r8_distance (by decide) (by
  intro x hw hp
  obtain ⟨a0, ⟨⟩⟩ := x
  exact EvF.of (au_r8_distance a0 _) rfl)
theorem sd_r8_neighbors : SoundE Try.prog e_r8_neighbors := sound_ev (Γ := G_r8_neighbors) mixed ⟨⟨sd_r8_within, sd_r8_RouteMap, trivial⟩, trivial⟩ Try.func80 (by kernel_rfl) ok_r8_neighbors tk_r8_neighbors (by decide) (by
  intro x hw hp
  obtain ⟨a0, ⟨⟩⟩ := x
  exact ct_r8_neighbors a0 hw _ rfl)
theorem sd_r8_originations : SoundE Try.prog e_r8_originations := sound_ev (Γ := G_r8_originations) mixed ⟨⟨sd_r4_Valid, trivial⟩, trivial⟩ Try.func81 (by kernel_rfl) ok_r8_originations tk_r8_originations (by decide) (by
  intro x hw hp
  obtain ⟨a0, ⟨⟩⟩ := x
  exact ct_r8_originations a0 hw _ rfl)
theorem sd_r8_pathVector : SoundE Try.prog e_r8_pathVector := sound_ev (Γ := G_r8_pathVector) mixed ⟨⟨sd_r8_within, sd_r8_redistributions, sd_r8_neighbors, sd_r8_originations, trivial⟩, trivial⟩ Try.func50 (by kernel_rfl) ok_r8_pathVector tk_r8_pathVector (by decide) (by
  intro x hw hp
  obtain ⟨a0, ⟨⟩⟩ := x
  exact EvF.of (au_r8_pathVector a0 _) rfl)
theorem sd_r8_CheckRouter : SoundE Try.prog e_r8_CheckRouter := sound_ev (Γ := G_r8_CheckRouter) mixed ⟨⟨sd_r4_Name, sd_r8_within, sd_r8_interfaces, sd_r8_prefixLists, sd_r8_routeMaps, sd_r8_accessLists, sd_r8_translations, sd_r8_filters, sd_r8_statics, sd_r8_linkState, sd_r8_distance, sd_r8_pathVector, trivial⟩, trivial⟩ Try.func15 (by kernel_rfl) ok_r8_CheckRouter tk_r8_CheckRouter (by decide) (by
  intro x hw hp
  obtain ⟨a0, ⟨⟩⟩ := x
  exact ct_r8_CheckRouter a0 hw _ rfl)
theorem sd_law5_Small : SoundE Try.prog e_law5_Small := sound_ev (Γ := G_law5_Small) mixed ⟨trivial, trivial⟩ Try.func23 (by kernel_rfl) ok_law5_Small tk_law5_Small (by decide) (by
  intro x hw hp
  obtain ⟨a0, ⟨⟩⟩ := x
  exact ct_law5_Small a0 hw _ rfl)
theorem sd_law11_right : SoundE Try.prog e_law11_right := sound_ev (Γ := G_law11_right) mixed ⟨⟨sd_r8_CheckRouter, sd_law5_Small, trivial⟩, trivial⟩ Try.func8 (by kernel_rfl) ok_law11_right tk_law11_right (by decide) (by
  intro x hw hp
  obtain ⟨a0, ⟨⟩⟩ := x
  exact EvF.of (au_law11_right a0 _) rfl)
theorem sd_addr_clamp : SoundE Try.prog e_addr_clamp := sound_ev (Γ := G_addr_clamp) mixed ⟨trivial, trivial⟩ Try.func108 (by kernel_rfl) ok_addr_clamp tk_addr_clamp (by decide) (by
  intro x hw hp
  obtain ⟨a0, ⟨⟩⟩ := x
  exact EvF.of (au_addr_clamp a0 _) rfl)
theorem sd_addr_Mask : SoundE Try.prog e_addr_Mask := sound_ev (Γ := G_addr_Mask) mixed ⟨⟨sd_addr_clamp, trivial⟩, trivial⟩ Try.func106 (by kernel_rfl) ok_addr_Mask tk_addr_Mask (by decide) (by
  intro x hw hp
  obtain ⟨a0, ⟨⟩⟩ := x
  exact ct_addr_Mask a0 hw _ rfl)
theorem sd_addr_Contains : SoundE Try.prog e_addr_Contains := sound_ev (Γ := G_addr_Contains) mixed ⟨⟨sd_addr_Mask, trivial⟩, trivial⟩ Try.func94 (by kernel_rfl) ok_addr_Contains tk_addr_Contains (by decide) (by
  intro x hw hp
  obtain ⟨a0, a1, ⟨⟩⟩ := x
  exact EvF.of (au_addr_Contains a0 a1 _) rfl)
theorem sd_addr_Covers : SoundE Try.prog e_addr_Covers := sound_ev (Γ := G_addr_Covers) mixed ⟨⟨sd_addr_Contains, trivial⟩, trivial⟩ Try.func60 (by kernel_rfl) ok_addr_Covers tk_addr_Covers (by decide) (by
  intro x hw hp
  obtain ⟨a0, a1, ⟨⟩⟩ := x
  exact EvF.of (au_addr_Covers a0 a1 _) rfl)
theorem sd_policy_Covers : SoundE Try.prog e_policy_Covers := sound_ev (Γ := G_policy_Covers) mixed ⟨⟨sd_addr_Covers, trivial⟩, trivial⟩ Try.func25 (by kernel_rfl) ok_policy_Covers tk_policy_Covers (by decide) (by
  intro x hw hp
  obtain ⟨a0, a1, ⟨⟩⟩ := x
  exact EvF.of (au_policy_Covers a0 a1 _) rfl)
theorem sd_lint_CoversClause : SoundE Try.prog e_lint_CoversClause := sound_ev (Γ := G_lint_CoversClause) mixed ⟨trivial, trivial⟩ Try.func27 (by kernel_rfl) ok_lint_CoversClause tk_lint_CoversClause (by decide) (by
  intro x hw hp
  obtain ⟨a0, a1, ⟨⟩⟩ := x
  exact EvF.of (au_lint_CoversClause a0 a1 _) rfl)
theorem sd_lint_shadowedBy_PrefixRule : SoundE Try.prog e_lint_shadowedBy_PrefixRule := sound_ev (Γ := G_lint_shadowedBy_PrefixRule) mixed ⟨⟨sd_policy_Covers, trivial⟩, trivial⟩ Try.func93 (by kernel_rfl) ok_lint_shadowedBy_PrefixRule tk_lint_shadowedBy_PrefixRule (by decide) (by
  intro x hw hp
  obtain ⟨a0, a1, a2, a3, ⟨⟩⟩ := x
  exact EvF.of (au_lint_shadowedBy_PrefixRule a0 a1 a2 a3 _ hp) rfl)
theorem sd_slices_IndexFunc_PrefixRule : SoundE Try.prog e_slices_IndexFunc_PrefixRule := sound_ev (Γ := G_slices_IndexFunc_PrefixRule) mixed ⟨⟨sd_lint_shadowedBy_PrefixRule, trivial⟩, trivial⟩ Try.func92 (by kernel_rfl) ok_slices_IndexFunc_PrefixRule tk_slices_IndexFunc_PrefixRule (by decide) (by
  intro x hw hp
  obtain ⟨a0, ⟨⟨a1_0, ⟨⟩⟩, ⟨a1_1, ⟨⟩⟩, ⟨a1_2, ⟨⟩⟩, ⟨⟩⟩, ⟨⟩⟩ := x
  exact ct_slices_IndexFunc_PrefixRule a0 a1_0 a1_1 a1_2 hw hp _ rfl)
theorem sd_lint_shadowedBy_PrefixRule2 : SoundE Try.prog e_lint_shadowedBy_PrefixRule2 := sound_ev (Γ := G_lint_shadowedBy_PrefixRule2) mixed ⟨⟨sd_slices_IndexFunc_PrefixRule, trivial⟩, trivial⟩ Try.func59 (by kernel_rfl) ok_lint_shadowedBy_PrefixRule2 tk_lint_shadowedBy_PrefixRule2 (by decide) (by
  intro x hw hp
  obtain ⟨a0, a1, ⟨⟩, ⟨⟩⟩ := x
  exact EvF.of (au_lint_shadowedBy_PrefixRule2 a0 a1 _ hp) rfl)
theorem sd_lint_findings_PrefixRule : SoundM Try.prog e_lint_findings_PrefixRule.ent := sound_evO (Γ := G_lint_findings_PrefixRule) (e := e_lint_findings_PrefixRule) mixed ⟨⟨sd_lint_shadowedBy_PrefixRule2, trivial⟩, trivial⟩ Try.func24 (by kernel_rfl) ok_lint_findings_PrefixRule tk_lint_findings_PrefixRule (by decide) (by decide) (by kernel_rfl) ⟨_, rfl⟩ (by
  intro x hw hp
  obtain ⟨a0, a1, a2, a3, ⟨⟩, ⟨⟩⟩ := x
  exact ct_lint_findings_PrefixRule a0 a1 a2 a3 hw hp _ rfl)
theorem sd_lint_shadowedBy_Clause : SoundE Try.prog e_lint_shadowedBy_Clause := sound_ev (Γ := G_lint_shadowedBy_Clause) mixed ⟨⟨sd_lint_CoversClause, trivial⟩, trivial⟩ Try.func96 (by kernel_rfl) ok_lint_shadowedBy_Clause tk_lint_shadowedBy_Clause (by decide) (by
  intro x hw hp
  obtain ⟨a0, a1, a2, a3, ⟨⟩⟩ := x
  exact EvF.of (au_lint_shadowedBy_Clause a0 a1 a2 a3 _ hp) rfl)
theorem sd_slices_IndexFunc_Clause : SoundE Try.prog e_slices_IndexFunc_Clause := sound_ev (Γ := G_slices_IndexFunc_Clause) mixed ⟨⟨sd_lint_shadowedBy_Clause, trivial⟩, trivial⟩ Try.func95 (by kernel_rfl) ok_slices_IndexFunc_Clause tk_slices_IndexFunc_Clause (by decide) (by
  intro x hw hp
  obtain ⟨a0, ⟨⟨a1_0, ⟨⟩⟩, ⟨a1_1, ⟨⟩⟩, ⟨a1_2, ⟨⟩⟩, ⟨⟩⟩, ⟨⟩⟩ := x
  exact ct_slices_IndexFunc_Clause a0 a1_0 a1_1 a1_2 hw hp _ rfl)
theorem sd_lint_shadowedBy_Clause2 : SoundE Try.prog e_lint_shadowedBy_Clause2 := sound_ev (Γ := G_lint_shadowedBy_Clause2) mixed ⟨⟨sd_slices_IndexFunc_Clause, trivial⟩, trivial⟩ Try.func61 (by kernel_rfl) ok_lint_shadowedBy_Clause2 tk_lint_shadowedBy_Clause2 (by decide) (by
  intro x hw hp
  obtain ⟨a0, a1, ⟨⟩, ⟨⟩⟩ := x
  exact EvF.of (au_lint_shadowedBy_Clause2 a0 a1 _ hp) rfl)
theorem sd_lint_findings_Clause : SoundM Try.prog e_lint_findings_Clause.ent := sound_evO (Γ := G_lint_findings_Clause) (e := e_lint_findings_Clause) mixed ⟨⟨sd_lint_shadowedBy_Clause2, trivial⟩, trivial⟩ Try.func26 (by kernel_rfl) ok_lint_findings_Clause tk_lint_findings_Clause (by decide) (by decide) (by kernel_rfl) ⟨_, rfl⟩ (by
  intro x hw hp
  obtain ⟨a0, a1, a2, a3, ⟨⟩, ⟨⟩⟩ := x
  exact ct_lint_findings_Clause a0 a1 a2 a3 hw hp _ rfl)
theorem sd_acl_MatchesAddress : SoundE Try.prog e_acl_MatchesAddress := sound_ev (Γ := G_acl_MatchesAddress) mixed ⟨trivial, trivial⟩ Try.func57 (by kernel_rfl) ok_acl_MatchesAddress tk_acl_MatchesAddress (by decide) (by
  intro x hw hp
  obtain ⟨a0, a1, ⟨⟩⟩ := x
  exact EvF.of (au_acl_MatchesAddress a0 a1 _) rfl)
theorem sd_acl_coversAddresses : SoundE Try.prog e_acl_coversAddresses := sound_ev (Γ := G_acl_coversAddresses) mixed ⟨⟨sd_acl_MatchesAddress, trivial⟩, trivial⟩ Try.func63 (by kernel_rfl) ok_acl_coversAddresses tk_acl_coversAddresses (by decide) (by
  intro x hw hp
  obtain ⟨a0, a1, ⟨⟩⟩ := x
  exact EvF.of (au_acl_coversAddresses a0 a1 _) rfl)
theorem sd_acl_coversPorts : SoundE Try.prog e_acl_coversPorts := sound_ev (Γ := G_acl_coversPorts) mixed ⟨trivial, trivial⟩ Try.func64 (by kernel_rfl) ok_acl_coversPorts tk_acl_coversPorts (by decide) (by
  intro x hw hp
  obtain ⟨a0, a1, ⟨⟩⟩ := x
  exact EvF.of (au_acl_coversPorts a0 a1 _) rfl)
theorem sd_acl_Covers : SoundE Try.prog e_acl_Covers := sound_ev (Γ := G_acl_Covers) mixed ⟨⟨sd_acl_coversAddresses, sd_acl_coversPorts, trivial⟩, trivial⟩ Try.func29 (by kernel_rfl) ok_acl_Covers tk_acl_Covers (by decide) (by
  intro x hw hp
  obtain ⟨a0, a1, ⟨⟩⟩ := x
  exact EvF.of (au_acl_Covers a0 a1 _) rfl)
theorem sd_lint_shadowedBy_Rule : SoundE Try.prog e_lint_shadowedBy_Rule := sound_ev (Γ := G_lint_shadowedBy_Rule) mixed ⟨⟨sd_acl_Covers, trivial⟩, trivial⟩ Try.func98 (by kernel_rfl) ok_lint_shadowedBy_Rule tk_lint_shadowedBy_Rule (by decide) (by
  intro x hw hp
  obtain ⟨a0, a1, a2, a3, ⟨⟩⟩ := x
  exact EvF.of (au_lint_shadowedBy_Rule a0 a1 a2 a3 _ hp) rfl)
theorem sd_slices_IndexFunc_Rule : SoundE Try.prog e_slices_IndexFunc_Rule := sound_ev (Γ := G_slices_IndexFunc_Rule) mixed ⟨⟨sd_lint_shadowedBy_Rule, trivial⟩, trivial⟩ Try.func97 (by kernel_rfl) ok_slices_IndexFunc_Rule tk_slices_IndexFunc_Rule (by decide) (by
  intro x hw hp
  obtain ⟨a0, ⟨⟨a1_0, ⟨⟩⟩, ⟨a1_1, ⟨⟩⟩, ⟨a1_2, ⟨⟩⟩, ⟨⟩⟩, ⟨⟩⟩ := x
  exact ct_slices_IndexFunc_Rule a0 a1_0 a1_1 a1_2 hw hp _ rfl)
theorem sd_lint_shadowedBy_Rule2 : SoundE Try.prog e_lint_shadowedBy_Rule2 := sound_ev (Γ := G_lint_shadowedBy_Rule2) mixed ⟨⟨sd_slices_IndexFunc_Rule, trivial⟩, trivial⟩ Try.func62 (by kernel_rfl) ok_lint_shadowedBy_Rule2 tk_lint_shadowedBy_Rule2 (by decide) (by
  intro x hw hp
  obtain ⟨a0, a1, ⟨⟩, ⟨⟩⟩ := x
  exact EvF.of (au_lint_shadowedBy_Rule2 a0 a1 _ hp) rfl)
theorem sd_lint_findings_Rule : SoundM Try.prog e_lint_findings_Rule.ent := sound_evO (Γ := G_lint_findings_Rule) (e := e_lint_findings_Rule) mixed ⟨⟨sd_lint_shadowedBy_Rule2, trivial⟩, trivial⟩ Try.func28 (by kernel_rfl) ok_lint_findings_Rule tk_lint_findings_Rule (by decide) (by decide) (by kernel_rfl) ⟨_, rfl⟩ (by
  intro x hw hp
  obtain ⟨a0, a1, a2, a3, ⟨⟩, ⟨⟩⟩ := x
  exact ct_lint_findings_Rule a0 a1 a2 a3 hw hp _ rfl)
theorem sd_lint_Shadowed : SoundE Try.prog e_lint_Shadowed := sound_ev (Γ := G_lint_Shadowed) mixed ⟨trivial, ⟨sd_lint_findings_PrefixRule, sd_lint_findings_Clause, sd_lint_findings_Rule, trivial⟩⟩ Try.func10 (by kernel_rfl) ok_lint_Shadowed tk_lint_Shadowed (by decide) (by
  intro x hw hp
  obtain ⟨a0, ⟨⟩⟩ := x
  exact ct_lint_Shadowed a0 hw hp _ rfl)
theorem sd_lint_usesPrefixList : SoundE Try.prog e_lint_usesPrefixList := sound_ev (Γ := G_lint_usesPrefixList) mixed ⟨trivial, trivial⟩ Try.func33 (by kernel_rfl) ok_lint_usesPrefixList tk_lint_usesPrefixList (by decide) (by
  intro x hw hp
  obtain ⟨a0, a1, ⟨⟩⟩ := x
  exact ct_lint_usesPrefixList a0 a1 hw _ rfl)
theorem sd_slices_Grow_Redist : SoundM Try.prog e_slices_Grow_Redist.ent := sound_evO (Γ := G_slices_Grow_Redist) (e := e_slices_Grow_Redist) mixed ⟨trivial, trivial⟩ Try.func101 (by kernel_rfl) ok_slices_Grow_Redist tk_slices_Grow_Redist (by decide) (by decide) (by kernel_rfl) ⟨_, rfl⟩ (by
  intro x hw hp
  obtain ⟨⟨⟩, a1, ⟨⟩⟩ := x
  exact EvO.of (au_slices_Grow_Redist a1 _ hp) rfl)
theorem sd_slices_Concat_Redist : SoundM Try.prog e_slices_Concat_Redist.ent := sound_evO (Γ := G_slices_Concat_Redist) (e := e_slices_Concat_Redist) mixed ⟨trivial, ⟨sd_slices_Grow_Redist, trivial⟩⟩ Try.func68 (by kernel_rfl) ok_slices_Concat_Redist tk_slices_Concat_Redist (by decide) (by decide) (by kernel_rfl) ⟨_, rfl⟩ (by
  intro x hw hp
  obtain ⟨a0, ⟨⟩⟩ := x
  exact ct_slices_Concat_Redist a0 hw hp _ rfl)
theorem sd_lint_usesMap : SoundE Try.prog e_lint_usesMap := sound_ev (Γ := G_lint_usesMap) mixed ⟨trivial, ⟨sd_slices_Concat_Redist, trivial⟩⟩ Try.func34 (by kernel_rfl) ok_lint_usesMap tk_lint_usesMap (by decide) (by
  intro x hw hp
  obtain ⟨a0, a1, ⟨⟩⟩ := x
  exact ct_lint_usesMap a0 a1 hw hp _ rfl)
theorem sd_lint_usesACL : SoundE Try.prog e_lint_usesACL := sound_ev (Γ := G_lint_usesACL) mixed ⟨trivial, trivial⟩ Try.func35 (by kernel_rfl) ok_lint_usesACL tk_lint_usesACL (by decide) (by
  intro x hw hp
  obtain ⟨a0, a1, ⟨⟩⟩ := x
  exact ct_lint_usesACL a0 a1 hw _ rfl)
theorem sd_lint_Unused : SoundE Try.prog e_lint_Unused := sound_ev (Γ := G_lint_Unused) mixed ⟨⟨sd_lint_usesPrefixList, sd_lint_usesMap, sd_lint_usesACL, trivial⟩, trivial⟩ Try.func13 (by kernel_rfl) ok_lint_Unused tk_lint_Unused (by decide) (by
  intro x hw hp
  obtain ⟨a0, ⟨⟩⟩ := x
  exact ct_lint_Unused a0 hw hp _ rfl)
theorem sd_slices_Clone_Interface : SoundE Try.prog e_slices_Clone_Interface := sound_ev (Γ := G_slices_Clone_Interface) mixed ⟨trivial, trivial⟩ Try.func82 (by kernel_rfl) ok_slices_Clone_Interface tk_slices_Clone_Interface (by decide) (by
  intro x hw hp
  obtain ⟨a0, ⟨⟩⟩ := x
  exact ct_slices_Clone_Interface a0 hw hp _ rfl)
theorem sd_slices_Clone_Translation : SoundE Try.prog e_slices_Clone_Translation := sound_ev (Γ := G_slices_Clone_Translation) mixed ⟨trivial, trivial⟩ Try.func83 (by kernel_rfl) ok_slices_Clone_Translation tk_slices_Clone_Translation (by decide) (by
  intro x hw hp
  obtain ⟨a0, ⟨⟩⟩ := x
  exact ct_slices_Clone_Translation a0 hw hp _ rfl)
theorem sd_slices_Clone_StaticRoute : SoundE Try.prog e_slices_Clone_StaticRoute := sound_ev (Γ := G_slices_Clone_StaticRoute) mixed ⟨trivial, trivial⟩ Try.func84 (by kernel_rfl) ok_slices_Clone_StaticRoute tk_slices_Clone_StaticRoute (by decide) (by
  intro x hw hp
  obtain ⟨a0, ⟨⟩⟩ := x
  exact ct_slices_Clone_StaticRoute a0 hw hp _ rfl)
theorem sd_slices_Clone_AreaRange : SoundE Try.prog e_slices_Clone_AreaRange := sound_ev (Γ := G_slices_Clone_AreaRange) mixed ⟨trivial, trivial⟩ Try.func85 (by kernel_rfl) ok_slices_Clone_AreaRange tk_slices_Clone_AreaRange (by decide) (by
  intro x hw hp
  obtain ⟨a0, ⟨⟩⟩ := x
  exact ct_slices_Clone_AreaRange a0 hw hp _ rfl)
theorem sd_slices_Clone_Redist : SoundE Try.prog e_slices_Clone_Redist := sound_ev (Γ := G_slices_Clone_Redist) mixed ⟨trivial, trivial⟩ Try.func86 (by kernel_rfl) ok_slices_Clone_Redist tk_slices_Clone_Redist (by decide) (by
  intro x hw hp
  obtain ⟨a0, ⟨⟩⟩ := x
  exact ct_slices_Clone_Redist a0 hw hp _ rfl)
theorem sd_slices_Clone_Neighbor : SoundE Try.prog e_slices_Clone_Neighbor := sound_ev (Γ := G_slices_Clone_Neighbor) mixed ⟨trivial, trivial⟩ Try.func87 (by kernel_rfl) ok_slices_Clone_Neighbor tk_slices_Clone_Neighbor (by decide) (by
  intro x hw hp
  obtain ⟨a0, ⟨⟩⟩ := x
  exact ct_slices_Clone_Neighbor a0 hw hp _ rfl)
theorem sd_slices_Clone_Prefix : SoundE Try.prog e_slices_Clone_Prefix := sound_ev (Γ := G_slices_Clone_Prefix) mixed ⟨trivial, trivial⟩ Try.func88 (by kernel_rfl) ok_slices_Clone_Prefix tk_slices_Clone_Prefix (by decide) (by
  intro x hw hp
  obtain ⟨a0, ⟨⟩⟩ := x
  exact ct_slices_Clone_Prefix a0 hw hp _ rfl)
theorem sd_slices_Clone_Aggregate : SoundE Try.prog e_slices_Clone_Aggregate := sound_ev (Γ := G_slices_Clone_Aggregate) mixed ⟨trivial, trivial⟩ Try.func89 (by kernel_rfl) ok_slices_Clone_Aggregate tk_slices_Clone_Aggregate (by decide) (by
  intro x hw hp
  obtain ⟨a0, ⟨⟩⟩ := x
  exact ct_slices_Clone_Aggregate a0 hw hp _ rfl)
theorem sd_slices_Clone_Condition : SoundE Try.prog e_slices_Clone_Condition := sound_ev (Γ := G_slices_Clone_Condition) mixed ⟨trivial, trivial⟩ Try.func90 (by kernel_rfl) ok_slices_Clone_Condition tk_slices_Clone_Condition (by decide) (by
  intro x hw hp
  obtain ⟨a0, ⟨⟩⟩ := x
  exact ct_slices_Clone_Condition a0 hw hp _ rfl)
theorem sd_lint_clone : SoundE Try.prog e_lint_clone := sound_ev (Γ := G_lint_clone) mixed ⟨⟨sd_slices_Clone_Interface, sd_slices_Clone_Translation, sd_slices_Clone_StaticRoute, sd_slices_Clone_AreaRange, sd_slices_Clone_Redist, sd_slices_Clone_Neighbor, sd_slices_Clone_Prefix, sd_slices_Clone_Aggregate, sd_slices_Clone_Condition, trivial⟩, trivial⟩ Try.func51 (by kernel_rfl) ok_lint_clone tk_lint_clone (by decide) (by
  intro x hw hp
  obtain ⟨a0, ⟨⟩⟩ := x
  exact EvF.of (au_lint_clone a0 _ hp) rfl)
theorem sd_lint_visible_Clause : SoundE Try.prog e_lint_visible_Clause := sound_ev (Γ := G_lint_visible_Clause) mixed ⟨⟨sd_lint_shadowedBy_Clause2, trivial⟩, trivial⟩ Try.func52 (by kernel_rfl) ok_lint_visible_Clause tk_lint_visible_Clause (by decide) (by
  intro x hw hp
  obtain ⟨a0, ⟨⟩, ⟨⟩⟩ := x
  exact ct_lint_visible_Clause a0 hw hp _ rfl)
theorem sd_lint_visible_Rule : SoundE Try.prog e_lint_visible_Rule := sound_ev (Γ := G_lint_visible_Rule) mixed ⟨⟨sd_lint_shadowedBy_Rule2, trivial⟩, trivial⟩ Try.func53 (by kernel_rfl) ok_lint_visible_Rule tk_lint_visible_Rule (by decide) (by
  intro x hw hp
  obtain ⟨a0, ⟨⟩, ⟨⟩⟩ := x
  exact ct_lint_visible_Rule a0 hw hp _ rfl)
theorem sd_lint_visible_PrefixRule : SoundE Try.prog e_lint_visible_PrefixRule := sound_ev (Γ := G_lint_visible_PrefixRule) mixed ⟨⟨sd_lint_shadowedBy_PrefixRule2, trivial⟩, trivial⟩ Try.func54 (by kernel_rfl) ok_lint_visible_PrefixRule tk_lint_visible_PrefixRule (by decide) (by
  intro x hw hp
  obtain ⟨a0, ⟨⟩, ⟨⟩⟩ := x
  exact ct_lint_visible_PrefixRule a0 hw hp _ rfl)
theorem sd_lint_Prune : SoundE Try.prog e_lint_Prune := sound_ev (Γ := G_lint_Prune) mixed ⟨⟨sd_lint_usesPrefixList, sd_lint_usesMap, sd_lint_usesACL, sd_lint_clone, sd_lint_visible_Clause, sd_lint_visible_Rule, sd_lint_visible_PrefixRule, trivial⟩, trivial⟩ Try.func16 (by kernel_rfl) ok_lint_Prune tk_lint_Prune (by decide) (by
  intro x hw hp
  obtain ⟨a0, ⟨⟩⟩ := x
  exact ct_lint_Prune a0 hw hp _ rfl)
theorem sd_law11_sane : SoundE Try.prog e_law11_sane := sound_ev (Γ := G_law11_sane) mixed ⟨⟨sd_lint_Shadowed, sd_lint_Unused, sd_lint_Prune, trivial⟩, trivial⟩ Try.func12 (by kernel_rfl) ok_law11_sane tk_law11_sane (by decide) (by
  intro x hw hp
  obtain ⟨⟩ := x
  exact EvF.of (au_law11_sane _ (pok_law11_sane hw)) rfl)
theorem sd_r8_sameLists : SoundE Try.prog e_r8_sameLists := sound_ev (Γ := G_r8_sameLists) mixed ⟨trivial, trivial⟩ Try.func55 (by kernel_rfl) ok_r8_sameLists tk_r8_sameLists (by decide) (by
  intro x hw hp
  obtain ⟨a0, a1, ⟨⟩⟩ := x
  exact ct_r8_sameLists a0 a1 hw _ rfl)
theorem sd_r8_sameRedist : SoundE Try.prog e_r8_sameRedist := sound_ev (Γ := G_r8_sameRedist) mixed ⟨trivial, trivial⟩ Try.func91 (by kernel_rfl) ok_r8_sameRedist tk_r8_sameRedist (by decide) (by
  intro x hw hp
  obtain ⟨a0, a1, ⟨⟩⟩ := x
  exact ct_r8_sameRedist a0 a1 hw _ rfl)
theorem sd_r8_sameProtocols : SoundE Try.prog e_r8_sameProtocols := sound_ev (Γ := G_r8_sameProtocols) mixed ⟨⟨sd_r8_sameRedist, trivial⟩, trivial⟩ Try.func56 (by kernel_rfl) ok_r8_sameProtocols tk_r8_sameProtocols (by decide) (by
  intro x hw hp
  obtain ⟨a0, a1, ⟨⟩⟩ := x
  exact ct_r8_sameProtocols a0 a1 hw _ rfl)
theorem sd_r8_Same : SoundE Try.prog e_r8_Same := sound_ev (Γ := G_r8_Same) mixed ⟨⟨sd_r8_sameLists, sd_r8_sameProtocols, trivial⟩, trivial⟩ Try.func17 (by kernel_rfl) ok_r8_Same tk_r8_Same (by decide) (by
  intro x hw hp
  obtain ⟨a0, a1, ⟨⟩⟩ := x
  exact ct_r8_Same a0 a1 hw _ rfl)
theorem sd_r8_CoversPrefix : SoundE Try.prog e_r8_CoversPrefix := sound_ev (Γ := G_r8_CoversPrefix) mixed ⟨⟨sd_r4_Covers, trivial⟩, trivial⟩ Try.func65 (by kernel_rfl) ok_r8_CoversPrefix tk_r8_CoversPrefix (by decide) (by
  intro x hw hp
  obtain ⟨a0, a1, ⟨⟩⟩ := x
  exact EvF.of (au_r8_CoversPrefix a0 a1 _) rfl)
theorem sd_r12_prefixBy : SoundE Try.prog e_r12_prefixBy := sound_ev (Γ := G_r12_prefixBy) mixed ⟨⟨sd_r8_CoversPrefix, trivial⟩, trivial⟩ Try.func30 (by kernel_rfl) ok_r12_prefixBy tk_r12_prefixBy (by decide) (by
  intro x hw hp
  obtain ⟨a0, a1, ⟨⟩⟩ := x
  exact ct_r12_prefixBy a0 a1 hw hp _ rfl)
theorem sd_r12_CoversClause : SoundE Try.prog e_r12_CoversClause := sound_ev (Γ := G_r12_CoversClause) mixed ⟨trivial, trivial⟩ Try.func66 (by kernel_rfl) ok_r12_CoversClause tk_r12_CoversClause (by decide) (by
  intro x hw hp
  obtain ⟨a0, a1, ⟨⟩⟩ := x
  exact EvF.of (au_r12_CoversClause a0 a1 _) rfl)
theorem sd_r12_clauseBy : SoundE Try.prog e_r12_clauseBy := sound_ev (Γ := G_r12_clauseBy) mixed ⟨⟨sd_r12_CoversClause, trivial⟩, trivial⟩ Try.func31 (by kernel_rfl) ok_r12_clauseBy tk_r12_clauseBy (by decide) (by
  intro x hw hp
  obtain ⟨a0, a1, ⟨⟩⟩ := x
  exact ct_r12_clauseBy a0 a1 hw hp _ rfl)
theorem sd_r8_coversAddress : SoundE Try.prog e_r8_coversAddress := sound_ev (Γ := G_r8_coversAddress) mixed ⟨trivial, trivial⟩ Try.func100 (by kernel_rfl) ok_r8_coversAddress tk_r8_coversAddress (by decide) (by
  intro x hw hp
  obtain ⟨a0, a1, ⟨⟩⟩ := x
  exact EvF.of (au_r8_coversAddress a0 a1 _) rfl)
theorem sd_r8_Covers : SoundE Try.prog e_r8_Covers := sound_ev (Γ := G_r8_Covers) mixed ⟨⟨sd_r8_coversAddress, trivial⟩, trivial⟩ Try.func67 (by kernel_rfl) ok_r8_Covers tk_r8_Covers (by decide) (by
  intro x hw hp
  obtain ⟨a0, a1, ⟨⟩⟩ := x
  exact EvF.of (au_r8_Covers a0 a1 _) rfl)
theorem sd_r12_ruleBy : SoundE Try.prog e_r12_ruleBy := sound_ev (Γ := G_r12_ruleBy) mixed ⟨⟨sd_r8_Covers, trivial⟩, trivial⟩ Try.func32 (by kernel_rfl) ok_r12_ruleBy tk_r12_ruleBy (by decide) (by
  intro x hw hp
  obtain ⟨a0, a1, ⟨⟩⟩ := x
  exact ct_r12_ruleBy a0 a1 hw hp _ rfl)
theorem sd_r12_usedList : SoundE Try.prog e_r12_usedList := sound_ev (Γ := G_r12_usedList) mixed ⟨trivial, trivial⟩ Try.func36 (by kernel_rfl) ok_r12_usedList tk_r12_usedList (by decide) (by
  intro x hw hp
  obtain ⟨a0, a1, ⟨⟩⟩ := x
  exact ct_r12_usedList a0 a1 hw _ rfl)
theorem sd_r12_inRedist : SoundE Try.prog e_r12_inRedist := sound_ev (Γ := G_r12_inRedist) mixed ⟨trivial, trivial⟩ Try.func69 (by kernel_rfl) ok_r12_inRedist tk_r12_inRedist (by decide) (by
  intro x hw hp
  obtain ⟨a0, a1, ⟨⟩⟩ := x
  exact ct_r12_inRedist a0 a1 hw _ rfl)
theorem sd_r12_usedMap : SoundE Try.prog e_r12_usedMap := sound_ev (Γ := G_r12_usedMap) mixed ⟨⟨sd_r12_inRedist, trivial⟩, trivial⟩ Try.func37 (by kernel_rfl) ok_r12_usedMap tk_r12_usedMap (by decide) (by
  intro x hw hp
  obtain ⟨a0, a1, ⟨⟩⟩ := x
  exact ct_r12_usedMap a0 a1 hw _ rfl)
theorem sd_r12_usedACL : SoundE Try.prog e_r12_usedACL := sound_ev (Γ := G_r12_usedACL) mixed ⟨trivial, trivial⟩ Try.func38 (by kernel_rfl) ok_r12_usedACL tk_r12_usedACL (by decide) (by
  intro x hw hp
  obtain ⟨a0, a1, ⟨⟩⟩ := x
  exact ct_r12_usedACL a0 a1 hw _ rfl)
theorem sd_r12_Prune : SoundE Try.prog e_r12_Prune := sound_ev (Γ := G_r12_Prune) mixed ⟨⟨sd_r12_prefixBy, sd_r12_clauseBy, sd_r12_ruleBy, sd_r12_usedList, sd_r12_usedMap, sd_r12_usedACL, trivial⟩, trivial⟩ Try.func18 (by kernel_rfl) ok_r12_Prune tk_r12_Prune (by decide) (by
  intro x hw hp
  obtain ⟨a0, ⟨⟩⟩ := x
  exact ct_r12_Prune a0 hw hp _ rfl)
end Go.Proofs.Ytokhlhnibpakiaa
