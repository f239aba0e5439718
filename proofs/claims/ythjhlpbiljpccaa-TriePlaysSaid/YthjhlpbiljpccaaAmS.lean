/-
  The contracts, joined.
-/
import Derived.Test.YthjhlpbiljpccaaAmP
namespace Go.Proofs.Ythjhlpbiljpccaa
open Go Go.AM
set_option maxRecDepth 100000
theorem mixed : Try.prog.follows .mixedOrders = true := by kernel_rfl
theorem sd_trie_bit : SoundE Try.prog e_trie_bit := sound_ev (Γ := G_trie_bit) mixed ⟨trivial, trivial⟩ Try.func28 (by kernel_rfl) ok_trie_bit tk_trie_bit (by decide) (by
  intro x hw hp
  obtain ⟨a0, a1, ⟨⟩⟩ := x
  exact EvF.of (au_trie_bit a0 a1 _ hp) rfl)
theorem sd_addr_clamp : SoundE Try.prog e_addr_clamp := sound_ev (Γ := G_addr_clamp) mixed ⟨trivial, trivial⟩ Try.func37 (by kernel_rfl) ok_addr_clamp tk_addr_clamp (by decide) (by
  intro x hw hp
  obtain ⟨a0, ⟨⟩⟩ := x
  exact EvF.of (au_addr_clamp a0 _) rfl)
theorem sd_addr_Mask : SoundE Try.prog e_addr_Mask := sound_ev (Γ := G_addr_Mask) mixed ⟨⟨sd_addr_clamp, trivial⟩, trivial⟩ Try.func36 (by kernel_rfl) ok_addr_Mask tk_addr_Mask (by decide) (by
  intro x hw hp
  obtain ⟨a0, ⟨⟩⟩ := x
  exact EvF.of (au_addr_Mask a0 _ hp) rfl)
theorem sd_addr_Valid : SoundE Try.prog e_addr_Valid := sound_ev (Γ := G_addr_Valid) mixed ⟨⟨sd_addr_Mask, trivial⟩, trivial⟩ Try.func32 (by kernel_rfl) ok_addr_Valid tk_addr_Valid (by decide) (by
  intro x hw hp
  obtain ⟨a0, ⟨⟩⟩ := x
  exact EvF.of (au_addr_Valid a0 _ hp) rfl)
theorem sd_fn_17 : SoundM Try.prog e_fn_17.ent := sound_evX (Γ := G_fn_17) (e := e_fn_17) mixed ⟨⟨sd_trie_bit, sd_addr_Valid, trivial⟩, trivial⟩ Try.func17 (by kernel_rfl) ok_fn_17 tk_fn_17 (by decide) (by decide) (by
  intro pn ln x ha hw hp
  obtain ⟨tr, sz⟩ := ln
  obtain ⟨⟨⟩, a1, a2, ⟨⟩⟩ := x
  exact ct_fn_17 pn tr sz a1 a2 ha hw _ rfl)
theorem sd_trie_New : SoundM Try.prog e_trie_New.ent := sound_evN (Γ := G_trie_New) (e := e_trie_New) mixed ⟨trivial, trivial⟩ Try.func21 (by kernel_rfl) ok_trie_New tk_trie_New (by decide) (by decide) (by
  intro x hw hp
  obtain ⟨⟩ := x
  exact EvN.of (au_trie_New  _) rfl)
theorem sd_law4_built : SoundM Try.prog e_law4_built.ent := sound_evN (Γ := G_law4_built) (e := e_law4_built) mixed ⟨trivial, ⟨sd_fn_17, sd_trie_New, trivial⟩⟩ Try.func8 (by kernel_rfl) ok_law4_built tk_law4_built (by decide) (by decide) (by
  intro x hw hp
  obtain ⟨a0, a1, ⟨⟩⟩ := x
  exact ct_law4_built a0 a1 hw _ rfl)
theorem sd_addr_Network : SoundE Try.prog e_addr_Network := sound_ev (Γ := G_addr_Network) mixed ⟨⟨sd_addr_Mask, sd_addr_clamp, trivial⟩, trivial⟩ Try.func29 (by kernel_rfl) ok_addr_Network tk_addr_Network (by decide) (by
  intro x hw hp
  obtain ⟨a0, a1, ⟨⟩⟩ := x
  exact EvF.of (au_addr_Network a0 a1 _ hp) rfl)
theorem sd_fn_9 : SoundM Try.prog e_fn_9.rent := soundR (sound_evX (Γ := G_fn_9) (e := e_fn_9) mixed ⟨⟨sd_trie_bit, sd_addr_Network, trivial⟩, trivial⟩ Try.func9 (by kernel_rfl) ok_fn_9 tk_fn_9 (by decide) (by decide) (by
  intro pn ln x ha hw hp
  obtain ⟨tr, sz⟩ := ln
  obtain ⟨⟨⟩, a1, ⟨⟩⟩ := x
  exact ct_fn_9 pn tr sz a1 ha hw _ rfl)) (fun _ _ => rfl)
theorem sd_fn_30 : SoundM Try.prog e_fn_30.rent := soundR (sound_evX (Γ := G_fn_30) (e := e_fn_30) mixed ⟨⟨sd_trie_bit, sd_addr_Valid, trivial⟩, trivial⟩ Try.func30 (by kernel_rfl) ok_fn_30 tk_fn_30 (by decide) (by decide) (by
  intro pn ln x ha hw hp
  obtain ⟨tr, sz⟩ := ln
  obtain ⟨⟨⟩, a1, ⟨⟩⟩ := x
  exact ct_fn_30 pn tr sz a1 ha hw _ rfl)) (fun _ _ => rfl)
theorem sd_fn_10 : SoundM Try.prog e_fn_10.rent := soundR (sound_evX (Γ := G_fn_10) (e := e_fn_10) mixed ⟨trivial, ⟨sd_fn_30, trivial⟩⟩ Try.func10 (by kernel_rfl) ok_fn_10 tk_fn_10 (by decide) (by decide) (by
  intro pn ln x ha hw hp
  obtain ⟨tr, sz⟩ := ln
  obtain ⟨⟨⟩, a1, ⟨⟩⟩ := x
  exact ct_fn_10 pn tr sz a1 ha hw _ rfl)) (fun _ _ => rfl)
theorem sd_r4_Mask : SoundE Try.prog e_r4_Mask := sound_ev (Γ := G_r4_Mask) mixed ⟨trivial, trivial⟩ Try.func31 (by kernel_rfl) ok_r4_Mask tk_r4_Mask (by decide) (by
  intro x hw hp
  obtain ⟨a0, ⟨⟩⟩ := x
  exact ct_r4_Mask a0 hw _ rfl)
theorem sd_r4_Contains : SoundE Try.prog e_r4_Contains := sound_ev (Γ := G_r4_Contains) mixed ⟨⟨sd_r4_Mask, trivial⟩, trivial⟩ Try.func11 (by kernel_rfl) ok_r4_Contains tk_r4_Contains (by decide) (by
  intro x hw hp
  obtain ⟨a0, a1, ⟨⟩⟩ := x
  exact EvF.of (au_r4_Contains a0 a1 _) rfl)
theorem sd_r4_Valid : SoundE Try.prog e_r4_Valid := sound_ev (Γ := G_r4_Valid) mixed ⟨⟨sd_r4_Mask, trivial⟩, trivial⟩ Try.func12 (by kernel_rfl) ok_r4_Valid tk_r4_Valid (by decide) (by
  intro x hw hp
  obtain ⟨a0, ⟨⟩⟩ := x
  exact EvF.of (au_r4_Valid a0 _) rfl)
theorem sd_fn_20 : SoundM Try.prog e_fn_20.rent := soundR (sound_evX (Γ := G_fn_20) (e := e_fn_20) mixed ⟨trivial, trivial⟩ Try.func20 (by kernel_rfl) ok_fn_20 tk_fn_20 (by decide) (by decide) (by
  intro pn ln x ha hw hp
  obtain ⟨tr, sz⟩ := ln
  obtain ⟨⟨⟩, ⟨⟩⟩ := x
  exact EvX.of (au_fn_20 pn tr sz _) rfl)) (fun _ _ => rfl)
theorem sd_law4_sane : SoundE Try.prog e_law4_sane := sound_ev (Γ := G_law4_sane) mixed ⟨trivial, ⟨sd_fn_9, sd_fn_17, sd_fn_20, sd_trie_New, trivial⟩⟩ Try.func13 (by kernel_rfl) ok_law4_sane tk_law4_sane (by decide) (by
  intro x hw hp
  obtain ⟨⟩ := x
  exact EvF.of (au_law4_sane  _) rfl)
theorem sd_fn_14 : SoundM Try.prog e_fn_14.rent := soundR (sound_evX (Γ := G_fn_14) (e := e_fn_14) mixed ⟨⟨sd_trie_bit, sd_addr_Network, sd_addr_Valid, trivial⟩, trivial⟩ Try.func14 (by kernel_rfl) ok_fn_14 tk_fn_14 (by decide) (by decide) (by
  intro pn ln x ha hw hp
  obtain ⟨tr, sz⟩ := ln
  obtain ⟨⟨⟩, a1, ⟨⟩⟩ := x
  exact ct_fn_14 pn tr sz a1 ha hw _ rfl)) (fun _ _ => rfl)
theorem sd_r4_Covers : SoundE Try.prog e_r4_Covers := sound_ev (Γ := G_r4_Covers) mixed ⟨⟨sd_r4_Contains, trivial⟩, trivial⟩ Try.func15 (by kernel_rfl) ok_r4_Covers tk_r4_Covers (by decide) (by
  intro x hw hp
  obtain ⟨a0, a1, ⟨⟩⟩ := x
  exact EvF.of (au_r4_Covers a0 a1 _) rfl)
theorem sd_addr_Halves : SoundE Try.prog e_addr_Halves := sound_ev (Γ := G_addr_Halves) mixed ⟨trivial, trivial⟩ Try.func38 (by kernel_rfl) ok_addr_Halves tk_addr_Halves (by decide) (by
  intro x hw hp
  obtain ⟨a0, ⟨⟩⟩ := x
  exact EvF.of (au_addr_Halves a0 _ hp) rfl)
theorem sk_trie_collect : ∀ k, SoundM Try.prog (ek_trie_collect k).rent
  | 0 => soundR (soundX0 ⟨Try.f33, Try.func33, by kernel_rfl, by kernel_rfl⟩ fun ln x => pk0_trie_collect ln.1 ln.2 x.1 x.2.1 x.2.2.1) (fun _ _ => rfl)
  | k + 1 => soundR (sound_evX (Γ := G_trie_collect k) (e := ek_trie_collect (k + 1)) mixed ⟨⟨sd_addr_Halves, trivial⟩, ⟨sk_trie_collect k, trivial⟩⟩ Try.func33 (by kernel_rfl) ok_trie_collect tk_trie_collect (by show e_trie_collect.A.length ≤ c_trie_collect.ntmps; decide) (by show okR e_trie_collect.R = true; decide) (by
    intro pn ln x ha hw hp
    obtain ⟨tr, sz⟩ := ln
    obtain ⟨a0, a1, a2, ⟨⟩⟩ := x
    exact ct_trie_collect k pn tr sz a0 a1 a2 ha hw hp _ rfl)) (fun _ _ => rfl)
theorem sd_trie_collect : SoundM Try.prog e_trie_collect.rent := soundR (soundX_sub (e := e_trie_collect) (soundR_of (sk_trie_collect 33)) (fun ln x hp => pk_of_trie_collect hp) (fun _ _ => rfl)) (fun _ _ => rfl)
theorem sd_fn_16 : SoundM Try.prog e_fn_16.rent := soundR (sound_evX (Γ := G_fn_16) (e := e_fn_16) mixed ⟨trivial, ⟨sd_trie_collect, trivial⟩⟩ Try.func16 (by kernel_rfl) ok_fn_16 tk_fn_16 (by decide) (by decide) (by
  intro pn ln x ha hw hp
  obtain ⟨tr, sz⟩ := ln
  obtain ⟨⟨⟩, ⟨⟩⟩ := x
  exact EvX.of (au_fn_16 pn tr sz _ hp) rfl)) (fun _ _ => rfl)
theorem sd_fn_18 : SoundM Try.prog e_fn_18.ent := sound_evX (Γ := G_fn_18) (e := e_fn_18) mixed ⟨⟨sd_trie_bit, trivial⟩, ⟨sd_fn_30, trivial⟩⟩ Try.func18 (by kernel_rfl) ok_fn_18 tk_fn_18 (by decide) (by decide) (by
  intro pn ln x ha hw hp
  obtain ⟨tr, sz⟩ := ln
  obtain ⟨⟨⟩, a1, ⟨⟩⟩ := x
  exact ct_fn_18 pn tr sz a1 ha hw _ rfl)
theorem sd_keep_Entries : SoundE Try.prog e_keep_Entries := sound_ev (Γ := G_keep_Entries) mixed ⟨trivial, trivial⟩ Try.func19 (by kernel_rfl) ok_keep_Entries tk_keep_Entries (by decide) (by
  intro x hw hp
  obtain ⟨a0, a1, ⟨⟩⟩ := x
  exact ct_keep_Entries a0 a1 hw _ rfl)
theorem sd_fn_34 : SoundE Try.prog e_fn_34 := sound_ev (Γ := G_fn_34) mixed ⟨trivial, trivial⟩ Try.func34 (by kernel_rfl) ok_fn_34 tk_fn_34 (by decide) (by
  intro x hw hp
  obtain ⟨a0, a1, ⟨⟩⟩ := x
  exact ct_fn_34 a0 a1 hw _ rfl)
theorem sd_fn_22 : SoundM Try.prog e_fn_22.ent := sound_evI (Γ := G_fn_22) (e := e_fn_22) mixed ⟨⟨sd_fn_34, trivial⟩, trivial⟩ Try.func22 (by kernel_rfl) ok_fn_22 tk_fn_22 (by decide) (by decide) (by
  intro b_ l_ x hw hp
  obtain ⟨a0, ⟨⟩⟩ := x
  exact ct_fn_22 b_ l_ a0 hw hp _ rfl)
theorem sd_fn_23 : SoundE Try.prog e_fn_23 := sound_ev (Γ := G_fn_23) mixed ⟨⟨sd_fn_34, trivial⟩, trivial⟩ Try.func23 (by kernel_rfl) ok_fn_23 tk_fn_23 (by decide) (by
  intro x hw hp
  obtain ⟨a0, a1, ⟨⟩⟩ := x
  exact ct_fn_23 a0 a1 hw _ rfl)
theorem sd_fn_24 : SoundE Try.prog e_fn_24 := sound_ev (Γ := G_fn_24) mixed ⟨⟨sd_r4_Contains, trivial⟩, trivial⟩ Try.func24 (by kernel_rfl) ok_fn_24 tk_fn_24 (by decide) (by
  intro x hw hp
  obtain ⟨a0, a1, ⟨⟩⟩ := x
  exact ct_fn_24 a0 a1 hw _ rfl)
theorem sd_keep_Prefixes : SoundE Try.prog e_keep_Prefixes := sound_ev (Γ := G_keep_Prefixes) mixed ⟨trivial, trivial⟩ Try.func25 (by kernel_rfl) ok_keep_Prefixes tk_keep_Prefixes (by decide) (by
  intro x hw hp
  obtain ⟨a0, a1, ⟨⟩⟩ := x
  exact ct_keep_Prefixes a0 a1 hw _ rfl)
theorem sd_fn_26 : SoundM Try.prog e_fn_26.ent := sound_evO (Γ := G_fn_26) (e := e_fn_26) mixed ⟨⟨sd_r4_Valid, sd_r4_Covers, trivial⟩, trivial⟩ Try.func26 (by kernel_rfl) ok_fn_26 tk_fn_26 (by decide) (by decide) (by kernel_rfl) ⟨_, rfl⟩ (by
  intro x hw hp
  obtain ⟨a0, a1, ⟨⟩⟩ := x
  exact ct_fn_26 a0 a1 hw hp _ rfl)
theorem sd_r4_Compare : SoundE Try.prog e_r4_Compare := sound_ev (Γ := G_r4_Compare) mixed ⟨trivial, trivial⟩ Try.func35 (by kernel_rfl) ok_r4_Compare tk_r4_Compare (by decide) (by
  intro x hw hp
  obtain ⟨a0, a1, ⟨⟩⟩ := x
  exact EvF.of (au_r4_Compare a0 a1 _) rfl)
theorem sd_fn_27 : SoundM Try.prog e_fn_27.ent := sound_evI (Γ := G_fn_27) (e := e_fn_27) mixed ⟨⟨sd_r4_Valid, sd_fn_34, sd_r4_Compare, trivial⟩, trivial⟩ Try.func27 (by kernel_rfl) ok_fn_27 tk_fn_27 (by decide) (by decide) (by
  intro b_ l_ x hw hp
  obtain ⟨a0, a1, ⟨⟩⟩ := x
  exact ct_fn_27 b_ l_ a0 a1 hw hp _ rfl)
end Go.Proofs.Ythjhlpbiljpccaa
