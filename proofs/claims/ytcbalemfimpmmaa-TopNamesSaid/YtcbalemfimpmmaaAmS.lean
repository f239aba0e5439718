/-
  The contracts, joined.
-/
import Derived.Test.YtcbalemfimpmmaaAmP
namespace Go.Proofs.Ytcbalemfimpmmaa
open Go Go.AM
set_option maxRecDepth 100000
theorem mixed : Try.prog.follows .mixedOrders = true := by kernel_rfl
theorem sd_top_equal : SoundE Try.prog e_top_equal := sound_ev (Γ := G_top_equal) mixed ⟨trivial, trivial⟩ Try.func10 (by kernel_rfl) ok_top_equal tk_top_equal (by decide) (by
  intro x hw hp
  obtain ⟨a0, ⟨⟩⟩ := x
  exact ct_top_equal a0 hw _ rfl)
theorem sd_top_first : SoundE Try.prog e_top_first := sound_ev (Γ := G_top_first) mixed ⟨⟨sd_top_equal, trivial⟩, trivial⟩ Try.func4 (by kernel_rfl) ok_top_first tk_top_first (by decide) (by
  intro x hw hp
  obtain ⟨⟩ := x
  exact EvF.of (au_top_first  _) rfl)
theorem sd_top_second : SoundE Try.prog e_top_second := sound_ev (Γ := G_top_second) mixed ⟨⟨sd_top_equal, trivial⟩, trivial⟩ Try.func5 (by kernel_rfl) ok_top_second tk_top_second (by decide) (by
  intro x hw hp
  obtain ⟨⟩ := x
  exact EvF.of (au_top_second  _) rfl)
theorem sd_top_third : SoundE Try.prog e_top_third := sound_ev (Γ := G_top_third) mixed ⟨⟨sd_top_equal, trivial⟩, trivial⟩ Try.func6 (by kernel_rfl) ok_top_third tk_top_third (by decide) (by
  intro x hw hp
  obtain ⟨⟩ := x
  exact EvF.of (au_top_third  _) rfl)
theorem sd_top_fourth : SoundE Try.prog e_top_fourth := sound_ev (Γ := G_top_fourth) mixed ⟨⟨sd_top_equal, trivial⟩, trivial⟩ Try.func7 (by kernel_rfl) ok_top_fourth tk_top_fourth (by decide) (by
  intro x hw hp
  obtain ⟨⟩ := x
  exact EvF.of (au_top_fourth  _) rfl)
theorem sd_top_fifth : SoundE Try.prog e_top_fifth := sound_ev (Γ := G_top_fifth) mixed ⟨⟨sd_top_equal, trivial⟩, trivial⟩ Try.func8 (by kernel_rfl) ok_top_fifth tk_top_fifth (by decide) (by
  intro x hw hp
  obtain ⟨⟩ := x
  exact EvF.of (au_top_fifth  _) rfl)
theorem sd_top_sixth : SoundE Try.prog e_top_sixth := sound_ev (Γ := G_top_sixth) mixed ⟨⟨sd_top_equal, trivial⟩, trivial⟩ Try.func9 (by kernel_rfl) ok_top_sixth tk_top_sixth (by decide) (by
  intro x hw hp
  obtain ⟨⟩ := x
  exact EvF.of (au_top_sixth  _) rfl)
end Go.Proofs.Ytcbalemfimpmmaa
