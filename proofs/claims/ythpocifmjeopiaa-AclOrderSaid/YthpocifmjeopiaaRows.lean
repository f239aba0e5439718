/-
  No cell of these rows narrows 'for every input' (looked for: loops, veiled, ifaces, maps, wideKeys, modest, calm, conditions, laid).
  DERIVED. THE GIVEN ROWS OF THIS SEAT. 7 by the template 'for every input the law returns true; each argument reads behind the call as it read before'; 0 by the template 'total and deterministic' (their statements: YthpocifmjeopiaaTotals.lean).
  GIVEN WITH THE SEED: the statements are not yours to turn. If you find one false, say at which input.
  Laid BY PROGRAM, IN A SANDBOX (cutbox-rows.mjs): the forced cells as the released guide's own fill.sh prints them over the translation 612ba84a09515eb0… (all of the seat's roots in one cut). By AI agents, Wed Nov 11 2026. No macro, syntax, notation, axiom, sorry.
-/
import Derived.Test.YthpocifmjeopiaaChecked
import GoSem.Claim
import GoSem.ClaimJoined
import GoSem.ClaimMapViews
import Derived.JoinedTies
import Derived.KernelRfl
namespace Go.Proofs.Ythpocifmjeopiaa
/- THE CELL 'sum', in the pinned program and in every row, IS THE sha256 OF THE DUMP (.gsa) THAT YthpocifmjeopiaaProg.lean LOADS. Nothing in Lean hashes anything: it is a label: what it is worth is what the hold of that sum in a sandbox is worth. -/
noncomputable def Try.pinned : Pinned := { name := "ythpocifmjeopiaa", sum := "612ba84a09515eb05296021858d6e12dac7d22290835de4c2e846a6b83eeb5de", checked := Try.checked }
namespace Rows
def none {H : Type} : Left H := { results := [], args := [] }

/-- 'netverifylaw7.AclPackets': WHATEVER THE INPUT: true; the input reads as it did. -/
def aclPacketsSpec : ChangeSpec := { name := "aclPackets", fn := fun _ => fun
  | [d1, d2, d3] => { results := [.lit (.bool true)], args := [d1, d2, d3] }
  | _ => none }
def aclPacketsRow : OpenClaim := { program := "ythpocifmjeopiaa", sum := "612ba84a09515eb05296021858d6e12dac7d22290835de4c2e846a6b83eeb5de", func := "netverify/netverifylaw7.AclPackets", spec := "aclPackets", unfollowed := true, recurses := true, apart := false }
def AclPacketsSaid : Prop := aclPacketsRow.holds Try.pinned (OpenSpec.ofChange aclPacketsSpec)

/-- ITS FALSE NEIGHBOUR: 'it returns false'. Refute it at one input. -/
def aclPacketsWrong : ChangeSpec := { name := "aclPackets", fn := fun _ => fun
  | [d1, d2, d3] => { results := [.lit (.bool false)], args := [d1, d2, d3] }
  | _ => none }
def AclPacketsWrongFalsely : Prop := aclPacketsRow.holds Try.pinned (OpenSpec.ofChange aclPacketsWrong)

/-- 'netverifylaw7.AclMatches': WHATEVER THE INPUT: true; the input reads as it did. -/
def aclMatchesSpec : ChangeSpec := { name := "aclMatches", fn := fun _ => fun
  | [d1, d2] => { results := [.lit (.bool true)], args := [d1, d2] }
  | _ => none }
def aclMatchesRow : OpenClaim := { program := "ythpocifmjeopiaa", sum := "612ba84a09515eb05296021858d6e12dac7d22290835de4c2e846a6b83eeb5de", func := "netverify/netverifylaw7.AclMatches", spec := "aclMatches", unfollowed := true, recurses := true, apart := false }
def AclMatchesSaid : Prop := aclMatchesRow.holds Try.pinned (OpenSpec.ofChange aclMatchesSpec)

/-- ITS FALSE NEIGHBOUR: 'it returns false'. Refute it at one input. -/
def aclMatchesWrong : ChangeSpec := { name := "aclMatches", fn := fun _ => fun
  | [d1, d2] => { results := [.lit (.bool false)], args := [d1, d2] }
  | _ => none }
def AclMatchesWrongFalsely : Prop := aclMatchesRow.holds Try.pinned (OpenSpec.ofChange aclMatchesWrong)

/-- 'netverifylaw7.AclPermits': WHATEVER THE INPUT: true; the input reads as it did. -/
def aclPermitsSpec : ChangeSpec := { name := "aclPermits", fn := fun _ => fun
  | [d1, d2, d3] => { results := [.lit (.bool true)], args := [d1, d2, d3] }
  | _ => none }
def aclPermitsRow : OpenClaim := { program := "ythpocifmjeopiaa", sum := "612ba84a09515eb05296021858d6e12dac7d22290835de4c2e846a6b83eeb5de", func := "netverify/netverifylaw7.AclPermits", spec := "aclPermits", unfollowed := true, recurses := true, apart := false }
def AclPermitsSaid : Prop := aclPermitsRow.holds Try.pinned (OpenSpec.ofChange aclPermitsSpec)

/-- ITS FALSE NEIGHBOUR: 'it returns false'. Refute it at one input. -/
def aclPermitsWrong : ChangeSpec := { name := "aclPermits", fn := fun _ => fun
  | [d1, d2, d3] => { results := [.lit (.bool false)], args := [d1, d2, d3] }
  | _ => none }
def AclPermitsWrongFalsely : Prop := aclPermitsRow.holds Try.pinned (OpenSpec.ofChange aclPermitsWrong)

/-- 'netverifylaw7.AclSwap': WHATEVER THE INPUT: true; the input reads as it did. -/
def aclSwapSpec : ChangeSpec := { name := "aclSwap", fn := fun _ => fun
  | [d1, d2, d3] => { results := [.lit (.bool true)], args := [d1, d2, d3] }
  | _ => none }
def aclSwapRow : OpenClaim := { program := "ythpocifmjeopiaa", sum := "612ba84a09515eb05296021858d6e12dac7d22290835de4c2e846a6b83eeb5de", func := "netverify/netverifylaw7.AclSwap", spec := "aclSwap", unfollowed := true, recurses := true, apart := false }
def AclSwapSaid : Prop := aclSwapRow.holds Try.pinned (OpenSpec.ofChange aclSwapSpec)

/-- ITS FALSE NEIGHBOUR: 'it returns false'. Refute it at one input. -/
def aclSwapWrong : ChangeSpec := { name := "aclSwap", fn := fun _ => fun
  | [d1, d2, d3] => { results := [.lit (.bool false)], args := [d1, d2, d3] }
  | _ => none }
def AclSwapWrongFalsely : Prop := aclSwapRow.holds Try.pinned (OpenSpec.ofChange aclSwapWrong)

/-- 'netverifylaw7.AclCovers': WHATEVER THE INPUT: true; the input reads as it did. -/
def aclCoversSpec : ChangeSpec := { name := "aclCovers", fn := fun _ => fun
  | [d1, d2, d3] => { results := [.lit (.bool true)], args := [d1, d2, d3] }
  | _ => none }
def aclCoversRow : OpenClaim := { program := "ythpocifmjeopiaa", sum := "612ba84a09515eb05296021858d6e12dac7d22290835de4c2e846a6b83eeb5de", func := "netverify/netverifylaw7.AclCovers", spec := "aclCovers", unfollowed := true, recurses := true, apart := false }
def AclCoversSaid : Prop := aclCoversRow.holds Try.pinned (OpenSpec.ofChange aclCoversSpec)

/-- ITS FALSE NEIGHBOUR: 'it returns false'. Refute it at one input. -/
def aclCoversWrong : ChangeSpec := { name := "aclCovers", fn := fun _ => fun
  | [d1, d2, d3] => { results := [.lit (.bool false)], args := [d1, d2, d3] }
  | _ => none }
def AclCoversWrongFalsely : Prop := aclCoversRow.holds Try.pinned (OpenSpec.ofChange aclCoversWrong)

/-- 'netverifylaw7.AclShadowed': WHATEVER THE INPUT: true; the input reads as it did. -/
def aclShadowedSpec : ChangeSpec := { name := "aclShadowed", fn := fun _ => fun
  | [d1, d2, d3] => { results := [.lit (.bool true)], args := [d1, d2, d3] }
  | _ => none }
def aclShadowedRow : OpenClaim := { program := "ythpocifmjeopiaa", sum := "612ba84a09515eb05296021858d6e12dac7d22290835de4c2e846a6b83eeb5de", func := "netverify/netverifylaw7.AclShadowed", spec := "aclShadowed", unfollowed := true, recurses := true, apart := false }
def AclShadowedSaid : Prop := aclShadowedRow.holds Try.pinned (OpenSpec.ofChange aclShadowedSpec)

/-- ITS FALSE NEIGHBOUR: 'it returns false'. Refute it at one input. -/
def aclShadowedWrong : ChangeSpec := { name := "aclShadowed", fn := fun _ => fun
  | [d1, d2, d3] => { results := [.lit (.bool false)], args := [d1, d2, d3] }
  | _ => none }
def AclShadowedWrongFalsely : Prop := aclShadowedRow.holds Try.pinned (OpenSpec.ofChange aclShadowedWrong)

/-- 'netverifylaw7.AclOrder': WHATEVER THE INPUT: true; the input reads as it did. -/
def aclOrderSpec : ChangeSpec := { name := "aclOrder", fn := fun _ => fun
  | [d1, d2, d3] => { results := [.lit (.bool true)], args := [d1, d2, d3] }
  | _ => none }
def aclOrderRow : OpenClaim := { program := "ythpocifmjeopiaa", sum := "612ba84a09515eb05296021858d6e12dac7d22290835de4c2e846a6b83eeb5de", func := "netverify/netverifylaw7.AclOrder", spec := "aclOrder", unfollowed := true, recurses := true, apart := false }
def AclOrderSaid : Prop := aclOrderRow.holds Try.pinned (OpenSpec.ofChange aclOrderSpec)

/-- ITS FALSE NEIGHBOUR: 'it returns false'. Refute it at one input. -/
def aclOrderWrong : ChangeSpec := { name := "aclOrder", fn := fun _ => fun
  | [d1, d2, d3] => { results := [.lit (.bool false)], args := [d1, d2, d3] }
  | _ => none }
def AclOrderWrongFalsely : Prop := aclOrderRow.holds Try.pinned (OpenSpec.ofChange aclOrderWrong)

/- THE SECOND FORM. 'bulk': how many values and letters a reading holds, each counted each time it is reached (what is shared counts as often as it is met; a slice's spare places count too). A statement '..UptoSaid' is the law's where the arguments, and the package variables that the reading takes, are together of bulk at most 1048576: NARROWER than '..Said'. Prove '..Said' where nothing that the law and all that it calls make is longer than what came in: it says more and counts as full. Else prove '..UptoSaid'. A law counts once. -/
mutual
def uptoBulk {H : Type} : DataW H → Nat
  | .lit (.string bytes) => bytes.length + 1
  | .lit _ => 1
  | .nil => 1
  | .ptr d => uptoBulk d + 1
  | .slice elems spare => uptoBulkAll elems + uptoBulkAll spare + 1
  | .agg parts => uptoBulkAll parts + 1
  | .iface _ d => uptoBulk d + 1
  | .map entries => uptoBulkEntries entries + 1
  | .held _ => 1
def uptoBulkAll {H : Type} : List (DataW H) → Nat
  | [] => 0
  | d :: r => uptoBulk d + uptoBulkAll r
def uptoBulkEntries {H : Type} : List (Lit × DataW H) → Nat
  | [] => 0
  | x :: r => uptoBulkEntry x + uptoBulkEntries r
def uptoBulkEntry {H : Type} : Lit × DataW H → Nat
  | (.string bytes, d) => bytes.length + uptoBulk d + 1
  | (_, d) => uptoBulk d + 1
 end
def uptoSmall : (H : Type) → List (DataW H) → Bool := fun _ ds => decide (uptoBulkAll ds ≤ 1048576)
def OpenSpec.upto (s : _root_.Go.ChangeSpec) : _root_.Go.OpenSpec := { _root_.Go.OpenSpec.ofChange s with cond := some uptoSmall }

/-- 'netverifylaw7.AclPackets', WHERE WHAT IT READS IS OF BULK AT MOST 1048576: true; the input reads as it did. -/
def aclPacketsUptoRow : OpenClaim := { program := "ythpocifmjeopiaa", sum := "612ba84a09515eb05296021858d6e12dac7d22290835de4c2e846a6b83eeb5de", func := "netverify/netverifylaw7.AclPackets", spec := "aclPackets", unfollowed := true, recurses := true, apart := false, narrowed := true }
def AclPacketsUptoSaid : Prop := aclPacketsUptoRow.holds Try.pinned (OpenSpec.upto aclPacketsSpec)

/-- 'netverifylaw7.AclMatches', WHERE WHAT IT READS IS OF BULK AT MOST 1048576: true; the input reads as it did. -/
def aclMatchesUptoRow : OpenClaim := { program := "ythpocifmjeopiaa", sum := "612ba84a09515eb05296021858d6e12dac7d22290835de4c2e846a6b83eeb5de", func := "netverify/netverifylaw7.AclMatches", spec := "aclMatches", unfollowed := true, recurses := true, apart := false, narrowed := true }
def AclMatchesUptoSaid : Prop := aclMatchesUptoRow.holds Try.pinned (OpenSpec.upto aclMatchesSpec)

/-- 'netverifylaw7.AclPermits', WHERE WHAT IT READS IS OF BULK AT MOST 1048576: true; the input reads as it did. -/
def aclPermitsUptoRow : OpenClaim := { program := "ythpocifmjeopiaa", sum := "612ba84a09515eb05296021858d6e12dac7d22290835de4c2e846a6b83eeb5de", func := "netverify/netverifylaw7.AclPermits", spec := "aclPermits", unfollowed := true, recurses := true, apart := false, narrowed := true }
def AclPermitsUptoSaid : Prop := aclPermitsUptoRow.holds Try.pinned (OpenSpec.upto aclPermitsSpec)

/-- 'netverifylaw7.AclSwap', WHERE WHAT IT READS IS OF BULK AT MOST 1048576: true; the input reads as it did. -/
def aclSwapUptoRow : OpenClaim := { program := "ythpocifmjeopiaa", sum := "612ba84a09515eb05296021858d6e12dac7d22290835de4c2e846a6b83eeb5de", func := "netverify/netverifylaw7.AclSwap", spec := "aclSwap", unfollowed := true, recurses := true, apart := false, narrowed := true }
def AclSwapUptoSaid : Prop := aclSwapUptoRow.holds Try.pinned (OpenSpec.upto aclSwapSpec)

/-- 'netverifylaw7.AclCovers', WHERE WHAT IT READS IS OF BULK AT MOST 1048576: true; the input reads as it did. -/
def aclCoversUptoRow : OpenClaim := { program := "ythpocifmjeopiaa", sum := "612ba84a09515eb05296021858d6e12dac7d22290835de4c2e846a6b83eeb5de", func := "netverify/netverifylaw7.AclCovers", spec := "aclCovers", unfollowed := true, recurses := true, apart := false, narrowed := true }
def AclCoversUptoSaid : Prop := aclCoversUptoRow.holds Try.pinned (OpenSpec.upto aclCoversSpec)

/-- 'netverifylaw7.AclShadowed', WHERE WHAT IT READS IS OF BULK AT MOST 1048576: true; the input reads as it did. -/
def aclShadowedUptoRow : OpenClaim := { program := "ythpocifmjeopiaa", sum := "612ba84a09515eb05296021858d6e12dac7d22290835de4c2e846a6b83eeb5de", func := "netverify/netverifylaw7.AclShadowed", spec := "aclShadowed", unfollowed := true, recurses := true, apart := false, narrowed := true }
def AclShadowedUptoSaid : Prop := aclShadowedUptoRow.holds Try.pinned (OpenSpec.upto aclShadowedSpec)

/-- 'netverifylaw7.AclOrder', WHERE WHAT IT READS IS OF BULK AT MOST 1048576: true; the input reads as it did. -/
def aclOrderUptoRow : OpenClaim := { program := "ythpocifmjeopiaa", sum := "612ba84a09515eb05296021858d6e12dac7d22290835de4c2e846a6b83eeb5de", func := "netverify/netverifylaw7.AclOrder", spec := "aclOrder", unfollowed := true, recurses := true, apart := false, narrowed := true }
def AclOrderUptoSaid : Prop := aclOrderUptoRow.holds Try.pinned (OpenSpec.upto aclOrderSpec)

end Rows
end Go.Proofs.Ythpocifmjeopiaa
