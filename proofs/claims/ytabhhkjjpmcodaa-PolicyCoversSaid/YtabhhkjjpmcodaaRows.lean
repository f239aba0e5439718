/-
  No cell of these rows narrows 'for every input' (looked for: loops, veiled, ifaces, maps, wideKeys, modest, calm, conditions, laid).
  DERIVED. THE GIVEN ROWS OF THIS SEAT. 6 by the template 'for every input the law returns true; each argument reads behind the call as it read before'; 0 by the template 'total and deterministic' (their statements: YtabhhkjjpmcodaaTotals.lean).
  GIVEN WITH THE SEED: the statements are not yours to turn. If you find one false, say at which input.
  Laid BY PROGRAM, IN A SANDBOX (cutbox-rows.mjs): the forced cells as the released guide's own fill.sh prints them over the translation 90bc343311c3eabb… (all of the seat's roots in one cut). By AI agents, Wed Nov 11 2026. No macro, syntax, notation, axiom, sorry.
-/
import Derived.Test.YtabhhkjjpmcodaaChecked
import GoSem.Claim
import GoSem.ClaimJoined
import GoSem.ClaimMapViews
import Derived.JoinedTies
import Derived.KernelRfl
namespace Go.Proofs.Ytabhhkjjpmcodaa
/- THE CELL 'sum', in the pinned program and in every row, IS THE sha256 OF THE DUMP (.gsa) THAT YtabhhkjjpmcodaaProg.lean LOADS. Nothing in Lean hashes anything: it is a label: what it is worth is what the hold of that sum in a sandbox is worth. -/
noncomputable def Try.pinned : Pinned := { name := "ytabhhkjjpmcodaa", sum := "90bc343311c3eabb7f39cfacf4b37d6bdf1c9132f6d7fd39331a8d3fd973a195", checked := Try.checked }
namespace Rows
def none {H : Type} : Left H := { results := [], args := [] }

/-- 'netverifylaw6.PolicyMatches': WHATEVER THE INPUT: true; the input reads as it did. -/
def policyMatchesSpec : ChangeSpec := { name := "policyMatches", fn := fun _ => fun
  | [d1, d2] => { results := [.lit (.bool true)], args := [d1, d2] }
  | _ => none }
def policyMatchesRow : OpenClaim := { program := "ytabhhkjjpmcodaa", sum := "90bc343311c3eabb7f39cfacf4b37d6bdf1c9132f6d7fd39331a8d3fd973a195", func := "netverify/netverifylaw6.PolicyMatches", spec := "policyMatches", unfollowed := true, recurses := true, apart := false }
def PolicyMatchesSaid : Prop := policyMatchesRow.holds Try.pinned (OpenSpec.ofChange policyMatchesSpec)

/-- ITS FALSE NEIGHBOUR: 'it returns false'. Refute it at one input. -/
def policyMatchesWrong : ChangeSpec := { name := "policyMatches", fn := fun _ => fun
  | [d1, d2] => { results := [.lit (.bool false)], args := [d1, d2] }
  | _ => none }
def PolicyMatchesWrongFalsely : Prop := policyMatchesRow.holds Try.pinned (OpenSpec.ofChange policyMatchesWrong)

/-- 'netverifylaw6.PolicyPermits': WHATEVER THE INPUT: true; the input reads as it did. -/
def policyPermitsSpec : ChangeSpec := { name := "policyPermits", fn := fun _ => fun
  | [d1, d2, d3] => { results := [.lit (.bool true)], args := [d1, d2, d3] }
  | _ => none }
def policyPermitsRow : OpenClaim := { program := "ytabhhkjjpmcodaa", sum := "90bc343311c3eabb7f39cfacf4b37d6bdf1c9132f6d7fd39331a8d3fd973a195", func := "netverify/netverifylaw6.PolicyPermits", spec := "policyPermits", unfollowed := true, recurses := true, apart := false }
def PolicyPermitsSaid : Prop := policyPermitsRow.holds Try.pinned (OpenSpec.ofChange policyPermitsSpec)

/-- ITS FALSE NEIGHBOUR: 'it returns false'. Refute it at one input. -/
def policyPermitsWrong : ChangeSpec := { name := "policyPermits", fn := fun _ => fun
  | [d1, d2, d3] => { results := [.lit (.bool false)], args := [d1, d2, d3] }
  | _ => none }
def PolicyPermitsWrongFalsely : Prop := policyPermitsRow.holds Try.pinned (OpenSpec.ofChange policyPermitsWrong)

/-- 'netverifylaw6.PolicyApplies': WHATEVER THE INPUT: true; the input reads as it did. -/
def policyAppliesSpec : ChangeSpec := { name := "policyApplies", fn := fun _ => fun
  | [d1, d2, d3] => { results := [.lit (.bool true)], args := [d1, d2, d3] }
  | _ => none }
def policyAppliesRow : OpenClaim := { program := "ytabhhkjjpmcodaa", sum := "90bc343311c3eabb7f39cfacf4b37d6bdf1c9132f6d7fd39331a8d3fd973a195", func := "netverify/netverifylaw6.PolicyApplies", spec := "policyApplies", unfollowed := true, recurses := true, apart := false }
def PolicyAppliesSaid : Prop := policyAppliesRow.holds Try.pinned (OpenSpec.ofChange policyAppliesSpec)

/-- ITS FALSE NEIGHBOUR: 'it returns false'. Refute it at one input. -/
def policyAppliesWrong : ChangeSpec := { name := "policyApplies", fn := fun _ => fun
  | [d1, d2, d3] => { results := [.lit (.bool false)], args := [d1, d2, d3] }
  | _ => none }
def PolicyAppliesWrongFalsely : Prop := policyAppliesRow.holds Try.pinned (OpenSpec.ofChange policyAppliesWrong)

/-- 'netverifylaw6.PolicyKeeps': WHATEVER THE INPUT: true; the input reads as it did. -/
def policyKeepsSpec : ChangeSpec := { name := "policyKeeps", fn := fun _ => fun
  | [d1, d2, d3] => { results := [.lit (.bool true)], args := [d1, d2, d3] }
  | _ => none }
def policyKeepsRow : OpenClaim := { program := "ytabhhkjjpmcodaa", sum := "90bc343311c3eabb7f39cfacf4b37d6bdf1c9132f6d7fd39331a8d3fd973a195", func := "netverify/netverifylaw6.PolicyKeeps", spec := "policyKeeps", unfollowed := true, recurses := true, apart := false }
def PolicyKeepsSaid : Prop := policyKeepsRow.holds Try.pinned (OpenSpec.ofChange policyKeepsSpec)

/-- ITS FALSE NEIGHBOUR: 'it returns false'. Refute it at one input. -/
def policyKeepsWrong : ChangeSpec := { name := "policyKeeps", fn := fun _ => fun
  | [d1, d2, d3] => { results := [.lit (.bool false)], args := [d1, d2, d3] }
  | _ => none }
def PolicyKeepsWrongFalsely : Prop := policyKeepsRow.holds Try.pinned (OpenSpec.ofChange policyKeepsWrong)

/-- 'netverifylaw6.PolicyBehind': WHATEVER THE INPUT: true; the input reads as it did. -/
def policyBehindSpec : ChangeSpec := { name := "policyBehind", fn := fun _ => fun
  | [d1, d2, d3] => { results := [.lit (.bool true)], args := [d1, d2, d3] }
  | _ => none }
def policyBehindRow : OpenClaim := { program := "ytabhhkjjpmcodaa", sum := "90bc343311c3eabb7f39cfacf4b37d6bdf1c9132f6d7fd39331a8d3fd973a195", func := "netverify/netverifylaw6.PolicyBehind", spec := "policyBehind", unfollowed := true, recurses := true, apart := false }
def PolicyBehindSaid : Prop := policyBehindRow.holds Try.pinned (OpenSpec.ofChange policyBehindSpec)

/-- ITS FALSE NEIGHBOUR: 'it returns false'. Refute it at one input. -/
def policyBehindWrong : ChangeSpec := { name := "policyBehind", fn := fun _ => fun
  | [d1, d2, d3] => { results := [.lit (.bool false)], args := [d1, d2, d3] }
  | _ => none }
def PolicyBehindWrongFalsely : Prop := policyBehindRow.holds Try.pinned (OpenSpec.ofChange policyBehindWrong)

/-- 'netverifylaw6.PolicyCovers': WHATEVER THE INPUT: true; the input reads as it did. -/
def policyCoversSpec : ChangeSpec := { name := "policyCovers", fn := fun _ => fun
  | [d1, d2, d3] => { results := [.lit (.bool true)], args := [d1, d2, d3] }
  | _ => none }
def policyCoversRow : OpenClaim := { program := "ytabhhkjjpmcodaa", sum := "90bc343311c3eabb7f39cfacf4b37d6bdf1c9132f6d7fd39331a8d3fd973a195", func := "netverify/netverifylaw6.PolicyCovers", spec := "policyCovers", unfollowed := true, recurses := true, apart := false }
def PolicyCoversSaid : Prop := policyCoversRow.holds Try.pinned (OpenSpec.ofChange policyCoversSpec)

/-- ITS FALSE NEIGHBOUR: 'it returns false'. Refute it at one input. -/
def policyCoversWrong : ChangeSpec := { name := "policyCovers", fn := fun _ => fun
  | [d1, d2, d3] => { results := [.lit (.bool false)], args := [d1, d2, d3] }
  | _ => none }
def PolicyCoversWrongFalsely : Prop := policyCoversRow.holds Try.pinned (OpenSpec.ofChange policyCoversWrong)

/- THE SECOND FORM. 'bulk': how many values and letters a reading holds, each counted each time it is reached (what is shared counts as often as it is met; a slice's spare places count too). A statement '..UptoSaid' is the law's where the arguments, and the package variables that the reading takes, are together of bulk at most 1048576: NARROWER than '..Said'. Prove '..Said' where nothing that the law and all that it calls make is longer than what came in: it says more and counts as full. Else prove '..UptoSaid'. A law counts once. -/
mutual
def uptoBulk {H : Type} : DataW H → Nat
  | .lit (.string bytes) => bytes.length + 1
  | .lit _ => 1
  | .nil => 1
  | .ptr d => uptoBulk d + 1
  | .slice elems spare => uptoBulkAll elems + uptoBulkAll spare + 1
  | .agg parts => uptoBulkAll parts + 1
  | .iface _ d => uptoBulk d + 1
  | .map entries => uptoBulkEntries entries + 1
  | .held _ => 1
def uptoBulkAll {H : Type} : List (DataW H) → Nat
  | [] => 0
  | d :: r => uptoBulk d + uptoBulkAll r
def uptoBulkEntries {H : Type} : List (Lit × DataW H) → Nat
  | [] => 0
  | x :: r => uptoBulkEntry x + uptoBulkEntries r
def uptoBulkEntry {H : Type} : Lit × DataW H → Nat
  | (.string bytes, d) => bytes.length + uptoBulk d + 1
  | (_, d) => uptoBulk d + 1
 end
def uptoSmall : (H : Type) → List (DataW H) → Bool := fun _ ds => decide (uptoBulkAll ds ≤ 1048576)
def OpenSpec.upto (s : _root_.Go.ChangeSpec) : _root_.Go.OpenSpec := { _root_.Go.OpenSpec.ofChange s with cond := some uptoSmall }

/-- 'netverifylaw6.PolicyMatches', WHERE WHAT IT READS IS OF BULK AT MOST 1048576: true; the input reads as it did. -/
def policyMatchesUptoRow : OpenClaim := { program := "ytabhhkjjpmcodaa", sum := "90bc343311c3eabb7f39cfacf4b37d6bdf1c9132f6d7fd39331a8d3fd973a195", func := "netverify/netverifylaw6.PolicyMatches", spec := "policyMatches", unfollowed := true, recurses := true, apart := false, narrowed := true }
def PolicyMatchesUptoSaid : Prop := policyMatchesUptoRow.holds Try.pinned (OpenSpec.upto policyMatchesSpec)

/-- 'netverifylaw6.PolicyPermits', WHERE WHAT IT READS IS OF BULK AT MOST 1048576: true; the input reads as it did. -/
def policyPermitsUptoRow : OpenClaim := { program := "ytabhhkjjpmcodaa", sum := "90bc343311c3eabb7f39cfacf4b37d6bdf1c9132f6d7fd39331a8d3fd973a195", func := "netverify/netverifylaw6.PolicyPermits", spec := "policyPermits", unfollowed := true, recurses := true, apart := false, narrowed := true }
def PolicyPermitsUptoSaid : Prop := policyPermitsUptoRow.holds Try.pinned (OpenSpec.upto policyPermitsSpec)

/-- 'netverifylaw6.PolicyApplies', WHERE WHAT IT READS IS OF BULK AT MOST 1048576: true; the input reads as it did. -/
def policyAppliesUptoRow : OpenClaim := { program := "ytabhhkjjpmcodaa", sum := "90bc343311c3eabb7f39cfacf4b37d6bdf1c9132f6d7fd39331a8d3fd973a195", func := "netverify/netverifylaw6.PolicyApplies", spec := "policyApplies", unfollowed := true, recurses := true, apart := false, narrowed := true }
def PolicyAppliesUptoSaid : Prop := policyAppliesUptoRow.holds Try.pinned (OpenSpec.upto policyAppliesSpec)

/-- 'netverifylaw6.PolicyKeeps', WHERE WHAT IT READS IS OF BULK AT MOST 1048576: true; the input reads as it did. -/
def policyKeepsUptoRow : OpenClaim := { program := "ytabhhkjjpmcodaa", sum := "90bc343311c3eabb7f39cfacf4b37d6bdf1c9132f6d7fd39331a8d3fd973a195", func := "netverify/netverifylaw6.PolicyKeeps", spec := "policyKeeps", unfollowed := true, recurses := true, apart := false, narrowed := true }
def PolicyKeepsUptoSaid : Prop := policyKeepsUptoRow.holds Try.pinned (OpenSpec.upto policyKeepsSpec)

/-- 'netverifylaw6.PolicyBehind', WHERE WHAT IT READS IS OF BULK AT MOST 1048576: true; the input reads as it did. -/
def policyBehindUptoRow : OpenClaim := { program := "ytabhhkjjpmcodaa", sum := "90bc343311c3eabb7f39cfacf4b37d6bdf1c9132f6d7fd39331a8d3fd973a195", func := "netverify/netverifylaw6.PolicyBehind", spec := "policyBehind", unfollowed := true, recurses := true, apart := false, narrowed := true }
def PolicyBehindUptoSaid : Prop := policyBehindUptoRow.holds Try.pinned (OpenSpec.upto policyBehindSpec)

/-- 'netverifylaw6.PolicyCovers', WHERE WHAT IT READS IS OF BULK AT MOST 1048576: true; the input reads as it did. -/
def policyCoversUptoRow : OpenClaim := { program := "ytabhhkjjpmcodaa", sum := "90bc343311c3eabb7f39cfacf4b37d6bdf1c9132f6d7fd39331a8d3fd973a195", func := "netverify/netverifylaw6.PolicyCovers", spec := "policyCovers", unfollowed := true, recurses := true, apart := false, narrowed := true }
def PolicyCoversUptoSaid : Prop := policyCoversUptoRow.holds Try.pinned (OpenSpec.upto policyCoversSpec)

end Rows
end Go.Proofs.Ytabhhkjjpmcodaa
