/-
  No cell of these rows narrows 'for every input' (looked for: loops, veiled, ifaces, maps, wideKeys, modest, calm, conditions, laid).
  DERIVED. THE GIVEN ROWS OF THIS SEAT. 5 by the template 'for every input the law returns true; each argument reads behind the call as it read before'; 0 by the template 'total and deterministic' (their statements: YtokhlhnibpakiaaTotals.lean).
  GIVEN WITH THE SEED: the statements are not yours to turn. If you find one false, say at which input.
  Laid BY PROGRAM, IN A SANDBOX (cutbox-rows.mjs): the forced cells as the released guide's own fill.sh prints them over the translation 5db7b772fc5bb828… (all of the seat's roots in one cut). By AI agents, Wed Nov 11 2026. No macro, syntax, notation, axiom, sorry.
-/
import Derived.Test.YtokhlhnibpakiaaChecked
import GoSem.Claim
import GoSem.ClaimJoined
import GoSem.ClaimMapViews
import Derived.JoinedTies
import Derived.KernelRfl
namespace Go.Proofs.Ytokhlhnibpakiaa
/- THE CELL 'sum', in the pinned program and in every row, IS THE sha256 OF THE DUMP (.gsa) THAT YtokhlhnibpakiaaProg.lean LOADS. Nothing in Lean hashes anything: it is a label: what it is worth is what the hold of that sum in a sandbox is worth. -/
noncomputable def Try.pinned : Pinned := { name := "ytokhlhnibpakiaa", sum := "5db7b772fc5bb828df3fe0137289c5f7d81ea4cd2820a1a8516d8d9db1da338e", checked := Try.checked }
namespace Rows
def none {H : Type} : Left H := { results := [], args := [] }

/-- 'netverifylaw11.LintShadowed': WHATEVER THE INPUT: true; the input reads as it did. -/
def lintShadowedSpec : ChangeSpec := { name := "lintShadowed", fn := fun _ => fun
  | [d] => { results := [.lit (.bool true)], args := [d] }
  | _ => none }
def lintShadowedRow : OpenClaim := { program := "ytokhlhnibpakiaa", sum := "5db7b772fc5bb828df3fe0137289c5f7d81ea4cd2820a1a8516d8d9db1da338e", func := "netverify/netverifylaw11.LintShadowed", spec := "lintShadowed", unfollowed := true, recurses := true, apart := false }
def LintShadowedSaid : Prop := lintShadowedRow.holds Try.pinned (OpenSpec.ofChange lintShadowedSpec)

/-- ITS FALSE NEIGHBOUR: 'it returns false'. Refute it at one input. -/
def lintShadowedWrong : ChangeSpec := { name := "lintShadowed", fn := fun _ => fun
  | [d] => { results := [.lit (.bool false)], args := [d] }
  | _ => none }
def LintShadowedWrongFalsely : Prop := lintShadowedRow.holds Try.pinned (OpenSpec.ofChange lintShadowedWrong)

/-- 'netverifylaw11.LintUnused': WHATEVER THE INPUT: true; the input reads as it did. -/
def lintUnusedSpec : ChangeSpec := { name := "lintUnused", fn := fun _ => fun
  | [d] => { results := [.lit (.bool true)], args := [d] }
  | _ => none }
def lintUnusedRow : OpenClaim := { program := "ytokhlhnibpakiaa", sum := "5db7b772fc5bb828df3fe0137289c5f7d81ea4cd2820a1a8516d8d9db1da338e", func := "netverify/netverifylaw11.LintUnused", spec := "lintUnused", unfollowed := true, recurses := true, apart := false }
def LintUnusedSaid : Prop := lintUnusedRow.holds Try.pinned (OpenSpec.ofChange lintUnusedSpec)

/-- ITS FALSE NEIGHBOUR: 'it returns false'. Refute it at one input. -/
def lintUnusedWrong : ChangeSpec := { name := "lintUnused", fn := fun _ => fun
  | [d] => { results := [.lit (.bool false)], args := [d] }
  | _ => none }
def LintUnusedWrongFalsely : Prop := lintUnusedRow.holds Try.pinned (OpenSpec.ofChange lintUnusedWrong)

/-- 'netverifylaw11.LintRemovable': WHATEVER THE INPUT: true; the input reads as it did. -/
def lintRemovableSpec : ChangeSpec := { name := "lintRemovable", fn := fun _ => fun
  | [d1, d2] => { results := [.lit (.bool true)], args := [d1, d2] }
  | _ => none }
def lintRemovableRow : OpenClaim := { program := "ytokhlhnibpakiaa", sum := "5db7b772fc5bb828df3fe0137289c5f7d81ea4cd2820a1a8516d8d9db1da338e", func := "netverify/netverifylaw11.LintRemovable", spec := "lintRemovable", unfollowed := true, recurses := true, apart := false }
def LintRemovableSaid : Prop := lintRemovableRow.holds Try.pinned (OpenSpec.ofChange lintRemovableSpec)

/-- ITS FALSE NEIGHBOUR: 'it returns false'. Refute it at one input. -/
def lintRemovableWrong : ChangeSpec := { name := "lintRemovable", fn := fun _ => fun
  | [d1, d2] => { results := [.lit (.bool false)], args := [d1, d2] }
  | _ => none }
def LintRemovableWrongFalsely : Prop := lintRemovableRow.holds Try.pinned (OpenSpec.ofChange lintRemovableWrong)

/-- 'netverifylaw11.LintPrunes': WHATEVER THE INPUT: true; the input reads as it did. -/
def lintPrunesSpec : ChangeSpec := { name := "lintPrunes", fn := fun _ => fun
  | [d] => { results := [.lit (.bool true)], args := [d] }
  | _ => none }
def lintPrunesRow : OpenClaim := { program := "ytokhlhnibpakiaa", sum := "5db7b772fc5bb828df3fe0137289c5f7d81ea4cd2820a1a8516d8d9db1da338e", func := "netverify/netverifylaw11.LintPrunes", spec := "lintPrunes", unfollowed := true, recurses := true, apart := false }
def LintPrunesSaid : Prop := lintPrunesRow.holds Try.pinned (OpenSpec.ofChange lintPrunesSpec)

/-- ITS FALSE NEIGHBOUR: 'it returns false'. Refute it at one input. -/
def lintPrunesWrong : ChangeSpec := { name := "lintPrunes", fn := fun _ => fun
  | [d] => { results := [.lit (.bool false)], args := [d] }
  | _ => none }
def LintPrunesWrongFalsely : Prop := lintPrunesRow.holds Try.pinned (OpenSpec.ofChange lintPrunesWrong)

/-- 'netverifylaw11.LintNever': WHATEVER THE INPUT: true; the input reads as it did. -/
def lintNeverSpec : ChangeSpec := { name := "lintNever", fn := fun _ => fun
  | [d1, d2] => { results := [.lit (.bool true)], args := [d1, d2] }
  | _ => none }
def lintNeverRow : OpenClaim := { program := "ytokhlhnibpakiaa", sum := "5db7b772fc5bb828df3fe0137289c5f7d81ea4cd2820a1a8516d8d9db1da338e", func := "netverify/netverifylaw11.LintNever", spec := "lintNever", unfollowed := true, recurses := true, apart := false }
def LintNeverSaid : Prop := lintNeverRow.holds Try.pinned (OpenSpec.ofChange lintNeverSpec)

/-- ITS FALSE NEIGHBOUR: 'it returns false'. Refute it at one input. -/
def lintNeverWrong : ChangeSpec := { name := "lintNever", fn := fun _ => fun
  | [d1, d2] => { results := [.lit (.bool false)], args := [d1, d2] }
  | _ => none }
def LintNeverWrongFalsely : Prop := lintNeverRow.holds Try.pinned (OpenSpec.ofChange lintNeverWrong)

/- THE SECOND FORM. 'bulk': how many values and letters a reading holds, each counted each time it is reached (what is shared counts as often as it is met; a slice's spare places count too). A statement '..UptoSaid' is the law's where the arguments, and the package variables that the reading takes, are together of bulk at most 1048576: NARROWER than '..Said'. Prove '..Said' where nothing that the law and all that it calls make is longer than what came in: it says more and counts as full. Else prove '..UptoSaid'. A law counts once. -/
mutual
def uptoBulk {H : Type} : DataW H → Nat
  | .lit (.string bytes) => bytes.length + 1
  | .lit _ => 1
  | .nil => 1
  | .ptr d => uptoBulk d + 1
  | .slice elems spare => uptoBulkAll elems + uptoBulkAll spare + 1
  | .agg parts => uptoBulkAll parts + 1
  | .iface _ d => uptoBulk d + 1
  | .map entries => uptoBulkEntries entries + 1
  | .held _ => 1
def uptoBulkAll {H : Type} : List (DataW H) → Nat
  | [] => 0
  | d :: r => uptoBulk d + uptoBulkAll r
def uptoBulkEntries {H : Type} : List (Lit × DataW H) → Nat
  | [] => 0
  | x :: r => uptoBulkEntry x + uptoBulkEntries r
def uptoBulkEntry {H : Type} : Lit × DataW H → Nat
  | (.string bytes, d) => bytes.length + uptoBulk d + 1
  | (_, d) => uptoBulk d + 1
 end
def uptoSmall : (H : Type) → List (DataW H) → Bool := fun _ ds => decide (uptoBulkAll ds ≤ 1048576)
def OpenSpec.upto (s : _root_.Go.ChangeSpec) : _root_.Go.OpenSpec := { _root_.Go.OpenSpec.ofChange s with cond := some uptoSmall }

/-- 'netverifylaw11.LintShadowed', WHERE WHAT IT READS IS OF BULK AT MOST 1048576: true; the input reads as it did. -/
def lintShadowedUptoRow : OpenClaim := { program := "ytokhlhnibpakiaa", sum := "5db7b772fc5bb828df3fe0137289c5f7d81ea4cd2820a1a8516d8d9db1da338e", func := "netverify/netverifylaw11.LintShadowed", spec := "lintShadowed", unfollowed := true, recurses := true, apart := false, narrowed := true }
def LintShadowedUptoSaid : Prop := lintShadowedUptoRow.holds Try.pinned (OpenSpec.upto lintShadowedSpec)

/-- 'netverifylaw11.LintUnused', WHERE WHAT IT READS IS OF BULK AT MOST 1048576: true; the input reads as it did. -/
def lintUnusedUptoRow : OpenClaim := { program := "ytokhlhnibpakiaa", sum := "5db7b772fc5bb828df3fe0137289c5f7d81ea4cd2820a1a8516d8d9db1da338e", func := "netverify/netverifylaw11.LintUnused", spec := "lintUnused", unfollowed := true, recurses := true, apart := false, narrowed := true }
def LintUnusedUptoSaid : Prop := lintUnusedUptoRow.holds Try.pinned (OpenSpec.upto lintUnusedSpec)

/-- 'netverifylaw11.LintRemovable', WHERE WHAT IT READS IS OF BULK AT MOST 1048576: true; the input reads as it did. -/
def lintRemovableUptoRow : OpenClaim := { program := "ytokhlhnibpakiaa", sum := "5db7b772fc5bb828df3fe0137289c5f7d81ea4cd2820a1a8516d8d9db1da338e", func := "netverify/netverifylaw11.LintRemovable", spec := "lintRemovable", unfollowed := true, recurses := true, apart := false, narrowed := true }
def LintRemovableUptoSaid : Prop := lintRemovableUptoRow.holds Try.pinned (OpenSpec.upto lintRemovableSpec)

/-- 'netverifylaw11.LintPrunes', WHERE WHAT IT READS IS OF BULK AT MOST 1048576: true; the input reads as it did. -/
def lintPrunesUptoRow : OpenClaim := { program := "ytokhlhnibpakiaa", sum := "5db7b772fc5bb828df3fe0137289c5f7d81ea4cd2820a1a8516d8d9db1da338e", func := "netverify/netverifylaw11.LintPrunes", spec := "lintPrunes", unfollowed := true, recurses := true, apart := false, narrowed := true }
def LintPrunesUptoSaid : Prop := lintPrunesUptoRow.holds Try.pinned (OpenSpec.upto lintPrunesSpec)

/-- 'netverifylaw11.LintNever', WHERE WHAT IT READS IS OF BULK AT MOST 1048576: true; the input reads as it did. -/
def lintNeverUptoRow : OpenClaim := { program := "ytokhlhnibpakiaa", sum := "5db7b772fc5bb828df3fe0137289c5f7d81ea4cd2820a1a8516d8d9db1da338e", func := "netverify/netverifylaw11.LintNever", spec := "lintNever", unfollowed := true, recurses := true, apart := false, narrowed := true }
def LintNeverUptoSaid : Prop := lintNeverUptoRow.holds Try.pinned (OpenSpec.upto lintNeverSpec)

end Rows
end Go.Proofs.Ytokhlhnibpakiaa
