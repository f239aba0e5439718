/-
  NARROWER THAN 'FOR EVERY INPUT', by the rows' own cells (each row's printed sentence says how): MinsatMinimum: laid · MinsatCore: laid · MinsatLarge: laid · MinsatUnits: laid · MinsatChecks: laid.
  DERIVED. THE GIVEN ROWS OF THIS SEAT. 5 by the template 'for every input the law returns true; each argument reads behind the call as it read before'; 0 by the template 'total and deterministic' (their statements: YtilbcgklkdkkdaaDoorTotals.lean).
  GIVEN WITH THE SEED: the statements are not yours to turn. If you find one false, say at which input.
  Laid BY PROGRAM, IN A SANDBOX (cutbox-rows.mjs): the forced cells as the released guide's own fill.sh prints them over the translation 0bc648c9c5484f73… (all of the seat's roots in one cut). By AI agents, Wed Nov 11 2026. No macro, syntax, notation, axiom, sorry.
-/
import Derived.Test.YtilbcgklkdkkdaaDoorChecked
import GoSem.Claim
import GoSem.ClaimJoined
import GoSem.ClaimMapViews
import Derived.JoinedTies
import Derived.KernelRfl
namespace Go.Proofs.YtilbcgklkdkkdaaDoor
/- THE CELL 'sum', in the pinned program and in every row, IS THE sha256 OF THE DUMP (.gsa) THAT YtilbcgklkdkkdaaDoorProg.lean LOADS. Nothing in Lean hashes anything: it is a label: what it is worth is what the hold of that sum in a sandbox is worth. -/
noncomputable def Tryd.pinned : Pinned := { name := "ytilbcgklkdkkdaadoor", sum := "0bc648c9c5484f732c899707c86ceda5de9f5f5ef6fe05cc3e8fceabeb5d8db7", checked := Tryd.checked }
namespace Rows
def none {H : Type} : Left H := { results := [], args := [] }

/- WHAT THE LISTED PACKAGE-LEVEL VARIABLES READ AS WHEN THE CALL BEGINS. Each datum BY PROGRAM (the guide's laid-datum.mjs) off the statement by which the dump's own 'gosem.cut.vars' lays the variable. In a bare row this is a premise. The card (YtilbcgklkdkkdaaDoorCards.lean) ties it to the program's text. -/
def laid_math_bits_deBruijn32tab {H : Type} : DataW H := .agg [.lit (.int .u8 0), .lit (.int .u8 1), .lit (.int .u8 28), .lit (.int .u8 2), .lit (.int .u8 29), .lit (.int .u8 14), .lit (.int .u8 24), .lit (.int .u8 3), .lit (.int .u8 30), .lit (.int .u8 22), .lit (.int .u8 20), .lit (.int .u8 15), .lit (.int .u8 25), .lit (.int .u8 17), .lit (.int .u8 4), .lit (.int .u8 8), .lit (.int .u8 31), .lit (.int .u8 27), .lit (.int .u8 13), .lit (.int .u8 23), .lit (.int .u8 21), .lit (.int .u8 19), .lit (.int .u8 16), .lit (.int .u8 7), .lit (.int .u8 26), .lit (.int .u8 12), .lit (.int .u8 18), .lit (.int .u8 6), .lit (.int .u8 11), .lit (.int .u8 5), .lit (.int .u8 10), .lit (.int .u8 9)]

/-- 'netverifylaw43.MinsatMinimum': WHATEVER THE INPUT: true; the input reads as it did. -/
def minsatMinimumSpec : ChangeSpec := { name := "minsatMinimum", fn := fun _ => fun
  | [d1, d2, d3] => { results := [.lit (.bool true)], args := [d1, d2, d3] }
  | _ => none }
def minsatMinimumRow : OpenClaim := { program := "ytilbcgklkdkkdaadoor", sum := "0bc648c9c5484f732c899707c86ceda5de9f5f5ef6fe05cc3e8fceabeb5d8db7", func := "netverify/netverifylaw43.MinsatMinimum", spec := "minsatMinimum", unfollowed := true, recurses := true, named := ["math/bits.deBruijn32tab"], apart := false, laid := [("math/bits.deBruijn32tab", laid_math_bits_deBruijn32tab)] }
def MinsatMinimumSaid : Prop := minsatMinimumRow.holds Tryd.pinned (OpenSpec.ofChange minsatMinimumSpec)

/-- ITS FALSE NEIGHBOUR: 'it returns false'. Refute it at one input. -/
def minsatMinimumWrong : ChangeSpec := { name := "minsatMinimum", fn := fun _ => fun
  | [d1, d2, d3] => { results := [.lit (.bool false)], args := [d1, d2, d3] }
  | _ => none }
def MinsatMinimumWrongFalsely : Prop := minsatMinimumRow.holds Tryd.pinned (OpenSpec.ofChange minsatMinimumWrong)

/-- 'netverifylaw43.MinsatCore': WHATEVER THE INPUT: true; the input reads as it did. -/
def minsatCoreSpec : ChangeSpec := { name := "minsatCore", fn := fun _ => fun
  | [d1, d2, d3] => { results := [.lit (.bool true)], args := [d1, d2, d3] }
  | _ => none }
def minsatCoreRow : OpenClaim := { program := "ytilbcgklkdkkdaadoor", sum := "0bc648c9c5484f732c899707c86ceda5de9f5f5ef6fe05cc3e8fceabeb5d8db7", func := "netverify/netverifylaw43.MinsatCore", spec := "minsatCore", unfollowed := true, recurses := true, named := ["math/bits.deBruijn32tab"], apart := false, laid := [("math/bits.deBruijn32tab", laid_math_bits_deBruijn32tab)] }
def MinsatCoreSaid : Prop := minsatCoreRow.holds Tryd.pinned (OpenSpec.ofChange minsatCoreSpec)

/-- ITS FALSE NEIGHBOUR: 'it returns false'. Refute it at one input. -/
def minsatCoreWrong : ChangeSpec := { name := "minsatCore", fn := fun _ => fun
  | [d1, d2, d3] => { results := [.lit (.bool false)], args := [d1, d2, d3] }
  | _ => none }
def MinsatCoreWrongFalsely : Prop := minsatCoreRow.holds Tryd.pinned (OpenSpec.ofChange minsatCoreWrong)

/-- 'netverifylaw43.MinsatLarge': WHATEVER THE INPUT: true; the input reads as it did. -/
def minsatLargeSpec : ChangeSpec := { name := "minsatLarge", fn := fun _ => fun
  | [d1, d2, d3, d4] => { results := [.lit (.bool true)], args := [d1, d2, d3, d4] }
  | _ => none }
def minsatLargeRow : OpenClaim := { program := "ytilbcgklkdkkdaadoor", sum := "0bc648c9c5484f732c899707c86ceda5de9f5f5ef6fe05cc3e8fceabeb5d8db7", func := "netverify/netverifylaw43.MinsatLarge", spec := "minsatLarge", unfollowed := true, recurses := true, named := ["math/bits.deBruijn32tab"], apart := false, laid := [("math/bits.deBruijn32tab", laid_math_bits_deBruijn32tab)] }
def MinsatLargeSaid : Prop := minsatLargeRow.holds Tryd.pinned (OpenSpec.ofChange minsatLargeSpec)

/-- ITS FALSE NEIGHBOUR: 'it returns false'. Refute it at one input. -/
def minsatLargeWrong : ChangeSpec := { name := "minsatLarge", fn := fun _ => fun
  | [d1, d2, d3, d4] => { results := [.lit (.bool false)], args := [d1, d2, d3, d4] }
  | _ => none }
def MinsatLargeWrongFalsely : Prop := minsatLargeRow.holds Tryd.pinned (OpenSpec.ofChange minsatLargeWrong)

/-- 'netverifylaw43.MinsatUnits': WHATEVER THE INPUT: true; the input reads as it did. -/
def minsatUnitsSpec : ChangeSpec := { name := "minsatUnits", fn := fun _ => fun
  | [d1, d2, d3] => { results := [.lit (.bool true)], args := [d1, d2, d3] }
  | _ => none }
def minsatUnitsRow : OpenClaim := { program := "ytilbcgklkdkkdaadoor", sum := "0bc648c9c5484f732c899707c86ceda5de9f5f5ef6fe05cc3e8fceabeb5d8db7", func := "netverify/netverifylaw43.MinsatUnits", spec := "minsatUnits", unfollowed := true, recurses := true, named := ["math/bits.deBruijn32tab"], apart := false, laid := [("math/bits.deBruijn32tab", laid_math_bits_deBruijn32tab)] }
def MinsatUnitsSaid : Prop := minsatUnitsRow.holds Tryd.pinned (OpenSpec.ofChange minsatUnitsSpec)

/-- ITS FALSE NEIGHBOUR: 'it returns false'. Refute it at one input. -/
def minsatUnitsWrong : ChangeSpec := { name := "minsatUnits", fn := fun _ => fun
  | [d1, d2, d3] => { results := [.lit (.bool false)], args := [d1, d2, d3] }
  | _ => none }
def MinsatUnitsWrongFalsely : Prop := minsatUnitsRow.holds Tryd.pinned (OpenSpec.ofChange minsatUnitsWrong)

/-- 'netverifylaw43.MinsatChecks': WHATEVER THE INPUT: true; the input reads as it did. -/
def minsatChecksSpec : ChangeSpec := { name := "minsatChecks", fn := fun _ => fun
  | [d1, d2, d3] => { results := [.lit (.bool true)], args := [d1, d2, d3] }
  | _ => none }
def minsatChecksRow : OpenClaim := { program := "ytilbcgklkdkkdaadoor", sum := "0bc648c9c5484f732c899707c86ceda5de9f5f5ef6fe05cc3e8fceabeb5d8db7", func := "netverify/netverifylaw43.MinsatChecks", spec := "minsatChecks", unfollowed := true, recurses := true, named := ["math/bits.deBruijn32tab"], apart := false, laid := [("math/bits.deBruijn32tab", laid_math_bits_deBruijn32tab)] }
def MinsatChecksSaid : Prop := minsatChecksRow.holds Tryd.pinned (OpenSpec.ofChange minsatChecksSpec)

/-- ITS FALSE NEIGHBOUR: 'it returns false'. Refute it at one input. -/
def minsatChecksWrong : ChangeSpec := { name := "minsatChecks", fn := fun _ => fun
  | [d1, d2, d3] => { results := [.lit (.bool false)], args := [d1, d2, d3] }
  | _ => none }
def MinsatChecksWrongFalsely : Prop := minsatChecksRow.holds Tryd.pinned (OpenSpec.ofChange minsatChecksWrong)

/- THE SECOND FORM. 'bulk': how many values and letters a reading holds, each counted each time it is reached (what is shared counts as often as it is met; a slice's spare places count too). A statement '..UptoSaid' is the law's where the arguments, and the package variables that the reading takes, are together of bulk at most 1048576: NARROWER than '..Said'. Prove '..Said' where nothing that the law and all that it calls make is longer than what came in: it says more and counts as full. Else prove '..UptoSaid'. A law counts once. -/
mutual
def uptoBulk {H : Type} : DataW H → Nat
  | .lit (.string bytes) => bytes.length + 1
  | .lit _ => 1
  | .nil => 1
  | .ptr d => uptoBulk d + 1
  | .slice elems spare => uptoBulkAll elems + uptoBulkAll spare + 1
  | .agg parts => uptoBulkAll parts + 1
  | .iface _ d => uptoBulk d + 1
  | .map entries => uptoBulkEntries entries + 1
  | .held _ => 1
def uptoBulkAll {H : Type} : List (DataW H) → Nat
  | [] => 0
  | d :: r => uptoBulk d + uptoBulkAll r
def uptoBulkEntries {H : Type} : List (Lit × DataW H) → Nat
  | [] => 0
  | x :: r => uptoBulkEntry x + uptoBulkEntries r
def uptoBulkEntry {H : Type} : Lit × DataW H → Nat
  | (.string bytes, d) => bytes.length + uptoBulk d + 1
  | (_, d) => uptoBulk d + 1
 end
def uptoSmall : (H : Type) → List (DataW H) → Bool := fun _ ds => decide (uptoBulkAll ds ≤ 1048576)
def OpenSpec.upto (s : _root_.Go.ChangeSpec) : _root_.Go.OpenSpec := { _root_.Go.OpenSpec.ofChange s with cond := some uptoSmall }

/-- 'netverifylaw43.MinsatMinimum', WHERE WHAT IT READS IS OF BULK AT MOST 1048576: true; the input reads as it did. -/
def minsatMinimumUptoRow : OpenClaim := { program := "ytilbcgklkdkkdaadoor", sum := "0bc648c9c5484f732c899707c86ceda5de9f5f5ef6fe05cc3e8fceabeb5d8db7", func := "netverify/netverifylaw43.MinsatMinimum", spec := "minsatMinimum", unfollowed := true, recurses := true, named := ["math/bits.deBruijn32tab"], apart := false, laid := [("math/bits.deBruijn32tab", laid_math_bits_deBruijn32tab)], narrowed := true }
def MinsatMinimumUptoSaid : Prop := minsatMinimumUptoRow.holds Tryd.pinned (OpenSpec.upto minsatMinimumSpec)

/-- 'netverifylaw43.MinsatCore', WHERE WHAT IT READS IS OF BULK AT MOST 1048576: true; the input reads as it did. -/
def minsatCoreUptoRow : OpenClaim := { program := "ytilbcgklkdkkdaadoor", sum := "0bc648c9c5484f732c899707c86ceda5de9f5f5ef6fe05cc3e8fceabeb5d8db7", func := "netverify/netverifylaw43.MinsatCore", spec := "minsatCore", unfollowed := true, recurses := true, named := ["math/bits.deBruijn32tab"], apart := false, laid := [("math/bits.deBruijn32tab", laid_math_bits_deBruijn32tab)], narrowed := true }
def MinsatCoreUptoSaid : Prop := minsatCoreUptoRow.holds Tryd.pinned (OpenSpec.upto minsatCoreSpec)

/-- 'netverifylaw43.MinsatLarge', WHERE WHAT IT READS IS OF BULK AT MOST 1048576: true; the input reads as it did. -/
def minsatLargeUptoRow : OpenClaim := { program := "ytilbcgklkdkkdaadoor", sum := "0bc648c9c5484f732c899707c86ceda5de9f5f5ef6fe05cc3e8fceabeb5d8db7", func := "netverify/netverifylaw43.MinsatLarge", spec := "minsatLarge", unfollowed := true, recurses := true, named := ["math/bits.deBruijn32tab"], apart := false, laid := [("math/bits.deBruijn32tab", laid_math_bits_deBruijn32tab)], narrowed := true }
def MinsatLargeUptoSaid : Prop := minsatLargeUptoRow.holds Tryd.pinned (OpenSpec.upto minsatLargeSpec)

/-- 'netverifylaw43.MinsatUnits', WHERE WHAT IT READS IS OF BULK AT MOST 1048576: true; the input reads as it did. -/
def minsatUnitsUptoRow : OpenClaim := { program := "ytilbcgklkdkkdaadoor", sum := "0bc648c9c5484f732c899707c86ceda5de9f5f5ef6fe05cc3e8fceabeb5d8db7", func := "netverify/netverifylaw43.MinsatUnits", spec := "minsatUnits", unfollowed := true, recurses := true, named := ["math/bits.deBruijn32tab"], apart := false, laid := [("math/bits.deBruijn32tab", laid_math_bits_deBruijn32tab)], narrowed := true }
def MinsatUnitsUptoSaid : Prop := minsatUnitsUptoRow.holds Tryd.pinned (OpenSpec.upto minsatUnitsSpec)

/-- 'netverifylaw43.MinsatChecks', WHERE WHAT IT READS IS OF BULK AT MOST 1048576: true; the input reads as it did. -/
def minsatChecksUptoRow : OpenClaim := { program := "ytilbcgklkdkkdaadoor", sum := "0bc648c9c5484f732c899707c86ceda5de9f5f5ef6fe05cc3e8fceabeb5d8db7", func := "netverify/netverifylaw43.MinsatChecks", spec := "minsatChecks", unfollowed := true, recurses := true, named := ["math/bits.deBruijn32tab"], apart := false, laid := [("math/bits.deBruijn32tab", laid_math_bits_deBruijn32tab)], narrowed := true }
def MinsatChecksUptoSaid : Prop := minsatChecksUptoRow.holds Tryd.pinned (OpenSpec.upto minsatChecksSpec)

end Rows
end Go.Proofs.YtilbcgklkdkkdaaDoor
