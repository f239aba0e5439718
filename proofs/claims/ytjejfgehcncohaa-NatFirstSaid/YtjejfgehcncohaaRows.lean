/-
  No cell of these rows narrows 'for every input' (looked for: loops, veiled, ifaces, maps, wideKeys, modest, calm, conditions, laid).
  DERIVED. THE GIVEN ROWS OF THIS SEAT. 5 by the template 'for every input the law returns true; each argument reads behind the call as it read before'; 0 by the template 'total and deterministic' (their statements: YtjejfgehcncohaaTotals.lean).
  GIVEN WITH THE SEED: the statements are not yours to turn. If you find one false, say at which input.
  Laid BY PROGRAM, IN A SANDBOX (cutbox-rows.mjs): the forced cells as the released guide's own fill.sh prints them over the translation 850dbc4ad5d7fa13… (all of the seat's roots in one cut). By AI agents, Wed Nov 11 2026. No macro, syntax, notation, axiom, sorry.
-/
import Derived.Test.YtjejfgehcncohaaChecked
import GoSem.Claim
import GoSem.ClaimJoined
import GoSem.ClaimMapViews
import Derived.JoinedTies
import Derived.KernelRfl
namespace Go.Proofs.Ytjejfgehcncohaa
/- THE CELL 'sum', in the pinned program and in every row, IS THE sha256 OF THE DUMP (.gsa) THAT YtjejfgehcncohaaProg.lean LOADS. Nothing in Lean hashes anything: it is a label: what it is worth is what the hold of that sum in a sandbox is worth. -/
noncomputable def Try.pinned : Pinned := { name := "ytjejfgehcncohaa", sum := "850dbc4ad5d7fa1345befda8ff617a23d3bc3250b52345fb3e7896a2f6fdafe6", checked := Try.checked }
namespace Rows
def none {H : Type} : Left H := { results := [], args := [] }

/-- 'netverifylaw8.NatTranslates': WHATEVER THE INPUT: true; the input reads as it did. -/
def natTranslatesSpec : ChangeSpec := { name := "natTranslates", fn := fun _ => fun
  | [d1, d2, d3] => { results := [.lit (.bool true)], args := [d1, d2, d3] }
  | _ => none }
def natTranslatesRow : OpenClaim := { program := "ytjejfgehcncohaa", sum := "850dbc4ad5d7fa1345befda8ff617a23d3bc3250b52345fb3e7896a2f6fdafe6", func := "netverify/netverifylaw8.NatTranslates", spec := "natTranslates", unfollowed := true, recurses := true, apart := false }
def NatTranslatesSaid : Prop := natTranslatesRow.holds Try.pinned (OpenSpec.ofChange natTranslatesSpec)

/-- ITS FALSE NEIGHBOUR: 'it returns false'. Refute it at one input. -/
def natTranslatesWrong : ChangeSpec := { name := "natTranslates", fn := fun _ => fun
  | [d1, d2, d3] => { results := [.lit (.bool false)], args := [d1, d2, d3] }
  | _ => none }
def NatTranslatesWrongFalsely : Prop := natTranslatesRow.holds Try.pinned (OpenSpec.ofChange natTranslatesWrong)

/-- 'netverifylaw8.NatKeeps': WHATEVER THE INPUT: true; the input reads as it did. -/
def natKeepsSpec : ChangeSpec := { name := "natKeeps", fn := fun _ => fun
  | [d1, d2, d3] => { results := [.lit (.bool true)], args := [d1, d2, d3] }
  | _ => none }
def natKeepsRow : OpenClaim := { program := "ytjejfgehcncohaa", sum := "850dbc4ad5d7fa1345befda8ff617a23d3bc3250b52345fb3e7896a2f6fdafe6", func := "netverify/netverifylaw8.NatKeeps", spec := "natKeeps", unfollowed := true, recurses := true, apart := false }
def NatKeepsSaid : Prop := natKeepsRow.holds Try.pinned (OpenSpec.ofChange natKeepsSpec)

/-- ITS FALSE NEIGHBOUR: 'it returns false'. Refute it at one input. -/
def natKeepsWrong : ChangeSpec := { name := "natKeeps", fn := fun _ => fun
  | [d1, d2, d3] => { results := [.lit (.bool false)], args := [d1, d2, d3] }
  | _ => none }
def NatKeepsWrongFalsely : Prop := natKeepsRow.holds Try.pinned (OpenSpec.ofChange natKeepsWrong)

/-- 'netverifylaw8.NatReply': WHATEVER THE INPUT: true; the input reads as it did. -/
def natReplySpec : ChangeSpec := { name := "natReply", fn := fun _ => fun
  | [d1, d2, d3] => { results := [.lit (.bool true)], args := [d1, d2, d3] }
  | _ => none }
def natReplyRow : OpenClaim := { program := "ytjejfgehcncohaa", sum := "850dbc4ad5d7fa1345befda8ff617a23d3bc3250b52345fb3e7896a2f6fdafe6", func := "netverify/netverifylaw8.NatReply", spec := "natReply", unfollowed := true, recurses := true, apart := false }
def NatReplySaid : Prop := natReplyRow.holds Try.pinned (OpenSpec.ofChange natReplySpec)

/-- ITS FALSE NEIGHBOUR: 'it returns false'. Refute it at one input. -/
def natReplyWrong : ChangeSpec := { name := "natReply", fn := fun _ => fun
  | [d1, d2, d3] => { results := [.lit (.bool false)], args := [d1, d2, d3] }
  | _ => none }
def NatReplyWrongFalsely : Prop := natReplyRow.holds Try.pinned (OpenSpec.ofChange natReplyWrong)

/-- 'netverifylaw8.NatFirst': WHATEVER THE INPUT: true; the input reads as it did. -/
def natFirstSpec : ChangeSpec := { name := "natFirst", fn := fun _ => fun
  | [d1, d2, d3] => { results := [.lit (.bool true)], args := [d1, d2, d3] }
  | _ => none }
def natFirstRow : OpenClaim := { program := "ytjejfgehcncohaa", sum := "850dbc4ad5d7fa1345befda8ff617a23d3bc3250b52345fb3e7896a2f6fdafe6", func := "netverify/netverifylaw8.NatFirst", spec := "natFirst", unfollowed := true, recurses := true, apart := false }
def NatFirstSaid : Prop := natFirstRow.holds Try.pinned (OpenSpec.ofChange natFirstSpec)

/-- ITS FALSE NEIGHBOUR: 'it returns false'. Refute it at one input. -/
def natFirstWrong : ChangeSpec := { name := "natFirst", fn := fun _ => fun
  | [d1, d2, d3] => { results := [.lit (.bool false)], args := [d1, d2, d3] }
  | _ => none }
def NatFirstWrongFalsely : Prop := natFirstRow.holds Try.pinned (OpenSpec.ofChange natFirstWrong)

/-- 'netverifylaw8.NatOwners': WHATEVER THE INPUT: true; the input reads as it did. -/
def natOwnersSpec : ChangeSpec := { name := "natOwners", fn := fun _ => fun
  | [d1, d2, d3] => { results := [.lit (.bool true)], args := [d1, d2, d3] }
  | _ => none }
def natOwnersRow : OpenClaim := { program := "ytjejfgehcncohaa", sum := "850dbc4ad5d7fa1345befda8ff617a23d3bc3250b52345fb3e7896a2f6fdafe6", func := "netverify/netverifylaw8.NatOwners", spec := "natOwners", unfollowed := true, recurses := true, apart := false }
def NatOwnersSaid : Prop := natOwnersRow.holds Try.pinned (OpenSpec.ofChange natOwnersSpec)

/-- ITS FALSE NEIGHBOUR: 'it returns false'. Refute it at one input. -/
def natOwnersWrong : ChangeSpec := { name := "natOwners", fn := fun _ => fun
  | [d1, d2, d3] => { results := [.lit (.bool false)], args := [d1, d2, d3] }
  | _ => none }
def NatOwnersWrongFalsely : Prop := natOwnersRow.holds Try.pinned (OpenSpec.ofChange natOwnersWrong)

/- THE SECOND FORM. 'bulk': how many values and letters a reading holds, each counted each time it is reached (what is shared counts as often as it is met; a slice's spare places count too). A statement '..UptoSaid' is the law's where the arguments, and the package variables that the reading takes, are together of bulk at most 1048576: NARROWER than '..Said'. Prove '..Said' where nothing that the law and all that it calls make is longer than what came in: it says more and counts as full. Else prove '..UptoSaid'. A law counts once. -/
mutual
def uptoBulk {H : Type} : DataW H → Nat
  | .lit (.string bytes) => bytes.length + 1
  | .lit _ => 1
  | .nil => 1
  | .ptr d => uptoBulk d + 1
  | .slice elems spare => uptoBulkAll elems + uptoBulkAll spare + 1
  | .agg parts => uptoBulkAll parts + 1
  | .iface _ d => uptoBulk d + 1
  | .map entries => uptoBulkEntries entries + 1
  | .held _ => 1
def uptoBulkAll {H : Type} : List (DataW H) → Nat
  | [] => 0
  | d :: r => uptoBulk d + uptoBulkAll r
def uptoBulkEntries {H : Type} : List (Lit × DataW H) → Nat
  | [] => 0
  | x :: r => uptoBulkEntry x + uptoBulkEntries r
def uptoBulkEntry {H : Type} : Lit × DataW H → Nat
  | (.string bytes, d) => bytes.length + uptoBulk d + 1
  | (_, d) => uptoBulk d + 1
 end
def uptoSmall : (H : Type) → List (DataW H) → Bool := fun _ ds => decide (uptoBulkAll ds ≤ 1048576)
def OpenSpec.upto (s : _root_.Go.ChangeSpec) : _root_.Go.OpenSpec := { _root_.Go.OpenSpec.ofChange s with cond := some uptoSmall }

/-- 'netverifylaw8.NatTranslates', WHERE WHAT IT READS IS OF BULK AT MOST 1048576: true; the input reads as it did. -/
def natTranslatesUptoRow : OpenClaim := { program := "ytjejfgehcncohaa", sum := "850dbc4ad5d7fa1345befda8ff617a23d3bc3250b52345fb3e7896a2f6fdafe6", func := "netverify/netverifylaw8.NatTranslates", spec := "natTranslates", unfollowed := true, recurses := true, apart := false, narrowed := true }
def NatTranslatesUptoSaid : Prop := natTranslatesUptoRow.holds Try.pinned (OpenSpec.upto natTranslatesSpec)

/-- 'netverifylaw8.NatKeeps', WHERE WHAT IT READS IS OF BULK AT MOST 1048576: true; the input reads as it did. -/
def natKeepsUptoRow : OpenClaim := { program := "ytjejfgehcncohaa", sum := "850dbc4ad5d7fa1345befda8ff617a23d3bc3250b52345fb3e7896a2f6fdafe6", func := "netverify/netverifylaw8.NatKeeps", spec := "natKeeps", unfollowed := true, recurses := true, apart := false, narrowed := true }
def NatKeepsUptoSaid : Prop := natKeepsUptoRow.holds Try.pinned (OpenSpec.upto natKeepsSpec)

/-- 'netverifylaw8.NatReply', WHERE WHAT IT READS IS OF BULK AT MOST 1048576: true; the input reads as it did. -/
def natReplyUptoRow : OpenClaim := { program := "ytjejfgehcncohaa", sum := "850dbc4ad5d7fa1345befda8ff617a23d3bc3250b52345fb3e7896a2f6fdafe6", func := "netverify/netverifylaw8.NatReply", spec := "natReply", unfollowed := true, recurses := true, apart := false, narrowed := true }
def NatReplyUptoSaid : Prop := natReplyUptoRow.holds Try.pinned (OpenSpec.upto natReplySpec)

/-- 'netverifylaw8.NatFirst', WHERE WHAT IT READS IS OF BULK AT MOST 1048576: true; the input reads as it did. -/
def natFirstUptoRow : OpenClaim := { program := "ytjejfgehcncohaa", sum := "850dbc4ad5d7fa1345befda8ff617a23d3bc3250b52345fb3e7896a2f6fdafe6", func := "netverify/netverifylaw8.NatFirst", spec := "natFirst", unfollowed := true, recurses := true, apart := false, narrowed := true }
def NatFirstUptoSaid : Prop := natFirstUptoRow.holds Try.pinned (OpenSpec.upto natFirstSpec)

/-- 'netverifylaw8.NatOwners', WHERE WHAT IT READS IS OF BULK AT MOST 1048576: true; the input reads as it did. -/
def natOwnersUptoRow : OpenClaim := { program := "ytjejfgehcncohaa", sum := "850dbc4ad5d7fa1345befda8ff617a23d3bc3250b52345fb3e7896a2f6fdafe6", func := "netverify/netverifylaw8.NatOwners", spec := "natOwners", unfollowed := true, recurses := true, apart := false, narrowed := true }
def NatOwnersUptoSaid : Prop := natOwnersUptoRow.holds Try.pinned (OpenSpec.upto natOwnersSpec)

end Rows
end Go.Proofs.Ytjejfgehcncohaa
