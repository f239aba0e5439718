/-
  The schemas of the types.
-/
import Derived.Test.YthjhlpbiljpccaaAmTree
namespace Go.Proofs.Ythjhlpbiljpccaa
open Go Go.AM
set_option maxRecDepth 100000
abbrev oI (d : Nat) (o : AOp) : AOper := .mk (some d) none o
abbrev PrefixS : Sch := .cons (.int .u32) (.cons (.int .i64) .nil)
abbrev PrefixT := Int × Int × Unit
def PrefixD : PrefixT := Sch.dflt PrefixS
abbrev TableEntryS : Sch := .cons (.int .u32) (.cons (.int .i64) (.cons (.int .i64) .nil))
abbrev TableEntryT := Int × Int × Int × Unit
def TableEntryD : TableEntryT := Sch.dflt TableEntryS
abbrev TableS : Sch := .cons (.sl TableEntryS) .nil
abbrev TableT := (List TableEntryT) × Unit
def TableD : TableT := Sch.dflt TableS
abbrev ActS : Sch := .cons (.int .i64) (.cons (.int .u32) (.cons (.int .i64) (.cons (.int .i64) (.cons (.int .u32) .nil))))
abbrev ActT := Int × Int × Int × Int × Int × Unit
def ActD : ActT := Sch.dflt ActS
abbrev I64S : Sch := .cons (.int .i64) .nil
abbrev I64T := Int × Unit
def I64D : I64T := Sch.dflt I64S
abbrev U32S : Sch := .cons (.int .u32) .nil
abbrev U32T := Int × Unit
def U32D : U32T := Sch.dflt U32S
abbrev U8S : Sch := .cons (.int .u8) .nil
abbrev U8T := Int × Unit
def U8D : U8T := Sch.dflt U8S
abbrev StrS : Sch := .cons .str .nil
abbrev StrT := (List UInt8) × Unit
def StrD : StrT := Sch.dflt StrS
abbrev BooS : Sch := .cons .bool .nil
abbrev BooT := Bool × Unit
def BooD : BooT := Sch.dflt BooS
abbrev Prefix_Addr (x : PrefixT) : Int := x.1
abbrev Prefix_Len (x : PrefixT) : Int := x.2.1
abbrev TableEntry_Prefix (x : TableEntryT) : PrefixT := (x.1, x.2.1, ())
abbrev TableEntry_Value (x : TableEntryT) : Int := x.2.2.1
abbrev Table_L (x : TableT) : List TableEntryT := x.1
abbrev Act_Kind (x : ActT) : Int := x.1
abbrev Act_P (x : ActT) : PrefixT := (x.2.1, x.2.2.1, ())
abbrev Act_V (x : ActT) : Int := x.2.2.2.1
abbrev Act_A (x : ActT) : Int := x.2.2.2.2.1
end Go.Proofs.Ythjhlpbiljpccaa
