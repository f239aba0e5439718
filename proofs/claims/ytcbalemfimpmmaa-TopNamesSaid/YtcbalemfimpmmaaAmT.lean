/-
  The schemas of the types.
-/
import Derived.Test.YtcbalemfimpmmaaAmLib
namespace Go.Proofs.Ytcbalemfimpmmaa
open Go Go.AM
set_option maxRecDepth 100000
abbrev I64S : Sch := .cons (.int .i64) .nil
abbrev I64T := Int × Unit
def I64D : I64T := Sch.dflt I64S
abbrev U32S : Sch := .cons (.int .u32) .nil
abbrev U32T := Int × Unit
def U32D : U32T := Sch.dflt U32S
abbrev U8S : Sch := .cons (.int .u8) .nil
abbrev U8T := Int × Unit
def U8D : U8T := Sch.dflt U8S
abbrev StrS : Sch := .cons .str .nil
abbrev StrT := (List UInt8) × Unit
def StrD : StrT := Sch.dflt StrS
abbrev BooS : Sch := .cons .bool .nil
abbrev BooT := Bool × Unit
def BooD : BooT := Sch.dflt BooS
abbrev Ti64i64S : Sch := .cons (.int .i64) (.cons (.int .i64) .nil)
abbrev Ti64i64T := Int × Int × Unit
def Ti64i64D : Ti64i64T := Sch.dflt Ti64i64S

end Go.Proofs.Ytcbalemfimpmmaa
