/-
  The schemas of the types.
-/
import Derived.Test.YtilbcgklkdkkdaaDoorAmSet32
namespace Go.Proofs.YtilbcgklkdkkdaaDoor
open Go Go.AM
set_option maxRecDepth 100000
abbrev oI (d : Nat) (o : AOp) : AOper := .mk (some d) none o
abbrev Ti64S : Sch := .cons (.int .i64) .nil
abbrev Ti64T := Int × Unit
def Ti64D : Ti64T := Sch.dflt Ti64S
abbrev ConstraintS : Sch := .cons (.sl Ti64S) (.cons (.sl Ti64S) .nil)
abbrev ConstraintT := (List Ti64T) × (List Ti64T) × Unit
def ConstraintD : ConstraintT := Sch.dflt ConstraintS
abbrev clauseS : Sch := .cons (.int .u32) (.cons (.int .u32) .nil)
abbrev clauseT := Int × Int × Unit
def clauseD : clauseT := Sch.dflt clauseS
abbrev searchS : Sch := .cons (.int .i64) (.cons (.sl clauseS) .nil)
abbrev searchT := Int × (List clauseT) × Unit
def searchD : searchT := Sch.dflt searchS
abbrev U32S : Sch := .cons (.int .u32) .nil
abbrev U32T := Int × Unit
def U32D : U32T := Sch.dflt U32S
abbrev U8S : Sch := .cons (.int .u8) .nil
abbrev U8T := Int × Unit
def U8D : U8T := Sch.dflt U8S
abbrev StrS : Sch := .cons .str .nil
abbrev StrT := (List UInt8) × Unit
def StrD : StrT := Sch.dflt StrS
abbrev BooS : Sch := .cons .bool .nil
abbrev BooT := Bool × Unit
def BooD : BooT := Sch.dflt BooS
abbrev TMS : Sch := .cons .mp .nil
abbrev TMT := (List Int) × Unit
def TMD : TMT := Sch.dflt TMS
abbrev Constraint_In (x : ConstraintT) : List Ti64T := x.1
abbrev Constraint_Out (x : ConstraintT) : List Ti64T := x.2.1
abbrev search_n (x : searchT) : Int := x.1
abbrev search_clauses (x : searchT) : List clauseT := x.2.1
abbrev clause_in (x : clauseT) : Int := x.1
abbrev clause_out (x : clauseT) : Int := x.2.1
def gtab0 : List Int := [0, 1, 28, 2, 29, 14, 24, 3, 30, 22, 20, 15, 25, 17, 4, 8, 31, 27, 13, 23, 21, 19, 16, 7, 26, 12, 18, 6, 11, 5, 10, 9]
end Go.Proofs.YtilbcgklkdkkdaaDoor
