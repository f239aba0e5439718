/-
  DERIVED. GIVEN WITH THE SEED: THE CARDS: each row of YtilbcgklkdkkdaaDoorRows.lean that lists a variable, with what it lists TIED to the program's text (the seventh form; the later family's looks); each row that meets fmt, with fmt's text TOLD by the authors' own Lean function (tested against real Go, not proved from fmt's source: count such statements apart). THE CARD IS WHAT COUNTS. Prove the row's statement (the work); the ties are given (YtilbcgklkdkkdaaDoorTie.lean); close each card by the builder's one call (the guide's Derived/Test/ToyasCard.lean, 'card_holds'). Laid BY PROGRAM, IN A SANDBOX (cutbox-door.mjs). By AI agents, Wed Nov 11 2026. No macro, syntax, notation, axiom, sorry.
-/
import Derived.Test.YtilbcgklkdkkdaaDoorRows
import GoSem.ClaimSeven
namespace Go.Proofs.YtilbcgklkdkkdaaDoor
namespace Rows

/-- THE TIED CARD OF 'netverifylaw43.MinsatMinimum'. -/
def minsatMinimumCard : Claim7 := { stood := { row := minsatMinimumRow, standIns := [], harness := (true, "072b1b42b95cc5323f9b1403f08a04031188f2b79d38e9ba900fbe0885011016"), looks := false }, kinds := [], alts := [], laidByText := true, laidKinds := [.data], laidTests := true, laidLooks := .later }
def MinsatMinimumCardSaid : Prop := Claim7.holds Tryd.pinned (.plain (OpenSpec.ofChange minsatMinimumSpec)) minsatMinimumCard

/-- THE TIED CARD OF 'netverifylaw43.MinsatCore'. -/
def minsatCoreCard : Claim7 := { stood := { row := minsatCoreRow, standIns := [], harness := (true, "072b1b42b95cc5323f9b1403f08a04031188f2b79d38e9ba900fbe0885011016"), looks := false }, kinds := [], alts := [], laidByText := true, laidKinds := [.data], laidTests := true, laidLooks := .later }
def MinsatCoreCardSaid : Prop := Claim7.holds Tryd.pinned (.plain (OpenSpec.ofChange minsatCoreSpec)) minsatCoreCard

/-- THE TIED CARD OF 'netverifylaw43.MinsatLarge'. -/
def minsatLargeCard : Claim7 := { stood := { row := minsatLargeRow, standIns := [], harness := (true, "072b1b42b95cc5323f9b1403f08a04031188f2b79d38e9ba900fbe0885011016"), looks := false }, kinds := [], alts := [], laidByText := true, laidKinds := [.data], laidTests := true, laidLooks := .later }
def MinsatLargeCardSaid : Prop := Claim7.holds Tryd.pinned (.plain (OpenSpec.ofChange minsatLargeSpec)) minsatLargeCard

/-- THE TIED CARD OF 'netverifylaw43.MinsatUnits'. -/
def minsatUnitsCard : Claim7 := { stood := { row := minsatUnitsRow, standIns := [], harness := (true, "072b1b42b95cc5323f9b1403f08a04031188f2b79d38e9ba900fbe0885011016"), looks := false }, kinds := [], alts := [], laidByText := true, laidKinds := [.data], laidTests := true, laidLooks := .later }
def MinsatUnitsCardSaid : Prop := Claim7.holds Tryd.pinned (.plain (OpenSpec.ofChange minsatUnitsSpec)) minsatUnitsCard

/-- THE TIED CARD OF 'netverifylaw43.MinsatChecks'. -/
def minsatChecksCard : Claim7 := { stood := { row := minsatChecksRow, standIns := [], harness := (true, "072b1b42b95cc5323f9b1403f08a04031188f2b79d38e9ba900fbe0885011016"), looks := false }, kinds := [], alts := [], laidByText := true, laidKinds := [.data], laidTests := true, laidLooks := .later }
def MinsatChecksCardSaid : Prop := Claim7.holds Tryd.pinned (.plain (OpenSpec.ofChange minsatChecksSpec)) minsatChecksCard

/-- THE SECOND FORM's CARD OF 'netverifylaw43.MinsatMinimum'. -/
def minsatMinimumUptoCard : Claim7 := { stood := { row := minsatMinimumUptoRow, standIns := [], harness := (true, "072b1b42b95cc5323f9b1403f08a04031188f2b79d38e9ba900fbe0885011016"), looks := false }, kinds := [], alts := [], laidByText := true, laidKinds := [.data], laidTests := true, laidLooks := .later }
def MinsatMinimumUptoCardSaid : Prop := Claim7.holds Tryd.pinned (.plain (OpenSpec.upto minsatMinimumSpec)) minsatMinimumUptoCard

/-- THE SECOND FORM's CARD OF 'netverifylaw43.MinsatCore'. -/
def minsatCoreUptoCard : Claim7 := { stood := { row := minsatCoreUptoRow, standIns := [], harness := (true, "072b1b42b95cc5323f9b1403f08a04031188f2b79d38e9ba900fbe0885011016"), looks := false }, kinds := [], alts := [], laidByText := true, laidKinds := [.data], laidTests := true, laidLooks := .later }
def MinsatCoreUptoCardSaid : Prop := Claim7.holds Tryd.pinned (.plain (OpenSpec.upto minsatCoreSpec)) minsatCoreUptoCard

/-- THE SECOND FORM's CARD OF 'netverifylaw43.MinsatLarge'. -/
def minsatLargeUptoCard : Claim7 := { stood := { row := minsatLargeUptoRow, standIns := [], harness := (true, "072b1b42b95cc5323f9b1403f08a04031188f2b79d38e9ba900fbe0885011016"), looks := false }, kinds := [], alts := [], laidByText := true, laidKinds := [.data], laidTests := true, laidLooks := .later }
def MinsatLargeUptoCardSaid : Prop := Claim7.holds Tryd.pinned (.plain (OpenSpec.upto minsatLargeSpec)) minsatLargeUptoCard

/-- THE SECOND FORM's CARD OF 'netverifylaw43.MinsatUnits'. -/
def minsatUnitsUptoCard : Claim7 := { stood := { row := minsatUnitsUptoRow, standIns := [], harness := (true, "072b1b42b95cc5323f9b1403f08a04031188f2b79d38e9ba900fbe0885011016"), looks := false }, kinds := [], alts := [], laidByText := true, laidKinds := [.data], laidTests := true, laidLooks := .later }
def MinsatUnitsUptoCardSaid : Prop := Claim7.holds Tryd.pinned (.plain (OpenSpec.upto minsatUnitsSpec)) minsatUnitsUptoCard

/-- THE SECOND FORM's CARD OF 'netverifylaw43.MinsatChecks'. -/
def minsatChecksUptoCard : Claim7 := { stood := { row := minsatChecksUptoRow, standIns := [], harness := (true, "072b1b42b95cc5323f9b1403f08a04031188f2b79d38e9ba900fbe0885011016"), looks := false }, kinds := [], alts := [], laidByText := true, laidKinds := [.data], laidTests := true, laidLooks := .later }
def MinsatChecksUptoCardSaid : Prop := Claim7.holds Tryd.pinned (.plain (OpenSpec.upto minsatChecksSpec)) minsatChecksUptoCard
end Rows
end Go.Proofs.YtilbcgklkdkkdaaDoor
