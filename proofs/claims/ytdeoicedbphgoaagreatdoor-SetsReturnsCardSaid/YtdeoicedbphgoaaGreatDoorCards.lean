/-
  DERIVED. GIVEN WITH THE SEED: THE CARDS: each row of YtdeoicedbphgoaaGreatDoorRows.lean that lists a variable, with what it lists TIED to the program's text (the seventh form; the later family's looks); each row that meets fmt, with fmt's text TOLD by the authors' own Lean function (tested against real Go, not proved from fmt's source: count such statements apart). THE CARD IS WHAT COUNTS. Prove the row's statement (the work); the ties are given (YtdeoicedbphgoaaGreatDoorTie.lean); close each card by the builder's one call (the guide's Derived/Test/ToyasCard.lean, 'card_holds'). Laid BY PROGRAM, IN A SANDBOX (cutbox-door.mjs). By AI agents, Wed Nov 11 2026. No macro, syntax, notation, axiom, sorry.
-/
import Derived.Test.YtdeoicedbphgoaaGreatDoorRows
import GoSem.ClaimSeven
namespace Go.Proofs.YtdeoicedbphgoaaGreatDoor
namespace Rows

/-- THE TIED CARD OF 'faultlinelaw36.CoverChecks'. -/
def coverChecksCard : Claim7 := { stood := { row := coverChecksRow, standIns := [], harness := (true, "8dab7f92238cbbdd9ff7e0bf739443dfce925be115f7ceb5dcd0dfb8861611f8"), looks := true }, kinds := [], alts := [], laidByText := true, laidKinds := [.data, .data, .data], laidTests := true, laidLooks := .later }
def CoverChecksCardSaid : Prop := Claim7.holds Tryz.pinned (.plain (OpenSpec.ofChange coverChecksSpec)) coverChecksCard

/-- THE TIED CARD OF 'faultlinelaw36.CoverVerifies'. -/
def coverVerifiesCard : Claim7 := { stood := { row := coverVerifiesRow, standIns := [], harness := (true, "8dab7f92238cbbdd9ff7e0bf739443dfce925be115f7ceb5dcd0dfb8861611f8"), looks := true }, kinds := [], alts := [], laidByText := true, laidKinds := [.data, .data, .data], laidTests := true, laidLooks := .later }
def CoverVerifiesCardSaid : Prop := Claim7.holds Tryz.pinned (.plain (OpenSpec.ofChange coverVerifiesSpec)) coverVerifiesCard

/-- THE TIED CARD OF 'faultlinelaw36.CoverLess'. -/
def coverLessCard : Claim7 := { stood := { row := coverLessRow, standIns := [], harness := (true, "8dab7f92238cbbdd9ff7e0bf739443dfce925be115f7ceb5dcd0dfb8861611f8"), looks := true }, kinds := [], alts := [], laidByText := true, laidKinds := [.data, .data, .data], laidTests := true, laidLooks := .later }
def CoverLessCardSaid : Prop := Claim7.holds Tryz.pinned (.plain (OpenSpec.ofChange coverLessSpec)) coverLessCard

/-- THE TIED CARD OF 'faultlinelaw36.CoverRight'. -/
def coverRightCard : Claim7 := { stood := { row := coverRightRow, standIns := [], harness := (true, "8dab7f92238cbbdd9ff7e0bf739443dfce925be115f7ceb5dcd0dfb8861611f8"), looks := true }, kinds := [], alts := [], laidByText := true, laidKinds := [.data, .data, .data], laidTests := true, laidLooks := .later }
def CoverRightCardSaid : Prop := Claim7.holds Tryz.pinned (.plain (OpenSpec.ofChange coverRightSpec)) coverRightCard

/-- THE TIED CARD OF 'faultlinelaw36.CoverShows'. -/
def coverShowsCard : Claim7 := { stood := { row := coverShowsRow, standIns := [], harness := (true, "8dab7f92238cbbdd9ff7e0bf739443dfce925be115f7ceb5dcd0dfb8861611f8"), looks := true }, kinds := [], alts := [], laidByText := true, laidKinds := [.data, .data, .data], laidTests := true, laidLooks := .later }
def CoverShowsCardSaid : Prop := Claim7.holds Tryz.pinned (.plain (OpenSpec.ofChange coverShowsSpec)) coverShowsCard

/-- THE TIED CARD OF 'faultlinelaw36.CoverMakes'. -/
def coverMakesCard : Claim7 := { stood := { row := coverMakesRow, standIns := [], harness := (true, "8dab7f92238cbbdd9ff7e0bf739443dfce925be115f7ceb5dcd0dfb8861611f8"), looks := true }, kinds := [], alts := [], laidByText := true, laidKinds := [.data, .data, .data], laidTests := true, laidLooks := .later }
def CoverMakesCardSaid : Prop := Claim7.holds Tryz.pinned (.plain (OpenSpec.ofChange coverMakesSpec)) coverMakesCard

/-- THE TIED CARD OF 'faultlinelaw57.RepairFinds'. -/
def repairFindsCard : Claim7 := { stood := { row := repairFindsRow, standIns := [], harness := (true, "8dab7f92238cbbdd9ff7e0bf739443dfce925be115f7ceb5dcd0dfb8861611f8"), looks := true }, kinds := [], alts := [], laidByText := true, laidKinds := [.data, .data, .data], laidTests := true, laidLooks := .later }
def RepairFindsCardSaid : Prop := Claim7.holds Tryz.pinned (.plain (OpenSpec.ofChange repairFindsSpec)) repairFindsCard

/-- THE TIED CARD OF 'faultlinelaw57.RepairVerifies'. -/
def repairVerifiesCard : Claim7 := { stood := { row := repairVerifiesRow, standIns := [], harness := (true, "8dab7f92238cbbdd9ff7e0bf739443dfce925be115f7ceb5dcd0dfb8861611f8"), looks := true }, kinds := [], alts := [], laidByText := true, laidKinds := [.data, .data, .data], laidTests := true, laidLooks := .later }
def RepairVerifiesCardSaid : Prop := Claim7.holds Tryz.pinned (.plain (OpenSpec.ofChange repairVerifiesSpec)) repairVerifiesCard

/-- THE TIED CARD OF 'faultlinelaw57.RepairMakes'. -/
def repairMakesCard : Claim7 := { stood := { row := repairMakesRow, standIns := [], harness := (true, "8dab7f92238cbbdd9ff7e0bf739443dfce925be115f7ceb5dcd0dfb8861611f8"), looks := true }, kinds := [], alts := [], laidByText := true, laidKinds := [.data, .data, .data], laidTests := true, laidLooks := .later }
def RepairMakesCardSaid : Prop := Claim7.holds Tryz.pinned (.plain (OpenSpec.ofChange repairMakesSpec)) repairMakesCard

/-- THE TIED CARD OF 'faultlinelaw57.RepairLeast'. -/
def repairLeastCard : Claim7 := { stood := { row := repairLeastRow, standIns := [], harness := (true, "8dab7f92238cbbdd9ff7e0bf739443dfce925be115f7ceb5dcd0dfb8861611f8"), looks := true }, kinds := [], alts := [], laidByText := true, laidKinds := [.data, .data, .data], laidTests := true, laidLooks := .later }
def RepairLeastCardSaid : Prop := Claim7.holds Tryz.pinned (.plain (OpenSpec.ofChange repairLeastSpec)) repairLeastCard

/-- THE TIED CARD OF 'faultlinelaw57.RepairRight'. -/
def repairRightCard : Claim7 := { stood := { row := repairRightRow, standIns := [], harness := (true, "8dab7f92238cbbdd9ff7e0bf739443dfce925be115f7ceb5dcd0dfb8861611f8"), looks := true }, kinds := [], alts := [], laidByText := true, laidKinds := [.data, .data, .data], laidTests := true, laidLooks := .later }
def RepairRightCardSaid : Prop := Claim7.holds Tryz.pinned (.plain (OpenSpec.ofChange repairRightSpec)) repairRightCard

/-- THE TIED CARD OF 'faultlinelaw57.RepairMore'. -/
def repairMoreCard : Claim7 := { stood := { row := repairMoreRow, standIns := [], harness := (true, "8dab7f92238cbbdd9ff7e0bf739443dfce925be115f7ceb5dcd0dfb8861611f8"), looks := true }, kinds := [], alts := [], laidByText := true, laidKinds := [.data, .data, .data], laidTests := true, laidLooks := .later }
def RepairMoreCardSaid : Prop := Claim7.holds Tryz.pinned (.plain (OpenSpec.ofChange repairMoreSpec)) repairMoreCard

/-- THE TIED CARD OF 'faultlinelaw05.SetsTexts'. -/
def setsTextsCard : Claim7 := { stood := { row := setsTextsRow, standIns := [], harness := (true, "8dab7f92238cbbdd9ff7e0bf739443dfce925be115f7ceb5dcd0dfb8861611f8"), looks := true }, kinds := [], alts := [], laidByText := true, laidKinds := [.data, .data, .data, .data, .sentinel, .sentinel, .pinned], laidTests := true, laidLooks := .later }
def SetsTextsCardSaid : Prop := Claim7.holds Tryz.pinned (.plain (OpenSpec.ofChange setsTextsSpec)) setsTextsCard

/-- THE TIED CARD OF 'faultlinelaw05.SetsReturns'. -/
def setsReturnsCard : Claim7 := { stood := { row := setsReturnsRow, standIns := [], harness := (true, "8dab7f92238cbbdd9ff7e0bf739443dfce925be115f7ceb5dcd0dfb8861611f8"), looks := true }, kinds := [], alts := [], laidByText := true, laidKinds := [.data, .data, .data, .data, .sentinel, .sentinel, .pinned], laidTests := true, laidLooks := .later }
def SetsReturnsCardSaid : Prop := Claim7.holds Tryz.pinned (.plain (OpenSpec.ofChange setsReturnsSpec)) setsReturnsCard

/-- THE SECOND FORM's CARD OF 'faultlinelaw36.CoverChecks'. -/
def coverChecksUptoCard : Claim7 := { stood := { row := coverChecksUptoRow, standIns := [], harness := (true, "8dab7f92238cbbdd9ff7e0bf739443dfce925be115f7ceb5dcd0dfb8861611f8"), looks := true }, kinds := [], alts := [], laidByText := true, laidKinds := [.data, .data, .data], laidTests := true, laidLooks := .later }
def CoverChecksUptoCardSaid : Prop := Claim7.holds Tryz.pinned (.plain (OpenSpec.upto coverChecksSpec)) coverChecksUptoCard

/-- THE SECOND FORM's CARD OF 'faultlinelaw36.CoverVerifies'. -/
def coverVerifiesUptoCard : Claim7 := { stood := { row := coverVerifiesUptoRow, standIns := [], harness := (true, "8dab7f92238cbbdd9ff7e0bf739443dfce925be115f7ceb5dcd0dfb8861611f8"), looks := true }, kinds := [], alts := [], laidByText := true, laidKinds := [.data, .data, .data], laidTests := true, laidLooks := .later }
def CoverVerifiesUptoCardSaid : Prop := Claim7.holds Tryz.pinned (.plain (OpenSpec.upto coverVerifiesSpec)) coverVerifiesUptoCard

/-- THE SECOND FORM's CARD OF 'faultlinelaw36.CoverLess'. -/
def coverLessUptoCard : Claim7 := { stood := { row := coverLessUptoRow, standIns := [], harness := (true, "8dab7f92238cbbdd9ff7e0bf739443dfce925be115f7ceb5dcd0dfb8861611f8"), looks := true }, kinds := [], alts := [], laidByText := true, laidKinds := [.data, .data, .data], laidTests := true, laidLooks := .later }
def CoverLessUptoCardSaid : Prop := Claim7.holds Tryz.pinned (.plain (OpenSpec.upto coverLessSpec)) coverLessUptoCard

/-- THE SECOND FORM's CARD OF 'faultlinelaw36.CoverRight'. -/
def coverRightUptoCard : Claim7 := { stood := { row := coverRightUptoRow, standIns := [], harness := (true, "8dab7f92238cbbdd9ff7e0bf739443dfce925be115f7ceb5dcd0dfb8861611f8"), looks := true }, kinds := [], alts := [], laidByText := true, laidKinds := [.data, .data, .data], laidTests := true, laidLooks := .later }
def CoverRightUptoCardSaid : Prop := Claim7.holds Tryz.pinned (.plain (OpenSpec.upto coverRightSpec)) coverRightUptoCard

/-- THE SECOND FORM's CARD OF 'faultlinelaw36.CoverShows'. -/
def coverShowsUptoCard : Claim7 := { stood := { row := coverShowsUptoRow, standIns := [], harness := (true, "8dab7f92238cbbdd9ff7e0bf739443dfce925be115f7ceb5dcd0dfb8861611f8"), looks := true }, kinds := [], alts := [], laidByText := true, laidKinds := [.data, .data, .data], laidTests := true, laidLooks := .later }
def CoverShowsUptoCardSaid : Prop := Claim7.holds Tryz.pinned (.plain (OpenSpec.upto coverShowsSpec)) coverShowsUptoCard

/-- THE SECOND FORM's CARD OF 'faultlinelaw36.CoverMakes'. -/
def coverMakesUptoCard : Claim7 := { stood := { row := coverMakesUptoRow, standIns := [], harness := (true, "8dab7f92238cbbdd9ff7e0bf739443dfce925be115f7ceb5dcd0dfb8861611f8"), looks := true }, kinds := [], alts := [], laidByText := true, laidKinds := [.data, .data, .data], laidTests := true, laidLooks := .later }
def CoverMakesUptoCardSaid : Prop := Claim7.holds Tryz.pinned (.plain (OpenSpec.upto coverMakesSpec)) coverMakesUptoCard

/-- THE SECOND FORM's CARD OF 'faultlinelaw57.RepairFinds'. -/
def repairFindsUptoCard : Claim7 := { stood := { row := repairFindsUptoRow, standIns := [], harness := (true, "8dab7f92238cbbdd9ff7e0bf739443dfce925be115f7ceb5dcd0dfb8861611f8"), looks := true }, kinds := [], alts := [], laidByText := true, laidKinds := [.data, .data, .data], laidTests := true, laidLooks := .later }
def RepairFindsUptoCardSaid : Prop := Claim7.holds Tryz.pinned (.plain (OpenSpec.upto repairFindsSpec)) repairFindsUptoCard

/-- THE SECOND FORM's CARD OF 'faultlinelaw57.RepairVerifies'. -/
def repairVerifiesUptoCard : Claim7 := { stood := { row := repairVerifiesUptoRow, standIns := [], harness := (true, "8dab7f92238cbbdd9ff7e0bf739443dfce925be115f7ceb5dcd0dfb8861611f8"), looks := true }, kinds := [], alts := [], laidByText := true, laidKinds := [.data, .data, .data], laidTests := true, laidLooks := .later }
def RepairVerifiesUptoCardSaid : Prop := Claim7.holds Tryz.pinned (.plain (OpenSpec.upto repairVerifiesSpec)) repairVerifiesUptoCard

/-- THE SECOND FORM's CARD OF 'faultlinelaw57.RepairMakes'. -/
def repairMakesUptoCard : Claim7 := { stood := { row := repairMakesUptoRow, standIns := [], harness := (true, "8dab7f92238cbbdd9ff7e0bf739443dfce925be115f7ceb5dcd0dfb8861611f8"), looks := true }, kinds := [], alts := [], laidByText := true, laidKinds := [.data, .data, .data], laidTests := true, laidLooks := .later }
def RepairMakesUptoCardSaid : Prop := Claim7.holds Tryz.pinned (.plain (OpenSpec.upto repairMakesSpec)) repairMakesUptoCard

/-- THE SECOND FORM's CARD OF 'faultlinelaw57.RepairLeast'. -/
def repairLeastUptoCard : Claim7 := { stood := { row := repairLeastUptoRow, standIns := [], harness := (true, "8dab7f92238cbbdd9ff7e0bf739443dfce925be115f7ceb5dcd0dfb8861611f8"), looks := true }, kinds := [], alts := [], laidByText := true, laidKinds := [.data, .data, .data], laidTests := true, laidLooks := .later }
def RepairLeastUptoCardSaid : Prop := Claim7.holds Tryz.pinned (.plain (OpenSpec.upto repairLeastSpec)) repairLeastUptoCard

/-- THE SECOND FORM's CARD OF 'faultlinelaw57.RepairRight'. -/
def repairRightUptoCard : Claim7 := { stood := { row := repairRightUptoRow, standIns := [], harness := (true, "8dab7f92238cbbdd9ff7e0bf739443dfce925be115f7ceb5dcd0dfb8861611f8"), looks := true }, kinds := [], alts := [], laidByText := true, laidKinds := [.data, .data, .data], laidTests := true, laidLooks := .later }
def RepairRightUptoCardSaid : Prop := Claim7.holds Tryz.pinned (.plain (OpenSpec.upto repairRightSpec)) repairRightUptoCard

/-- THE SECOND FORM's CARD OF 'faultlinelaw57.RepairMore'. -/
def repairMoreUptoCard : Claim7 := { stood := { row := repairMoreUptoRow, standIns := [], harness := (true, "8dab7f92238cbbdd9ff7e0bf739443dfce925be115f7ceb5dcd0dfb8861611f8"), looks := true }, kinds := [], alts := [], laidByText := true, laidKinds := [.data, .data, .data], laidTests := true, laidLooks := .later }
def RepairMoreUptoCardSaid : Prop := Claim7.holds Tryz.pinned (.plain (OpenSpec.upto repairMoreSpec)) repairMoreUptoCard

/-- THE SECOND FORM's CARD OF 'faultlinelaw05.SetsTexts'. -/
def setsTextsUptoCard : Claim7 := { stood := { row := setsTextsUptoRow, standIns := [], harness := (true, "8dab7f92238cbbdd9ff7e0bf739443dfce925be115f7ceb5dcd0dfb8861611f8"), looks := true }, kinds := [], alts := [], laidByText := true, laidKinds := [.data, .data, .data, .data, .sentinel, .sentinel, .pinned], laidTests := true, laidLooks := .later }
def SetsTextsUptoCardSaid : Prop := Claim7.holds Tryz.pinned (.plain (OpenSpec.upto setsTextsSpec)) setsTextsUptoCard

/-- THE SECOND FORM's CARD OF 'faultlinelaw05.SetsReturns'. -/
def setsReturnsUptoCard : Claim7 := { stood := { row := setsReturnsUptoRow, standIns := [], harness := (true, "8dab7f92238cbbdd9ff7e0bf739443dfce925be115f7ceb5dcd0dfb8861611f8"), looks := true }, kinds := [], alts := [], laidByText := true, laidKinds := [.data, .data, .data, .data, .sentinel, .sentinel, .pinned], laidTests := true, laidLooks := .later }
def SetsReturnsUptoCardSaid : Prop := Claim7.holds Tryz.pinned (.plain (OpenSpec.upto setsReturnsSpec)) setsReturnsUptoCard
end Rows
end Go.Proofs.YtdeoicedbphgoaaGreatDoor
