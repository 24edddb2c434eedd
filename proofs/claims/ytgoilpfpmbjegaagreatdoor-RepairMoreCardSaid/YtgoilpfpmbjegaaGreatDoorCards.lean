/-
  DERIVED. GIVEN WITH THE SEED: THE CARDS: each row of YtgoilpfpmbjegaaGreatDoorRows.lean that lists a variable, with what it lists TIED to the program's text (the seventh form; the later family's looks); each row that meets fmt, with fmt's text TOLD by the authors' own Lean function (tested against real Go, not proved from fmt's source: count such statements apart). THE CARD IS WHAT COUNTS. Prove the row's statement (the work); the ties are given (YtgoilpfpmbjegaaGreatDoorTie.lean); close each card by the builder's one call (the guide's Derived/Test/ToyasCard.lean, 'card_holds'). Laid BY PROGRAM, IN A SANDBOX (cutbox-door.mjs). By AI agents, Wed Nov 11 2026. No macro, syntax, notation, axiom, sorry.
-/
import Derived.Test.YtgoilpfpmbjegaaGreatDoorRows
import GoSem.ClaimSeven
namespace Go.Proofs.YtgoilpfpmbjegaaGreatDoor
namespace Rows

/-- THE TIED CARD OF 'faultlinelaw57.RepairFinds'. -/
def repairFindsCard : Claim7 := { stood := { row := repairFindsRow, standIns := [], harness := (true, "76e29fa9e9d66a3bd3bae3369687da3d4bee5a11d688d7b8134652523a1d3790"), looks := true }, kinds := [], alts := [], laidByText := true, laidKinds := [.data, .data, .data], laidTests := true, laidLooks := .later }
def RepairFindsCardSaid : Prop := Claim7.holds Tryz.pinned (.plain (OpenSpec.ofChange repairFindsSpec)) repairFindsCard

/-- THE TIED CARD OF 'faultlinelaw57.RepairVerifies'. -/
def repairVerifiesCard : Claim7 := { stood := { row := repairVerifiesRow, standIns := [], harness := (true, "76e29fa9e9d66a3bd3bae3369687da3d4bee5a11d688d7b8134652523a1d3790"), looks := true }, kinds := [], alts := [], laidByText := true, laidKinds := [.data, .data, .data], laidTests := true, laidLooks := .later }
def RepairVerifiesCardSaid : Prop := Claim7.holds Tryz.pinned (.plain (OpenSpec.ofChange repairVerifiesSpec)) repairVerifiesCard

/-- THE TIED CARD OF 'faultlinelaw57.RepairMakes'. -/
def repairMakesCard : Claim7 := { stood := { row := repairMakesRow, standIns := [], harness := (true, "76e29fa9e9d66a3bd3bae3369687da3d4bee5a11d688d7b8134652523a1d3790"), looks := true }, kinds := [], alts := [], laidByText := true, laidKinds := [.data, .data, .data], laidTests := true, laidLooks := .later }
def RepairMakesCardSaid : Prop := Claim7.holds Tryz.pinned (.plain (OpenSpec.ofChange repairMakesSpec)) repairMakesCard

/-- THE TIED CARD OF 'faultlinelaw57.RepairLeast'. -/
def repairLeastCard : Claim7 := { stood := { row := repairLeastRow, standIns := [], harness := (true, "76e29fa9e9d66a3bd3bae3369687da3d4bee5a11d688d7b8134652523a1d3790"), looks := true }, kinds := [], alts := [], laidByText := true, laidKinds := [.data, .data, .data], laidTests := true, laidLooks := .later }
def RepairLeastCardSaid : Prop := Claim7.holds Tryz.pinned (.plain (OpenSpec.ofChange repairLeastSpec)) repairLeastCard

/-- THE TIED CARD OF 'faultlinelaw57.RepairRight'. -/
def repairRightCard : Claim7 := { stood := { row := repairRightRow, standIns := [], harness := (true, "76e29fa9e9d66a3bd3bae3369687da3d4bee5a11d688d7b8134652523a1d3790"), looks := true }, kinds := [], alts := [], laidByText := true, laidKinds := [.data, .data, .data], laidTests := true, laidLooks := .later }
def RepairRightCardSaid : Prop := Claim7.holds Tryz.pinned (.plain (OpenSpec.ofChange repairRightSpec)) repairRightCard

/-- THE TIED CARD OF 'faultlinelaw57.RepairMore'. -/
def repairMoreCard : Claim7 := { stood := { row := repairMoreRow, standIns := [], harness := (true, "76e29fa9e9d66a3bd3bae3369687da3d4bee5a11d688d7b8134652523a1d3790"), looks := true }, kinds := [], alts := [], laidByText := true, laidKinds := [.data, .data, .data], laidTests := true, laidLooks := .later }
def RepairMoreCardSaid : Prop := Claim7.holds Tryz.pinned (.plain (OpenSpec.ofChange repairMoreSpec)) repairMoreCard

/-- THE SECOND FORM's CARD OF 'faultlinelaw57.RepairFinds'. -/
def repairFindsUptoCard : Claim7 := { stood := { row := repairFindsUptoRow, standIns := [], harness := (true, "76e29fa9e9d66a3bd3bae3369687da3d4bee5a11d688d7b8134652523a1d3790"), looks := true }, kinds := [], alts := [], laidByText := true, laidKinds := [.data, .data, .data], laidTests := true, laidLooks := .later }
def RepairFindsUptoCardSaid : Prop := Claim7.holds Tryz.pinned (.plain (OpenSpec.upto repairFindsSpec)) repairFindsUptoCard

/-- THE SECOND FORM's CARD OF 'faultlinelaw57.RepairVerifies'. -/
def repairVerifiesUptoCard : Claim7 := { stood := { row := repairVerifiesUptoRow, standIns := [], harness := (true, "76e29fa9e9d66a3bd3bae3369687da3d4bee5a11d688d7b8134652523a1d3790"), looks := true }, kinds := [], alts := [], laidByText := true, laidKinds := [.data, .data, .data], laidTests := true, laidLooks := .later }
def RepairVerifiesUptoCardSaid : Prop := Claim7.holds Tryz.pinned (.plain (OpenSpec.upto repairVerifiesSpec)) repairVerifiesUptoCard

/-- THE SECOND FORM's CARD OF 'faultlinelaw57.RepairMakes'. -/
def repairMakesUptoCard : Claim7 := { stood := { row := repairMakesUptoRow, standIns := [], harness := (true, "76e29fa9e9d66a3bd3bae3369687da3d4bee5a11d688d7b8134652523a1d3790"), looks := true }, kinds := [], alts := [], laidByText := true, laidKinds := [.data, .data, .data], laidTests := true, laidLooks := .later }
def RepairMakesUptoCardSaid : Prop := Claim7.holds Tryz.pinned (.plain (OpenSpec.upto repairMakesSpec)) repairMakesUptoCard

/-- THE SECOND FORM's CARD OF 'faultlinelaw57.RepairLeast'. -/
def repairLeastUptoCard : Claim7 := { stood := { row := repairLeastUptoRow, standIns := [], harness := (true, "76e29fa9e9d66a3bd3bae3369687da3d4bee5a11d688d7b8134652523a1d3790"), looks := true }, kinds := [], alts := [], laidByText := true, laidKinds := [.data, .data, .data], laidTests := true, laidLooks := .later }
def RepairLeastUptoCardSaid : Prop := Claim7.holds Tryz.pinned (.plain (OpenSpec.upto repairLeastSpec)) repairLeastUptoCard

/-- THE SECOND FORM's CARD OF 'faultlinelaw57.RepairRight'. -/
def repairRightUptoCard : Claim7 := { stood := { row := repairRightUptoRow, standIns := [], harness := (true, "76e29fa9e9d66a3bd3bae3369687da3d4bee5a11d688d7b8134652523a1d3790"), looks := true }, kinds := [], alts := [], laidByText := true, laidKinds := [.data, .data, .data], laidTests := true, laidLooks := .later }
def RepairRightUptoCardSaid : Prop := Claim7.holds Tryz.pinned (.plain (OpenSpec.upto repairRightSpec)) repairRightUptoCard

/-- THE SECOND FORM's CARD OF 'faultlinelaw57.RepairMore'. -/
def repairMoreUptoCard : Claim7 := { stood := { row := repairMoreUptoRow, standIns := [], harness := (true, "76e29fa9e9d66a3bd3bae3369687da3d4bee5a11d688d7b8134652523a1d3790"), looks := true }, kinds := [], alts := [], laidByText := true, laidKinds := [.data, .data, .data], laidTests := true, laidLooks := .later }
def RepairMoreUptoCardSaid : Prop := Claim7.holds Tryz.pinned (.plain (OpenSpec.upto repairMoreSpec)) repairMoreUptoCard
end Rows
end Go.Proofs.YtgoilpfpmbjegaaGreatDoor
