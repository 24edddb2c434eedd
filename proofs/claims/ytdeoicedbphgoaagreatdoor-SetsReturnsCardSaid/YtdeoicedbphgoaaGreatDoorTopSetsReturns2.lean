/-
  The law SetsReturns: the card, in parts.
-/
import Derived.Test.YtdeoicedbphgoaaGreatDoorTopSetsReturns1
import Derived.Test.YtdeoicedbphgoaaGreatDoorTie
import Derived.Test.YtdeoicedbphgoaaGreatDoorCards
import Derived.SevenTiedAt
set_option linter.unusedVariables false
namespace Go.Proofs.YtdeoicedbphgoaaGreatDoor
open Go.Sy Go.Pu Go.ChangeShapes Go.WideShapes Go.ChangeAt Go.RowKit
namespace setsReturns
theorem card_goes : false = Rows.setsReturnsRow.goesBy Tryz.prog := by kernel_rfl
theorem card_wf : Rows.setsReturnsRow.wfByText (OpenSpec.ofChange Rows.setsReturnsSpec) = true := by kernel_rfl
theorem card_main : Tryz.prog.mainIs = some ((true, "8dab7f92238cbbdd9ff7e0bf739443dfce925be115f7ceb5dcd0dfb8861611f8").1, (true, "8dab7f92238cbbdd9ff7e0bf739443dfce925be115f7ceb5dcd0dfb8861611f8").2.toList) := by kernel_rfl
theorem card_stand : ([3, 25].all fun u => !Tryz.prog.wantsStandIn u) = true := by kernel_rfl
theorem card_looks : true = Tryz.prog.looks [] := by kernel_rfl
end setsReturns
end Go.Proofs.YtdeoicedbphgoaaGreatDoor
