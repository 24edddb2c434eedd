/-
  The law SetsReturns: the row.
-/
import Derived.Test.YtdeoicedbphgoaaGreatDoorTopSetsReturns0
set_option linter.unusedVariables false
namespace Go.Proofs.YtdeoicedbphgoaaGreatDoor
open Go.Sy Go.Pu Go.ChangeShapes Go.WideShapes Go.ChangeAt Go.RowKit
namespace setsReturns
theorem facts0 : (Rows.setsReturnsRow.inPlace == Program.inPlace Tryz.prog 16) = true := by kernel_rfl
theorem facts1 : (Rows.setsReturnsRow.unfollowed == Program.unfollowed Tryz.prog 16) = true := by kernel_rfl
theorem facts2 : (Rows.setsReturnsRow.recurses == Program.recurses Tryz.prog 16) = true := by kernel_rfl
theorem facts3 : (Rows.setsReturnsRow.named == Program.varsNamed Tryz.prog 16) = true := by kernel_rfl
theorem facts : joinedFacts Tryz.prog 16 Tryz.f16 Rows.setsReturnsSpec Rows.setsReturnsRow = true := by
  unfold joinedFacts
  rw [facts0, facts1, facts2, facts3]
  kernel_rfl
theorem over : Rows.setsReturnsRow.holds Tryz.pinned (OpenSpec.ofChange Rows.setsReturnsSpec) :=
  OpenClaim.holds_of_wide 16 Tryz.f16 rfl rfl rfl rfl rfl rfl rfl ⟨rfl, rfl, rfl, rfl, rfl⟩ rfl rfl rfl rfl rfl (by kernel_rfl) Tryz.func16 facts
    (of_decide_eq_true (by kernel_rfl)) (by unfold Func.isWrapper; first | (rw [if_pos (by decide +kernel)]; kernel_rfl) | (rw [if_neg (by decide +kernel)]; exact ⟨rfl, rfl⟩))
    (fun os started H enc _ => lifted os started H enc)
end setsReturns
end Go.Proofs.YtdeoicedbphgoaaGreatDoor
