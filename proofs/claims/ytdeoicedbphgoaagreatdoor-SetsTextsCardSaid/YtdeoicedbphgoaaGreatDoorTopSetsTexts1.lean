/-
  The law SetsTexts: the row.
-/
import Derived.Test.YtdeoicedbphgoaaGreatDoorTopSetsTexts0
set_option linter.unusedVariables false
namespace Go.Proofs.YtdeoicedbphgoaaGreatDoor
open Go.Sy Go.Pu Go.ChangeShapes Go.WideShapes Go.ChangeAt Go.RowKit
namespace setsTexts
theorem facts0 : (Rows.setsTextsRow.inPlace == Program.inPlace Tryz.prog 15) = true := by kernel_rfl
theorem facts1 : (Rows.setsTextsRow.unfollowed == Program.unfollowed Tryz.prog 15) = true := by kernel_rfl
theorem facts2 : (Rows.setsTextsRow.recurses == Program.recurses Tryz.prog 15) = true := by kernel_rfl
theorem facts3 : (Rows.setsTextsRow.named == Program.varsNamed Tryz.prog 15) = true := by kernel_rfl
theorem facts : joinedFacts Tryz.prog 15 Tryz.f15 Rows.setsTextsSpec Rows.setsTextsRow = true := by
  unfold joinedFacts
  rw [facts0, facts1, facts2, facts3]
  kernel_rfl
theorem over : Rows.setsTextsRow.holds Tryz.pinned (OpenSpec.ofChange Rows.setsTextsSpec) :=
  OpenClaim.holds_of_wide 15 Tryz.f15 rfl rfl rfl rfl rfl rfl rfl ⟨rfl, rfl, rfl, rfl, rfl⟩ rfl rfl rfl rfl rfl (by kernel_rfl) Tryz.func15 facts
    (of_decide_eq_true (by kernel_rfl)) (by unfold Func.isWrapper; first | (rw [if_pos (by decide +kernel)]; kernel_rfl) | (rw [if_neg (by decide +kernel)]; exact ⟨rfl, rfl⟩))
    (fun os started H enc _ => lifted os started H enc)
end setsTexts
end Go.Proofs.YtdeoicedbphgoaaGreatDoor
