/-
  The law SetsReturns returns true at every input, and leaves its arguments as they were; no condition.
-/
import Derived.Test.YtdeoicedbphgoaaGreatDoorTopSetsReturns2
set_option linter.unusedVariables false
namespace Go.Proofs.YtdeoicedbphgoaaGreatDoor
open Go.Sy Go.Pu Go.ChangeShapes Go.WideShapes Go.ChangeAt Go.RowKit
namespace setsReturns
theorem card : Claim7.holds Tryz.pinned (.plain (OpenSpec.ofChange Rows.setsReturnsSpec)) Rows.setsReturnsCard :=
  Claim7.holds_tied_plain_at .later [] [.data, .data, .data, .data, .sentinel, .sentinel, .pinned] true (true, "8dab7f92238cbbdd9ff7e0bf739443dfce925be115f7ceb5dcd0dfb8861611f8") true
    over (fun _ h => by cases h) card_wf (fun _ h => by cases h) setsReturns_row_tie rfl ⟨rfl, rfl⟩ card_main rfl
    (fun f fn hf hfn => by
      obtain rfl : f = 16 := Option.some.inj ((show Tryz.prog.funcNamed Rows.setsReturnsRow.func = some 16 by kernel_rfl).symm.trans hf) |>.symm
      obtain rfl : fn = Tryz.f16 := (Option.some.inj (Tryz.func16.symm.trans hfn)).symm
      exact ⟨card_looks, fun j t ht => by
        rw [Tryz.params16] at ht
        have hm : t ∈ [3, 25] := by have := Array.mem_of_getElem? ht; simp at this; simp; omega
        have hall := card_stand
        exact (show Tryz.prog.wantsStandIn t = false by simpa using List.all_eq_true.1 hall t hm)⟩)
    card_goes
end setsReturns
/-- THE STATEMENT -/
theorem setsReturns_holds : Rows.SetsReturnsCardSaid := setsReturns.card
#print axioms setsReturns_holds
end Go.Proofs.YtdeoicedbphgoaaGreatDoor

