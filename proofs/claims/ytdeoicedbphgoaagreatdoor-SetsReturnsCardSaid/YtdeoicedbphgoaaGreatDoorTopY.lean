/-
  What the row's condition says of bits' table in a package variable.
-/
import Derived.Test.YtdeoicedbphgoaaGreatDoorStH
import Derived.Test.YtdeoicedbphgoaaGreatDoorTopX
set_option linter.unusedVariables false
set_option linter.unusedSectionVars false
attribute [local instance] Go.Sy.drwNo
namespace Go.Proofs.YtdeoicedbphgoaaGreatDoor
open Go.Sy Go.Pu Go.ChangeShapes Go.WideShapes Go.ChangeAt Go.RowKit
theorem bit_laid {l : List (String × DataW Unit)} {W : World} (e : (l.filter fun x => x.1 == "math/bits.deBruijn64tab") = [("math/bits.deBruijn64tab", Lib.tabData .u8 (Lib.deBruijn64tab.map fun n : Nat => (n : Int)))]) (h : laidMetH Tryz.prog l W) : ∃ T, W.heap[1]? = some (.cells tabVs.toArray T (0, 0)) := by
  have h1 := h.filter fun x => x.1 == "math/bits.deBruijn64tab"
  rw [e, MakeChecks.laidMetH_plain _ _ _ (by kernel_rfl)] at h1
  have hg1 : Tryz.prog.globalNamed "math/bits.deBruijn64tab" = some 1 := by kernel_rfl
  have ht := Lib.tabIs_of_head (g := 1) (t := 230) (e := 5) (n := 64) hg1 (by kernel_rfl) (by kernel_rfl) (by kernel_rfl) (by kernel_rfl) (by kernel_rfl) h1
  obtain ⟨ps, ⟨g, t, cs, fuel, p, q, hg, hty, hv, hd, _, rfl⟩, _, hcell⟩ := h1
  obtain rfl := Option.some.inj (hg1.symm.trans hg)
  unfold Lib.TabIs at ht
  obtain rfl := Option.some.inj (hv.symm.trans ht)
  have hm := (hcell 1 0 (List.mem_append_left _ (List.mem_append_left _ (by simp [MemPlace.row]; decide)))).1
  obtain ⟨c, t', hc⟩ := hm
  have hv2 := hv
  unfold World.var? at hv2
  rw [hg1] at hv2
  simp only [Option.bind_some, hc, Option.some.injEq] at hv2
  refine ⟨t', ?_⟩
  rw [hc, hv2, tabVs, List.map_map]
  rfl
end Go.Proofs.YtdeoicedbphgoaaGreatDoor
