/-
  DERIVED. GIVEN WITH THE SEED: THE CARDS: each row of YtpkjbchplkfmhaaDoorRows.lean that lists a variable, with what it lists TIED to the program's text (the seventh form; the later family's looks); each row that meets fmt, with fmt's text TOLD by the authors' own Lean function (tested against real Go, not proved from fmt's source: count such statements apart). THE CARD IS WHAT COUNTS. Prove the row's statement (the work); the ties are given (YtpkjbchplkfmhaaDoorTie.lean); close each card by the builder's one call (the guide's Derived/Test/ToyasCard.lean, 'card_holds'). Laid BY PROGRAM, IN A SANDBOX (cutbox-door.mjs). By AI agents, Wed Nov 11 2026. No macro, syntax, notation, axiom, sorry.
-/
import Derived.Test.YtpkjbchplkfmhaaDoorRows
import GoSem.ClaimSeven
namespace Go.Proofs.YtpkjbchplkfmhaaDoor
namespace Rows

/-- THE TIED CARD OF 'faultlinelaw19.SplitReads'. -/
def splitReadsCard : Claim7 := { stood := { row := splitReadsRow, standIns := [], harness := (true, "13ee26268f76ef150bd419ed1deea9579914e0e00f4eef962567d6635536542b"), looks := true }, kinds := [], alts := [], laidByText := true, laidKinds := [.data, .data, .data, .sentinel, .sentinel], laidTests := true, laidLooks := .later }
def SplitReadsCardSaid : Prop := Claim7.holds Tryd.pinned (.plain (OpenSpec.ofChange splitReadsSpec)) splitReadsCard

/-- THE TIED CARD OF 'faultlinelaw19.SplitCovers'. -/
def splitCoversCard : Claim7 := { stood := { row := splitCoversRow, standIns := [], harness := (true, "13ee26268f76ef150bd419ed1deea9579914e0e00f4eef962567d6635536542b"), looks := true }, kinds := [], alts := [], laidByText := true, laidKinds := [.data, .data, .data, .sentinel, .sentinel], laidTests := true, laidLooks := .later }
def SplitCoversCardSaid : Prop := Claim7.holds Tryd.pinned (.plain (OpenSpec.ofChange splitCoversSpec)) splitCoversCard

/-- THE TIED CARD OF 'faultlinelaw19.SplitMerges'. -/
def splitMergesCard : Claim7 := { stood := { row := splitMergesRow, standIns := [], harness := (true, "13ee26268f76ef150bd419ed1deea9579914e0e00f4eef962567d6635536542b"), looks := true }, kinds := [], alts := [], laidByText := true, laidKinds := [.data, .data, .data, .sentinel, .sentinel], laidTests := true, laidLooks := .later }
def SplitMergesCardSaid : Prop := Claim7.holds Tryd.pinned (.plain (OpenSpec.ofChange splitMergesSpec)) splitMergesCard

/-- THE TIED CARD OF 'faultlinelaw19.SplitFull'. -/
def splitFullCard : Claim7 := { stood := { row := splitFullRow, standIns := [], harness := (true, "13ee26268f76ef150bd419ed1deea9579914e0e00f4eef962567d6635536542b"), looks := true }, kinds := [], alts := [], laidByText := true, laidKinds := [.data, .data, .data, .sentinel, .sentinel], laidTests := true, laidLooks := .later }
def SplitFullCardSaid : Prop := Claim7.holds Tryd.pinned (.plain (OpenSpec.ofChange splitFullSpec)) splitFullCard

/-- THE TIED CARD OF 'faultlinelaw19.SplitSwaps'. -/
def splitSwapsCard : Claim7 := { stood := { row := splitSwapsRow, standIns := [], harness := (true, "13ee26268f76ef150bd419ed1deea9579914e0e00f4eef962567d6635536542b"), looks := true }, kinds := [], alts := [], laidByText := true, laidKinds := [.data, .data, .data, .sentinel, .sentinel], laidTests := true, laidLooks := .later }
def SplitSwapsCardSaid : Prop := Claim7.holds Tryd.pinned (.plain (OpenSpec.ofChange splitSwapsSpec)) splitSwapsCard

/-- THE TIED CARD OF 'faultlinelaw19.SplitReturns'. -/
def splitReturnsCard : Claim7 := { stood := { row := splitReturnsRow, standIns := [], harness := (true, "13ee26268f76ef150bd419ed1deea9579914e0e00f4eef962567d6635536542b"), looks := true }, kinds := [], alts := [], laidByText := true, laidKinds := [.data, .data, .data, .sentinel, .sentinel], laidTests := true, laidLooks := .later }
def SplitReturnsCardSaid : Prop := Claim7.holds Tryd.pinned (.plain (OpenSpec.ofChange splitReturnsSpec)) splitReturnsCard

/-- THE TIED CARD OF 'faultlinelaw19.SplitLeaves'. -/
def splitLeavesCard : Claim7 := { stood := { row := splitLeavesRow, standIns := [], harness := (true, "13ee26268f76ef150bd419ed1deea9579914e0e00f4eef962567d6635536542b"), looks := true }, kinds := [], alts := [], laidByText := true, laidKinds := [.data, .data, .data, .sentinel, .sentinel], laidTests := true, laidLooks := .later }
def SplitLeavesCardSaid : Prop := Claim7.holds Tryd.pinned (.plain (OpenSpec.ofChange splitLeavesSpec)) splitLeavesCard

/-- THE TIED CARD OF 'faultlinelaw19.SplitChecks'. -/
def splitChecksCard : Claim7 := { stood := { row := splitChecksRow, standIns := [], harness := (true, "13ee26268f76ef150bd419ed1deea9579914e0e00f4eef962567d6635536542b"), looks := true }, kinds := [], alts := [], laidByText := true, laidKinds := [.data, .data, .data, .sentinel, .sentinel], laidTests := true, laidLooks := .later }
def SplitChecksCardSaid : Prop := Claim7.holds Tryd.pinned (.plain (OpenSpec.ofChange splitChecksSpec)) splitChecksCard

/-- THE SECOND FORM's CARD OF 'faultlinelaw19.SplitReads'. -/
def splitReadsUptoCard : Claim7 := { stood := { row := splitReadsUptoRow, standIns := [], harness := (true, "13ee26268f76ef150bd419ed1deea9579914e0e00f4eef962567d6635536542b"), looks := true }, kinds := [], alts := [], laidByText := true, laidKinds := [.data, .data, .data, .sentinel, .sentinel], laidTests := true, laidLooks := .later }
def SplitReadsUptoCardSaid : Prop := Claim7.holds Tryd.pinned (.plain (OpenSpec.upto splitReadsSpec)) splitReadsUptoCard

/-- THE SECOND FORM's CARD OF 'faultlinelaw19.SplitCovers'. -/
def splitCoversUptoCard : Claim7 := { stood := { row := splitCoversUptoRow, standIns := [], harness := (true, "13ee26268f76ef150bd419ed1deea9579914e0e00f4eef962567d6635536542b"), looks := true }, kinds := [], alts := [], laidByText := true, laidKinds := [.data, .data, .data, .sentinel, .sentinel], laidTests := true, laidLooks := .later }
def SplitCoversUptoCardSaid : Prop := Claim7.holds Tryd.pinned (.plain (OpenSpec.upto splitCoversSpec)) splitCoversUptoCard

/-- THE SECOND FORM's CARD OF 'faultlinelaw19.SplitMerges'. -/
def splitMergesUptoCard : Claim7 := { stood := { row := splitMergesUptoRow, standIns := [], harness := (true, "13ee26268f76ef150bd419ed1deea9579914e0e00f4eef962567d6635536542b"), looks := true }, kinds := [], alts := [], laidByText := true, laidKinds := [.data, .data, .data, .sentinel, .sentinel], laidTests := true, laidLooks := .later }
def SplitMergesUptoCardSaid : Prop := Claim7.holds Tryd.pinned (.plain (OpenSpec.upto splitMergesSpec)) splitMergesUptoCard

/-- THE SECOND FORM's CARD OF 'faultlinelaw19.SplitFull'. -/
def splitFullUptoCard : Claim7 := { stood := { row := splitFullUptoRow, standIns := [], harness := (true, "13ee26268f76ef150bd419ed1deea9579914e0e00f4eef962567d6635536542b"), looks := true }, kinds := [], alts := [], laidByText := true, laidKinds := [.data, .data, .data, .sentinel, .sentinel], laidTests := true, laidLooks := .later }
def SplitFullUptoCardSaid : Prop := Claim7.holds Tryd.pinned (.plain (OpenSpec.upto splitFullSpec)) splitFullUptoCard

/-- THE SECOND FORM's CARD OF 'faultlinelaw19.SplitSwaps'. -/
def splitSwapsUptoCard : Claim7 := { stood := { row := splitSwapsUptoRow, standIns := [], harness := (true, "13ee26268f76ef150bd419ed1deea9579914e0e00f4eef962567d6635536542b"), looks := true }, kinds := [], alts := [], laidByText := true, laidKinds := [.data, .data, .data, .sentinel, .sentinel], laidTests := true, laidLooks := .later }
def SplitSwapsUptoCardSaid : Prop := Claim7.holds Tryd.pinned (.plain (OpenSpec.upto splitSwapsSpec)) splitSwapsUptoCard

/-- THE SECOND FORM's CARD OF 'faultlinelaw19.SplitReturns'. -/
def splitReturnsUptoCard : Claim7 := { stood := { row := splitReturnsUptoRow, standIns := [], harness := (true, "13ee26268f76ef150bd419ed1deea9579914e0e00f4eef962567d6635536542b"), looks := true }, kinds := [], alts := [], laidByText := true, laidKinds := [.data, .data, .data, .sentinel, .sentinel], laidTests := true, laidLooks := .later }
def SplitReturnsUptoCardSaid : Prop := Claim7.holds Tryd.pinned (.plain (OpenSpec.upto splitReturnsSpec)) splitReturnsUptoCard

/-- THE SECOND FORM's CARD OF 'faultlinelaw19.SplitLeaves'. -/
def splitLeavesUptoCard : Claim7 := { stood := { row := splitLeavesUptoRow, standIns := [], harness := (true, "13ee26268f76ef150bd419ed1deea9579914e0e00f4eef962567d6635536542b"), looks := true }, kinds := [], alts := [], laidByText := true, laidKinds := [.data, .data, .data, .sentinel, .sentinel], laidTests := true, laidLooks := .later }
def SplitLeavesUptoCardSaid : Prop := Claim7.holds Tryd.pinned (.plain (OpenSpec.upto splitLeavesSpec)) splitLeavesUptoCard

/-- THE SECOND FORM's CARD OF 'faultlinelaw19.SplitChecks'. -/
def splitChecksUptoCard : Claim7 := { stood := { row := splitChecksUptoRow, standIns := [], harness := (true, "13ee26268f76ef150bd419ed1deea9579914e0e00f4eef962567d6635536542b"), looks := true }, kinds := [], alts := [], laidByText := true, laidKinds := [.data, .data, .data, .sentinel, .sentinel], laidTests := true, laidLooks := .later }
def SplitChecksUptoCardSaid : Prop := Claim7.holds Tryd.pinned (.plain (OpenSpec.upto splitChecksSpec)) splitChecksUptoCard
end Rows
end Go.Proofs.YtpkjbchplkfmhaaDoor
