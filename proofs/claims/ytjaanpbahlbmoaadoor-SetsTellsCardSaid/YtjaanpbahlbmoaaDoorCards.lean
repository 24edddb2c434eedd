/-
  DERIVED. GIVEN WITH THE SEED: THE CARDS: each row of YtjaanpbahlbmoaaDoorRows.lean that lists a variable, with what it lists TIED to the program's text (the seventh form; the later family's looks); each row that meets fmt, with fmt's text TOLD by the authors' own Lean function (tested against real Go, not proved from fmt's source: count such statements apart). THE CARD IS WHAT COUNTS. Prove the row's statement (the work); the ties are given (YtjaanpbahlbmoaaDoorTie.lean); close each card by the builder's one call (the guide's Derived/Test/ToyasCard.lean, 'card_holds'). Laid BY PROGRAM, IN A SANDBOX (cutbox-door.mjs). By AI agents, Wed Nov 11 2026. No macro, syntax, notation, axiom, sorry.
-/
import Derived.Test.YtjaanpbahlbmoaaDoorRows
import GoSem.ClaimSeven
namespace Go.Proofs.YtjaanpbahlbmoaaDoor
namespace Rows

/-- THE TIED CARD OF 'faultlinelaw05.SetsLists'. -/
def setsListsCard : Claim7 := { stood := { row := setsListsRow, standIns := [], harness := (true, "c8db8edea201961ba4f64f190a688cb87311aecefeb83a3b62f245f35e443024"), looks := true }, kinds := [], alts := [], laidByText := true, laidKinds := [.data, .data, .data], laidTests := true, laidLooks := .later }
def SetsListsCardSaid : Prop := Claim7.holds Tryd.pinned (.plain (OpenSpec.ofChange setsListsSpec)) setsListsCard

/-- THE TIED CARD OF 'faultlinelaw05.SetsOrders'. -/
def setsOrdersCard : Claim7 := { stood := { row := setsOrdersRow, standIns := [], harness := (true, "c8db8edea201961ba4f64f190a688cb87311aecefeb83a3b62f245f35e443024"), looks := true }, kinds := [], alts := [], laidByText := true, laidKinds := [.data, .data, .data], laidTests := true, laidLooks := .later }
def SetsOrdersCardSaid : Prop := Claim7.holds Tryd.pinned (.plain (OpenSpec.ofChange setsOrdersSpec)) setsOrdersCard

/-- THE TIED CARD OF 'faultlinelaw05.SetsParts'. -/
def setsPartsCard : Claim7 := { stood := { row := setsPartsRow, standIns := [], harness := (true, "c8db8edea201961ba4f64f190a688cb87311aecefeb83a3b62f245f35e443024"), looks := true }, kinds := [], alts := [], laidByText := true, laidKinds := [.data, .data, .data], laidTests := true, laidLooks := .later }
def SetsPartsCardSaid : Prop := Claim7.holds Tryd.pinned (.plain (OpenSpec.ofChange setsPartsSpec)) setsPartsCard

/-- THE TIED CARD OF 'faultlinelaw05.SetsTells'. -/
def setsTellsCard : Claim7 := { stood := { row := setsTellsRow, standIns := [], harness := (true, "c8db8edea201961ba4f64f190a688cb87311aecefeb83a3b62f245f35e443024"), looks := true }, kinds := [], alts := [], laidByText := true, laidKinds := [.data, .data, .data], laidTests := true, laidLooks := .later }
def SetsTellsCardSaid : Prop := Claim7.holds Tryd.pinned (.plain (OpenSpec.ofChange setsTellsSpec)) setsTellsCard

/-- THE TIED CARD OF 'faultlinelaw05.SetsChooses'. -/
def setsChoosesCard : Claim7 := { stood := { row := setsChoosesRow, standIns := [], harness := (true, "c8db8edea201961ba4f64f190a688cb87311aecefeb83a3b62f245f35e443024"), looks := true }, kinds := [], alts := [], laidByText := true, laidKinds := [.data, .data, .data], laidTests := true, laidLooks := .later }
def SetsChoosesCardSaid : Prop := Claim7.holds Tryd.pinned (.plain (OpenSpec.ofChange setsChoosesSpec)) setsChoosesCard

/-- THE TIED CARD OF 'faultlinelaw05.SetsAll'. -/
def setsAllCard : Claim7 := { stood := { row := setsAllRow, standIns := [], harness := (true, "c8db8edea201961ba4f64f190a688cb87311aecefeb83a3b62f245f35e443024"), looks := true }, kinds := [], alts := [], laidByText := true, laidKinds := [.data, .data, .data], laidTests := true, laidLooks := .later }
def SetsAllCardSaid : Prop := Claim7.holds Tryd.pinned (.plain (OpenSpec.ofChange setsAllSpec)) setsAllCard

/-- THE TIED CARD OF 'faultlinelaw06.FamilyLists'. -/
def familyListsCard : Claim7 := { stood := { row := familyListsRow, standIns := [], harness := (true, "c8db8edea201961ba4f64f190a688cb87311aecefeb83a3b62f245f35e443024"), looks := true }, kinds := [], alts := [], laidByText := true, laidKinds := [.data, .data, .data], laidTests := true, laidLooks := .later }
def FamilyListsCardSaid : Prop := Claim7.holds Tryd.pinned (.plain (OpenSpec.ofChange familyListsSpec)) familyListsCard

/-- THE SECOND FORM's CARD OF 'faultlinelaw05.SetsLists'. -/
def setsListsUptoCard : Claim7 := { stood := { row := setsListsUptoRow, standIns := [], harness := (true, "c8db8edea201961ba4f64f190a688cb87311aecefeb83a3b62f245f35e443024"), looks := true }, kinds := [], alts := [], laidByText := true, laidKinds := [.data, .data, .data], laidTests := true, laidLooks := .later }
def SetsListsUptoCardSaid : Prop := Claim7.holds Tryd.pinned (.plain (OpenSpec.upto setsListsSpec)) setsListsUptoCard

/-- THE SECOND FORM's CARD OF 'faultlinelaw05.SetsOrders'. -/
def setsOrdersUptoCard : Claim7 := { stood := { row := setsOrdersUptoRow, standIns := [], harness := (true, "c8db8edea201961ba4f64f190a688cb87311aecefeb83a3b62f245f35e443024"), looks := true }, kinds := [], alts := [], laidByText := true, laidKinds := [.data, .data, .data], laidTests := true, laidLooks := .later }
def SetsOrdersUptoCardSaid : Prop := Claim7.holds Tryd.pinned (.plain (OpenSpec.upto setsOrdersSpec)) setsOrdersUptoCard

/-- THE SECOND FORM's CARD OF 'faultlinelaw05.SetsParts'. -/
def setsPartsUptoCard : Claim7 := { stood := { row := setsPartsUptoRow, standIns := [], harness := (true, "c8db8edea201961ba4f64f190a688cb87311aecefeb83a3b62f245f35e443024"), looks := true }, kinds := [], alts := [], laidByText := true, laidKinds := [.data, .data, .data], laidTests := true, laidLooks := .later }
def SetsPartsUptoCardSaid : Prop := Claim7.holds Tryd.pinned (.plain (OpenSpec.upto setsPartsSpec)) setsPartsUptoCard

/-- THE SECOND FORM's CARD OF 'faultlinelaw05.SetsTells'. -/
def setsTellsUptoCard : Claim7 := { stood := { row := setsTellsUptoRow, standIns := [], harness := (true, "c8db8edea201961ba4f64f190a688cb87311aecefeb83a3b62f245f35e443024"), looks := true }, kinds := [], alts := [], laidByText := true, laidKinds := [.data, .data, .data], laidTests := true, laidLooks := .later }
def SetsTellsUptoCardSaid : Prop := Claim7.holds Tryd.pinned (.plain (OpenSpec.upto setsTellsSpec)) setsTellsUptoCard

/-- THE SECOND FORM's CARD OF 'faultlinelaw05.SetsChooses'. -/
def setsChoosesUptoCard : Claim7 := { stood := { row := setsChoosesUptoRow, standIns := [], harness := (true, "c8db8edea201961ba4f64f190a688cb87311aecefeb83a3b62f245f35e443024"), looks := true }, kinds := [], alts := [], laidByText := true, laidKinds := [.data, .data, .data], laidTests := true, laidLooks := .later }
def SetsChoosesUptoCardSaid : Prop := Claim7.holds Tryd.pinned (.plain (OpenSpec.upto setsChoosesSpec)) setsChoosesUptoCard

/-- THE SECOND FORM's CARD OF 'faultlinelaw05.SetsAll'. -/
def setsAllUptoCard : Claim7 := { stood := { row := setsAllUptoRow, standIns := [], harness := (true, "c8db8edea201961ba4f64f190a688cb87311aecefeb83a3b62f245f35e443024"), looks := true }, kinds := [], alts := [], laidByText := true, laidKinds := [.data, .data, .data], laidTests := true, laidLooks := .later }
def SetsAllUptoCardSaid : Prop := Claim7.holds Tryd.pinned (.plain (OpenSpec.upto setsAllSpec)) setsAllUptoCard

/-- THE SECOND FORM's CARD OF 'faultlinelaw06.FamilyLists'. -/
def familyListsUptoCard : Claim7 := { stood := { row := familyListsUptoRow, standIns := [], harness := (true, "c8db8edea201961ba4f64f190a688cb87311aecefeb83a3b62f245f35e443024"), looks := true }, kinds := [], alts := [], laidByText := true, laidKinds := [.data, .data, .data], laidTests := true, laidLooks := .later }
def FamilyListsUptoCardSaid : Prop := Claim7.holds Tryd.pinned (.plain (OpenSpec.upto familyListsSpec)) familyListsUptoCard
end Rows
end Go.Proofs.YtjaanpbahlbmoaaDoor
