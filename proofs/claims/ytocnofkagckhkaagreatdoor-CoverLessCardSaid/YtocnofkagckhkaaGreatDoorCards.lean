/-
  DERIVED. GIVEN WITH THE SEED: THE CARDS: each row of YtocnofkagckhkaaGreatDoorRows.lean that lists a variable, with what it lists TIED to the program's text (the seventh form; the later family's looks); each row that meets fmt, with fmt's text TOLD by the authors' own Lean function (tested against real Go, not proved from fmt's source: count such statements apart). THE CARD IS WHAT COUNTS. Prove the row's statement (the work); the ties are given (YtocnofkagckhkaaGreatDoorTie.lean); close each card by the builder's one call (the guide's Derived/Test/ToyasCard.lean, 'card_holds'). Laid BY PROGRAM, IN A SANDBOX (cutbox-door.mjs). By AI agents, Wed Nov 11 2026. No macro, syntax, notation, axiom, sorry.
-/
import Derived.Test.YtocnofkagckhkaaGreatDoorRows
import GoSem.ClaimSeven
namespace Go.Proofs.YtocnofkagckhkaaGreatDoor
namespace Rows

/-- THE TIED CARD OF 'faultlinelaw36.CoverChecks'. -/
def coverChecksCard : Claim7 := { stood := { row := coverChecksRow, standIns := [], harness := (true, "0fd8af65e617406d435724b1c42957cc50e2156e4ed6f56dc24298fa95463d4b"), looks := true }, kinds := [], alts := [], laidByText := true, laidKinds := [.data, .data, .data], laidTests := true, laidLooks := .later }
def CoverChecksCardSaid : Prop := Claim7.holds Tryz.pinned (.plain (OpenSpec.ofChange coverChecksSpec)) coverChecksCard

/-- THE TIED CARD OF 'faultlinelaw36.CoverVerifies'. -/
def coverVerifiesCard : Claim7 := { stood := { row := coverVerifiesRow, standIns := [], harness := (true, "0fd8af65e617406d435724b1c42957cc50e2156e4ed6f56dc24298fa95463d4b"), looks := true }, kinds := [], alts := [], laidByText := true, laidKinds := [.data, .data, .data], laidTests := true, laidLooks := .later }
def CoverVerifiesCardSaid : Prop := Claim7.holds Tryz.pinned (.plain (OpenSpec.ofChange coverVerifiesSpec)) coverVerifiesCard

/-- THE TIED CARD OF 'faultlinelaw36.CoverLess'. -/
def coverLessCard : Claim7 := { stood := { row := coverLessRow, standIns := [], harness := (true, "0fd8af65e617406d435724b1c42957cc50e2156e4ed6f56dc24298fa95463d4b"), looks := true }, kinds := [], alts := [], laidByText := true, laidKinds := [.data, .data, .data], laidTests := true, laidLooks := .later }
def CoverLessCardSaid : Prop := Claim7.holds Tryz.pinned (.plain (OpenSpec.ofChange coverLessSpec)) coverLessCard

/-- THE TIED CARD OF 'faultlinelaw36.CoverRight'. -/
def coverRightCard : Claim7 := { stood := { row := coverRightRow, standIns := [], harness := (true, "0fd8af65e617406d435724b1c42957cc50e2156e4ed6f56dc24298fa95463d4b"), looks := true }, kinds := [], alts := [], laidByText := true, laidKinds := [.data, .data, .data], laidTests := true, laidLooks := .later }
def CoverRightCardSaid : Prop := Claim7.holds Tryz.pinned (.plain (OpenSpec.ofChange coverRightSpec)) coverRightCard

/-- THE TIED CARD OF 'faultlinelaw36.CoverShows'. -/
def coverShowsCard : Claim7 := { stood := { row := coverShowsRow, standIns := [], harness := (true, "0fd8af65e617406d435724b1c42957cc50e2156e4ed6f56dc24298fa95463d4b"), looks := true }, kinds := [], alts := [], laidByText := true, laidKinds := [.data, .data, .data], laidTests := true, laidLooks := .later }
def CoverShowsCardSaid : Prop := Claim7.holds Tryz.pinned (.plain (OpenSpec.ofChange coverShowsSpec)) coverShowsCard

/-- THE TIED CARD OF 'faultlinelaw36.CoverMakes'. -/
def coverMakesCard : Claim7 := { stood := { row := coverMakesRow, standIns := [], harness := (true, "0fd8af65e617406d435724b1c42957cc50e2156e4ed6f56dc24298fa95463d4b"), looks := true }, kinds := [], alts := [], laidByText := true, laidKinds := [.data, .data, .data], laidTests := true, laidLooks := .later }
def CoverMakesCardSaid : Prop := Claim7.holds Tryz.pinned (.plain (OpenSpec.ofChange coverMakesSpec)) coverMakesCard

/-- THE SECOND FORM's CARD OF 'faultlinelaw36.CoverChecks'. -/
def coverChecksUptoCard : Claim7 := { stood := { row := coverChecksUptoRow, standIns := [], harness := (true, "0fd8af65e617406d435724b1c42957cc50e2156e4ed6f56dc24298fa95463d4b"), looks := true }, kinds := [], alts := [], laidByText := true, laidKinds := [.data, .data, .data], laidTests := true, laidLooks := .later }
def CoverChecksUptoCardSaid : Prop := Claim7.holds Tryz.pinned (.plain (OpenSpec.upto coverChecksSpec)) coverChecksUptoCard

/-- THE SECOND FORM's CARD OF 'faultlinelaw36.CoverVerifies'. -/
def coverVerifiesUptoCard : Claim7 := { stood := { row := coverVerifiesUptoRow, standIns := [], harness := (true, "0fd8af65e617406d435724b1c42957cc50e2156e4ed6f56dc24298fa95463d4b"), looks := true }, kinds := [], alts := [], laidByText := true, laidKinds := [.data, .data, .data], laidTests := true, laidLooks := .later }
def CoverVerifiesUptoCardSaid : Prop := Claim7.holds Tryz.pinned (.plain (OpenSpec.upto coverVerifiesSpec)) coverVerifiesUptoCard

/-- THE SECOND FORM's CARD OF 'faultlinelaw36.CoverLess'. -/
def coverLessUptoCard : Claim7 := { stood := { row := coverLessUptoRow, standIns := [], harness := (true, "0fd8af65e617406d435724b1c42957cc50e2156e4ed6f56dc24298fa95463d4b"), looks := true }, kinds := [], alts := [], laidByText := true, laidKinds := [.data, .data, .data], laidTests := true, laidLooks := .later }
def CoverLessUptoCardSaid : Prop := Claim7.holds Tryz.pinned (.plain (OpenSpec.upto coverLessSpec)) coverLessUptoCard

/-- THE SECOND FORM's CARD OF 'faultlinelaw36.CoverRight'. -/
def coverRightUptoCard : Claim7 := { stood := { row := coverRightUptoRow, standIns := [], harness := (true, "0fd8af65e617406d435724b1c42957cc50e2156e4ed6f56dc24298fa95463d4b"), looks := true }, kinds := [], alts := [], laidByText := true, laidKinds := [.data, .data, .data], laidTests := true, laidLooks := .later }
def CoverRightUptoCardSaid : Prop := Claim7.holds Tryz.pinned (.plain (OpenSpec.upto coverRightSpec)) coverRightUptoCard

/-- THE SECOND FORM's CARD OF 'faultlinelaw36.CoverShows'. -/
def coverShowsUptoCard : Claim7 := { stood := { row := coverShowsUptoRow, standIns := [], harness := (true, "0fd8af65e617406d435724b1c42957cc50e2156e4ed6f56dc24298fa95463d4b"), looks := true }, kinds := [], alts := [], laidByText := true, laidKinds := [.data, .data, .data], laidTests := true, laidLooks := .later }
def CoverShowsUptoCardSaid : Prop := Claim7.holds Tryz.pinned (.plain (OpenSpec.upto coverShowsSpec)) coverShowsUptoCard

/-- THE SECOND FORM's CARD OF 'faultlinelaw36.CoverMakes'. -/
def coverMakesUptoCard : Claim7 := { stood := { row := coverMakesUptoRow, standIns := [], harness := (true, "0fd8af65e617406d435724b1c42957cc50e2156e4ed6f56dc24298fa95463d4b"), looks := true }, kinds := [], alts := [], laidByText := true, laidKinds := [.data, .data, .data], laidTests := true, laidLooks := .later }
def CoverMakesUptoCardSaid : Prop := Claim7.holds Tryz.pinned (.plain (OpenSpec.upto coverMakesSpec)) coverMakesUptoCard
end Rows
end Go.Proofs.YtocnofkagckhkaaGreatDoor
