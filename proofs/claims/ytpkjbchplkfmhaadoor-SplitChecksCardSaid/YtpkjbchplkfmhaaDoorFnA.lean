/-
  THE FUNCTIONS OF sets AND OF THE SPECIFICATION OF SETS: their contracts, and the table of them.
-/
import Derived.Test.YtpkjbchplkfmhaaDoorSyO
import Derived.Test.YtpkjbchplkfmhaaDoorLay
import Derived.Test.YtpkjbchplkfmhaaDoorPuA
set_option linter.unusedSectionVars false
set_option linter.unusedVariables false
set_option linter.unusedSimpArgs false
namespace Go.Proofs.YtpkjbchplkfmhaaDoor
open Go.Sy Go.Pu
variable [Drw]

def T1 : Fns := []
theorem T1_ok : FnsOk Tryd.prog T1 := .nil _


def T2 : Fns := T1
theorem T2_ok : FnsOk Tryd.prog T2 := T1_ok


end Go.Proofs.YtpkjbchplkfmhaaDoor
