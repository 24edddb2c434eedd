/-
  The functions of sets and of the specification of sets (counting, comparing) compute what their Lean functions say; no condition.
-/
import Derived.Test.YtpkjbchplkfmhaaDoorFnA
import Derived.Test.YtpkjbchplkfmhaaDoorPuA
set_option linter.unusedSectionVars false
set_option linter.unusedVariables false
set_option linter.unusedSimpArgs false
namespace Go.Proofs.YtpkjbchplkfmhaaDoor
open Go.Sy Go.Pu
variable [Drw]

def T3 : Fns := T2
theorem T3_ok : FnsOk Tryd.prog T3 := T2_ok


def T4 : Fns := T3
theorem T4_ok : FnsOk Tryd.prog T4 := T3_ok


def T5 : Fns := T4
theorem T5_ok : FnsOk Tryd.prog T5 := T4_ok


/-! the specification's -/
def T6 : Fns := T5
theorem T6_ok : FnsOk Tryd.prog T6 := T5_ok


def T7 : Fns := T6
theorem T7_ok : FnsOk Tryd.prog T7 := T6_ok


def T8 : Fns := T7
theorem T8_ok : FnsOk Tryd.prog T8 := T7_ok


end Go.Proofs.YtpkjbchplkfmhaaDoor
