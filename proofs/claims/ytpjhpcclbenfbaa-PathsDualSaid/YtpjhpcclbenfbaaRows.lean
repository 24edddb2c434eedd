/-
  No cell of these rows narrows 'for every input' (looked for: loops, veiled, ifaces, maps, wideKeys, modest, calm, conditions, laid).
  DERIVED. THE GIVEN ROWS OF THIS SEAT. 12 by the template 'for every input the law returns true; each argument reads behind the call as it read before'; 0 by the template 'total and deterministic' (their statements: YtpjhpcclbenfbaaTotals.lean).
  GIVEN WITH THE SEED: the statements are not yours to turn. If you find one false, say at which input.
  Laid BY PROGRAM, IN A SANDBOX (cutbox-rows.mjs): the forced cells as the released guide's own fill.sh prints them over the translation 8f8b7581189beccd… (all of the seat's roots in one cut). By AI agents, Wed Nov 11 2026. No macro, syntax, notation, axiom, sorry.
-/
import Derived.Test.YtpjhpcclbenfbaaChecked
import GoSem.Claim
import GoSem.ClaimJoined
import GoSem.ClaimMapViews
import Derived.JoinedTies
import Derived.KernelRfl
namespace Go.Proofs.Ytpjhpcclbenfbaa
/- THE CELL 'sum', in the pinned program and in every row, IS THE sha256 OF THE DUMP (.gsa) THAT YtpjhpcclbenfbaaProg.lean LOADS. Nothing in Lean hashes anything: it is a label: what it is worth is what the hold of that sum in a sandbox is worth. -/
noncomputable def Try.pinned : Pinned := { name := "ytpjhpcclbenfbaa", sum := "8f8b7581189beccdc4969764d625014ee7a59c13003388772043831799776a04", checked := Try.checked }
namespace Rows
def none {H : Type} : Left H := { results := [], args := [] }

/-- 'faultlinelaw56.ExplainReasons': WHATEVER THE INPUT: true; the input reads as it did. -/
def explainReasonsSpec : ChangeSpec := { name := "explainReasons", fn := fun _ => fun
  | [d1, d2] => { results := [.lit (.bool true)], args := [d1, d2] }
  | _ => none }
def explainReasonsRow : OpenClaim := { program := "ytpjhpcclbenfbaa", sum := "8f8b7581189beccdc4969764d625014ee7a59c13003388772043831799776a04", func := "faultline/faultlinelaw56.ExplainReasons", spec := "explainReasons", unfollowed := true, recurses := true, apart := false }
def ExplainReasonsSaid : Prop := explainReasonsRow.holds Try.pinned (OpenSpec.ofChange explainReasonsSpec)

/-- ITS FALSE NEIGHBOUR: 'it returns false'. Refute it at one input. -/
def explainReasonsWrong : ChangeSpec := { name := "explainReasons", fn := fun _ => fun
  | [d1, d2] => { results := [.lit (.bool false)], args := [d1, d2] }
  | _ => none }
def ExplainReasonsWrongFalsely : Prop := explainReasonsRow.holds Try.pinned (OpenSpec.ofChange explainReasonsWrong)

/-- 'faultlinelaw56.ExplainCarries': WHATEVER THE INPUT: true; the input reads as it did. -/
def explainCarriesSpec : ChangeSpec := { name := "explainCarries", fn := fun _ => fun
  | [d1, d2] => { results := [.lit (.bool true)], args := [d1, d2] }
  | _ => none }
def explainCarriesRow : OpenClaim := { program := "ytpjhpcclbenfbaa", sum := "8f8b7581189beccdc4969764d625014ee7a59c13003388772043831799776a04", func := "faultline/faultlinelaw56.ExplainCarries", spec := "explainCarries", unfollowed := true, recurses := true, apart := false }
def ExplainCarriesSaid : Prop := explainCarriesRow.holds Try.pinned (OpenSpec.ofChange explainCarriesSpec)

/-- ITS FALSE NEIGHBOUR: 'it returns false'. Refute it at one input. -/
def explainCarriesWrong : ChangeSpec := { name := "explainCarries", fn := fun _ => fun
  | [d1, d2] => { results := [.lit (.bool false)], args := [d1, d2] }
  | _ => none }
def ExplainCarriesWrongFalsely : Prop := explainCarriesRow.holds Try.pinned (OpenSpec.ofChange explainCarriesWrong)

/-- 'faultlinelaw56.ExplainMinimal': WHATEVER THE INPUT: true; the input reads as it did. -/
def explainMinimalSpec : ChangeSpec := { name := "explainMinimal", fn := fun _ => fun
  | [d1, d2] => { results := [.lit (.bool true)], args := [d1, d2] }
  | _ => none }
def explainMinimalRow : OpenClaim := { program := "ytpjhpcclbenfbaa", sum := "8f8b7581189beccdc4969764d625014ee7a59c13003388772043831799776a04", func := "faultline/faultlinelaw56.ExplainMinimal", spec := "explainMinimal", unfollowed := true, recurses := true, apart := false }
def ExplainMinimalSaid : Prop := explainMinimalRow.holds Try.pinned (OpenSpec.ofChange explainMinimalSpec)

/-- ITS FALSE NEIGHBOUR: 'it returns false'. Refute it at one input. -/
def explainMinimalWrong : ChangeSpec := { name := "explainMinimal", fn := fun _ => fun
  | [d1, d2] => { results := [.lit (.bool false)], args := [d1, d2] }
  | _ => none }
def ExplainMinimalWrongFalsely : Prop := explainMinimalRow.holds Try.pinned (OpenSpec.ofChange explainMinimalWrong)

/-- 'faultlinelaw56.ExplainCritical': WHATEVER THE INPUT: true; the input reads as it did. -/
def explainCriticalSpec : ChangeSpec := { name := "explainCritical", fn := fun _ => fun
  | [d1, d2] => { results := [.lit (.bool true)], args := [d1, d2] }
  | _ => none }
def explainCriticalRow : OpenClaim := { program := "ytpjhpcclbenfbaa", sum := "8f8b7581189beccdc4969764d625014ee7a59c13003388772043831799776a04", func := "faultline/faultlinelaw56.ExplainCritical", spec := "explainCritical", unfollowed := true, recurses := true, apart := false }
def ExplainCriticalSaid : Prop := explainCriticalRow.holds Try.pinned (OpenSpec.ofChange explainCriticalSpec)

/-- ITS FALSE NEIGHBOUR: 'it returns false'. Refute it at one input. -/
def explainCriticalWrong : ChangeSpec := { name := "explainCritical", fn := fun _ => fun
  | [d1, d2] => { results := [.lit (.bool false)], args := [d1, d2] }
  | _ => none }
def ExplainCriticalWrongFalsely : Prop := explainCriticalRow.holds Try.pinned (OpenSpec.ofChange explainCriticalWrong)

/-- 'faultlinelaw56.ExplainDecides': WHATEVER THE INPUT: true; the input reads as it did. -/
def explainDecidesSpec : ChangeSpec := { name := "explainDecides", fn := fun _ => fun
  | [d1, d2, d3] => { results := [.lit (.bool true)], args := [d1, d2, d3] }
  | _ => none }
def explainDecidesRow : OpenClaim := { program := "ytpjhpcclbenfbaa", sum := "8f8b7581189beccdc4969764d625014ee7a59c13003388772043831799776a04", func := "faultline/faultlinelaw56.ExplainDecides", spec := "explainDecides", unfollowed := true, recurses := true, apart := false }
def ExplainDecidesSaid : Prop := explainDecidesRow.holds Try.pinned (OpenSpec.ofChange explainDecidesSpec)

/-- ITS FALSE NEIGHBOUR: 'it returns false'. Refute it at one input. -/
def explainDecidesWrong : ChangeSpec := { name := "explainDecides", fn := fun _ => fun
  | [d1, d2, d3] => { results := [.lit (.bool false)], args := [d1, d2, d3] }
  | _ => none }
def ExplainDecidesWrongFalsely : Prop := explainDecidesRow.holds Try.pinned (OpenSpec.ofChange explainDecidesWrong)

/-- 'faultlinelaw34.PathsAll': WHATEVER THE INPUT: true; the input reads as it did. -/
def pathsAllSpec : ChangeSpec := { name := "pathsAll", fn := fun _ => fun
  | [d] => { results := [.lit (.bool true)], args := [d] }
  | _ => none }
def pathsAllRow : OpenClaim := { program := "ytpjhpcclbenfbaa", sum := "8f8b7581189beccdc4969764d625014ee7a59c13003388772043831799776a04", func := "faultline/faultlinelaw34.PathsAll", spec := "pathsAll", unfollowed := true, recurses := true, apart := false }
def PathsAllSaid : Prop := pathsAllRow.holds Try.pinned (OpenSpec.ofChange pathsAllSpec)

/-- ITS FALSE NEIGHBOUR: 'it returns false'. Refute it at one input. -/
def pathsAllWrong : ChangeSpec := { name := "pathsAll", fn := fun _ => fun
  | [d] => { results := [.lit (.bool false)], args := [d] }
  | _ => none }
def PathsAllWrongFalsely : Prop := pathsAllRow.holds Try.pinned (OpenSpec.ofChange pathsAllWrong)

/-- 'faultlinelaw56.ExplainSets': WHATEVER THE INPUT: true; the input reads as it did. -/
def explainSetsSpec : ChangeSpec := { name := "explainSets", fn := fun _ => fun
  | [d1, d2, d3] => { results := [.lit (.bool true)], args := [d1, d2, d3] }
  | _ => none }
def explainSetsRow : OpenClaim := { program := "ytpjhpcclbenfbaa", sum := "8f8b7581189beccdc4969764d625014ee7a59c13003388772043831799776a04", func := "faultline/faultlinelaw56.ExplainSets", spec := "explainSets", unfollowed := true, recurses := true, apart := false }
def ExplainSetsSaid : Prop := explainSetsRow.holds Try.pinned (OpenSpec.ofChange explainSetsSpec)

/-- ITS FALSE NEIGHBOUR: 'it returns false'. Refute it at one input. -/
def explainSetsWrong : ChangeSpec := { name := "explainSets", fn := fun _ => fun
  | [d1, d2, d3] => { results := [.lit (.bool false)], args := [d1, d2, d3] }
  | _ => none }
def ExplainSetsWrongFalsely : Prop := explainSetsRow.holds Try.pinned (OpenSpec.ofChange explainSetsWrong)

/-- 'faultlinelaw34.PathsComplement': WHATEVER THE INPUT: true; the input reads as it did. -/
def pathsComplementSpec : ChangeSpec := { name := "pathsComplement", fn := fun _ => fun
  | [d1, d2, d3] => { results := [.lit (.bool true)], args := [d1, d2, d3] }
  | _ => none }
def pathsComplementRow : OpenClaim := { program := "ytpjhpcclbenfbaa", sum := "8f8b7581189beccdc4969764d625014ee7a59c13003388772043831799776a04", func := "faultline/faultlinelaw34.PathsComplement", spec := "pathsComplement", unfollowed := true, recurses := true, apart := false }
def PathsComplementSaid : Prop := pathsComplementRow.holds Try.pinned (OpenSpec.ofChange pathsComplementSpec)

/-- ITS FALSE NEIGHBOUR: 'it returns false'. Refute it at one input. -/
def pathsComplementWrong : ChangeSpec := { name := "pathsComplement", fn := fun _ => fun
  | [d1, d2, d3] => { results := [.lit (.bool false)], args := [d1, d2, d3] }
  | _ => none }
def PathsComplementWrongFalsely : Prop := pathsComplementRow.holds Try.pinned (OpenSpec.ofChange pathsComplementWrong)

/-- 'faultlinelaw34.PathsTells': WHATEVER THE INPUT: true; the input reads as it did. -/
def pathsTellsSpec : ChangeSpec := { name := "pathsTells", fn := fun _ => fun
  | [d1, d2] => { results := [.lit (.bool true)], args := [d1, d2] }
  | _ => none }
def pathsTellsRow : OpenClaim := { program := "ytpjhpcclbenfbaa", sum := "8f8b7581189beccdc4969764d625014ee7a59c13003388772043831799776a04", func := "faultline/faultlinelaw34.PathsTells", spec := "pathsTells", unfollowed := true, recurses := true, apart := false }
def PathsTellsSaid : Prop := pathsTellsRow.holds Try.pinned (OpenSpec.ofChange pathsTellsSpec)

/-- ITS FALSE NEIGHBOUR: 'it returns false'. Refute it at one input. -/
def pathsTellsWrong : ChangeSpec := { name := "pathsTells", fn := fun _ => fun
  | [d1, d2] => { results := [.lit (.bool false)], args := [d1, d2] }
  | _ => none }
def PathsTellsWrongFalsely : Prop := pathsTellsRow.holds Try.pinned (OpenSpec.ofChange pathsTellsWrong)

/-- 'faultlinelaw34.PathsReduces': WHATEVER THE INPUT: true; the input reads as it did. -/
def pathsReducesSpec : ChangeSpec := { name := "pathsReduces", fn := fun _ => fun
  | [d1, d2] => { results := [.lit (.bool true)], args := [d1, d2] }
  | _ => none }
def pathsReducesRow : OpenClaim := { program := "ytpjhpcclbenfbaa", sum := "8f8b7581189beccdc4969764d625014ee7a59c13003388772043831799776a04", func := "faultline/faultlinelaw34.PathsReduces", spec := "pathsReduces", unfollowed := true, recurses := true, apart := false }
def PathsReducesSaid : Prop := pathsReducesRow.holds Try.pinned (OpenSpec.ofChange pathsReducesSpec)

/-- ITS FALSE NEIGHBOUR: 'it returns false'. Refute it at one input. -/
def pathsReducesWrong : ChangeSpec := { name := "pathsReduces", fn := fun _ => fun
  | [d1, d2] => { results := [.lit (.bool false)], args := [d1, d2] }
  | _ => none }
def PathsReducesWrongFalsely : Prop := pathsReducesRow.holds Try.pinned (OpenSpec.ofChange pathsReducesWrong)

/-- 'faultlinelaw34.PathsHold': WHATEVER THE INPUT: true; the input reads as it did. -/
def pathsHoldSpec : ChangeSpec := { name := "pathsHold", fn := fun _ => fun
  | [d1, d2] => { results := [.lit (.bool true)], args := [d1, d2] }
  | _ => none }
def pathsHoldRow : OpenClaim := { program := "ytpjhpcclbenfbaa", sum := "8f8b7581189beccdc4969764d625014ee7a59c13003388772043831799776a04", func := "faultline/faultlinelaw34.PathsHold", spec := "pathsHold", unfollowed := true, recurses := true, apart := false }
def PathsHoldSaid : Prop := pathsHoldRow.holds Try.pinned (OpenSpec.ofChange pathsHoldSpec)

/-- ITS FALSE NEIGHBOUR: 'it returns false'. Refute it at one input. -/
def pathsHoldWrong : ChangeSpec := { name := "pathsHold", fn := fun _ => fun
  | [d1, d2] => { results := [.lit (.bool false)], args := [d1, d2] }
  | _ => none }
def PathsHoldWrongFalsely : Prop := pathsHoldRow.holds Try.pinned (OpenSpec.ofChange pathsHoldWrong)

/-- 'faultlinelaw34.PathsDual': WHATEVER THE INPUT: true; the input reads as it did. -/
def pathsDualSpec : ChangeSpec := { name := "pathsDual", fn := fun _ => fun
  | [d1, d2] => { results := [.lit (.bool true)], args := [d1, d2] }
  | _ => none }
def pathsDualRow : OpenClaim := { program := "ytpjhpcclbenfbaa", sum := "8f8b7581189beccdc4969764d625014ee7a59c13003388772043831799776a04", func := "faultline/faultlinelaw34.PathsDual", spec := "pathsDual", unfollowed := true, recurses := true, apart := false }
def PathsDualSaid : Prop := pathsDualRow.holds Try.pinned (OpenSpec.ofChange pathsDualSpec)

/-- ITS FALSE NEIGHBOUR: 'it returns false'. Refute it at one input. -/
def pathsDualWrong : ChangeSpec := { name := "pathsDual", fn := fun _ => fun
  | [d1, d2] => { results := [.lit (.bool false)], args := [d1, d2] }
  | _ => none }
def PathsDualWrongFalsely : Prop := pathsDualRow.holds Try.pinned (OpenSpec.ofChange pathsDualWrong)

/- THE SECOND FORM. 'bulk': how many values and letters a reading holds, each counted each time it is reached (what is shared counts as often as it is met; a slice's spare places count too). A statement '..UptoSaid' is the law's where the arguments, and the package variables that the reading takes, are together of bulk at most 1048576: NARROWER than '..Said'. Prove '..Said' where nothing that the law and all that it calls make is longer than what came in: it says more and counts as full. Else prove '..UptoSaid'. A law counts once. -/
mutual
def uptoBulk {H : Type} : DataW H → Nat
  | .lit (.string bytes) => bytes.length + 1
  | .lit _ => 1
  | .nil => 1
  | .ptr d => uptoBulk d + 1
  | .slice elems spare => uptoBulkAll elems + uptoBulkAll spare + 1
  | .agg parts => uptoBulkAll parts + 1
  | .iface _ d => uptoBulk d + 1
  | .map entries => uptoBulkEntries entries + 1
  | .held _ => 1
def uptoBulkAll {H : Type} : List (DataW H) → Nat
  | [] => 0
  | d :: r => uptoBulk d + uptoBulkAll r
def uptoBulkEntries {H : Type} : List (Lit × DataW H) → Nat
  | [] => 0
  | x :: r => uptoBulkEntry x + uptoBulkEntries r
def uptoBulkEntry {H : Type} : Lit × DataW H → Nat
  | (.string bytes, d) => bytes.length + uptoBulk d + 1
  | (_, d) => uptoBulk d + 1
 end
def uptoSmall : (H : Type) → List (DataW H) → Bool := fun _ ds => decide (uptoBulkAll ds ≤ 1048576)
def OpenSpec.upto (s : _root_.Go.ChangeSpec) : _root_.Go.OpenSpec := { _root_.Go.OpenSpec.ofChange s with cond := some uptoSmall }

/-- 'faultlinelaw56.ExplainReasons', WHERE WHAT IT READS IS OF BULK AT MOST 1048576: true; the input reads as it did. -/
def explainReasonsUptoRow : OpenClaim := { program := "ytpjhpcclbenfbaa", sum := "8f8b7581189beccdc4969764d625014ee7a59c13003388772043831799776a04", func := "faultline/faultlinelaw56.ExplainReasons", spec := "explainReasons", unfollowed := true, recurses := true, apart := false, narrowed := true }
def ExplainReasonsUptoSaid : Prop := explainReasonsUptoRow.holds Try.pinned (OpenSpec.upto explainReasonsSpec)

/-- 'faultlinelaw56.ExplainCarries', WHERE WHAT IT READS IS OF BULK AT MOST 1048576: true; the input reads as it did. -/
def explainCarriesUptoRow : OpenClaim := { program := "ytpjhpcclbenfbaa", sum := "8f8b7581189beccdc4969764d625014ee7a59c13003388772043831799776a04", func := "faultline/faultlinelaw56.ExplainCarries", spec := "explainCarries", unfollowed := true, recurses := true, apart := false, narrowed := true }
def ExplainCarriesUptoSaid : Prop := explainCarriesUptoRow.holds Try.pinned (OpenSpec.upto explainCarriesSpec)

/-- 'faultlinelaw56.ExplainMinimal', WHERE WHAT IT READS IS OF BULK AT MOST 1048576: true; the input reads as it did. -/
def explainMinimalUptoRow : OpenClaim := { program := "ytpjhpcclbenfbaa", sum := "8f8b7581189beccdc4969764d625014ee7a59c13003388772043831799776a04", func := "faultline/faultlinelaw56.ExplainMinimal", spec := "explainMinimal", unfollowed := true, recurses := true, apart := false, narrowed := true }
def ExplainMinimalUptoSaid : Prop := explainMinimalUptoRow.holds Try.pinned (OpenSpec.upto explainMinimalSpec)

/-- 'faultlinelaw56.ExplainCritical', WHERE WHAT IT READS IS OF BULK AT MOST 1048576: true; the input reads as it did. -/
def explainCriticalUptoRow : OpenClaim := { program := "ytpjhpcclbenfbaa", sum := "8f8b7581189beccdc4969764d625014ee7a59c13003388772043831799776a04", func := "faultline/faultlinelaw56.ExplainCritical", spec := "explainCritical", unfollowed := true, recurses := true, apart := false, narrowed := true }
def ExplainCriticalUptoSaid : Prop := explainCriticalUptoRow.holds Try.pinned (OpenSpec.upto explainCriticalSpec)

/-- 'faultlinelaw56.ExplainDecides', WHERE WHAT IT READS IS OF BULK AT MOST 1048576: true; the input reads as it did. -/
def explainDecidesUptoRow : OpenClaim := { program := "ytpjhpcclbenfbaa", sum := "8f8b7581189beccdc4969764d625014ee7a59c13003388772043831799776a04", func := "faultline/faultlinelaw56.ExplainDecides", spec := "explainDecides", unfollowed := true, recurses := true, apart := false, narrowed := true }
def ExplainDecidesUptoSaid : Prop := explainDecidesUptoRow.holds Try.pinned (OpenSpec.upto explainDecidesSpec)

/-- 'faultlinelaw34.PathsAll', WHERE WHAT IT READS IS OF BULK AT MOST 1048576: true; the input reads as it did. -/
def pathsAllUptoRow : OpenClaim := { program := "ytpjhpcclbenfbaa", sum := "8f8b7581189beccdc4969764d625014ee7a59c13003388772043831799776a04", func := "faultline/faultlinelaw34.PathsAll", spec := "pathsAll", unfollowed := true, recurses := true, apart := false, narrowed := true }
def PathsAllUptoSaid : Prop := pathsAllUptoRow.holds Try.pinned (OpenSpec.upto pathsAllSpec)

/-- 'faultlinelaw56.ExplainSets', WHERE WHAT IT READS IS OF BULK AT MOST 1048576: true; the input reads as it did. -/
def explainSetsUptoRow : OpenClaim := { program := "ytpjhpcclbenfbaa", sum := "8f8b7581189beccdc4969764d625014ee7a59c13003388772043831799776a04", func := "faultline/faultlinelaw56.ExplainSets", spec := "explainSets", unfollowed := true, recurses := true, apart := false, narrowed := true }
def ExplainSetsUptoSaid : Prop := explainSetsUptoRow.holds Try.pinned (OpenSpec.upto explainSetsSpec)

/-- 'faultlinelaw34.PathsComplement', WHERE WHAT IT READS IS OF BULK AT MOST 1048576: true; the input reads as it did. -/
def pathsComplementUptoRow : OpenClaim := { program := "ytpjhpcclbenfbaa", sum := "8f8b7581189beccdc4969764d625014ee7a59c13003388772043831799776a04", func := "faultline/faultlinelaw34.PathsComplement", spec := "pathsComplement", unfollowed := true, recurses := true, apart := false, narrowed := true }
def PathsComplementUptoSaid : Prop := pathsComplementUptoRow.holds Try.pinned (OpenSpec.upto pathsComplementSpec)

/-- 'faultlinelaw34.PathsTells', WHERE WHAT IT READS IS OF BULK AT MOST 1048576: true; the input reads as it did. -/
def pathsTellsUptoRow : OpenClaim := { program := "ytpjhpcclbenfbaa", sum := "8f8b7581189beccdc4969764d625014ee7a59c13003388772043831799776a04", func := "faultline/faultlinelaw34.PathsTells", spec := "pathsTells", unfollowed := true, recurses := true, apart := false, narrowed := true }
def PathsTellsUptoSaid : Prop := pathsTellsUptoRow.holds Try.pinned (OpenSpec.upto pathsTellsSpec)

/-- 'faultlinelaw34.PathsReduces', WHERE WHAT IT READS IS OF BULK AT MOST 1048576: true; the input reads as it did. -/
def pathsReducesUptoRow : OpenClaim := { program := "ytpjhpcclbenfbaa", sum := "8f8b7581189beccdc4969764d625014ee7a59c13003388772043831799776a04", func := "faultline/faultlinelaw34.PathsReduces", spec := "pathsReduces", unfollowed := true, recurses := true, apart := false, narrowed := true }
def PathsReducesUptoSaid : Prop := pathsReducesUptoRow.holds Try.pinned (OpenSpec.upto pathsReducesSpec)

/-- 'faultlinelaw34.PathsHold', WHERE WHAT IT READS IS OF BULK AT MOST 1048576: true; the input reads as it did. -/
def pathsHoldUptoRow : OpenClaim := { program := "ytpjhpcclbenfbaa", sum := "8f8b7581189beccdc4969764d625014ee7a59c13003388772043831799776a04", func := "faultline/faultlinelaw34.PathsHold", spec := "pathsHold", unfollowed := true, recurses := true, apart := false, narrowed := true }
def PathsHoldUptoSaid : Prop := pathsHoldUptoRow.holds Try.pinned (OpenSpec.upto pathsHoldSpec)

/-- 'faultlinelaw34.PathsDual', WHERE WHAT IT READS IS OF BULK AT MOST 1048576: true; the input reads as it did. -/
def pathsDualUptoRow : OpenClaim := { program := "ytpjhpcclbenfbaa", sum := "8f8b7581189beccdc4969764d625014ee7a59c13003388772043831799776a04", func := "faultline/faultlinelaw34.PathsDual", spec := "pathsDual", unfollowed := true, recurses := true, apart := false, narrowed := true }
def PathsDualUptoSaid : Prop := pathsDualUptoRow.holds Try.pinned (OpenSpec.upto pathsDualSpec)

end Rows
end Go.Proofs.Ytpjhpcclbenfbaa
