/-
  NARROWER THAN 'FOR EVERY INPUT', by the rows' own cells (each row's printed sentence says how): RepairFinds: laid · RepairVerifies: loops, laid · RepairMakes: laid · RepairLeast: laid · RepairRight: loops, laid · RepairMore: laid.
  DERIVED. THE GIVEN ROWS OF THIS SEAT. 6 by the template 'for every input the law returns true; each argument reads behind the call as it read before'; 0 by the template 'total and deterministic' (their statements: YtgoilpfpmbjegaaGreatDoorTotals.lean).
  GIVEN WITH THE SEED: the statements are not yours to turn. If you find one false, say at which input.
  Laid BY PROGRAM, IN A SANDBOX (cutbox-rows.mjs): the forced cells as the released guide's own fill.sh prints them over the translation 7721e82a456da266… (all of the seat's roots in one cut). By AI agents, Wed Nov 11 2026. No macro, syntax, notation, axiom, sorry.
-/
import Derived.Test.YtgoilpfpmbjegaaGreatDoorChecked
import GoSem.Claim
import GoSem.ClaimJoined
import GoSem.ClaimMapViews
import Derived.JoinedTies
import Derived.KernelRfl
namespace Go.Proofs.YtgoilpfpmbjegaaGreatDoor
/- THE CELL 'sum', in the pinned program and in every row, IS THE sha256 OF THE DUMP (.gsa) THAT YtgoilpfpmbjegaaGreatDoorProg.lean LOADS. Nothing in Lean hashes anything: it is a label: what it is worth is what the hold of that sum in a sandbox is worth. -/
noncomputable def Tryz.pinned : Pinned := { name := "ytgoilpfpmbjegaagreatdoor", sum := "7721e82a456da2669640d584c89894f1344135ca808388f80ca2253c01678c67", checked := Tryz.checked }
namespace Rows
def none {H : Type} : Left H := { results := [], args := [] }

/- WHAT THE LISTED PACKAGE-LEVEL VARIABLES READ AS WHEN THE CALL BEGINS. Each datum BY PROGRAM (the guide's laid-datum.mjs) off the statement by which the dump's own 'gosem.cut.vars' lays the variable. In a bare row this is a premise. The card (YtgoilpfpmbjegaaGreatDoorCards.lean) ties it to the program's text. -/
def laid_math_bits_deBruijn32tab {H : Type} : DataW H := .agg [.lit (.int .u8 0), .lit (.int .u8 1), .lit (.int .u8 28), .lit (.int .u8 2), .lit (.int .u8 29), .lit (.int .u8 14), .lit (.int .u8 24), .lit (.int .u8 3), .lit (.int .u8 30), .lit (.int .u8 22), .lit (.int .u8 20), .lit (.int .u8 15), .lit (.int .u8 25), .lit (.int .u8 17), .lit (.int .u8 4), .lit (.int .u8 8), .lit (.int .u8 31), .lit (.int .u8 27), .lit (.int .u8 13), .lit (.int .u8 23), .lit (.int .u8 21), .lit (.int .u8 19), .lit (.int .u8 16), .lit (.int .u8 7), .lit (.int .u8 26), .lit (.int .u8 12), .lit (.int .u8 18), .lit (.int .u8 6), .lit (.int .u8 11), .lit (.int .u8 5), .lit (.int .u8 10), .lit (.int .u8 9)]
def laid_math_bits_deBruijn64tab {H : Type} : DataW H := .agg [.lit (.int .u8 0), .lit (.int .u8 1), .lit (.int .u8 56), .lit (.int .u8 2), .lit (.int .u8 57), .lit (.int .u8 49), .lit (.int .u8 28), .lit (.int .u8 3), .lit (.int .u8 61), .lit (.int .u8 58), .lit (.int .u8 42), .lit (.int .u8 50), .lit (.int .u8 38), .lit (.int .u8 29), .lit (.int .u8 17), .lit (.int .u8 4), .lit (.int .u8 62), .lit (.int .u8 47), .lit (.int .u8 59), .lit (.int .u8 36), .lit (.int .u8 45), .lit (.int .u8 43), .lit (.int .u8 51), .lit (.int .u8 22), .lit (.int .u8 53), .lit (.int .u8 39), .lit (.int .u8 33), .lit (.int .u8 30), .lit (.int .u8 24), .lit (.int .u8 18), .lit (.int .u8 12), .lit (.int .u8 5), .lit (.int .u8 63), .lit (.int .u8 55), .lit (.int .u8 48), .lit (.int .u8 27), .lit (.int .u8 60), .lit (.int .u8 41), .lit (.int .u8 37), .lit (.int .u8 16), .lit (.int .u8 46), .lit (.int .u8 35), .lit (.int .u8 44), .lit (.int .u8 21), .lit (.int .u8 52), .lit (.int .u8 32), .lit (.int .u8 23), .lit (.int .u8 11), .lit (.int .u8 54), .lit (.int .u8 26), .lit (.int .u8 40), .lit (.int .u8 15), .lit (.int .u8 34), .lit (.int .u8 20), .lit (.int .u8 31), .lit (.int .u8 10), .lit (.int .u8 25), .lit (.int .u8 14), .lit (.int .u8 19), .lit (.int .u8 9), .lit (.int .u8 13), .lit (.int .u8 8), .lit (.int .u8 7), .lit (.int .u8 6)]
def laid_internal_strconv_uint64pow10 {H : Type} : DataW H := .agg [.lit (.int .u64 1), .lit (.int .u64 10), .lit (.int .u64 100), .lit (.int .u64 1000), .lit (.int .u64 10000), .lit (.int .u64 100000), .lit (.int .u64 1000000), .lit (.int .u64 10000000), .lit (.int .u64 100000000), .lit (.int .u64 1000000000), .lit (.int .u64 10000000000), .lit (.int .u64 100000000000), .lit (.int .u64 1000000000000), .lit (.int .u64 10000000000000), .lit (.int .u64 100000000000000), .lit (.int .u64 1000000000000000), .lit (.int .u64 10000000000000000), .lit (.int .u64 100000000000000000), .lit (.int .u64 1000000000000000000), .lit (.int .u64 10000000000000000000)]

/-- 'faultlinelaw57.RepairFinds': WHATEVER THE INPUT: true; the input reads as it did. -/
def repairFindsSpec : ChangeSpec := { name := "repairFinds", fn := fun _ => fun
  | [d1, d2] => { results := [.lit (.bool true)], args := [d1, d2] }
  | _ => none }
def repairFindsRow : OpenClaim := { program := "ytgoilpfpmbjegaagreatdoor", sum := "7721e82a456da2669640d584c89894f1344135ca808388f80ca2253c01678c67", func := "faultline/faultlinelaw57.RepairFinds", spec := "repairFinds", inPlace := ["internal/abi.NoEscape"], unfollowed := true, recurses := true, named := ["math/bits.deBruijn32tab", "math/bits.deBruijn64tab", "internal/strconv.uint64pow10"], apart := false, laid := [("math/bits.deBruijn32tab", laid_math_bits_deBruijn32tab), ("math/bits.deBruijn64tab", laid_math_bits_deBruijn64tab), ("internal/strconv.uint64pow10", laid_internal_strconv_uint64pow10)] }
def RepairFindsSaid : Prop := repairFindsRow.holds Tryz.pinned (OpenSpec.ofChange repairFindsSpec)

/-- ITS FALSE NEIGHBOUR: 'it returns false'. Refute it at one input. -/
def repairFindsWrong : ChangeSpec := { name := "repairFinds", fn := fun _ => fun
  | [d1, d2] => { results := [.lit (.bool false)], args := [d1, d2] }
  | _ => none }
def RepairFindsWrongFalsely : Prop := repairFindsRow.holds Tryz.pinned (OpenSpec.ofChange repairFindsWrong)

/-- 'faultlinelaw57.RepairVerifies': WHATEVER THE INPUT: true; the input reads as it did. -/
def repairVerifiesSpec : ChangeSpec := { name := "repairVerifies", fn := fun _ => fun
  | [d1, d2, d3] => { results := [.lit (.bool true)], args := [d1, d2, d3] }
  | _ => none }
def repairVerifiesRow : OpenClaim := { program := "ytgoilpfpmbjegaagreatdoor", sum := "7721e82a456da2669640d584c89894f1344135ca808388f80ca2253c01678c67", func := "faultline/faultlinelaw57.RepairVerifies", spec := "repairVerifies", inPlace := ["internal/abi.NoEscape"], unfollowed := true, recurses := true, named := ["math/bits.deBruijn32tab", "math/bits.deBruijn64tab", "internal/strconv.uint64pow10"], loops := true, apart := false, laid := [("math/bits.deBruijn32tab", laid_math_bits_deBruijn32tab), ("math/bits.deBruijn64tab", laid_math_bits_deBruijn64tab), ("internal/strconv.uint64pow10", laid_internal_strconv_uint64pow10)] }
def RepairVerifiesSaid : Prop := repairVerifiesRow.holds Tryz.pinned (OpenSpec.ofChange repairVerifiesSpec)

/-- ITS FALSE NEIGHBOUR: 'it returns false'. Refute it at one input. -/
def repairVerifiesWrong : ChangeSpec := { name := "repairVerifies", fn := fun _ => fun
  | [d1, d2, d3] => { results := [.lit (.bool false)], args := [d1, d2, d3] }
  | _ => none }
def RepairVerifiesWrongFalsely : Prop := repairVerifiesRow.holds Tryz.pinned (OpenSpec.ofChange repairVerifiesWrong)

/-- 'faultlinelaw57.RepairMakes': WHATEVER THE INPUT: true; the input reads as it did. -/
def repairMakesSpec : ChangeSpec := { name := "repairMakes", fn := fun _ => fun
  | [d1, d2] => { results := [.lit (.bool true)], args := [d1, d2] }
  | _ => none }
def repairMakesRow : OpenClaim := { program := "ytgoilpfpmbjegaagreatdoor", sum := "7721e82a456da2669640d584c89894f1344135ca808388f80ca2253c01678c67", func := "faultline/faultlinelaw57.RepairMakes", spec := "repairMakes", inPlace := ["internal/abi.NoEscape"], unfollowed := true, recurses := true, named := ["math/bits.deBruijn32tab", "math/bits.deBruijn64tab", "internal/strconv.uint64pow10"], apart := false, laid := [("math/bits.deBruijn32tab", laid_math_bits_deBruijn32tab), ("math/bits.deBruijn64tab", laid_math_bits_deBruijn64tab), ("internal/strconv.uint64pow10", laid_internal_strconv_uint64pow10)] }
def RepairMakesSaid : Prop := repairMakesRow.holds Tryz.pinned (OpenSpec.ofChange repairMakesSpec)

/-- ITS FALSE NEIGHBOUR: 'it returns false'. Refute it at one input. -/
def repairMakesWrong : ChangeSpec := { name := "repairMakes", fn := fun _ => fun
  | [d1, d2] => { results := [.lit (.bool false)], args := [d1, d2] }
  | _ => none }
def RepairMakesWrongFalsely : Prop := repairMakesRow.holds Tryz.pinned (OpenSpec.ofChange repairMakesWrong)

/-- 'faultlinelaw57.RepairLeast': WHATEVER THE INPUT: true; the input reads as it did. -/
def repairLeastSpec : ChangeSpec := { name := "repairLeast", fn := fun _ => fun
  | [d1, d2, d3] => { results := [.lit (.bool true)], args := [d1, d2, d3] }
  | _ => none }
def repairLeastRow : OpenClaim := { program := "ytgoilpfpmbjegaagreatdoor", sum := "7721e82a456da2669640d584c89894f1344135ca808388f80ca2253c01678c67", func := "faultline/faultlinelaw57.RepairLeast", spec := "repairLeast", inPlace := ["internal/abi.NoEscape"], unfollowed := true, recurses := true, named := ["math/bits.deBruijn32tab", "math/bits.deBruijn64tab", "internal/strconv.uint64pow10"], apart := false, laid := [("math/bits.deBruijn32tab", laid_math_bits_deBruijn32tab), ("math/bits.deBruijn64tab", laid_math_bits_deBruijn64tab), ("internal/strconv.uint64pow10", laid_internal_strconv_uint64pow10)] }
def RepairLeastSaid : Prop := repairLeastRow.holds Tryz.pinned (OpenSpec.ofChange repairLeastSpec)

/-- ITS FALSE NEIGHBOUR: 'it returns false'. Refute it at one input. -/
def repairLeastWrong : ChangeSpec := { name := "repairLeast", fn := fun _ => fun
  | [d1, d2, d3] => { results := [.lit (.bool false)], args := [d1, d2, d3] }
  | _ => none }
def RepairLeastWrongFalsely : Prop := repairLeastRow.holds Tryz.pinned (OpenSpec.ofChange repairLeastWrong)

/-- 'faultlinelaw57.RepairRight': WHATEVER THE INPUT: true; the input reads as it did. -/
def repairRightSpec : ChangeSpec := { name := "repairRight", fn := fun _ => fun
  | [d1, d2, d3] => { results := [.lit (.bool true)], args := [d1, d2, d3] }
  | _ => none }
def repairRightRow : OpenClaim := { program := "ytgoilpfpmbjegaagreatdoor", sum := "7721e82a456da2669640d584c89894f1344135ca808388f80ca2253c01678c67", func := "faultline/faultlinelaw57.RepairRight", spec := "repairRight", inPlace := ["internal/abi.NoEscape"], unfollowed := true, recurses := true, named := ["math/bits.deBruijn32tab", "math/bits.deBruijn64tab", "internal/strconv.uint64pow10"], loops := true, apart := false, laid := [("math/bits.deBruijn32tab", laid_math_bits_deBruijn32tab), ("math/bits.deBruijn64tab", laid_math_bits_deBruijn64tab), ("internal/strconv.uint64pow10", laid_internal_strconv_uint64pow10)] }
def RepairRightSaid : Prop := repairRightRow.holds Tryz.pinned (OpenSpec.ofChange repairRightSpec)

/-- ITS FALSE NEIGHBOUR: 'it returns false'. Refute it at one input. -/
def repairRightWrong : ChangeSpec := { name := "repairRight", fn := fun _ => fun
  | [d1, d2, d3] => { results := [.lit (.bool false)], args := [d1, d2, d3] }
  | _ => none }
def RepairRightWrongFalsely : Prop := repairRightRow.holds Tryz.pinned (OpenSpec.ofChange repairRightWrong)

/-- 'faultlinelaw57.RepairMore': WHATEVER THE INPUT: true; the input reads as it did. -/
def repairMoreSpec : ChangeSpec := { name := "repairMore", fn := fun _ => fun
  | [d1, d2, d3] => { results := [.lit (.bool true)], args := [d1, d2, d3] }
  | _ => none }
def repairMoreRow : OpenClaim := { program := "ytgoilpfpmbjegaagreatdoor", sum := "7721e82a456da2669640d584c89894f1344135ca808388f80ca2253c01678c67", func := "faultline/faultlinelaw57.RepairMore", spec := "repairMore", inPlace := ["internal/abi.NoEscape"], unfollowed := true, recurses := true, named := ["math/bits.deBruijn32tab", "math/bits.deBruijn64tab", "internal/strconv.uint64pow10"], apart := false, laid := [("math/bits.deBruijn32tab", laid_math_bits_deBruijn32tab), ("math/bits.deBruijn64tab", laid_math_bits_deBruijn64tab), ("internal/strconv.uint64pow10", laid_internal_strconv_uint64pow10)] }
def RepairMoreSaid : Prop := repairMoreRow.holds Tryz.pinned (OpenSpec.ofChange repairMoreSpec)

/-- ITS FALSE NEIGHBOUR: 'it returns false'. Refute it at one input. -/
def repairMoreWrong : ChangeSpec := { name := "repairMore", fn := fun _ => fun
  | [d1, d2, d3] => { results := [.lit (.bool false)], args := [d1, d2, d3] }
  | _ => none }
def RepairMoreWrongFalsely : Prop := repairMoreRow.holds Tryz.pinned (OpenSpec.ofChange repairMoreWrong)

/- THE SECOND FORM. 'bulk': how many values and letters a reading holds, each counted each time it is reached (what is shared counts as often as it is met; a slice's spare places count too). A statement '..UptoSaid' is the law's where the arguments, and the package variables that the reading takes, are together of bulk at most 1048576: NARROWER than '..Said'. Prove '..Said' where nothing that the law and all that it calls make is longer than what came in: it says more and counts as full. Else prove '..UptoSaid'. A law counts once. -/
mutual
def uptoBulk {H : Type} : DataW H → Nat
  | .lit (.string bytes) => bytes.length + 1
  | .lit _ => 1
  | .nil => 1
  | .ptr d => uptoBulk d + 1
  | .slice elems spare => uptoBulkAll elems + uptoBulkAll spare + 1
  | .agg parts => uptoBulkAll parts + 1
  | .iface _ d => uptoBulk d + 1
  | .map entries => uptoBulkEntries entries + 1
  | .held _ => 1
def uptoBulkAll {H : Type} : List (DataW H) → Nat
  | [] => 0
  | d :: r => uptoBulk d + uptoBulkAll r
def uptoBulkEntries {H : Type} : List (Lit × DataW H) → Nat
  | [] => 0
  | x :: r => uptoBulkEntry x + uptoBulkEntries r
def uptoBulkEntry {H : Type} : Lit × DataW H → Nat
  | (.string bytes, d) => bytes.length + uptoBulk d + 1
  | (_, d) => uptoBulk d + 1
 end
def uptoSmall : (H : Type) → List (DataW H) → Bool := fun _ ds => decide (uptoBulkAll ds ≤ 1048576)
def OpenSpec.upto (s : _root_.Go.ChangeSpec) : _root_.Go.OpenSpec := { _root_.Go.OpenSpec.ofChange s with cond := some uptoSmall }

/-- 'faultlinelaw57.RepairFinds', WHERE WHAT IT READS IS OF BULK AT MOST 1048576: true; the input reads as it did. -/
def repairFindsUptoRow : OpenClaim := { program := "ytgoilpfpmbjegaagreatdoor", sum := "7721e82a456da2669640d584c89894f1344135ca808388f80ca2253c01678c67", func := "faultline/faultlinelaw57.RepairFinds", spec := "repairFinds", inPlace := ["internal/abi.NoEscape"], unfollowed := true, recurses := true, named := ["math/bits.deBruijn32tab", "math/bits.deBruijn64tab", "internal/strconv.uint64pow10"], apart := false, laid := [("math/bits.deBruijn32tab", laid_math_bits_deBruijn32tab), ("math/bits.deBruijn64tab", laid_math_bits_deBruijn64tab), ("internal/strconv.uint64pow10", laid_internal_strconv_uint64pow10)], narrowed := true }
def RepairFindsUptoSaid : Prop := repairFindsUptoRow.holds Tryz.pinned (OpenSpec.upto repairFindsSpec)

/-- 'faultlinelaw57.RepairVerifies', WHERE WHAT IT READS IS OF BULK AT MOST 1048576: true; the input reads as it did. -/
def repairVerifiesUptoRow : OpenClaim := { program := "ytgoilpfpmbjegaagreatdoor", sum := "7721e82a456da2669640d584c89894f1344135ca808388f80ca2253c01678c67", func := "faultline/faultlinelaw57.RepairVerifies", spec := "repairVerifies", inPlace := ["internal/abi.NoEscape"], unfollowed := true, recurses := true, named := ["math/bits.deBruijn32tab", "math/bits.deBruijn64tab", "internal/strconv.uint64pow10"], loops := true, apart := false, laid := [("math/bits.deBruijn32tab", laid_math_bits_deBruijn32tab), ("math/bits.deBruijn64tab", laid_math_bits_deBruijn64tab), ("internal/strconv.uint64pow10", laid_internal_strconv_uint64pow10)], narrowed := true }
def RepairVerifiesUptoSaid : Prop := repairVerifiesUptoRow.holds Tryz.pinned (OpenSpec.upto repairVerifiesSpec)

/-- 'faultlinelaw57.RepairMakes', WHERE WHAT IT READS IS OF BULK AT MOST 1048576: true; the input reads as it did. -/
def repairMakesUptoRow : OpenClaim := { program := "ytgoilpfpmbjegaagreatdoor", sum := "7721e82a456da2669640d584c89894f1344135ca808388f80ca2253c01678c67", func := "faultline/faultlinelaw57.RepairMakes", spec := "repairMakes", inPlace := ["internal/abi.NoEscape"], unfollowed := true, recurses := true, named := ["math/bits.deBruijn32tab", "math/bits.deBruijn64tab", "internal/strconv.uint64pow10"], apart := false, laid := [("math/bits.deBruijn32tab", laid_math_bits_deBruijn32tab), ("math/bits.deBruijn64tab", laid_math_bits_deBruijn64tab), ("internal/strconv.uint64pow10", laid_internal_strconv_uint64pow10)], narrowed := true }
def RepairMakesUptoSaid : Prop := repairMakesUptoRow.holds Tryz.pinned (OpenSpec.upto repairMakesSpec)

/-- 'faultlinelaw57.RepairLeast', WHERE WHAT IT READS IS OF BULK AT MOST 1048576: true; the input reads as it did. -/
def repairLeastUptoRow : OpenClaim := { program := "ytgoilpfpmbjegaagreatdoor", sum := "7721e82a456da2669640d584c89894f1344135ca808388f80ca2253c01678c67", func := "faultline/faultlinelaw57.RepairLeast", spec := "repairLeast", inPlace := ["internal/abi.NoEscape"], unfollowed := true, recurses := true, named := ["math/bits.deBruijn32tab", "math/bits.deBruijn64tab", "internal/strconv.uint64pow10"], apart := false, laid := [("math/bits.deBruijn32tab", laid_math_bits_deBruijn32tab), ("math/bits.deBruijn64tab", laid_math_bits_deBruijn64tab), ("internal/strconv.uint64pow10", laid_internal_strconv_uint64pow10)], narrowed := true }
def RepairLeastUptoSaid : Prop := repairLeastUptoRow.holds Tryz.pinned (OpenSpec.upto repairLeastSpec)

/-- 'faultlinelaw57.RepairRight', WHERE WHAT IT READS IS OF BULK AT MOST 1048576: true; the input reads as it did. -/
def repairRightUptoRow : OpenClaim := { program := "ytgoilpfpmbjegaagreatdoor", sum := "7721e82a456da2669640d584c89894f1344135ca808388f80ca2253c01678c67", func := "faultline/faultlinelaw57.RepairRight", spec := "repairRight", inPlace := ["internal/abi.NoEscape"], unfollowed := true, recurses := true, named := ["math/bits.deBruijn32tab", "math/bits.deBruijn64tab", "internal/strconv.uint64pow10"], loops := true, apart := false, laid := [("math/bits.deBruijn32tab", laid_math_bits_deBruijn32tab), ("math/bits.deBruijn64tab", laid_math_bits_deBruijn64tab), ("internal/strconv.uint64pow10", laid_internal_strconv_uint64pow10)], narrowed := true }
def RepairRightUptoSaid : Prop := repairRightUptoRow.holds Tryz.pinned (OpenSpec.upto repairRightSpec)

/-- 'faultlinelaw57.RepairMore', WHERE WHAT IT READS IS OF BULK AT MOST 1048576: true; the input reads as it did. -/
def repairMoreUptoRow : OpenClaim := { program := "ytgoilpfpmbjegaagreatdoor", sum := "7721e82a456da2669640d584c89894f1344135ca808388f80ca2253c01678c67", func := "faultline/faultlinelaw57.RepairMore", spec := "repairMore", inPlace := ["internal/abi.NoEscape"], unfollowed := true, recurses := true, named := ["math/bits.deBruijn32tab", "math/bits.deBruijn64tab", "internal/strconv.uint64pow10"], apart := false, laid := [("math/bits.deBruijn32tab", laid_math_bits_deBruijn32tab), ("math/bits.deBruijn64tab", laid_math_bits_deBruijn64tab), ("internal/strconv.uint64pow10", laid_internal_strconv_uint64pow10)], narrowed := true }
def RepairMoreUptoSaid : Prop := repairMoreUptoRow.holds Tryz.pinned (OpenSpec.upto repairMoreSpec)

end Rows
end Go.Proofs.YtgoilpfpmbjegaaGreatDoor
