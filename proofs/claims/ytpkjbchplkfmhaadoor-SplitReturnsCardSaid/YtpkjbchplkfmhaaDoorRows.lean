/-
  NARROWER THAN 'FOR EVERY INPUT', by the rows' own cells (each row's printed sentence says how): SplitReads: laid · SplitCovers: loops, laid · SplitMerges: loops, laid · SplitFull: laid · SplitSwaps: loops, laid · SplitReturns: loops, laid · SplitLeaves: loops, laid · SplitChecks: loops, laid.
  DERIVED. THE GIVEN ROWS OF THIS SEAT. 8 by the template 'for every input the law returns true; each argument reads behind the call as it read before'; 0 by the template 'total and deterministic' (their statements: YtpkjbchplkfmhaaDoorTotals.lean).
  GIVEN WITH THE SEED: the statements are not yours to turn. If you find one false, say at which input.
  Laid BY PROGRAM, IN A SANDBOX (cutbox-rows.mjs): the forced cells as the released guide's own fill.sh prints them over the translation eca599741300a52a… (all of the seat's roots in one cut). By AI agents, Wed Nov 11 2026. No macro, syntax, notation, axiom, sorry.
-/
import Derived.Test.YtpkjbchplkfmhaaDoorChecked
import GoSem.Claim
import GoSem.ClaimJoined
import GoSem.ClaimMapViews
import Derived.JoinedTies
import Derived.KernelRfl
namespace Go.Proofs.YtpkjbchplkfmhaaDoor
/- THE CELL 'sum', in the pinned program and in every row, IS THE sha256 OF THE DUMP (.gsa) THAT YtpkjbchplkfmhaaDoorProg.lean LOADS. Nothing in Lean hashes anything: it is a label: what it is worth is what the hold of that sum in a sandbox is worth. -/
noncomputable def Tryd.pinned : Pinned := { name := "ytpkjbchplkfmhaadoor", sum := "eca599741300a52aee7ee71ee071da33d79acf7ee39913ac7232c66a4a6f2292", checked := Tryd.checked }
namespace Rows
def none {H : Type} : Left H := { results := [], args := [] }

/- WHAT THE LISTED PACKAGE-LEVEL VARIABLES READ AS WHEN THE CALL BEGINS. Each datum BY PROGRAM (the guide's laid-datum.mjs) off the statement by which the dump's own 'gosem.cut.vars' lays the variable. In a bare row this is a premise. The card (YtpkjbchplkfmhaaDoorCards.lean) ties it to the program's text. -/
def laid_math_bits_deBruijn32tab {H : Type} : DataW H := .agg [.lit (.int .u8 0), .lit (.int .u8 1), .lit (.int .u8 28), .lit (.int .u8 2), .lit (.int .u8 29), .lit (.int .u8 14), .lit (.int .u8 24), .lit (.int .u8 3), .lit (.int .u8 30), .lit (.int .u8 22), .lit (.int .u8 20), .lit (.int .u8 15), .lit (.int .u8 25), .lit (.int .u8 17), .lit (.int .u8 4), .lit (.int .u8 8), .lit (.int .u8 31), .lit (.int .u8 27), .lit (.int .u8 13), .lit (.int .u8 23), .lit (.int .u8 21), .lit (.int .u8 19), .lit (.int .u8 16), .lit (.int .u8 7), .lit (.int .u8 26), .lit (.int .u8 12), .lit (.int .u8 18), .lit (.int .u8 6), .lit (.int .u8 11), .lit (.int .u8 5), .lit (.int .u8 10), .lit (.int .u8 9)]
def laid_math_bits_deBruijn64tab {H : Type} : DataW H := .agg [.lit (.int .u8 0), .lit (.int .u8 1), .lit (.int .u8 56), .lit (.int .u8 2), .lit (.int .u8 57), .lit (.int .u8 49), .lit (.int .u8 28), .lit (.int .u8 3), .lit (.int .u8 61), .lit (.int .u8 58), .lit (.int .u8 42), .lit (.int .u8 50), .lit (.int .u8 38), .lit (.int .u8 29), .lit (.int .u8 17), .lit (.int .u8 4), .lit (.int .u8 62), .lit (.int .u8 47), .lit (.int .u8 59), .lit (.int .u8 36), .lit (.int .u8 45), .lit (.int .u8 43), .lit (.int .u8 51), .lit (.int .u8 22), .lit (.int .u8 53), .lit (.int .u8 39), .lit (.int .u8 33), .lit (.int .u8 30), .lit (.int .u8 24), .lit (.int .u8 18), .lit (.int .u8 12), .lit (.int .u8 5), .lit (.int .u8 63), .lit (.int .u8 55), .lit (.int .u8 48), .lit (.int .u8 27), .lit (.int .u8 60), .lit (.int .u8 41), .lit (.int .u8 37), .lit (.int .u8 16), .lit (.int .u8 46), .lit (.int .u8 35), .lit (.int .u8 44), .lit (.int .u8 21), .lit (.int .u8 52), .lit (.int .u8 32), .lit (.int .u8 23), .lit (.int .u8 11), .lit (.int .u8 54), .lit (.int .u8 26), .lit (.int .u8 40), .lit (.int .u8 15), .lit (.int .u8 34), .lit (.int .u8 20), .lit (.int .u8 31), .lit (.int .u8 10), .lit (.int .u8 25), .lit (.int .u8 14), .lit (.int .u8 19), .lit (.int .u8 9), .lit (.int .u8 13), .lit (.int .u8 8), .lit (.int .u8 7), .lit (.int .u8 6)]
def laid_internal_strconv_uint64pow10 {H : Type} : DataW H := .agg [.lit (.int .u64 1), .lit (.int .u64 10), .lit (.int .u64 100), .lit (.int .u64 1000), .lit (.int .u64 10000), .lit (.int .u64 100000), .lit (.int .u64 1000000), .lit (.int .u64 10000000), .lit (.int .u64 100000000), .lit (.int .u64 1000000000), .lit (.int .u64 10000000000), .lit (.int .u64 100000000000), .lit (.int .u64 1000000000000), .lit (.int .u64 10000000000000), .lit (.int .u64 100000000000000), .lit (.int .u64 1000000000000000), .lit (.int .u64 10000000000000000), .lit (.int .u64 100000000000000000), .lit (.int .u64 1000000000000000000), .lit (.int .u64 10000000000000000000)]
def laid_strconv_ErrRange {H : Type} : DataW H := .iface "*errors.errorString" (.ptr (.agg [.lit (.string [118, 97, 108, 117, 101, 32, 111, 117, 116, 32, 111, 102, 32, 114, 97, 110, 103, 101])]))
def laid_strconv_ErrSyntax {H : Type} : DataW H := .iface "*errors.errorString" (.ptr (.agg [.lit (.string [105, 110, 118, 97, 108, 105, 100, 32, 115, 121, 110, 116, 97, 120])]))

/-- 'faultlinelaw19.SplitReads': WHATEVER THE INPUT: true; the input reads as it did. -/
def splitReadsSpec : ChangeSpec := { name := "splitReads", fn := fun _ => fun
  | [d] => { results := [.lit (.bool true)], args := [d] }
  | _ => none }
def splitReadsRow : OpenClaim := { program := "ytpkjbchplkfmhaadoor", sum := "eca599741300a52aee7ee71ee071da33d79acf7ee39913ac7232c66a4a6f2292", func := "faultline/faultlinelaw19.SplitReads", spec := "splitReads", recurses := true, named := ["strconv.ErrSyntax", "strconv.ErrRange", "internal/strconv.uint64pow10", "math/bits.deBruijn32tab", "math/bits.deBruijn64tab"], apart := false, laid := [("math/bits.deBruijn32tab", laid_math_bits_deBruijn32tab), ("math/bits.deBruijn64tab", laid_math_bits_deBruijn64tab), ("internal/strconv.uint64pow10", laid_internal_strconv_uint64pow10), ("strconv.ErrRange", laid_strconv_ErrRange), ("strconv.ErrSyntax", laid_strconv_ErrSyntax)] }
def SplitReadsSaid : Prop := splitReadsRow.holds Tryd.pinned (OpenSpec.ofChange splitReadsSpec)

/-- ITS FALSE NEIGHBOUR: 'it returns false'. Refute it at one input. -/
def splitReadsWrong : ChangeSpec := { name := "splitReads", fn := fun _ => fun
  | [d] => { results := [.lit (.bool false)], args := [d] }
  | _ => none }
def SplitReadsWrongFalsely : Prop := splitReadsRow.holds Tryd.pinned (OpenSpec.ofChange splitReadsWrong)

/-- 'faultlinelaw19.SplitCovers': WHATEVER THE INPUT: true; the input reads as it did. -/
def splitCoversSpec : ChangeSpec := { name := "splitCovers", fn := fun _ => fun
  | [d1, d2, d3] => { results := [.lit (.bool true)], args := [d1, d2, d3] }
  | _ => none }
def splitCoversRow : OpenClaim := { program := "ytpkjbchplkfmhaadoor", sum := "eca599741300a52aee7ee71ee071da33d79acf7ee39913ac7232c66a4a6f2292", func := "faultline/faultlinelaw19.SplitCovers", spec := "splitCovers", recurses := true, named := ["strconv.ErrSyntax", "strconv.ErrRange", "internal/strconv.uint64pow10", "math/bits.deBruijn32tab", "math/bits.deBruijn64tab"], loops := true, apart := false, laid := [("math/bits.deBruijn32tab", laid_math_bits_deBruijn32tab), ("math/bits.deBruijn64tab", laid_math_bits_deBruijn64tab), ("internal/strconv.uint64pow10", laid_internal_strconv_uint64pow10), ("strconv.ErrRange", laid_strconv_ErrRange), ("strconv.ErrSyntax", laid_strconv_ErrSyntax)] }
def SplitCoversSaid : Prop := splitCoversRow.holds Tryd.pinned (OpenSpec.ofChange splitCoversSpec)

/-- ITS FALSE NEIGHBOUR: 'it returns false'. Refute it at one input. -/
def splitCoversWrong : ChangeSpec := { name := "splitCovers", fn := fun _ => fun
  | [d1, d2, d3] => { results := [.lit (.bool false)], args := [d1, d2, d3] }
  | _ => none }
def SplitCoversWrongFalsely : Prop := splitCoversRow.holds Tryd.pinned (OpenSpec.ofChange splitCoversWrong)

/-- 'faultlinelaw19.SplitMerges': WHATEVER THE INPUT: true; the input reads as it did. -/
def splitMergesSpec : ChangeSpec := { name := "splitMerges", fn := fun _ => fun
  | [d1, d2, d3] => { results := [.lit (.bool true)], args := [d1, d2, d3] }
  | _ => none }
def splitMergesRow : OpenClaim := { program := "ytpkjbchplkfmhaadoor", sum := "eca599741300a52aee7ee71ee071da33d79acf7ee39913ac7232c66a4a6f2292", func := "faultline/faultlinelaw19.SplitMerges", spec := "splitMerges", recurses := true, named := ["strconv.ErrSyntax", "strconv.ErrRange", "internal/strconv.uint64pow10", "math/bits.deBruijn32tab", "math/bits.deBruijn64tab"], loops := true, apart := false, laid := [("math/bits.deBruijn32tab", laid_math_bits_deBruijn32tab), ("math/bits.deBruijn64tab", laid_math_bits_deBruijn64tab), ("internal/strconv.uint64pow10", laid_internal_strconv_uint64pow10), ("strconv.ErrRange", laid_strconv_ErrRange), ("strconv.ErrSyntax", laid_strconv_ErrSyntax)] }
def SplitMergesSaid : Prop := splitMergesRow.holds Tryd.pinned (OpenSpec.ofChange splitMergesSpec)

/-- ITS FALSE NEIGHBOUR: 'it returns false'. Refute it at one input. -/
def splitMergesWrong : ChangeSpec := { name := "splitMerges", fn := fun _ => fun
  | [d1, d2, d3] => { results := [.lit (.bool false)], args := [d1, d2, d3] }
  | _ => none }
def SplitMergesWrongFalsely : Prop := splitMergesRow.holds Tryd.pinned (OpenSpec.ofChange splitMergesWrong)

/-- 'faultlinelaw19.SplitFull': WHATEVER THE INPUT: true; the input reads as it did. -/
def splitFullSpec : ChangeSpec := { name := "splitFull", fn := fun _ => fun
  | [d1, d2] => { results := [.lit (.bool true)], args := [d1, d2] }
  | _ => none }
def splitFullRow : OpenClaim := { program := "ytpkjbchplkfmhaadoor", sum := "eca599741300a52aee7ee71ee071da33d79acf7ee39913ac7232c66a4a6f2292", func := "faultline/faultlinelaw19.SplitFull", spec := "splitFull", recurses := true, named := ["strconv.ErrSyntax", "strconv.ErrRange", "internal/strconv.uint64pow10", "math/bits.deBruijn32tab", "math/bits.deBruijn64tab"], apart := false, laid := [("math/bits.deBruijn32tab", laid_math_bits_deBruijn32tab), ("math/bits.deBruijn64tab", laid_math_bits_deBruijn64tab), ("internal/strconv.uint64pow10", laid_internal_strconv_uint64pow10), ("strconv.ErrRange", laid_strconv_ErrRange), ("strconv.ErrSyntax", laid_strconv_ErrSyntax)] }
def SplitFullSaid : Prop := splitFullRow.holds Tryd.pinned (OpenSpec.ofChange splitFullSpec)

/-- ITS FALSE NEIGHBOUR: 'it returns false'. Refute it at one input. -/
def splitFullWrong : ChangeSpec := { name := "splitFull", fn := fun _ => fun
  | [d1, d2] => { results := [.lit (.bool false)], args := [d1, d2] }
  | _ => none }
def SplitFullWrongFalsely : Prop := splitFullRow.holds Tryd.pinned (OpenSpec.ofChange splitFullWrong)

/-- 'faultlinelaw19.SplitSwaps': WHATEVER THE INPUT: true; the input reads as it did. -/
def splitSwapsSpec : ChangeSpec := { name := "splitSwaps", fn := fun _ => fun
  | [d1, d2, d3] => { results := [.lit (.bool true)], args := [d1, d2, d3] }
  | _ => none }
def splitSwapsRow : OpenClaim := { program := "ytpkjbchplkfmhaadoor", sum := "eca599741300a52aee7ee71ee071da33d79acf7ee39913ac7232c66a4a6f2292", func := "faultline/faultlinelaw19.SplitSwaps", spec := "splitSwaps", recurses := true, named := ["strconv.ErrSyntax", "strconv.ErrRange", "internal/strconv.uint64pow10", "math/bits.deBruijn32tab", "math/bits.deBruijn64tab"], loops := true, apart := false, laid := [("math/bits.deBruijn32tab", laid_math_bits_deBruijn32tab), ("math/bits.deBruijn64tab", laid_math_bits_deBruijn64tab), ("internal/strconv.uint64pow10", laid_internal_strconv_uint64pow10), ("strconv.ErrRange", laid_strconv_ErrRange), ("strconv.ErrSyntax", laid_strconv_ErrSyntax)] }
def SplitSwapsSaid : Prop := splitSwapsRow.holds Tryd.pinned (OpenSpec.ofChange splitSwapsSpec)

/-- ITS FALSE NEIGHBOUR: 'it returns false'. Refute it at one input. -/
def splitSwapsWrong : ChangeSpec := { name := "splitSwaps", fn := fun _ => fun
  | [d1, d2, d3] => { results := [.lit (.bool false)], args := [d1, d2, d3] }
  | _ => none }
def SplitSwapsWrongFalsely : Prop := splitSwapsRow.holds Tryd.pinned (OpenSpec.ofChange splitSwapsWrong)

/-- 'faultlinelaw19.SplitReturns': WHATEVER THE INPUT: true; the input reads as it did. -/
def splitReturnsSpec : ChangeSpec := { name := "splitReturns", fn := fun _ => fun
  | [d1, d2] => { results := [.lit (.bool true)], args := [d1, d2] }
  | _ => none }
def splitReturnsRow : OpenClaim := { program := "ytpkjbchplkfmhaadoor", sum := "eca599741300a52aee7ee71ee071da33d79acf7ee39913ac7232c66a4a6f2292", func := "faultline/faultlinelaw19.SplitReturns", spec := "splitReturns", inPlace := ["internal/abi.NoEscape"], recurses := true, named := ["strconv.ErrSyntax", "strconv.ErrRange", "internal/strconv.uint64pow10", "math/bits.deBruijn32tab", "math/bits.deBruijn64tab"], loops := true, apart := false, laid := [("math/bits.deBruijn32tab", laid_math_bits_deBruijn32tab), ("math/bits.deBruijn64tab", laid_math_bits_deBruijn64tab), ("internal/strconv.uint64pow10", laid_internal_strconv_uint64pow10), ("strconv.ErrRange", laid_strconv_ErrRange), ("strconv.ErrSyntax", laid_strconv_ErrSyntax)] }
def SplitReturnsSaid : Prop := splitReturnsRow.holds Tryd.pinned (OpenSpec.ofChange splitReturnsSpec)

/-- ITS FALSE NEIGHBOUR: 'it returns false'. Refute it at one input. -/
def splitReturnsWrong : ChangeSpec := { name := "splitReturns", fn := fun _ => fun
  | [d1, d2] => { results := [.lit (.bool false)], args := [d1, d2] }
  | _ => none }
def SplitReturnsWrongFalsely : Prop := splitReturnsRow.holds Tryd.pinned (OpenSpec.ofChange splitReturnsWrong)

/-- 'faultlinelaw19.SplitLeaves': WHATEVER THE INPUT: true; the input reads as it did. -/
def splitLeavesSpec : ChangeSpec := { name := "splitLeaves", fn := fun _ => fun
  | [d1, d2, d3] => { results := [.lit (.bool true)], args := [d1, d2, d3] }
  | _ => none }
def splitLeavesRow : OpenClaim := { program := "ytpkjbchplkfmhaadoor", sum := "eca599741300a52aee7ee71ee071da33d79acf7ee39913ac7232c66a4a6f2292", func := "faultline/faultlinelaw19.SplitLeaves", spec := "splitLeaves", inPlace := ["internal/abi.NoEscape"], recurses := true, named := ["strconv.ErrSyntax", "strconv.ErrRange", "internal/strconv.uint64pow10", "math/bits.deBruijn32tab", "math/bits.deBruijn64tab"], loops := true, apart := false, laid := [("math/bits.deBruijn32tab", laid_math_bits_deBruijn32tab), ("math/bits.deBruijn64tab", laid_math_bits_deBruijn64tab), ("internal/strconv.uint64pow10", laid_internal_strconv_uint64pow10), ("strconv.ErrRange", laid_strconv_ErrRange), ("strconv.ErrSyntax", laid_strconv_ErrSyntax)] }
def SplitLeavesSaid : Prop := splitLeavesRow.holds Tryd.pinned (OpenSpec.ofChange splitLeavesSpec)

/-- ITS FALSE NEIGHBOUR: 'it returns false'. Refute it at one input. -/
def splitLeavesWrong : ChangeSpec := { name := "splitLeaves", fn := fun _ => fun
  | [d1, d2, d3] => { results := [.lit (.bool false)], args := [d1, d2, d3] }
  | _ => none }
def SplitLeavesWrongFalsely : Prop := splitLeavesRow.holds Tryd.pinned (OpenSpec.ofChange splitLeavesWrong)

/-- 'faultlinelaw19.SplitChecks': WHATEVER THE INPUT: true; the input reads as it did. -/
def splitChecksSpec : ChangeSpec := { name := "splitChecks", fn := fun _ => fun
  | [d1, d2] => { results := [.lit (.bool true)], args := [d1, d2] }
  | _ => none }
def splitChecksRow : OpenClaim := { program := "ytpkjbchplkfmhaadoor", sum := "eca599741300a52aee7ee71ee071da33d79acf7ee39913ac7232c66a4a6f2292", func := "faultline/faultlinelaw19.SplitChecks", spec := "splitChecks", inPlace := ["internal/abi.NoEscape"], recurses := true, named := ["strconv.ErrSyntax", "strconv.ErrRange", "internal/strconv.uint64pow10", "math/bits.deBruijn32tab", "math/bits.deBruijn64tab"], loops := true, apart := false, laid := [("math/bits.deBruijn32tab", laid_math_bits_deBruijn32tab), ("math/bits.deBruijn64tab", laid_math_bits_deBruijn64tab), ("internal/strconv.uint64pow10", laid_internal_strconv_uint64pow10), ("strconv.ErrRange", laid_strconv_ErrRange), ("strconv.ErrSyntax", laid_strconv_ErrSyntax)] }
def SplitChecksSaid : Prop := splitChecksRow.holds Tryd.pinned (OpenSpec.ofChange splitChecksSpec)

/-- ITS FALSE NEIGHBOUR: 'it returns false'. Refute it at one input. -/
def splitChecksWrong : ChangeSpec := { name := "splitChecks", fn := fun _ => fun
  | [d1, d2] => { results := [.lit (.bool false)], args := [d1, d2] }
  | _ => none }
def SplitChecksWrongFalsely : Prop := splitChecksRow.holds Tryd.pinned (OpenSpec.ofChange splitChecksWrong)

/- THE SECOND FORM. 'bulk': how many values and letters a reading holds, each counted each time it is reached (what is shared counts as often as it is met; a slice's spare places count too). A statement '..UptoSaid' is the law's where the arguments, and the package variables that the reading takes, are together of bulk at most 1048576: NARROWER than '..Said'. Prove '..Said' where nothing that the law and all that it calls make is longer than what came in: it says more and counts as full. Else prove '..UptoSaid'. A law counts once. -/
mutual
def uptoBulk {H : Type} : DataW H → Nat
  | .lit (.string bytes) => bytes.length + 1
  | .lit _ => 1
  | .nil => 1
  | .ptr d => uptoBulk d + 1
  | .slice elems spare => uptoBulkAll elems + uptoBulkAll spare + 1
  | .agg parts => uptoBulkAll parts + 1
  | .iface _ d => uptoBulk d + 1
  | .map entries => uptoBulkEntries entries + 1
  | .held _ => 1
def uptoBulkAll {H : Type} : List (DataW H) → Nat
  | [] => 0
  | d :: r => uptoBulk d + uptoBulkAll r
def uptoBulkEntries {H : Type} : List (Lit × DataW H) → Nat
  | [] => 0
  | x :: r => uptoBulkEntry x + uptoBulkEntries r
def uptoBulkEntry {H : Type} : Lit × DataW H → Nat
  | (.string bytes, d) => bytes.length + uptoBulk d + 1
  | (_, d) => uptoBulk d + 1
 end
def uptoSmall : (H : Type) → List (DataW H) → Bool := fun _ ds => decide (uptoBulkAll ds ≤ 1048576)
def OpenSpec.upto (s : _root_.Go.ChangeSpec) : _root_.Go.OpenSpec := { _root_.Go.OpenSpec.ofChange s with cond := some uptoSmall }

/-- 'faultlinelaw19.SplitReads', WHERE WHAT IT READS IS OF BULK AT MOST 1048576: true; the input reads as it did. -/
def splitReadsUptoRow : OpenClaim := { program := "ytpkjbchplkfmhaadoor", sum := "eca599741300a52aee7ee71ee071da33d79acf7ee39913ac7232c66a4a6f2292", func := "faultline/faultlinelaw19.SplitReads", spec := "splitReads", recurses := true, named := ["strconv.ErrSyntax", "strconv.ErrRange", "internal/strconv.uint64pow10", "math/bits.deBruijn32tab", "math/bits.deBruijn64tab"], apart := false, laid := [("math/bits.deBruijn32tab", laid_math_bits_deBruijn32tab), ("math/bits.deBruijn64tab", laid_math_bits_deBruijn64tab), ("internal/strconv.uint64pow10", laid_internal_strconv_uint64pow10), ("strconv.ErrRange", laid_strconv_ErrRange), ("strconv.ErrSyntax", laid_strconv_ErrSyntax)], narrowed := true }
def SplitReadsUptoSaid : Prop := splitReadsUptoRow.holds Tryd.pinned (OpenSpec.upto splitReadsSpec)

/-- 'faultlinelaw19.SplitCovers', WHERE WHAT IT READS IS OF BULK AT MOST 1048576: true; the input reads as it did. -/
def splitCoversUptoRow : OpenClaim := { program := "ytpkjbchplkfmhaadoor", sum := "eca599741300a52aee7ee71ee071da33d79acf7ee39913ac7232c66a4a6f2292", func := "faultline/faultlinelaw19.SplitCovers", spec := "splitCovers", recurses := true, named := ["strconv.ErrSyntax", "strconv.ErrRange", "internal/strconv.uint64pow10", "math/bits.deBruijn32tab", "math/bits.deBruijn64tab"], loops := true, apart := false, laid := [("math/bits.deBruijn32tab", laid_math_bits_deBruijn32tab), ("math/bits.deBruijn64tab", laid_math_bits_deBruijn64tab), ("internal/strconv.uint64pow10", laid_internal_strconv_uint64pow10), ("strconv.ErrRange", laid_strconv_ErrRange), ("strconv.ErrSyntax", laid_strconv_ErrSyntax)], narrowed := true }
def SplitCoversUptoSaid : Prop := splitCoversUptoRow.holds Tryd.pinned (OpenSpec.upto splitCoversSpec)

/-- 'faultlinelaw19.SplitMerges', WHERE WHAT IT READS IS OF BULK AT MOST 1048576: true; the input reads as it did. -/
def splitMergesUptoRow : OpenClaim := { program := "ytpkjbchplkfmhaadoor", sum := "eca599741300a52aee7ee71ee071da33d79acf7ee39913ac7232c66a4a6f2292", func := "faultline/faultlinelaw19.SplitMerges", spec := "splitMerges", recurses := true, named := ["strconv.ErrSyntax", "strconv.ErrRange", "internal/strconv.uint64pow10", "math/bits.deBruijn32tab", "math/bits.deBruijn64tab"], loops := true, apart := false, laid := [("math/bits.deBruijn32tab", laid_math_bits_deBruijn32tab), ("math/bits.deBruijn64tab", laid_math_bits_deBruijn64tab), ("internal/strconv.uint64pow10", laid_internal_strconv_uint64pow10), ("strconv.ErrRange", laid_strconv_ErrRange), ("strconv.ErrSyntax", laid_strconv_ErrSyntax)], narrowed := true }
def SplitMergesUptoSaid : Prop := splitMergesUptoRow.holds Tryd.pinned (OpenSpec.upto splitMergesSpec)

/-- 'faultlinelaw19.SplitFull', WHERE WHAT IT READS IS OF BULK AT MOST 1048576: true; the input reads as it did. -/
def splitFullUptoRow : OpenClaim := { program := "ytpkjbchplkfmhaadoor", sum := "eca599741300a52aee7ee71ee071da33d79acf7ee39913ac7232c66a4a6f2292", func := "faultline/faultlinelaw19.SplitFull", spec := "splitFull", recurses := true, named := ["strconv.ErrSyntax", "strconv.ErrRange", "internal/strconv.uint64pow10", "math/bits.deBruijn32tab", "math/bits.deBruijn64tab"], apart := false, laid := [("math/bits.deBruijn32tab", laid_math_bits_deBruijn32tab), ("math/bits.deBruijn64tab", laid_math_bits_deBruijn64tab), ("internal/strconv.uint64pow10", laid_internal_strconv_uint64pow10), ("strconv.ErrRange", laid_strconv_ErrRange), ("strconv.ErrSyntax", laid_strconv_ErrSyntax)], narrowed := true }
def SplitFullUptoSaid : Prop := splitFullUptoRow.holds Tryd.pinned (OpenSpec.upto splitFullSpec)

/-- 'faultlinelaw19.SplitSwaps', WHERE WHAT IT READS IS OF BULK AT MOST 1048576: true; the input reads as it did. -/
def splitSwapsUptoRow : OpenClaim := { program := "ytpkjbchplkfmhaadoor", sum := "eca599741300a52aee7ee71ee071da33d79acf7ee39913ac7232c66a4a6f2292", func := "faultline/faultlinelaw19.SplitSwaps", spec := "splitSwaps", recurses := true, named := ["strconv.ErrSyntax", "strconv.ErrRange", "internal/strconv.uint64pow10", "math/bits.deBruijn32tab", "math/bits.deBruijn64tab"], loops := true, apart := false, laid := [("math/bits.deBruijn32tab", laid_math_bits_deBruijn32tab), ("math/bits.deBruijn64tab", laid_math_bits_deBruijn64tab), ("internal/strconv.uint64pow10", laid_internal_strconv_uint64pow10), ("strconv.ErrRange", laid_strconv_ErrRange), ("strconv.ErrSyntax", laid_strconv_ErrSyntax)], narrowed := true }
def SplitSwapsUptoSaid : Prop := splitSwapsUptoRow.holds Tryd.pinned (OpenSpec.upto splitSwapsSpec)

/-- 'faultlinelaw19.SplitReturns', WHERE WHAT IT READS IS OF BULK AT MOST 1048576: true; the input reads as it did. -/
def splitReturnsUptoRow : OpenClaim := { program := "ytpkjbchplkfmhaadoor", sum := "eca599741300a52aee7ee71ee071da33d79acf7ee39913ac7232c66a4a6f2292", func := "faultline/faultlinelaw19.SplitReturns", spec := "splitReturns", inPlace := ["internal/abi.NoEscape"], recurses := true, named := ["strconv.ErrSyntax", "strconv.ErrRange", "internal/strconv.uint64pow10", "math/bits.deBruijn32tab", "math/bits.deBruijn64tab"], loops := true, apart := false, laid := [("math/bits.deBruijn32tab", laid_math_bits_deBruijn32tab), ("math/bits.deBruijn64tab", laid_math_bits_deBruijn64tab), ("internal/strconv.uint64pow10", laid_internal_strconv_uint64pow10), ("strconv.ErrRange", laid_strconv_ErrRange), ("strconv.ErrSyntax", laid_strconv_ErrSyntax)], narrowed := true }
def SplitReturnsUptoSaid : Prop := splitReturnsUptoRow.holds Tryd.pinned (OpenSpec.upto splitReturnsSpec)

/-- 'faultlinelaw19.SplitLeaves', WHERE WHAT IT READS IS OF BULK AT MOST 1048576: true; the input reads as it did. -/
def splitLeavesUptoRow : OpenClaim := { program := "ytpkjbchplkfmhaadoor", sum := "eca599741300a52aee7ee71ee071da33d79acf7ee39913ac7232c66a4a6f2292", func := "faultline/faultlinelaw19.SplitLeaves", spec := "splitLeaves", inPlace := ["internal/abi.NoEscape"], recurses := true, named := ["strconv.ErrSyntax", "strconv.ErrRange", "internal/strconv.uint64pow10", "math/bits.deBruijn32tab", "math/bits.deBruijn64tab"], loops := true, apart := false, laid := [("math/bits.deBruijn32tab", laid_math_bits_deBruijn32tab), ("math/bits.deBruijn64tab", laid_math_bits_deBruijn64tab), ("internal/strconv.uint64pow10", laid_internal_strconv_uint64pow10), ("strconv.ErrRange", laid_strconv_ErrRange), ("strconv.ErrSyntax", laid_strconv_ErrSyntax)], narrowed := true }
def SplitLeavesUptoSaid : Prop := splitLeavesUptoRow.holds Tryd.pinned (OpenSpec.upto splitLeavesSpec)

/-- 'faultlinelaw19.SplitChecks', WHERE WHAT IT READS IS OF BULK AT MOST 1048576: true; the input reads as it did. -/
def splitChecksUptoRow : OpenClaim := { program := "ytpkjbchplkfmhaadoor", sum := "eca599741300a52aee7ee71ee071da33d79acf7ee39913ac7232c66a4a6f2292", func := "faultline/faultlinelaw19.SplitChecks", spec := "splitChecks", inPlace := ["internal/abi.NoEscape"], recurses := true, named := ["strconv.ErrSyntax", "strconv.ErrRange", "internal/strconv.uint64pow10", "math/bits.deBruijn32tab", "math/bits.deBruijn64tab"], loops := true, apart := false, laid := [("math/bits.deBruijn32tab", laid_math_bits_deBruijn32tab), ("math/bits.deBruijn64tab", laid_math_bits_deBruijn64tab), ("internal/strconv.uint64pow10", laid_internal_strconv_uint64pow10), ("strconv.ErrRange", laid_strconv_ErrRange), ("strconv.ErrSyntax", laid_strconv_ErrSyntax)], narrowed := true }
def SplitChecksUptoSaid : Prop := splitChecksUptoRow.holds Tryd.pinned (OpenSpec.upto splitChecksSpec)

end Rows
end Go.Proofs.YtpkjbchplkfmhaaDoor
