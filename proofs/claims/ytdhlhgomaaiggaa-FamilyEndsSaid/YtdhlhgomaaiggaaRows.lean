/-
  No cell of these rows narrows 'for every input' (looked for: loops, veiled, ifaces, maps, wideKeys, modest, calm, conditions, laid).
  DERIVED. THE GIVEN ROWS OF THIS SEAT. 6 by the template 'for every input the law returns true; each argument reads behind the call as it read before'; 0 by the template 'total and deterministic' (their statements: YtdhlhgomaaiggaaTotals.lean).
  GIVEN WITH THE SEED: the statements are not yours to turn. If you find one false, say at which input.
  Laid BY PROGRAM, IN A SANDBOX (cutbox-rows.mjs): the forced cells as the released guide's own fill.sh prints them over the translation 14b0f3162a15338a… (all of the seat's roots in one cut). By AI agents, Wed Nov 11 2026. No macro, syntax, notation, axiom, sorry.
-/
import Derived.Test.YtdhlhgomaaiggaaChecked
import GoSem.Claim
import GoSem.ClaimJoined
import GoSem.ClaimMapViews
import Derived.JoinedTies
import Derived.KernelRfl
namespace Go.Proofs.Ytdhlhgomaaiggaa
/- THE CELL 'sum', in the pinned program and in every row, IS THE sha256 OF THE DUMP (.gsa) THAT YtdhlhgomaaiggaaProg.lean LOADS. Nothing in Lean hashes anything: it is a label: what it is worth is what the hold of that sum in a sandbox is worth. -/
noncomputable def Try.pinned : Pinned := { name := "ytdhlhgomaaiggaa", sum := "14b0f3162a15338a49d027cef377cb16f4d0055adfed7f77630a0c93e0f06468", checked := Try.checked }
namespace Rows
def none {H : Type} : Left H := { results := [], args := [] }

/-- 'faultlinelaw06.FamilyMeets': WHATEVER THE INPUT: true; the input reads as it did. -/
def familyMeetsSpec : ChangeSpec := { name := "familyMeets", fn := fun _ => fun
  | [d1, d2] => { results := [.lit (.bool true)], args := [d1, d2] }
  | _ => none }
def familyMeetsRow : OpenClaim := { program := "ytdhlhgomaaiggaa", sum := "14b0f3162a15338a49d027cef377cb16f4d0055adfed7f77630a0c93e0f06468", func := "faultline/faultlinelaw06.FamilyMeets", spec := "familyMeets", unfollowed := true, recurses := true, apart := false }
def FamilyMeetsSaid : Prop := familyMeetsRow.holds Try.pinned (OpenSpec.ofChange familyMeetsSpec)

/-- ITS FALSE NEIGHBOUR: 'it returns false'. Refute it at one input. -/
def familyMeetsWrong : ChangeSpec := { name := "familyMeets", fn := fun _ => fun
  | [d1, d2] => { results := [.lit (.bool false)], args := [d1, d2] }
  | _ => none }
def FamilyMeetsWrongFalsely : Prop := familyMeetsRow.holds Try.pinned (OpenSpec.ofChange familyMeetsWrong)

/-- 'faultlinelaw06.FamilyRestricts': WHATEVER THE INPUT: true; the input reads as it did. -/
def familyRestrictsSpec : ChangeSpec := { name := "familyRestricts", fn := fun _ => fun
  | [d1, d2, d3] => { results := [.lit (.bool true)], args := [d1, d2, d3] }
  | _ => none }
def familyRestrictsRow : OpenClaim := { program := "ytdhlhgomaaiggaa", sum := "14b0f3162a15338a49d027cef377cb16f4d0055adfed7f77630a0c93e0f06468", func := "faultline/faultlinelaw06.FamilyRestricts", spec := "familyRestricts", unfollowed := true, recurses := true, apart := false }
def FamilyRestrictsSaid : Prop := familyRestrictsRow.holds Try.pinned (OpenSpec.ofChange familyRestrictsSpec)

/-- ITS FALSE NEIGHBOUR: 'it returns false'. Refute it at one input. -/
def familyRestrictsWrong : ChangeSpec := { name := "familyRestricts", fn := fun _ => fun
  | [d1, d2, d3] => { results := [.lit (.bool false)], args := [d1, d2, d3] }
  | _ => none }
def FamilyRestrictsWrongFalsely : Prop := familyRestrictsRow.holds Try.pinned (OpenSpec.ofChange familyRestrictsWrong)

/-- 'faultlinelaw06.FamilyLattice': WHATEVER THE INPUT: true; the input reads as it did. -/
def familyLatticeSpec : ChangeSpec := { name := "familyLattice", fn := fun _ => fun
  | [d1, d2, d3] => { results := [.lit (.bool true)], args := [d1, d2, d3] }
  | _ => none }
def familyLatticeRow : OpenClaim := { program := "ytdhlhgomaaiggaa", sum := "14b0f3162a15338a49d027cef377cb16f4d0055adfed7f77630a0c93e0f06468", func := "faultline/faultlinelaw06.FamilyLattice", spec := "familyLattice", unfollowed := true, recurses := true, apart := false }
def FamilyLatticeSaid : Prop := familyLatticeRow.holds Try.pinned (OpenSpec.ofChange familyLatticeSpec)

/-- ITS FALSE NEIGHBOUR: 'it returns false'. Refute it at one input. -/
def familyLatticeWrong : ChangeSpec := { name := "familyLattice", fn := fun _ => fun
  | [d1, d2, d3] => { results := [.lit (.bool false)], args := [d1, d2, d3] }
  | _ => none }
def FamilyLatticeWrongFalsely : Prop := familyLatticeRow.holds Try.pinned (OpenSpec.ofChange familyLatticeWrong)

/-- 'faultlinelaw06.FamilyCovers': WHATEVER THE INPUT: true; the input reads as it did. -/
def familyCoversSpec : ChangeSpec := { name := "familyCovers", fn := fun _ => fun
  | [d1, d2, d3] => { results := [.lit (.bool true)], args := [d1, d2, d3] }
  | _ => none }
def familyCoversRow : OpenClaim := { program := "ytdhlhgomaaiggaa", sum := "14b0f3162a15338a49d027cef377cb16f4d0055adfed7f77630a0c93e0f06468", func := "faultline/faultlinelaw06.FamilyCovers", spec := "familyCovers", unfollowed := true, recurses := true, apart := false }
def FamilyCoversSaid : Prop := familyCoversRow.holds Try.pinned (OpenSpec.ofChange familyCoversSpec)

/-- ITS FALSE NEIGHBOUR: 'it returns false'. Refute it at one input. -/
def familyCoversWrong : ChangeSpec := { name := "familyCovers", fn := fun _ => fun
  | [d1, d2, d3] => { results := [.lit (.bool false)], args := [d1, d2, d3] }
  | _ => none }
def FamilyCoversWrongFalsely : Prop := familyCoversRow.holds Try.pinned (OpenSpec.ofChange familyCoversWrong)

/-- 'faultlinelaw06.FamilyJoins': WHATEVER THE INPUT: true; the input reads as it did. -/
def familyJoinsSpec : ChangeSpec := { name := "familyJoins", fn := fun _ => fun
  | [d1, d2] => { results := [.lit (.bool true)], args := [d1, d2] }
  | _ => none }
def familyJoinsRow : OpenClaim := { program := "ytdhlhgomaaiggaa", sum := "14b0f3162a15338a49d027cef377cb16f4d0055adfed7f77630a0c93e0f06468", func := "faultline/faultlinelaw06.FamilyJoins", spec := "familyJoins", unfollowed := true, recurses := true, apart := false }
def FamilyJoinsSaid : Prop := familyJoinsRow.holds Try.pinned (OpenSpec.ofChange familyJoinsSpec)

/-- ITS FALSE NEIGHBOUR: 'it returns false'. Refute it at one input. -/
def familyJoinsWrong : ChangeSpec := { name := "familyJoins", fn := fun _ => fun
  | [d1, d2] => { results := [.lit (.bool false)], args := [d1, d2] }
  | _ => none }
def FamilyJoinsWrongFalsely : Prop := familyJoinsRow.holds Try.pinned (OpenSpec.ofChange familyJoinsWrong)

/-- 'faultlinelaw06.FamilyEnds': WHATEVER THE INPUT: true; the input reads as it did. -/
def familyEndsSpec : ChangeSpec := { name := "familyEnds", fn := fun _ => fun
  | [d] => { results := [.lit (.bool true)], args := [d] }
  | _ => none }
def familyEndsRow : OpenClaim := { program := "ytdhlhgomaaiggaa", sum := "14b0f3162a15338a49d027cef377cb16f4d0055adfed7f77630a0c93e0f06468", func := "faultline/faultlinelaw06.FamilyEnds", spec := "familyEnds", unfollowed := true, recurses := true, apart := false }
def FamilyEndsSaid : Prop := familyEndsRow.holds Try.pinned (OpenSpec.ofChange familyEndsSpec)

/-- ITS FALSE NEIGHBOUR: 'it returns false'. Refute it at one input. -/
def familyEndsWrong : ChangeSpec := { name := "familyEnds", fn := fun _ => fun
  | [d] => { results := [.lit (.bool false)], args := [d] }
  | _ => none }
def FamilyEndsWrongFalsely : Prop := familyEndsRow.holds Try.pinned (OpenSpec.ofChange familyEndsWrong)

/- THE SECOND FORM. 'bulk': how many values and letters a reading holds, each counted each time it is reached (what is shared counts as often as it is met; a slice's spare places count too). A statement '..UptoSaid' is the law's where the arguments, and the package variables that the reading takes, are together of bulk at most 1048576: NARROWER than '..Said'. Prove '..Said' where nothing that the law and all that it calls make is longer than what came in: it says more and counts as full. Else prove '..UptoSaid'. A law counts once. -/
mutual
def uptoBulk {H : Type} : DataW H → Nat
  | .lit (.string bytes) => bytes.length + 1
  | .lit _ => 1
  | .nil => 1
  | .ptr d => uptoBulk d + 1
  | .slice elems spare => uptoBulkAll elems + uptoBulkAll spare + 1
  | .agg parts => uptoBulkAll parts + 1
  | .iface _ d => uptoBulk d + 1
  | .map entries => uptoBulkEntries entries + 1
  | .held _ => 1
def uptoBulkAll {H : Type} : List (DataW H) → Nat
  | [] => 0
  | d :: r => uptoBulk d + uptoBulkAll r
def uptoBulkEntries {H : Type} : List (Lit × DataW H) → Nat
  | [] => 0
  | x :: r => uptoBulkEntry x + uptoBulkEntries r
def uptoBulkEntry {H : Type} : Lit × DataW H → Nat
  | (.string bytes, d) => bytes.length + uptoBulk d + 1
  | (_, d) => uptoBulk d + 1
 end
def uptoSmall : (H : Type) → List (DataW H) → Bool := fun _ ds => decide (uptoBulkAll ds ≤ 1048576)
def OpenSpec.upto (s : _root_.Go.ChangeSpec) : _root_.Go.OpenSpec := { _root_.Go.OpenSpec.ofChange s with cond := some uptoSmall }

/-- 'faultlinelaw06.FamilyMeets', WHERE WHAT IT READS IS OF BULK AT MOST 1048576: true; the input reads as it did. -/
def familyMeetsUptoRow : OpenClaim := { program := "ytdhlhgomaaiggaa", sum := "14b0f3162a15338a49d027cef377cb16f4d0055adfed7f77630a0c93e0f06468", func := "faultline/faultlinelaw06.FamilyMeets", spec := "familyMeets", unfollowed := true, recurses := true, apart := false, narrowed := true }
def FamilyMeetsUptoSaid : Prop := familyMeetsUptoRow.holds Try.pinned (OpenSpec.upto familyMeetsSpec)

/-- 'faultlinelaw06.FamilyRestricts', WHERE WHAT IT READS IS OF BULK AT MOST 1048576: true; the input reads as it did. -/
def familyRestrictsUptoRow : OpenClaim := { program := "ytdhlhgomaaiggaa", sum := "14b0f3162a15338a49d027cef377cb16f4d0055adfed7f77630a0c93e0f06468", func := "faultline/faultlinelaw06.FamilyRestricts", spec := "familyRestricts", unfollowed := true, recurses := true, apart := false, narrowed := true }
def FamilyRestrictsUptoSaid : Prop := familyRestrictsUptoRow.holds Try.pinned (OpenSpec.upto familyRestrictsSpec)

/-- 'faultlinelaw06.FamilyLattice', WHERE WHAT IT READS IS OF BULK AT MOST 1048576: true; the input reads as it did. -/
def familyLatticeUptoRow : OpenClaim := { program := "ytdhlhgomaaiggaa", sum := "14b0f3162a15338a49d027cef377cb16f4d0055adfed7f77630a0c93e0f06468", func := "faultline/faultlinelaw06.FamilyLattice", spec := "familyLattice", unfollowed := true, recurses := true, apart := false, narrowed := true }
def FamilyLatticeUptoSaid : Prop := familyLatticeUptoRow.holds Try.pinned (OpenSpec.upto familyLatticeSpec)

/-- 'faultlinelaw06.FamilyCovers', WHERE WHAT IT READS IS OF BULK AT MOST 1048576: true; the input reads as it did. -/
def familyCoversUptoRow : OpenClaim := { program := "ytdhlhgomaaiggaa", sum := "14b0f3162a15338a49d027cef377cb16f4d0055adfed7f77630a0c93e0f06468", func := "faultline/faultlinelaw06.FamilyCovers", spec := "familyCovers", unfollowed := true, recurses := true, apart := false, narrowed := true }
def FamilyCoversUptoSaid : Prop := familyCoversUptoRow.holds Try.pinned (OpenSpec.upto familyCoversSpec)

/-- 'faultlinelaw06.FamilyJoins', WHERE WHAT IT READS IS OF BULK AT MOST 1048576: true; the input reads as it did. -/
def familyJoinsUptoRow : OpenClaim := { program := "ytdhlhgomaaiggaa", sum := "14b0f3162a15338a49d027cef377cb16f4d0055adfed7f77630a0c93e0f06468", func := "faultline/faultlinelaw06.FamilyJoins", spec := "familyJoins", unfollowed := true, recurses := true, apart := false, narrowed := true }
def FamilyJoinsUptoSaid : Prop := familyJoinsUptoRow.holds Try.pinned (OpenSpec.upto familyJoinsSpec)

/-- 'faultlinelaw06.FamilyEnds', WHERE WHAT IT READS IS OF BULK AT MOST 1048576: true; the input reads as it did. -/
def familyEndsUptoRow : OpenClaim := { program := "ytdhlhgomaaiggaa", sum := "14b0f3162a15338a49d027cef377cb16f4d0055adfed7f77630a0c93e0f06468", func := "faultline/faultlinelaw06.FamilyEnds", spec := "familyEnds", unfollowed := true, recurses := true, apart := false, narrowed := true }
def FamilyEndsUptoSaid : Prop := familyEndsUptoRow.holds Try.pinned (OpenSpec.upto familyEndsSpec)

end Rows
end Go.Proofs.Ytdhlhgomaaiggaa
