/-
  No cell of these rows narrows 'for every input' (looked for: loops, veiled, ifaces, maps, wideKeys, modest, calm, conditions, laid).
  DERIVED. THE GIVEN ROWS OF THIS SEAT. 6 by the template 'for every input the law returns true; each argument reads behind the call as it read before'; 0 by the template 'total and deterministic' (their statements: YtinddojpbieejaaTotals.lean).
  GIVEN WITH THE SEED: the statements are not yours to turn. If you find one false, say at which input.
  Laid BY PROGRAM, IN A SANDBOX (cutbox-rows.mjs): the forced cells as the released guide's own fill.sh prints them over the translation 234715b1455bc536… (all of the seat's roots in one cut). By AI agents, Wed Nov 11 2026. No macro, syntax, notation, axiom, sorry.
-/
import Derived.Test.YtinddojpbieejaaChecked
import GoSem.Claim
import GoSem.ClaimJoined
import GoSem.ClaimMapViews
import Derived.JoinedTies
import Derived.KernelRfl
namespace Go.Proofs.Ytinddojpbieejaa
/- THE CELL 'sum', in the pinned program and in every row, IS THE sha256 OF THE DUMP (.gsa) THAT YtinddojpbieejaaProg.lean LOADS. Nothing in Lean hashes anything: it is a label: what it is worth is what the hold of that sum in a sandbox is worth. -/
noncomputable def Try.pinned : Pinned := { name := "ytinddojpbieejaa", sum := "234715b1455bc536df90bcbea42f5256e89b06badf8d0ecfd242171a160fa0a5", checked := Try.checked }
namespace Rows
def none {H : Type} : Left H := { results := [], args := [] }

/-- 'faultlinelaw07.HittingAll': WHATEVER THE INPUT: true; the input reads as it did. -/
def hittingAllSpec : ChangeSpec := { name := "hittingAll", fn := fun _ => fun
  | [d1, d2] => { results := [.lit (.bool true)], args := [d1, d2] }
  | _ => none }
def hittingAllRow : OpenClaim := { program := "ytinddojpbieejaa", sum := "234715b1455bc536df90bcbea42f5256e89b06badf8d0ecfd242171a160fa0a5", func := "faultline/faultlinelaw07.HittingAll", spec := "hittingAll", unfollowed := true, recurses := true, apart := false }
def HittingAllSaid : Prop := hittingAllRow.holds Try.pinned (OpenSpec.ofChange hittingAllSpec)

/-- ITS FALSE NEIGHBOUR: 'it returns false'. Refute it at one input. -/
def hittingAllWrong : ChangeSpec := { name := "hittingAll", fn := fun _ => fun
  | [d1, d2] => { results := [.lit (.bool false)], args := [d1, d2] }
  | _ => none }
def HittingAllWrongFalsely : Prop := hittingAllRow.holds Try.pinned (OpenSpec.ofChange hittingAllWrong)

/-- 'faultlinelaw07.HittingDuality': WHATEVER THE INPUT: true; the input reads as it did. -/
def hittingDualitySpec : ChangeSpec := { name := "hittingDuality", fn := fun _ => fun
  | [d] => { results := [.lit (.bool true)], args := [d] }
  | _ => none }
def hittingDualityRow : OpenClaim := { program := "ytinddojpbieejaa", sum := "234715b1455bc536df90bcbea42f5256e89b06badf8d0ecfd242171a160fa0a5", func := "faultline/faultlinelaw07.HittingDuality", spec := "hittingDuality", unfollowed := true, recurses := true, apart := false }
def HittingDualitySaid : Prop := hittingDualityRow.holds Try.pinned (OpenSpec.ofChange hittingDualitySpec)

/-- ITS FALSE NEIGHBOUR: 'it returns false'. Refute it at one input. -/
def hittingDualityWrong : ChangeSpec := { name := "hittingDuality", fn := fun _ => fun
  | [d] => { results := [.lit (.bool false)], args := [d] }
  | _ => none }
def HittingDualityWrongFalsely : Prop := hittingDualityRow.holds Try.pinned (OpenSpec.ofChange hittingDualityWrong)

/-- 'faultlinelaw07.HittingPacks': WHATEVER THE INPUT: true; the input reads as it did. -/
def hittingPacksSpec : ChangeSpec := { name := "hittingPacks", fn := fun _ => fun
  | [d] => { results := [.lit (.bool true)], args := [d] }
  | _ => none }
def hittingPacksRow : OpenClaim := { program := "ytinddojpbieejaa", sum := "234715b1455bc536df90bcbea42f5256e89b06badf8d0ecfd242171a160fa0a5", func := "faultline/faultlinelaw07.HittingPacks", spec := "hittingPacks", unfollowed := true, recurses := true, apart := false }
def HittingPacksSaid : Prop := hittingPacksRow.holds Try.pinned (OpenSpec.ofChange hittingPacksSpec)

/-- ITS FALSE NEIGHBOUR: 'it returns false'. Refute it at one input. -/
def hittingPacksWrong : ChangeSpec := { name := "hittingPacks", fn := fun _ => fun
  | [d] => { results := [.lit (.bool false)], args := [d] }
  | _ => none }
def HittingPacksWrongFalsely : Prop := hittingPacksRow.holds Try.pinned (OpenSpec.ofChange hittingPacksWrong)

/-- 'faultlinelaw07.HittingCovers': WHATEVER THE INPUT: true; the input reads as it did. -/
def hittingCoversSpec : ChangeSpec := { name := "hittingCovers", fn := fun _ => fun
  | [d1, d2] => { results := [.lit (.bool true)], args := [d1, d2] }
  | _ => none }
def hittingCoversRow : OpenClaim := { program := "ytinddojpbieejaa", sum := "234715b1455bc536df90bcbea42f5256e89b06badf8d0ecfd242171a160fa0a5", func := "faultline/faultlinelaw07.HittingCovers", spec := "hittingCovers", unfollowed := true, recurses := true, apart := false }
def HittingCoversSaid : Prop := hittingCoversRow.holds Try.pinned (OpenSpec.ofChange hittingCoversSpec)

/-- ITS FALSE NEIGHBOUR: 'it returns false'. Refute it at one input. -/
def hittingCoversWrong : ChangeSpec := { name := "hittingCovers", fn := fun _ => fun
  | [d1, d2] => { results := [.lit (.bool false)], args := [d1, d2] }
  | _ => none }
def HittingCoversWrongFalsely : Prop := hittingCoversRow.holds Try.pinned (OpenSpec.ofChange hittingCoversWrong)

/-- 'faultlinelaw07.HittingCheap': WHATEVER THE INPUT: true; the input reads as it did. -/
def hittingCheapSpec : ChangeSpec := { name := "hittingCheap", fn := fun _ => fun
  | [d1, d2] => { results := [.lit (.bool true)], args := [d1, d2] }
  | _ => none }
def hittingCheapRow : OpenClaim := { program := "ytinddojpbieejaa", sum := "234715b1455bc536df90bcbea42f5256e89b06badf8d0ecfd242171a160fa0a5", func := "faultline/faultlinelaw07.HittingCheap", spec := "hittingCheap", unfollowed := true, recurses := true, apart := false }
def HittingCheapSaid : Prop := hittingCheapRow.holds Try.pinned (OpenSpec.ofChange hittingCheapSpec)

/-- ITS FALSE NEIGHBOUR: 'it returns false'. Refute it at one input. -/
def hittingCheapWrong : ChangeSpec := { name := "hittingCheap", fn := fun _ => fun
  | [d1, d2] => { results := [.lit (.bool false)], args := [d1, d2] }
  | _ => none }
def HittingCheapWrongFalsely : Prop := hittingCheapRow.holds Try.pinned (OpenSpec.ofChange hittingCheapWrong)

/-- 'faultlinelaw07.HittingLeast': WHATEVER THE INPUT: true; the input reads as it did. -/
def hittingLeastSpec : ChangeSpec := { name := "hittingLeast", fn := fun _ => fun
  | [d1, d2, d3] => { results := [.lit (.bool true)], args := [d1, d2, d3] }
  | _ => none }
def hittingLeastRow : OpenClaim := { program := "ytinddojpbieejaa", sum := "234715b1455bc536df90bcbea42f5256e89b06badf8d0ecfd242171a160fa0a5", func := "faultline/faultlinelaw07.HittingLeast", spec := "hittingLeast", unfollowed := true, recurses := true, apart := false }
def HittingLeastSaid : Prop := hittingLeastRow.holds Try.pinned (OpenSpec.ofChange hittingLeastSpec)

/-- ITS FALSE NEIGHBOUR: 'it returns false'. Refute it at one input. -/
def hittingLeastWrong : ChangeSpec := { name := "hittingLeast", fn := fun _ => fun
  | [d1, d2, d3] => { results := [.lit (.bool false)], args := [d1, d2, d3] }
  | _ => none }
def HittingLeastWrongFalsely : Prop := hittingLeastRow.holds Try.pinned (OpenSpec.ofChange hittingLeastWrong)

/- THE SECOND FORM. 'bulk': how many values and letters a reading holds, each counted each time it is reached (what is shared counts as often as it is met; a slice's spare places count too). A statement '..UptoSaid' is the law's where the arguments, and the package variables that the reading takes, are together of bulk at most 1048576: NARROWER than '..Said'. Prove '..Said' where nothing that the law and all that it calls make is longer than what came in: it says more and counts as full. Else prove '..UptoSaid'. A law counts once. -/
mutual
def uptoBulk {H : Type} : DataW H → Nat
  | .lit (.string bytes) => bytes.length + 1
  | .lit _ => 1
  | .nil => 1
  | .ptr d => uptoBulk d + 1
  | .slice elems spare => uptoBulkAll elems + uptoBulkAll spare + 1
  | .agg parts => uptoBulkAll parts + 1
  | .iface _ d => uptoBulk d + 1
  | .map entries => uptoBulkEntries entries + 1
  | .held _ => 1
def uptoBulkAll {H : Type} : List (DataW H) → Nat
  | [] => 0
  | d :: r => uptoBulk d + uptoBulkAll r
def uptoBulkEntries {H : Type} : List (Lit × DataW H) → Nat
  | [] => 0
  | x :: r => uptoBulkEntry x + uptoBulkEntries r
def uptoBulkEntry {H : Type} : Lit × DataW H → Nat
  | (.string bytes, d) => bytes.length + uptoBulk d + 1
  | (_, d) => uptoBulk d + 1
 end
def uptoSmall : (H : Type) → List (DataW H) → Bool := fun _ ds => decide (uptoBulkAll ds ≤ 1048576)
def OpenSpec.upto (s : _root_.Go.ChangeSpec) : _root_.Go.OpenSpec := { _root_.Go.OpenSpec.ofChange s with cond := some uptoSmall }

/-- 'faultlinelaw07.HittingAll', WHERE WHAT IT READS IS OF BULK AT MOST 1048576: true; the input reads as it did. -/
def hittingAllUptoRow : OpenClaim := { program := "ytinddojpbieejaa", sum := "234715b1455bc536df90bcbea42f5256e89b06badf8d0ecfd242171a160fa0a5", func := "faultline/faultlinelaw07.HittingAll", spec := "hittingAll", unfollowed := true, recurses := true, apart := false, narrowed := true }
def HittingAllUptoSaid : Prop := hittingAllUptoRow.holds Try.pinned (OpenSpec.upto hittingAllSpec)

/-- 'faultlinelaw07.HittingDuality', WHERE WHAT IT READS IS OF BULK AT MOST 1048576: true; the input reads as it did. -/
def hittingDualityUptoRow : OpenClaim := { program := "ytinddojpbieejaa", sum := "234715b1455bc536df90bcbea42f5256e89b06badf8d0ecfd242171a160fa0a5", func := "faultline/faultlinelaw07.HittingDuality", spec := "hittingDuality", unfollowed := true, recurses := true, apart := false, narrowed := true }
def HittingDualityUptoSaid : Prop := hittingDualityUptoRow.holds Try.pinned (OpenSpec.upto hittingDualitySpec)

/-- 'faultlinelaw07.HittingPacks', WHERE WHAT IT READS IS OF BULK AT MOST 1048576: true; the input reads as it did. -/
def hittingPacksUptoRow : OpenClaim := { program := "ytinddojpbieejaa", sum := "234715b1455bc536df90bcbea42f5256e89b06badf8d0ecfd242171a160fa0a5", func := "faultline/faultlinelaw07.HittingPacks", spec := "hittingPacks", unfollowed := true, recurses := true, apart := false, narrowed := true }
def HittingPacksUptoSaid : Prop := hittingPacksUptoRow.holds Try.pinned (OpenSpec.upto hittingPacksSpec)

/-- 'faultlinelaw07.HittingCovers', WHERE WHAT IT READS IS OF BULK AT MOST 1048576: true; the input reads as it did. -/
def hittingCoversUptoRow : OpenClaim := { program := "ytinddojpbieejaa", sum := "234715b1455bc536df90bcbea42f5256e89b06badf8d0ecfd242171a160fa0a5", func := "faultline/faultlinelaw07.HittingCovers", spec := "hittingCovers", unfollowed := true, recurses := true, apart := false, narrowed := true }
def HittingCoversUptoSaid : Prop := hittingCoversUptoRow.holds Try.pinned (OpenSpec.upto hittingCoversSpec)

/-- 'faultlinelaw07.HittingCheap', WHERE WHAT IT READS IS OF BULK AT MOST 1048576: true; the input reads as it did. -/
def hittingCheapUptoRow : OpenClaim := { program := "ytinddojpbieejaa", sum := "234715b1455bc536df90bcbea42f5256e89b06badf8d0ecfd242171a160fa0a5", func := "faultline/faultlinelaw07.HittingCheap", spec := "hittingCheap", unfollowed := true, recurses := true, apart := false, narrowed := true }
def HittingCheapUptoSaid : Prop := hittingCheapUptoRow.holds Try.pinned (OpenSpec.upto hittingCheapSpec)

/-- 'faultlinelaw07.HittingLeast', WHERE WHAT IT READS IS OF BULK AT MOST 1048576: true; the input reads as it did. -/
def hittingLeastUptoRow : OpenClaim := { program := "ytinddojpbieejaa", sum := "234715b1455bc536df90bcbea42f5256e89b06badf8d0ecfd242171a160fa0a5", func := "faultline/faultlinelaw07.HittingLeast", spec := "hittingLeast", unfollowed := true, recurses := true, apart := false, narrowed := true }
def HittingLeastUptoSaid : Prop := hittingLeastUptoRow.holds Try.pinned (OpenSpec.upto hittingLeastSpec)

end Rows
end Go.Proofs.Ytinddojpbieejaa
