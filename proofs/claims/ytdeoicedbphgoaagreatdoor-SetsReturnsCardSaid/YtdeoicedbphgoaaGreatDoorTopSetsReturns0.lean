/-
  The law SetsReturns at a world of its row: the walk.
-/
import Derived.Test.YtdeoicedbphgoaaGreatDoorStT
import Derived.Test.YtdeoicedbphgoaaGreatDoorTopA
import Derived.Test.YtdeoicedbphgoaaGreatDoorTopX
import Derived.Test.YtdeoicedbphgoaaGreatDoorTopY
import Derived.Test.YtdeoicedbphgoaaGreatDoorRows
import Derived.Test.YtdeoicedbphgoaaGreatDoorTie
import Derived.Test.YtdeoicedbphgoaaGreatDoorCards
import Derived.LaidMore
import Derived.Lay
import Derived.MakeChecks
import Derived.SevenTiedAt
set_option linter.unusedVariables false
namespace Go.Proofs.YtdeoicedbphgoaaGreatDoor
open Go.Sy Go.Pu Go.ChangeShapes Go.WideShapes Go.ChangeAt Go.RowKit
namespace setsReturns
theorem own : ownKnob Tryz.prog.godebug = none := by kernel_rfl
theorem laidOut : laidOutB Tryz.prog = true := by kernel_rfl
theorem door_met (os : Os) (args : Array Value) : laidMetH Tryz.prog Rows.setsReturnsRow.laid ((World.laidAll Tryz.prog os Rows.setsReturnsRow.laid).forCall (fun _ _ => 0) ⟨#[], args, []⟩).memory := by
  rw [MakeChecks.laidMetH_plain _ _ _ (by kernel_rfl)]; exact laidMet_laidAll _ (by kernel_rfl) (by kernel_rfl)
set_option maxRecDepth 100000 in
theorem lifted (os : Os) (started : os.Started) (H : Type) (enc : TypeId × Value → H) :
    ReturnsInHanded {} Tryz.checked os 16 .any (fun w args => (Rows.setsReturnsSpec.pre enc Tryz.prog Tryz.f16 [] false w args ∧ laidMetH Tryz.prog Rows.setsReturnsRow.laid w) ∧ sizedMet enc Tryz.prog Tryz.f16 (OpenSpec.ofChange Rows.setsReturnsSpec) false w args) (Rows.setsReturnsSpec.post enc Tryz.prog Tryz.f16 false true false false) := by
  refine handed_shape (C := Tryz.checked) (X := fun w _ => laidMetH Tryz.prog Rows.setsReturnsRow.laid w) (fun _ _ _ hh h => h.of_heap hh) own started (by kernel_rfl) Tryz.func16
    (ChangeSpec.witness_shaped (enc := enc) (C := Tryz.checked) (os := os) (X := fun w _ => laidMetH Tryz.prog Rows.setsReturnsRow.laid w) false (World.laidAll Tryz.prog os Rows.setsReturnsRow.laid) #[.int .i64 0, .slice none 0 0] 8 (World.laidAll_os _ _ _) (World.shaped_of_ZipB (by kernel_rfl) (by kernel_rfl)) (by kernel_rfl) (by kernel_rfl) (by kernel_rfl) (door_met os _)) ?_
  intro W base args ds gs before hval0 hW hL hsh
  have hval : ∀ (j : Nat) t v, Tryz.f16.params[j]? = some t → args[j]? = some v → Value.okWide Tryz.prog W .any base t v := hval0
  have hW' := hW
  obtain ⟨p, q, hA0, hV, rfl, hfz, hnd⟩ := hW
  have hA : DataW.TrodAll enc Tryz.prog W 0 (fun _ => true) true Tryz.f16.params.toList args.toList ds p := hA0
  rw [Tryz.params16] at hA hval
  obtain ⟨v0, vs0, d0, ds0, p0, q0, hargs, rfl, rfl, h0, r0⟩ := trodAll_cons hA
  obtain ⟨v1, vs1, d1, ds1, p1, q1, rfl, rfl, rfl, h1, r1⟩ := trodAll_cons r0
  obtain ⟨rfl, rfl, rfl⟩ := trodAll_nil r1
  obtain rfl : args = #[v0, v1] := by cases args; simp_all
  obtain ⟨rfl, rfl⟩ := trodVars_none hV
  have lt0 : ∀ x ∈ p0, x.block < W.heap.size := by obtain ⟨m, hm⟩ := h0; exact DataW.trod_lt m _ _ _ hm
  obtain ⟨x0, e0, w0⟩ := op_int Tryz.underlying3 (hval 0 3 v0 rfl rfl) h0
  have lt1 : ∀ x ∈ p1, x.block < W.heap.size := by obtain ⟨m, hm⟩ := h1; exact DataW.trod_lt m _ _ _ hm
  obtain ⟨x1, e1, w1⟩ := op_ints Tryz.underlying25 Tryz.underlying3 (by kernel_rfl) (hval 1 25 v1 rfl rfl) h1
  clear hA0 hval0
  obtain ⟨m, T, hM⟩ := max_int hsh
  obtain ⟨T2, hT2⟩ := bit_laid (by kernel_rfl) hL
  refine Calls.mono (walk_glos (args := #[v0, v1]) (W := W) (glo2 hM hT2) (lawSetsReturns_does x0 x1 m T T2) rfl ?_) ?_
  · intro j y hy
    match j, hy with
    | 0, hy => simp at hy; subst hy; exact ⟨e0, rfl⟩
    | 1, hy => simp at hy; subst hy; exact e1
  · rintro e W' ⟨he, bel⟩
    subst he
    exact ⟨_, rfl, _, _, _, [], _, [], hW', trodAll_mk1 (shut_bool Tryz.underlying4 _), (trodAll_cons_mk (Below.trod laidOut (by kernel_rfl) (of_decide_eq_true (by kernel_rfl)) h0 bel lt0) (trodAll_cons_mk (Below.trod laidOut (by kernel_rfl) (of_decide_eq_true (by kernel_rfl)) h1 bel lt1) trodAll_mk0)), rfl, bel.frame _, fun h => by cases h⟩
end setsReturns
end Go.Proofs.YtdeoicedbphgoaaGreatDoor
