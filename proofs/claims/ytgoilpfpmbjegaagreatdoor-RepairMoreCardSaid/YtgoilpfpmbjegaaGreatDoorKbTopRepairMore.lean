/-
  TopRepairMore.
-/
import Derived.Test.YtgoilpfpmbjegaaGreatDoorKbh
import Derived.Test.YtgoilpfpmbjegaaGreatDoorRows
import Derived.Test.YtgoilpfpmbjegaaGreatDoorTie
import Derived.Test.YtgoilpfpmbjegaaGreatDoorCards
import Derived.LaidMore
import Derived.Lay
import Derived.MakeChecks
import Derived.SevenTiedAt
set_option linter.unusedVariables false
namespace Go.Proofs.YtgoilpfpmbjegaaGreatDoor
open Go.Sy Go.Pu Go.ChangeShapes Go.WideShapes Go.ChangeAt Go.RowKit
namespace repairMore
theorem own : ownKnob Tryz.prog.godebug = none := by kernel_rfl
theorem laidOut : laidOutB Tryz.prog = true := by kernel_rfl
theorem door_met (os : Os) (args : Array Value) : laidMetH Tryz.prog Rows.repairMoreRow.laid ((World.laidAll Tryz.prog os Rows.repairMoreRow.laid).forCall (fun _ _ => 0) ⟨#[], args, []⟩).memory := by
  rw [MakeChecks.laidMetH_plain _ _ _ (by kernel_rfl)]; exact laidMet_laidAll _ (by kernel_rfl) (by kernel_rfl)
set_option maxRecDepth 100000 in
theorem lifted (os : Os) (started : os.Started) (H : Type) (enc : TypeId × Value → H) :
    ReturnsInHanded {} Tryz.checked os 8 .any (fun w args => (Rows.repairMoreSpec.pre enc Tryz.prog Tryz.f8 [] false w args ∧ laidMetH Tryz.prog Rows.repairMoreRow.laid w) ∧ sizedMet enc Tryz.prog Tryz.f8 (OpenSpec.ofChange Rows.repairMoreSpec) false w args) (Rows.repairMoreSpec.post enc Tryz.prog Tryz.f8 false true false false) := by
  refine returnsInHanded_of_change_and (C := Tryz.checked) (X := fun w _ => laidMetH Tryz.prog Rows.repairMoreRow.laid w) (fun _ _ _ hh h => h.of_heap hh) own started (by kernel_rfl) Tryz.func8
    (ChangeSpec.witness_shaped (enc := enc) (C := Tryz.checked) (os := os) (X := fun w _ => laidMetH Tryz.prog Rows.repairMoreRow.laid w) false (World.laidAll Tryz.prog os Rows.repairMoreRow.laid) #[.agg #[.int .i64 0, .slice none 0 0, .int .i64 0], .agg #[.int .i64 0, .slice none 0 0], .agg #[.int .u8 0, .int .u8 0]] 8 (World.laidAll_os _ _ _) (World.shaped_of_ZipB (by kernel_rfl) (by kernel_rfl)) (by kernel_rfl) (by kernel_rfl) (by kernel_rfl) (door_met os _)) ?_
  intro W base args ds gs before hval0 hW _ _ hL _
  have hval : ∀ (j : Nat) t v, Tryz.f8.params[j]? = some t → args[j]? = some v → Value.okWide Tryz.prog W .any base t v := hval0
  have hW' := hW
  obtain ⟨p, q, hA0, hV, rfl, hfz, hnd⟩ := hW
  have hA : DataW.TrodAll enc Tryz.prog W 0 (fun _ => true) true Tryz.f8.params.toList args.toList ds p := hA0
  rw [Tryz.params8] at hA hval
  obtain ⟨v0, vs0, d0, ds0, p0, q0, hargs, rfl, rfl, h0, r0⟩ := trodAll_cons hA
  obtain ⟨v1, vs1, d1, ds1, p1, q1, rfl, rfl, rfl, h1, r1⟩ := trodAll_cons r0
  obtain ⟨v2, vs2, d2, ds2, p2, q2, rfl, rfl, rfl, h2, r2⟩ := trodAll_cons r1
  obtain ⟨rfl, rfl, rfl⟩ := trodAll_nil r2
  obtain rfl : args = #[v0, v1, v2] := by cases args; simp_all
  obtain ⟨rfl, rfl⟩ := trodVars_none hV
  have lt0 : ∀ x ∈ p0, x.block < W.heap.size := by obtain ⟨m, hm⟩ := h0; exact DataW.trod_lt m _ _ _ hm
  obtain ⟨x0, w0, e0⟩ := op_form formLay (hval 0 24 v0 rfl rfl) h0
  have lt1 : ∀ x ∈ p1, x.block < W.heap.size := by obtain ⟨m, hm⟩ := h1; exact DataW.trod_lt m _ _ _ hm
  obtain ⟨x1, w1, e1⟩ := op_case caseLay (hval 1 27 v1 rfl rfl) h1
  have lt2 : ∀ x ∈ p2, x.block < W.heap.size := by obtain ⟨m, hm⟩ := h2; exact DataW.trod_lt m _ _ _ hm
  obtain ⟨x2, y2, w2, e2⟩ := op_u2 Tryz.underlying61 Tryz.underlying5 (by kernel_rfl) (by kernel_rfl) (hval 2 61 v2 rfl rfl) h2
  clear hA0 hval0
  obtain ⟨T, hT⟩ := pow_laid (by kernel_rfl) hL
  obtain ⟨T2, hT2⟩ := bit_laid (by kernel_rfl) hL
  refine Calls.mono (walk_glos (args := #[v0, v1, v2]) (W := W) (glo2 hT hT2) (lawRepairMore_does x0 x1 x2 y2 w0 w2.1 w2.2 T T2) rfl ?_) ?_
  · intro j y hy
    match j, hy with
    | 0, hy => simp at hy; subst hy; exact e0
    | 1, hy => simp at hy; subst hy; exact e1
    | 2, hy => simp at hy; subst hy; exact ⟨_, e2, rfl, ag2u _ _⟩
  · rintro e W' ⟨he, bel⟩
    subst he
    exact ⟨_, rfl, _, _, _, [], _, [], hW', trodAll_mk1 (shut_bool Tryz.underlying4 _), (trodAll_cons_mk (Below.trod laidOut (by kernel_rfl) (of_decide_eq_true (by kernel_rfl)) h0 bel lt0) (trodAll_cons_mk (Below.trod laidOut (by kernel_rfl) (of_decide_eq_true (by kernel_rfl)) h1 bel lt1) (trodAll_cons_mk (Below.trod laidOut (by kernel_rfl) (of_decide_eq_true (by kernel_rfl)) h2 bel lt2) trodAll_mk0))), rfl, bel.frame _, fun h => by cases h⟩

theorem over : Rows.repairMoreRow.holds Tryz.pinned (OpenSpec.ofChange Rows.repairMoreSpec) :=
  OpenClaim.holds_of_wide 8 Tryz.f8 rfl rfl rfl rfl rfl rfl rfl ⟨rfl, rfl, rfl, rfl, rfl⟩ rfl rfl rfl rfl rfl (by kernel_rfl) Tryz.func8 (by kernel_rfl)
    (of_decide_eq_true (by kernel_rfl)) (by unfold Func.isWrapper; first | (rw [if_pos (by decide +kernel)]; kernel_rfl) | (rw [if_neg (by decide +kernel)]; exact ⟨rfl, rfl⟩))
    (fun os started H enc _ => lifted os started H enc)
theorem card : Claim7.holds Tryz.pinned (.plain (OpenSpec.ofChange Rows.repairMoreSpec)) Rows.repairMoreCard :=
  Claim7.holds_tied_plain_at .later [] [.data, .data, .data] true (true, "76e29fa9e9d66a3bd3bae3369687da3d4bee5a11d688d7b8134652523a1d3790") true
    over (fun _ h => by cases h) (by kernel_rfl) (fun _ h => by cases h) repairMore_row_tie rfl ⟨rfl, rfl⟩ (by kernel_rfl) rfl
    (fun f fn hf hfn => by
      obtain rfl : f = 8 := Option.some.inj ((show Tryz.prog.funcNamed Rows.repairMoreRow.func = some 8 by kernel_rfl).symm.trans hf) |>.symm
      obtain rfl : fn = Tryz.f8 := (Option.some.inj (Tryz.func8.symm.trans hfn)).symm
      exact ⟨by kernel_rfl, fun j t ht => by
        rw [Tryz.params8] at ht
        have hm : t ∈ [24, 27, 61] := by have := Array.mem_of_getElem? ht; simp at this; simp; omega
        have hall : ([24, 27, 61].all fun u => !Tryz.prog.wantsStandIn u) = true := by kernel_rfl
        exact (show Tryz.prog.wantsStandIn t = false by simpa using List.all_eq_true.1 hall t hm)⟩)
    (by kernel_rfl)
end repairMore
/-- THE STATEMENT -/
theorem repairMore_holds : Rows.RepairMoreCardSaid := repairMore.card
#print axioms repairMore_holds
end Go.Proofs.YtgoilpfpmbjegaaGreatDoor


