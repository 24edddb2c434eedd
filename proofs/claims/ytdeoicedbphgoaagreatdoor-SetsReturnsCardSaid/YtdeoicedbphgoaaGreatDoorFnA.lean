/-
  THE FUNCTIONS OF sets AND OF THE SPECIFICATION OF SETS: their contracts, and the table of them.
-/
import Derived.Test.YtdeoicedbphgoaaGreatDoorSyO
import Derived.Test.YtdeoicedbphgoaaGreatDoorLay
import Derived.Test.YtdeoicedbphgoaaGreatDoorPuA
set_option linter.unusedSectionVars false
set_option linter.unusedVariables false
set_option linter.unusedSimpArgs false
namespace Go.Proofs.YtdeoicedbphgoaaGreatDoor
open Go.Sy Go.Pu
variable [Drw]

theorem valid_does (s : Int) : DoesF Tryz.prog 82 [iV s] [] (sB (validS s)) [] := by
  refine DoesF.body _ Tryz.func82 rfl rfl rfl rfl ?_
  refine KW.run lay_ok 100 rfl (by simp) ?_
  exact KW.fin [] rfl rfl rfl trivial

theorem cut_does (s : Int) : DoesF Tryz.prog 53 [iV s] [] (sI (cutS s)) [] := by
  refine DoesF.body _ Tryz.func53 rfl rfl rfl rfl ?_
  refine KW.run lay_ok 100 rfl (by simp) ?_
  exact KW.fin [] rfl rfl rfl trivial

def T1 : Fns := (82, fI (fun s => sB (validS s)) fun _ => True) ::
  (53, fI (fun s => sI (cutS s)) fun _ => True) ::
  []
theorem T1_ok : FnsOk Tryz.prog T1 := .cons (.cons (.nil _) Tryz.func53 rfl rfl (fI_ok fun s _ => cut_does s)) Tryz.func82 rfl rfl (fI_ok fun s _ => valid_does s)


theorem subset_does (a b : Int) : DoesF Tryz.prog 84 [iV a, iV b] [] (sB (subS a b)) [] := by
  refine DoesF.body _ Tryz.func84 rfl rfl rfl rfl ?_
  refine KW.go lay_ok T1_ok 100 rfl (by simp) ?_
  exact KW.fin [] rfl rfl rfl trivial

theorem isNaN_does (a : Int) : DoesF Tryz.prog 184 [iV a] [] (sB (decide (a ≠ a))) [] := by
  refine DoesF.body _ Tryz.func184 rfl rfl rfl rfl ?_
  exact KW.goRet lay_ok T1_ok 100 rfl rfl (by simp [SV.ren, EV.ren]) (by simp) trivial

def T2 : Fns := (84, fII (fun a b => sB (subS a b)) fun _ _ => True) ::
  (184, fI (fun s => sB false) fun _ => True) ::
  T1
theorem T2_ok : FnsOk Tryz.prog T2 := .cons (.cons (T1_ok) Tryz.func184 rfl rfl (fI_ok fun s _ => by simpa using isNaN_does s)) Tryz.func84 rfl rfl (fII_ok fun a b _ => subset_does a b)


theorem cmp_does (a b : Int) : DoesF Tryz.prog 118 [iV a, iV b] [] (sI (cmpI a b)) [] := by
  refine DoesF.body _ Tryz.func118 rfl rfl rfl rfl ?_
  refine KW.goIf lay_ok T2_ok 100 rfl (by simp) rfl trivial (fun h => by cases h) fun _ => ?_
  refine KW.goIf lay_ok T2_ok 100 rfl (by simp) rfl trivial (fun h => by cases h) fun _ => ?_
  refine KW.goIf lay_ok T2_ok 100 rfl (by simp) rfl trivial (fun h => ?_) fun h1 => ?_
  · refine KW.goRet lay_ok T2_ok 100 rfl rfl ?_ (by simp) trivial
    simp only [decide_eq_true_eq] at h
    simp [cmpI, h, SV.ren, EV.ren]
  · refine KW.goIf lay_ok T2_ok 100 rfl (by simp) rfl trivial (fun h => ?_) fun h => ?_
    · refine KW.goRet lay_ok T2_ok 100 rfl rfl ?_ (by simp) trivial
      simp only [decide_eq_true_eq, decide_eq_false_iff_not] at h h1
      simp [cmpI, h, h1, SV.ren, EV.ren]
    · refine KW.goRet lay_ok T2_ok 100 rfl rfl ?_ (by simp) trivial
      simp only [decide_eq_true_eq, decide_eq_false_iff_not] at h h1
      simp [cmpI, h, h1, SV.ren, EV.ren]
end Go.Proofs.YtdeoicedbphgoaaGreatDoor
