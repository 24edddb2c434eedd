/-
  THE FUNCTIONS OF sets AND OF THE SPECIFICATION OF SETS: their contracts, and the table of them.
-/
import Derived.Test.YtjaanpbahlbmoaaDoorSyO
import Derived.Test.YtjaanpbahlbmoaaDoorLay
import Derived.Test.YtjaanpbahlbmoaaDoorPuA
set_option linter.unusedSectionVars false
set_option linter.unusedVariables false
set_option linter.unusedSimpArgs false
namespace Go.Proofs.YtjaanpbahlbmoaaDoor
open Go.Sy Go.Pu
variable [Drw]

theorem valid_does (s : Int) : DoesF Tryd.prog 23 [iV s] [] (sB (validS s)) [] := by
  refine DoesF.body _ Tryd.func23 rfl rfl rfl rfl ?_
  refine KW.run lay_ok 100 rfl (by simp) ?_
  exact KW.fin [] rfl rfl rfl trivial

theorem cut_does (s : Int) : DoesF Tryd.prog 17 [iV s] [] (sI (cutS s)) [] := by
  refine DoesF.body _ Tryd.func17 rfl rfl rfl rfl ?_
  refine KW.run lay_ok 100 rfl (by simp) ?_
  exact KW.fin [] rfl rfl rfl trivial

def T1 : Fns := (23, fI (fun s => sB (validS s)) fun _ => True) ::
  (17, fI (fun s => sI (cutS s)) fun _ => True) ::
  []
theorem T1_ok : FnsOk Tryd.prog T1 := .cons (.cons (.nil _) Tryd.func17 rfl rfl (fI_ok fun s _ => cut_does s)) Tryd.func23 rfl rfl (fI_ok fun s _ => valid_does s)


theorem subset_does (a b : Int) : DoesF Tryd.prog 19 [iV a, iV b] [] (sB (subS a b)) [] := by
  refine DoesF.body _ Tryd.func19 rfl rfl rfl rfl ?_
  refine KW.go lay_ok T1_ok 100 rfl (by simp) ?_
  exact KW.fin [] rfl rfl rfl trivial

theorem isNaN_does (a : Int) : DoesF Tryd.prog 83 [iV a] [] (sB (decide (a ≠ a))) [] := by
  refine DoesF.body _ Tryd.func83 rfl rfl rfl rfl ?_
  exact KW.goRet lay_ok T1_ok 100 rfl rfl (by simp [SV.ren, EV.ren]) (by simp) trivial

def T2 : Fns := (19, fII (fun a b => sB (subS a b)) fun _ _ => True) ::
  (83, fI (fun s => sB false) fun _ => True) ::
  T1
theorem T2_ok : FnsOk Tryd.prog T2 := .cons (.cons (T1_ok) Tryd.func83 rfl rfl (fI_ok fun s _ => by simpa using isNaN_does s)) Tryd.func19 rfl rfl (fII_ok fun a b _ => subset_does a b)


theorem cmp_does (a b : Int) : DoesF Tryd.prog 61 [iV a, iV b] [] (sI (cmpI a b)) [] := by
  refine DoesF.body _ Tryd.func61 rfl rfl rfl rfl ?_
  refine KW.goIf lay_ok T2_ok 100 rfl (by simp) rfl trivial (fun h => by cases h) fun _ => ?_
  refine KW.goIf lay_ok T2_ok 100 rfl (by simp) rfl trivial (fun h => by cases h) fun _ => ?_
  refine KW.goIf lay_ok T2_ok 100 rfl (by simp) rfl trivial (fun h => ?_) fun h1 => ?_
  · refine KW.goRet lay_ok T2_ok 100 rfl rfl ?_ (by simp) trivial
    simp only [decide_eq_true_eq] at h
    simp [cmpI, h, SV.ren, EV.ren]
  · refine KW.goIf lay_ok T2_ok 100 rfl (by simp) rfl trivial (fun h => ?_) fun h => ?_
    · refine KW.goRet lay_ok T2_ok 100 rfl rfl ?_ (by simp) trivial
      simp only [decide_eq_true_eq, decide_eq_false_iff_not] at h h1
      simp [cmpI, h, h1, SV.ren, EV.ren]
    · refine KW.goRet lay_ok T2_ok 100 rfl rfl ?_ (by simp) trivial
      simp only [decide_eq_true_eq, decide_eq_false_iff_not] at h h1
      simp [cmpI, h, h1, SV.ren, EV.ren]
end Go.Proofs.YtjaanpbahlbmoaaDoor
