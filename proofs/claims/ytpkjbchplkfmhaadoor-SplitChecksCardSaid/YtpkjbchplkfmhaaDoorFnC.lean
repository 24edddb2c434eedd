/-
  Equality of integer lists and the numbers of errors compute what their Lean functions say; no condition.
-/
import Derived.Test.YtpkjbchplkfmhaaDoorFnB
set_option linter.unusedSectionVars false
set_option linter.unusedVariables false
set_option linter.unusedSimpArgs false
namespace Go.Proofs.YtpkjbchplkfmhaaDoor
open Go.Sy Go.Pu
variable [Drw]

abbrev eV (n : Int) : EV := .c (.lit (errV 61 n))
abbrev lV (l : List Int) : EV := .c (ints l)

/-! errors -/
theorem num_does0 (n : Int) : DoesF Tryd.prog 14 [.c (.lit (errV 61 n))] [] (sI n) [] := by
  refine DoesF.body _ Tryd.func14 rfl rfl rfl rfl ?_
  by_cases h0 : n = 0
  · subst h0
    refine KW.goIf lay_ok T8_ok 100 rfl (by simp) rfl trivial (fun h => ?_) fun h => by simp at h
    exact KW.goRet lay_ok T8_ok 100 rfl rfl rfl (by simp) trivial
  · have e : errV 61 n = .iface 61 (.int .i64 n) := by simp [errV, h0]
    rw [e]
    refine KW.goIf lay_ok T8_ok 100 rfl (by simp [ifcV]) rfl trivial (fun h => by cases h) fun h => ?_
    refine KW.goIf lay_ok T8_ok 100 rfl (by simp [Value.oneCell']) rfl trivial (fun h => ?_) fun h => by cases h
    exact KW.goRet lay_ok T8_ok 100 rfl rfl rfl (by simp) trivial
theorem num_does (v : Value) (h : isErr 61 v) : DoesF Tryd.prog 14 [.c (.lit v)] [] (sI (numV v)) [] := by
  rw [h]; simpa using num_does0 (numV v)

theorem is_does0 (n c : Int) : DoesF Tryd.prog 27 [.c (.lit (errV 61 n)), iV c] [] (sB (decide (n ≠ 0) && decide (n = c))) [] := by
  refine DoesF.body _ Tryd.func27 rfl rfl rfl rfl ?_
  by_cases h0 : n = 0
  · subst h0
    exact KW.goRet lay_ok T8_ok 100 rfl rfl rfl (by simp) trivial
  · have e : errV 61 n = .iface 61 (.int .i64 n) := by simp [errV, h0]
    rw [e]
    exact KW.goRet lay_ok T8_ok 100 rfl rfl (by simp only [SV.ren, EV.ren]; congr 5; rw [Bool.eq_iff_iff]; simp [h0]) (by simp [Value.oneCell']) trivial
theorem is_does (v : Value) (c : Int) (h : isErr 61 v) : DoesF Tryd.prog 27 [.c (.lit v), iV c] [] (sB (decide (numV v ≠ 0) && decide (numV v = c))) [] := by
  rw [h]; simpa using is_does0 (numV v) c

def T9 : Fns := (14, fV (fun v => sI (numV v)) fun v => isErr 61 v) ::
  T8
theorem T9_ok : FnsOk Tryd.prog T9 := .cons (T8_ok) Tryd.func14 rfl rfl (fV_ok num_does)


end Go.Proofs.YtpkjbchplkfmhaaDoor
