/-
  The laws ExplainReasons and ExplainCarries return true.
-/
import Derived.Test.YtpjhpcclbenfbaaFmU
set_option linter.unusedVariables false
set_option linter.unusedSimpArgs false
namespace Go.Proofs.Ytpjhpcclbenfbaa
open Go.Sy Go.Pu

def F19 : Fns := (15, fF (fun f => sB (lightF f)) FormIn) ::
  (16, f0 (sB true) True) ::
  F18
theorem F19_ok : FnsOk Try.prog F19 := .cons (.cons (F18_ok) Try.func16 rfl rfl (f0_ok fun _ => awake56_does)) Try.func15 rfl rfl (fF_ok fun f h => light56_does f h)


theorem lawReasons_does (f : FormP) (s : Int) (hin : FormIn f) : DoesF Try.prog 3 [.ag (formC f), iV s] [] (sB true) [] := by
  refine DoesF.body _ Try.func3 rfl rfl rfl rfl ?_
  obtain ⟨vars, ns, top⟩ := f
  refine KW.goIf lay_ok F19_ok 100 rfl (by simp [hin]) rfl trivial (fun h => ?_) fun h => ?_
  · exact KW.goRet lay_ok F19_ok 100 rfl rfl rfl (by simp) trivial
  · refine KW.goRet lay_ok F19_ok 200 rfl rfl ?_ ?_ trivial
    · simp [SV.ren, EV.ren]
    · simp +contextual [hin]

theorem lawCarries_does (f : FormP) (s : Int) (hin : FormIn f) : DoesF Try.prog 4 [.ag (formC f), iV s] [] (sB true) [] := by
  refine DoesF.body _ Try.func4 rfl rfl rfl rfl ?_
  obtain ⟨vars, ns, top⟩ := f
  refine KW.goIf lay_ok F19_ok 100 rfl (by simp [hin]) rfl trivial (fun h => ?_) fun h => ?_
  · exact KW.goRet lay_ok F19_ok 100 rfl rfl rfl (by simp) trivial
  · refine KW.goRet lay_ok F19_ok 200 rfl rfl ?_ ?_ trivial
    · simp [SV.ren, EV.ren]
    · simp +contextual [hin]
end Go.Proofs.Ytpjhpcclbenfbaa
