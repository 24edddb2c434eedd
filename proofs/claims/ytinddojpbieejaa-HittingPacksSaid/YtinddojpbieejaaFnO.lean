/-
  family.Maximal, Check and Sizes compute their Lean functions; the law FamilyEnds returns true; no condition.
-/
import Derived.Test.YtinddojpbieejaaFnN
import Derived.Test.YtinddojpbieejaaPuH
set_option linter.unusedVariables false
set_option linter.unusedSimpArgs false
namespace Go.Proofs.Ytinddojpbieejaa
open Go.Sy Go.Pu

theorem check_does (l : List Int) : DoesF Try.prog 27 [lV l] [] (.e (eV (checkE l))) [] := by
  refine DoesF.body _ Try.func27 rfl rfl rfl rfl ?_
  refine KW.goIf lay_ok T18_ok 100 rfl (by simp) rfl trivial (fun h => ?_) fun h => ?_
  · refine KW.goRet lay_ok T18_ok 100 rfl rfl ?_ (by simp) trivial
    simp [listsE_one] at h
    simp [SV.ren, EV.ren, listsE_one, checkE, h]
  · simp [listsE_one] at h
    have hlen := listE_len h
    have hv : Val l := listE_valid h
    refine KW.goIf lay_ok T18_ok 100 rfl (by simpa using ⟨hv, by omega⟩) rfl trivial (fun h1 => ?_) fun h1 => ?_
    · refine KW.goRet lay_ok T18_ok 100 rfl rfl ?_ (by simp) trivial
      have : ¬ l = sortedL l := by simpa using h1
      simp [SV.ren, EV.ren, checkE, h, this, errV]
    · have hs : l = sortedL l := by simpa using h1
      refine KW.goIf lay_ok T18_ok 100 rfl (by simpa using ⟨hv, by omega⟩) rfl trivial (fun h2 => ?_) fun h2 => ?_
      · refine KW.goRet lay_ok T18_ok 100 rfl rfl ?_ (by simp) trivial
        have : ¬ (minS l).length = l.length := by simp at h2; omega
        simp [SV.ren, EV.ren, checkE, h, ← hs, this, errV]
      · refine KW.goRet lay_ok T18_ok 100 rfl rfl ?_ (by simp) trivial
        have : (minS l).length = l.length := by simp at h2; omega
        simp [SV.ren, EV.ren, checkE, h, ← hs, this, errV]

def T19 : Fns := (27, fL (fun l => .e (eV (checkE l))) fun _ => True) ::
  T18
theorem T19_ok : FnsOk Try.prog T19 := .cons (T18_ok) Try.func27 rfl rfl (fL_ok fun l _ => check_does l)


end Go.Proofs.Ytinddojpbieejaa
