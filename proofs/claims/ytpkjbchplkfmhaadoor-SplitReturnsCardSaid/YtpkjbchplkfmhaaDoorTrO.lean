/-
  law19.awake; law SplitReads: contracts.
-/
import Derived.Test.YtpkjbchplkfmhaaDoorTrN
set_option linter.unusedSectionVars false
set_option linter.unusedVariables false
set_option linter.unusedSimpArgs false
attribute [local instance] Go.Sy.drwNo
namespace Go.Pu
open Go.Sy
def exL : List UInt8 := [91, 48, 32, 55, 32, 91, 50, 32, 45, 49, 32, 55, 93, 93]
def exT : Tr := Tr.two 0 (Tr.lf 7) (Tr.two 2 (Tr.lf (-1)) (Tr.lf 7))
theorem ex_par : parC exL = 0 ∧ parV exL = exT := by
  have h : (parC exL == 0 && sameT (parV exL) exT) = true := by decide +kernel
  rw [Bool.and_eq_true, beq_iff_eq, sameT_iff] at h
  exact h
end Go.Pu
namespace Go.Proofs.YtpkjbchplkfmhaaDoor
open Go.Sy Go.Pu
theorem ex_size : splE exT 3 = 0 ∧ splS exT 3 = (5, 3, 2) := by decide +kernel
theorem ex_at : (atE exT 3 1 = 0 ∧ atV exT 3 1 = ⟨1, 4, -1⟩) ∧ (atE exT 3 5 = 0 ∧ atV exT 3 5 = ⟨5, 0, 7⟩) := by decide +kernel
theorem awake19_does : DoesF Tryd.prog 11 [] [] (sB true) [] := by
  refine DoesF.body _ Tryd.func11 rfl rfl rfl rfl ?_
  have e : (⟨#[91, 48, 32, 55, 32, 91, 50, 32, 45, 49, 32, 55, 93, 93]⟩ : ByteArray).data.toList = exL := rfl
  refine KW.goRet lay_ok V3_ok 100 rfl rfl ?_ ?_ trivial
  · rw [e, ex_par.1, ex_par.2, unTr_cells, ex_size.1, ex_size.2, ex_at.1.1, ex_at.1.2, ex_at.2.1, ex_at.2.2]; rfl
  · rw [e, ex_par.1, ex_par.2]
    simp [ex_size.1, ex_at.1.1, ex_at.2.1]
def V4 : Fns := (11, f0 (sB true) True) ::
  V3
theorem V4_ok : FnsOk Tryd.prog V4 := .cons (V3_ok) Tryd.func11 rfl rfl (f0_ok fun _ => awake19_does)


theorem lawReads_does (s : ByteArray) : DoesF Tryd.prog 3 [strV s] [] (sB true) [] := by
  refine DoesF.body _ Tryd.func3 rfl rfl rfl rfl ?_
  refine KW.goIf lay_ok V4_ok 100 rfl (by simp; omega) rfl trivial (fun h => ?_) fun h => ?_
  · exact KW.goRet lay_ok V4_ok 100 rfl rfl rfl (by simp) trivial
  · obtain ⟨h1, h2⟩ := par_same s.data.toList
    refine KW.goRet lay_ok V4_ok 100 rfl rfl ?_ ?_ trivial
    · simp only [h1, h2, unTr_cells]
      simp [SV.ren, EV.ren]
    · simp only [h1, h2]
      simp
end Go.Proofs.YtpkjbchplkfmhaaDoor
