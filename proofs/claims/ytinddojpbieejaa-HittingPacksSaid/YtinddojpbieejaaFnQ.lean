/-
  Hitting sets: All, Packing, Minimal and Dual of the code and of the specification compute their Lean functions; no condition.
-/
import Derived.Test.YtinddojpbieejaaFnP
import Derived.Test.YtinddojpbieejaaPuH
set_option linter.unusedVariables false
set_option linter.unusedSimpArgs false
namespace Go.Proofs.Ytinddojpbieejaa
open Go.Sy Go.Pu

theorem one_inK {q : Nat} (hq : q < 24) : 0 ≤ ishl 1 (q : Int) ∧ ishl 1 (q : Int) ≤ 16777215 := validS_iff.1 (one_valid hq)

theorem singles_does (s : Int) : DoesF Try.prog 40 [iV s] [] (.e (lV (singS s))) [] := by
  refine DoesF.body _ Try.func40 rfl rfl rfl rfl ?_
  have hl24 : (elemsS s).length ≤ 24 := elemsN_length s 24
  refine KW.go lay_ok T22_ok 100 rfl (by simp) ?_
  refine KW.nilO 3 3 3 (ints []) rfl rfl rfl ?_
  refine KW.lp (I := fun q : Nat => ⟨Try.f40.ntmps, [(3, .e (.r 3)), (7, .e (lV (elemsS s))), (8, sI (elemsS s).length), (9, sI q)], [(3, .own 3 (ints (((elemsS s).take q).map fun i => ishl 1 i)))]⟩)
    (R := fun q => q ≤ (elemsS s).length) (m := fun q => (elemsS s).length - q) 0 (by simp) [(3, 3)] ⟨rfl, rfl, ⟨rfl, rfl, rfl, rfl, trivial⟩, ⟨rfl, trivial⟩⟩ ?_
  rintro q hq0
  refine KW.goIf lay_ok T22_ok 100 rfl (by simp) rfl trivial (fun h => ?_) fun h => ?_
  · have hq : q < (elemsS s).length := by simpa using h
    have hg : (elemsS s).getD (Int.toNat (q : Int)) 0 = (elemsS s)[q] := by simp [List.getD_eq_getElem?_getD, hq]
    obtain ⟨i, hi, _, hix⟩ := mem_elemsS.1 (List.getElem_mem hq)
    have h1 := one_inK hi
    have h2 : (((elemsS s).take q).map fun i => ishl 1 i).length = q := by simp; omega
    have hge : (elemsS s).getD (Int.toNat (q : Int)) 0 = (i : Int) := hg.trans hix
    refine KW.goToR lay_ok T22_ok 100 rfl (q + 1) [(3, 17)] rfl rfl ⟨rfl, rfl, rfl, rfl, trivial⟩ (by rw [hge]; simp only [inK, bitsI, true_and, and_true, h2]; simp; omega) ⟨by omega, by omega⟩ ⟨own_cat _ ?_, trivial⟩
    rw [List.take_succ_eq_append_getElem hq, List.map_append, hg]; rfl
  · have hq : q = (elemsS s).length := by simp at h; omega
    refine KW.goOut lay_ok T22_ok 100 rfl (by simp) ?_
    refine KW.goRetO lay_ok T22_ok 100 rfl 3 2 rfl rfl rfl ?_ (by simp <;> omega)
    rw [hq, List.take_length, singS_eq]

theorem all_does (l : List Int) : DoesF Try.prog 11 [lV l] [] (.tup [lV (if hitE l = 0 then hitL l else []), eV (hitE l)]) [] := by
  refine DoesF.body _ Try.func11 rfl rfl rfl rfl ?_
  refine KW.goIf lay_ok T22_ok 100 rfl (by simp) rfl trivial (fun h => ?_) fun h => ?_
  · refine KW.go lay_ok T22_ok 100 rfl (by simp) ?_
    refine KW.conv 2 (ints []) rfl ⟨rfl, rfl⟩ ?_
    refine KW.fin [] rfl rfl ?_ trivial
    simp at h
    simp [SV.ren, renL, EV.ren, hitE, h]
  · simp at h
    have hv : Val l := listE_valid h
    have hml := minS_length l
    have hll := listE_len h
    have hE : hitE l = (allC [0] (minS l)).2 := by simp [hitE, h]
    have hL : hitL l = (allC [0] (minS l)).1 := by simp [hitL, h]
    rw [hE, hL]
    refine KW.go lay_ok T22_ok 100 rfl (by simp) ?_
    refine KW.frz 19 [6] rfl rfl rfl ?_
    simp only [unI_ints, h, if_true]
    generalize minS l = M at hml
    refine KW.lp (I := fun q : List Int × Nat => ⟨Try.f11.ntmps, [(6, .e (lV q.1)), (20, .e (lV M)), (21, sI M.length), (22, sI q.2)], []⟩)
      (R := fun q => q.2 ≤ M.length ∧ Fam q.1 ∧ allC q.1 (M.drop q.2) = allC [0] M) (m := fun q => M.length - q.2) ([0], 0) ⟨by simp, Fam.zero, by simp⟩ [] ⟨rfl, rfl, ⟨rfl, rfl, rfl, rfl, trivial⟩, trivial⟩ ?_
    rintro ⟨out, q⟩ ⟨h1, h2, h3⟩
    simp only at h1 h2 h3
    refine KW.goIf lay_ok T22_ok 100 rfl (by simp) rfl trivial (fun h4 => ?_) fun h4 => ?_
    · have hq : q < M.length := by simpa using h4
      have hg : M.getD (Int.toNat (q : Int)) 0 = M[q] := by simp [List.getD_eq_getElem?_getD, hq]
      have hd : M.drop q = M[q] :: M.drop (q + 1) := List.drop_eq_getElem_cons hq
      rw [hd, allC] at h3
      refine KW.go lay_ok T22_ok 100 rfl (by simp; omega) ?_
      refine KW.nilO 9 9 3 (ints []) rfl rfl rfl ?_
      refine KW.lp (I := fun p : Nat => ⟨Try.f11.ntmps, [(6, .e (lV out)), (8, sI M[q]), (9, .e (.r 9)), (20, .e (lV M)), (21, sI M.length), (22, sI q), (26, sI p)], [(9, .own 3 (ints (singN M[q] p)))]⟩)
        (R := fun p => p ≤ 24) (m := fun p => 24 - p) 0 (by simp) [(9, 9)] ⟨rfl, rfl, ⟨rfl, by rw [← hg]; rfl, rfl, rfl, rfl, rfl, rfl, trivial⟩, ⟨rfl, trivial⟩⟩ ?_
      rintro p hp0
      have hlen := singN_length M[q] p
      refine KW.goIf lay_ok T22_ok 100 rfl (by simp) rfl trivial (fun h5 => ?_) fun h5 => ?_
      · have hp : p < 24 := by simp at h5; omega
        have h1 := one_inK hp
        refine KW.goIf lay_ok T22_ok 100 rfl (by simp) rfl trivial (fun h6 => ?_) fun h6 => ?_
        · have hb : bit M[q] p = true := by rw [← hasB_nat _ hp]; exact h6
          refine KW.goToR lay_ok T22_ok 100 rfl (p + 1) [(9, 36)] rfl rfl ⟨rfl, rfl, rfl, rfl, rfl, rfl, rfl, trivial⟩ (by simp [inK, bitsI] <;> omega) ⟨by omega, by omega⟩ ⟨own_cat _ ?_, trivial⟩
          rw [singN_succ, hb]; rfl
        · have hb : bit M[q] p = false := by rw [← hasB_nat _ hp]; exact h6
          refine KW.goToR lay_ok T22_ok 100 rfl (p + 1) [(9, 9)] rfl rfl ⟨rfl, rfl, rfl, rfl, rfl, rfl, rfl, trivial⟩ (by simp [inK] <;> omega) ⟨by omega, by omega⟩ ⟨own_cat1 _ ?_, trivial⟩
          rw [singN_succ, hb]; simp
      · have hp : p = 24 := by simp at h5; omega
        subst hp
        refine KW.goOut lay_ok T22_ok 100 rfl (by simp) ?_
        refine KW.go lay_ok T22_ok 100 rfl (by simp) ?_
        refine KW.frz 9 [40] rfl rfl rfl ?_
        refine KW.goIf lay_ok T22_ok 100 rfl (by simp) rfl trivial (fun h7 => ?_) fun h7 => ?_
        · have h7' : ¬ stepA out M[q] = 0 := by
            have e : (!isNilB (errV 38 (stepA out M[q]))) = true := by simp only [unI_ints] at h7; exact h7
            simpa using e
          rw [if_neg h7'] at h3
          refine KW.goOutR lay_ok T22_ok 100 rfl (by simp) ?_
          refine KW.go lay_ok T22_ok 100 rfl (by simp) ?_
          refine KW.conv 2 (ints []) rfl ⟨rfl, rfl⟩ ?_
          refine KW.fin [] rfl rfl ?_ trivial
          rw [← h3]
          simp only [unI_ints, SV.ren, renL, EV.ren]
          rw [if_neg h7']
          rfl
        · have h7' : stepA out M[q] = 0 := by
            have e : (!isNilB (errV 38 (stepA out M[q]))) = false := by simp only [unI_ints] at h7; exact h7
            simpa using e
          rw [if_pos h7'] at h3
          refine KW.goTo lay_ok T22_ok 100 rfl (resA out M[q], q + 1) rfl ⟨by simp only [unI_ints]; rfl, rfl, rfl, rfl, trivial⟩ (by simp [inK] <;> omega) ⟨⟨by simp only; omega, (h2.step h7').1, h3⟩, by simp only; omega⟩ trivial
    · have hq : q = M.length := by simp at h4; omega
      refine KW.goOut lay_ok T22_ok 100 rfl (by simp) ?_
      refine KW.goRet lay_ok T22_ok 100 rfl rfl ?_ (by simp) trivial
      rw [hq, List.drop_length, allC] at h3
      rw [← h3]
      simp [SV.ren, renL, EV.ren, errV]
end Go.Proofs.Ytinddojpbieejaa
