/-
  Functions of the specification of families compute their Lean functions; no condition.
-/
import Derived.Test.YtinddojpbieejaaFnF
set_option linter.unusedVariables false
set_option linter.unusedSimpArgs false
namespace Go.Proofs.Ytinddojpbieejaa
open Go.Sy Go.Pu

theorem part_does (a b : Int) : DoesF Try.prog 66 [iV a, iV b] [] (sB (partB a b)) [] := by
  refine DoesF.body _ Try.func66 rfl rfl rfl rfl ?_
  refine KW.goRet lay_ok T11_ok 100 rfl rfl ?_ (by simp) trivial
  simp only [SV.ren, EV.ren, partB]
  congr 5
  rw [Bool.eq_iff_iff]; simp

theorem limited_does (l : List Int) : DoesF Try.prog 67 [.c (ints l)] [] (.tup [.c (ints (limL l)), iV (limE l)]) [] := by
  refine DoesF.body _ Try.func67 rfl rfl rfl rfl ?_
  refine KW.goIf lay_ok T11_ok 100 rfl (by simp) rfl trivial (fun h => ?_) fun h => ?_
  · have hl : 1024 < l.length := by simp at h; omega
    refine KW.go lay_ok T11_ok 100 rfl (by simp) ?_
    refine KW.conv 2 (ints []) rfl ⟨rfl, rfl⟩ ?_
    refine KW.fin [] rfl rfl ?_ trivial
    simp [SV.ren, renL, EV.ren, limL, limE, hl]
  · have hl : ¬ 1024 < l.length := by simp at h; omega
    refine KW.goRet lay_ok T11_ok 100 rfl rfl ?_ (by simp) trivial
    simp [SV.ren, renL, EV.ren, limL, limE, hl]

theorem both_does (a b : List Int) : DoesF Try.prog 41 [.c (ints a), .c (ints b)] [] (sI (bothE a b)) [] := by
  refine DoesF.body _ Try.func41 rfl rfl rfl rfl ?_
  refine KW.goIf lay_ok T11_ok 100 rfl (by simp) rfl trivial (fun h => ?_) fun h => ?_
  · refine KW.goRet lay_ok T11_ok 100 rfl rfl ?_ (by simp) trivial
    simp at h
    simp [SV.ren, EV.ren, bothE, h]
  · refine KW.goRet lay_ok T11_ok 100 rfl rfl ?_ (by simp) trivial
    simp at h
    simp [SV.ren, EV.ren, bothE, h]

theorem rmeets_does (l : List Int) (s : Int) : DoesF Try.prog 61 [.c (ints l), iV s] [] (.tup [bV (decide (listE l = 0) && validS s && !l.any (fun t => decide (iand .i64 t s = 0))), iV (if listE l = 0 then if validS s then 0 else 3 else listE l)]) [] := by
  refine DoesF.body _ Try.func61 rfl rfl rfl rfl ?_
  refine KW.len 0 rfl rfl fun hla => ?_
  refine KW.goIf lay_ok T11_ok 100 rfl (by simp) rfl trivial (fun h => ?_) fun h => ?_
  · refine KW.goRet lay_ok T11_ok 100 rfl rfl ?_ (by simp) trivial
    simp at h
    simp [SV.ren, renL, EV.ren, h]
  · have h0 : listE l = 0 := by simpa using h
    refine KW.goIf lay_ok T11_ok 100 rfl (by simp) rfl trivial (fun h => ?_) fun h => ?_
    · refine KW.goRet lay_ok T11_ok 100 rfl rfl ?_ (by simp) trivial
      simp at h
      simp [SV.ren, renL, EV.ren, h, h0]
    · have hv : validS s = true := by simpa using h
      refine KW.goLp lay_ok T11_ok 100 rfl (I := fun q : Nat => ⟨Try.f61.ntmps, [(1, sI s), (17, .e (.c (ints l))), (18, sI l.length), (19, sI q)], []⟩) (R := fun q => q ≤ l.length ∧ (l.take q).any (fun t => decide (iand .i64 t s = 0)) = false) (m := fun q => l.length - q) 0 rfl ⟨rfl, rfl, rfl, rfl, trivial⟩ (by simp) ⟨by simp, by simp⟩ trivial ?_
      rintro q ⟨h1, h2⟩
      refine KW.goIf lay_ok T11_ok 100 rfl (by simp) rfl trivial (fun h => ?_) fun h => ?_
      · have hq : q < l.length := by simpa using h
        refine KW.goIf lay_ok T11_ok 100 rfl (by simp <;> omega) rfl trivial (fun h => ?_) fun h => ?_
        · refine KW.goOutR lay_ok T11_ok 100 rfl (by simp) ?_
          refine KW.goRet lay_ok T11_ok 100 rfl rfl ?_ (by simp) trivial
          have hx : iand .i64 l[q] s = 0 := by simpa [List.getD_eq_getElem?_getD, hq] using h
          have ha : l.any (fun t => decide (iand .i64 t s = 0)) = true := by rw [List.any_eq_true]; exact ⟨l[q], List.getElem_mem hq, by simp [hx]⟩
          rw [ha]
          simp [SV.ren, renL, EV.ren, hv, h0]
        · refine KW.goTo lay_ok T11_ok 100 rfl (q + 1) rfl ⟨rfl, rfl, rfl, rfl, trivial⟩ (by simp [inK] <;> omega) ⟨⟨by omega, ?_⟩, by omega⟩ trivial
          have hx : ¬ iand .i64 l[q] s = 0 := by simpa [List.getD_eq_getElem?_getD, hq] using h
          rw [List.take_succ_eq_append_getElem hq, List.any_append, h2]
          simp [hx]
      · have hq : q = l.length := by simp at h; omega
        refine KW.goOut lay_ok T11_ok 100 rfl (by simp) ?_
        refine KW.goRet lay_ok T11_ok 100 rfl rfl ?_ (by simp) trivial
        rw [hq, List.take_length] at h2
        rw [h2]
        simp [SV.ren, renL, EV.ren, hv, h0]
end Go.Proofs.Ytinddojpbieejaa
