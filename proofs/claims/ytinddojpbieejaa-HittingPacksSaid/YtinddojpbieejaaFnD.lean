/-
  The errors of lists compute what their Lean functions say; no condition.
-/
import Derived.Test.YtinddojpbieejaaFnC
set_option linter.unusedVariables false
set_option linter.unusedSimpArgs false
namespace Go.Proofs.Ytinddojpbieejaa
open Go.Sy Go.Pu

/-- the specification's errors of a list -/
theorem rerror_does (l : List Int) : DoesF Try.prog 37 [.c (ints l)] [] (sI (listE l)) [] := by
  refine DoesF.body _ Try.func37 rfl rfl rfl rfl ?_
  refine KW.len 0 rfl rfl fun hla => ?_
  refine KW.goIf lay_ok T9_ok 100 rfl (by simp) rfl trivial (fun h => ?_) fun h => ?_
  · refine KW.goRet lay_ok T9_ok 100 rfl rfl ?_ (by simp) trivial
    have hl : 1024 < l.length := by simp at h; omega
    rw [listE, if_pos hl]; rfl
  · have hl : ¬ 1024 < l.length := by simp at h; omega
    refine KW.goLp lay_ok T9_ok 100 rfl (I := fun q : Nat => ⟨Try.f37.ntmps, [(8, .e (.c (ints l))), (9, sI l.length), (10, sI q)], []⟩) (R := fun q => q ≤ l.length ∧ (l.take q).all validS = true) (m := fun q => l.length - q) 0 rfl ⟨rfl, rfl, rfl, trivial⟩ (by simp) ⟨by simp, by simp⟩ trivial ?_
    rintro q ⟨h1, h2⟩
    refine KW.goIf lay_ok T9_ok 100 rfl (by simp) rfl trivial (fun h => ?_) fun h => ?_
    · have hq : q < l.length := by simpa using h
      refine KW.goIf lay_ok T9_ok 100 rfl (by simp; omega) rfl trivial (fun h => ?_) fun h => ?_
      · refine KW.goOutR lay_ok T9_ok 100 rfl (by simp) ?_
        refine KW.goRet lay_ok T9_ok 100 rfl rfl ?_ (by simp) trivial
        have hv : validS l[q] = false := by simpa [List.getD_eq_getElem?_getD, hq] using h
        have : l.all validS = false := by
          rw [List.all_eq_false]
          exact ⟨l[q], List.getElem_mem hq, by simp [hv]⟩
        rw [listE, if_neg hl, this]; rfl
      · refine KW.goTo lay_ok T9_ok 100 rfl (q + 1) rfl ⟨rfl, rfl, rfl, trivial⟩ (by simp [inK]; omega) ⟨⟨by omega, ?_⟩, by omega⟩ trivial
        have hv : validS l[q] = true := by simpa [List.getD_eq_getElem?_getD, hq] using h
        rw [List.take_succ_eq_append_getElem hq, List.all_append, h2]
        simp [hv]
    · have hq : q = l.length := by simp at h; omega
      refine KW.goOut lay_ok T9_ok 100 rfl (by simp) ?_
      refine KW.goRet lay_ok T9_ok 100 rfl rfl ?_ (by simp) trivial
      rw [hq, List.take_length] at h2
      rw [listE, if_neg hl, h2]; rfl

/-- the code's errors of lists -/
theorem lists_does (ls : List (List Int)) : DoesF Try.prog 42 [.c (intss ls)] [] (.e (.c (.lit (errV 38 (listsE ls))))) [] := by
  refine DoesF.body _ Try.func42 rfl rfl rfl rfl ?_
  refine KW.len 0 rfl rfl fun hla => ?_
  refine KW.goLp lay_ok T9_ok 100 rfl (I := fun q : Nat => ⟨Try.f42.ntmps, [(7, .e (.c (intss ls))), (8, sI ls.length), (9, sI q)], []⟩) (R := fun q => q ≤ ls.length ∧ listsE ls = listsE (ls.drop q)) (m := fun q => ls.length - q) 0 rfl ⟨rfl, rfl, rfl, trivial⟩ (by simp) ⟨by simp, by simp⟩ trivial ?_
  rintro q ⟨h1, h2⟩
  refine KW.goIf lay_ok T9_ok 100 rfl (by simp) rfl trivial (fun h => ?_) fun h => ?_
  · have hq : q < ls.length := by simpa using h
    have hd : ls.drop q = ls[q] :: ls.drop (q + 1) := List.drop_eq_getElem_cons hq
    have hg : ls.getD (Int.toNat (q : Int)) [] = ls[q] := by simp [List.getD_eq_getElem?_getD, hq]
    refine KW.goIf lay_ok T9_ok 100 rfl (by simp; omega) rfl trivial (fun h => ?_) fun h => ?_
    · refine KW.goOutR lay_ok T9_ok 100 rfl (by simp) ?_
      refine KW.goRet lay_ok T9_ok 100 rfl rfl ?_ (by simp) trivial
      have hl : 1024 < ls[q].length := by rw [hg] at h; simp at h; omega
      have e : listE ls[q] = 4 := by rw [listE, if_pos hl]
      rw [h2, hd, listsE, if_neg (by rw [e]; decide), e]; rfl
    · have hl : ¬ 1024 < ls[q].length := by rw [hg] at h; simp at h; omega
      refine KW.goLp lay_ok T9_ok 100 rfl (I := fun p : Nat => ⟨Try.f42.ntmps, [(7, .e (.c (intss ls))), (8, sI ls.length), (9, sI q), (17, .e (.c (ints ls[q]))), (18, sI ls[q].length), (19, sI p)], []⟩) (R := fun p => p ≤ ls[q].length ∧ (ls[q].take p).all validS = true) (m := fun p => ls[q].length - p) 0 rfl ⟨rfl, rfl, rfl, by rw [← hg]; rfl, by rw [← hg]; rfl, rfl, trivial⟩ (by simp) ⟨by simp, by simp⟩ trivial ?_
      rintro p ⟨g1, g2⟩
      refine KW.goIf lay_ok T9_ok 100 rfl (by simp) rfl trivial (fun h => ?_) fun h => ?_
      · have hp : p < ls[q].length := by simpa using h
        refine KW.goIf lay_ok T9_ok 100 rfl (by simp; omega) rfl trivial (fun h => ?_) fun h => ?_
        · refine KW.goOutR lay_ok T9_ok 100 rfl (by simp) ?_
          refine KW.goOutR lay_ok T9_ok 100 rfl (by simp) ?_
          refine KW.goRet lay_ok T9_ok 100 rfl rfl ?_ (by simp) trivial
          have hv : validS ls[q][p] = false := by simpa [List.getD_eq_getElem?_getD, hp] using h
          have : ls[q].all validS = false := by
            rw [List.all_eq_false]
            exact ⟨ls[q][p], List.getElem_mem hp, by simp [hv]⟩
          have e : listE ls[q] = 3 := by rw [listE, if_neg hl, this]; rfl
          rw [h2, hd, listsE, if_neg (by rw [e]; decide), e]; rfl
        · refine KW.goTo lay_ok T9_ok 100 rfl (p + 1) rfl ⟨rfl, rfl, rfl, rfl, rfl, rfl, trivial⟩ (by simp [inK]; omega) ⟨⟨by omega, ?_⟩, by omega⟩ trivial
          have hv : validS ls[q][p] = true := by simpa [List.getD_eq_getElem?_getD, hp] using h
          rw [List.take_succ_eq_append_getElem hp, List.all_append, g2]
          simp [hv]
      · have hp : p = ls[q].length := by simp at h; omega
        refine KW.goOut lay_ok T9_ok 100 rfl (by simp) ?_
        refine KW.goTo lay_ok T9_ok 100 rfl (q + 1) rfl ⟨rfl, rfl, rfl, trivial⟩ (by simp [inK]; omega) ⟨⟨by omega, ?_⟩, by omega⟩ trivial
        rw [hp, List.take_length] at g2
        have e : listE ls[q] = 0 := by rw [listE, if_neg hl, g2]; rfl
        rw [h2, hd, listsE, if_pos e]
  · have hq : q = ls.length := by simp at h; omega
    refine KW.goOut lay_ok T9_ok 100 rfl (by simp) ?_
    refine KW.goRet lay_ok T9_ok 100 rfl rfl ?_ (by simp) trivial
    rw [h2, hq, List.drop_length]; rfl
end Go.Proofs.Ytinddojpbieejaa
