/-
  slices.Clone, slices.Equal and slices.Grow compute what they say; lists of at most 2 to the power 40 elements.
-/
import Derived.Test.YtinddojpbieejaaFnG
import Derived.Test.YtinddojpbieejaaSyU
import Derived.Test.YtinddojpbieejaaShelf
set_option linter.unusedVariables false
set_option linter.unusedSimpArgs false
namespace Go.Proofs.Ytinddojpbieejaa
open Go.Sy Go.Pu

theorem clone_does (xs : List Int) (hb : xs.length ≤ 1099511627776) : DoesF Try.prog 56 [.c (ints xs)] [] (.e (.r 0)) [(0, .own 3 (ints xs))] := by
  refine DoesF.body _ Try.func56 rfl rfl rfl rfl ?_
  refine KW.go lay_ok T11_ok 100 rfl (by simp) ?_
  refine KW.eqNil (neg := false) lay_ok rfl rfl rfl rfl rfl rfl rfl rfl trivial fun b hb0 => ?_
  refine KW.goIf lay_ok T11_ok 100 rfl (by simp) rfl trivial (fun h => ?_) fun h => ?_
  · have : xs = [] := ints_nil_of (hb0 h)
    subst this
    refine KW.go lay_ok T11_ok 100 rfl (by simp) ?_
    refine KW.nilO 2 2 3 (ints []) rfl rfl rfl ?_
    exact KW.fin [(0, 2)] rfl rfl rfl ⟨rfl, trivial⟩
  · refine KW.goRetR lay_ok T11_ok 100 rfl [(0, 7)] rfl rfl rfl (by simp <;> omega) ⟨?_, trivial⟩
    exact own_cat (a := []) _ rfl

theorem equal_does (a b : List Int) : DoesF Try.prog 52 [.c (ints a), .c (ints b)] [] (sB (decide (a = b))) [] := by
  refine DoesF.body _ Try.func52 rfl rfl rfl rfl ?_
  refine KW.len 0 rfl rfl fun hla => ?_
  refine KW.goIf lay_ok T11_ok 100 rfl (by simp) rfl trivial (fun h => ?_) fun h => ?_
  · refine KW.goRet lay_ok T11_ok 100 rfl rfl ?_ (by simp) trivial
    have hne : a ≠ b := fun e => by subst e; simp at h
    rw [decide_eq_false hne]; rfl
  · have hl : a.length = b.length := by simp at h; omega
    refine KW.goLp lay_ok T11_ok 100 rfl (I := fun q : Nat => ⟨Try.f52.ntmps, [(0, .e (.c (ints a))), (1, .e (.c (ints b))), (12, sI a.length), (13, sI q)], []⟩) (R := fun q => q ≤ a.length ∧ a.take q = b.take q) (m := fun q => a.length - q) 0 rfl ⟨rfl, rfl, rfl, rfl, trivial⟩ (by simp) ⟨by simp, by simp⟩ trivial ?_
    rintro q ⟨h1, h2⟩
    refine KW.goIf lay_ok T11_ok 100 rfl (by simp) rfl trivial (fun h => ?_) fun h => ?_
    · have hq : q < a.length := by simpa using h
      have hq' : q < b.length := by omega
      refine KW.goD lay_ok T11_ok rfl 100 rfl rfl rfl (by simp) (by simp; omega) ?_
      refine KW.goIf lay_ok T11_ok 100 rfl (by simp) rfl trivial (fun h => ?_) fun h => ?_
      · refine KW.goOutR lay_ok T11_ok 100 rfl (by simp) ?_
        refine KW.goRet lay_ok T11_ok 100 rfl rfl ?_ (by simp) trivial
        have hne : a ≠ b := fun e => by subst e; simp at h
        rw [decide_eq_false hne]; rfl
      · refine KW.goTo lay_ok T11_ok 100 rfl (q + 1) rfl ⟨rfl, rfl, rfl, rfl, trivial⟩ (by simp [inK]; omega) ⟨⟨by omega, ?_⟩, by omega⟩ trivial
        have e : a[q] = b[q] := by simpa [List.getD_eq_getElem?_getD, hq, hq'] using h
        rw [List.take_succ_eq_append_getElem hq, List.take_succ_eq_append_getElem hq', h2, e]
    · have hq : q = a.length := by simp at h; omega
      refine KW.goOut lay_ok T11_ok 100 rfl (by simp) ?_
      refine KW.goRet lay_ok T11_ok 100 rfl rfl ?_ (by simp) trivial
      have e : a = b := by
        rw [hq, List.take_length] at h2
        rw [h2, hl, List.take_length]
      rw [decide_eq_true e]; rfl

end Go.Proofs.Ytinddojpbieejaa
