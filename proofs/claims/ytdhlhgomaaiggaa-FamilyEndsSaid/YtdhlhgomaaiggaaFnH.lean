/-
  slices.Clone, slices.Equal and slices.Grow compute what they say; lists of at most 2 to the power 40 elements.
-/
import Derived.Test.YtdhlhgomaaiggaaFnG
import Derived.Test.YtdhlhgomaaiggaaSyU
import Derived.Test.YtdhlhgomaaiggaaShelf
set_option linter.unusedVariables false
set_option linter.unusedSimpArgs false
namespace Go.Proofs.Ytdhlhgomaaiggaa
open Go.Sy Go.Pu

theorem clone_does (xs : List Int) (hb : xs.length ≤ 1099511627776) : DoesF Try.prog 57 [.c (ints xs)] [] (.e (.r 0)) [(0, .own 3 (ints xs))] := by
  refine DoesF.body _ Try.func57 rfl rfl rfl rfl ?_
  refine KW.go lay_ok T11_ok 100 rfl (by simp) ?_
  refine KW.eqNil (neg := false) lay_ok rfl rfl rfl rfl rfl rfl rfl rfl trivial fun b hb0 => ?_
  refine KW.goIf lay_ok T11_ok 100 rfl (by simp) rfl trivial (fun h => ?_) fun h => ?_
  · have : xs = [] := ints_nil_of (hb0 h)
    subst this
    refine KW.go lay_ok T11_ok 100 rfl (by simp) ?_
    refine KW.nilO 2 2 3 (ints []) rfl rfl rfl ?_
    exact KW.fin [(0, 2)] rfl rfl rfl ⟨rfl, trivial⟩
  · refine KW.goRetR lay_ok T11_ok 100 rfl [(0, 7)] rfl rfl rfl (by simp <;> omega) ⟨?_, trivial⟩
    exact own_cat (a := []) _ rfl

theorem equal_does (a b : List Int) : DoesF Try.prog 46 [.c (ints a), .c (ints b)] [] (sB (decide (a = b))) [] := by
  refine DoesF.body _ Try.func46 rfl rfl rfl rfl ?_
  refine KW.len 0 rfl rfl fun hla => ?_
  refine KW.goIf lay_ok T11_ok 100 rfl (by simp) rfl trivial (fun h => ?_) fun h => ?_
  · refine KW.goRet lay_ok T11_ok 100 rfl rfl ?_ (by simp) trivial
    have hne : a ≠ b := fun e => by subst e; simp at h
    rw [decide_eq_false hne]; rfl
  · have hl : a.length = b.length := by simp at h; omega
    refine KW.goLp lay_ok T11_ok 100 rfl (I := fun q : Nat => ⟨Try.f46.ntmps, [(0, .e (.c (ints a))), (1, .e (.c (ints b))), (12, sI a.length), (13, sI q)], []⟩) (R := fun q => q ≤ a.length ∧ a.take q = b.take q) (m := fun q => a.length - q) 0 rfl ⟨rfl, rfl, rfl, rfl, trivial⟩ (by simp) ⟨by simp, by simp⟩ trivial ?_
    rintro q ⟨h1, h2⟩
    refine KW.goIf lay_ok T11_ok 100 rfl (by simp) rfl trivial (fun h => ?_) fun h => ?_
    · have hq : q < a.length := by simpa using h
      have hq' : q < b.length := by omega
      refine KW.goD lay_ok T11_ok rfl 100 rfl rfl rfl (by simp) (by simp; omega) ?_
      refine KW.goIf lay_ok T11_ok 100 rfl (by simp) rfl trivial (fun h => ?_) fun h => ?_
      · refine KW.goOutR lay_ok T11_ok 100 rfl (by simp) ?_
        refine KW.goRet lay_ok T11_ok 100 rfl rfl ?_ (by simp) trivial
        have hne : a ≠ b := fun e => by subst e; simp at h
        rw [decide_eq_false hne]; rfl
      · refine KW.goTo lay_ok T11_ok 100 rfl (q + 1) rfl ⟨rfl, rfl, rfl, rfl, trivial⟩ (by simp [inK]; omega) ⟨⟨by omega, ?_⟩, by omega⟩ trivial
        have e : a[q] = b[q] := by simpa [List.getD_eq_getElem?_getD, hq, hq'] using h
        rw [List.take_succ_eq_append_getElem hq, List.take_succ_eq_append_getElem hq', h2, e]
    · have hq : q = a.length := by simp at h; omega
      refine KW.goOut lay_ok T11_ok 100 rfl (by simp) ?_
      refine KW.goRet lay_ok T11_ok 100 rfl rfl ?_ (by simp) trivial
      have e : a = b := by
        rw [hq, List.take_length] at h2
        rw [h2, hl, List.take_length]
      rw [decide_eq_true e]; rfl

def layGrow_ren : Go.Shelf.Ren := ⟨fun | 4 => 56 | n => n, fun | 22 => 22 | 25 => 3 | 3 => 3 | 4 => 4 | 9 => 9 | 20 => 20 | 0 => 0 | n => n, fun | n => n⟩
theorem layGrow : Go.Proofs.Lays8.n4 Try.prog layGrow_ren := {
  mixed := by kernel_rfl
  f4 := ⟨Try.f56.name, by decide, Try.func56.trans (congrArg some (by kernel_rfl))⟩
  t0 := Try.underlying0
  a0 := Try.isAgg0
  z0 := Try.sizeOf0
  v0 := Try.zeroValue0
  t3 := Try.underlying3
  a3 := Try.isAgg3
  z3 := Try.sizeOf3
  v3 := Try.zeroValue3
  t4 := Try.underlying4
  a4 := Try.isAgg4
  z4 := Try.sizeOf4
  v4 := Try.zeroValue4
  t9 := Try.underlying9
  a9 := Try.isAgg9
  z9 := Try.sizeOf9
  v9 := Try.zeroValue9
  t20 := Try.underlying20
  a20 := Try.isAgg20
  z20 := Try.sizeOf20
  v20 := Try.zeroValue20
  t22 := Try.underlying22
  a22 := Try.isAgg22
  z22 := Try.sizeOf22
  v22 := Try.zeroValue22 }
theorem grow_does (n : Nat) (hn : n ≤ 1099511627776) : DoesF Try.prog 56 [.c (.lit (.slice none 0 0)), iV n] [] (.e (.r 0)) [(0, .own 3 (ints []))] := by
  have hrow : (Try.prog.info? 3).map (fun i => (i.zero, i.size, i.bytes)) = some (some (.int .i64 0), 1, 8) := by kernel_rfl
  obtain ⟨i0, hi, hz0, hz1, hz2⟩ := info_parts hrow
  exact grow_nil_does layGrow rfl rfl hi hz0 hz1 hz2 rfl n hn
end Go.Proofs.Ytdhlhgomaaiggaa
