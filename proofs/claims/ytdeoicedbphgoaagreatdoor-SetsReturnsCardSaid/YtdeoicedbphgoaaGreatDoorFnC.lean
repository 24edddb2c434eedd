/-
  Equality of integer lists and the numbers of errors compute what their Lean functions say; no condition.
-/
import Derived.Test.YtdeoicedbphgoaaGreatDoorFnB
set_option linter.unusedSectionVars false
set_option linter.unusedVariables false
set_option linter.unusedSimpArgs false
namespace Go.Proofs.YtdeoicedbphgoaaGreatDoor
open Go.Sy Go.Pu
variable [Drw]

abbrev eV (n : Int) : EV := .c (.lit (errV 47 n))
abbrev lV (l : List Int) : EV := .c (ints l)

theorem ints_does (a b : List Int) : DoesF Tryz.prog 64 [.c (ints a), .c (ints b)] [] (sB (decide (a = b))) [] := by
  refine DoesF.body _ Tryz.func64 rfl rfl rfl rfl ?_
  refine KW.len 0 rfl rfl fun hla => ?_
  refine KW.goIf lay_ok T8_ok 100 rfl (by simp) rfl trivial (fun h => ?_) fun h => ?_
  · refine KW.goRet lay_ok T8_ok 100 rfl rfl ?_ (by simp) trivial
    have hne : a ≠ b := fun e => by subst e; simp at h
    rw [decide_eq_false hne]; rfl
  · have hl : a.length = b.length := by simp at h; omega
    refine KW.goLp lay_ok T8_ok 100 rfl (I := fun q : Nat => ⟨Tryz.f64.ntmps, [(0, .e (.c (ints a))), (1, .e (.c (ints b))), (12, sI a.length), (13, sI q)], []⟩) (R := fun q => q ≤ a.length ∧ a.take q = b.take q) (m := fun q => a.length - q) 0 rfl ⟨rfl, rfl, rfl, rfl, trivial⟩ (by simp) ⟨by simp, by simp⟩ trivial ?_
    rintro q ⟨h1, h2⟩
    refine KW.goIf lay_ok T8_ok 100 rfl (by simp) rfl trivial (fun h => ?_) fun h => ?_
    · have hq : q < a.length := by simpa using h
      have hq' : q < b.length := by omega
      refine KW.goD lay_ok T8_ok rfl 100 rfl rfl rfl (by simp) (by simp; omega) ?_
      refine KW.goIf lay_ok T8_ok 100 rfl (by simp) rfl trivial (fun h => ?_) fun h => ?_
      · refine KW.goOutR lay_ok T8_ok 100 rfl (by simp) ?_
        refine KW.goRet lay_ok T8_ok 100 rfl rfl ?_ (by simp) trivial
        have hne : a ≠ b := fun e => by subst e; simp at h
        rw [decide_eq_false hne]; rfl
      · refine KW.goTo lay_ok T8_ok 100 rfl (q + 1) rfl ⟨rfl, rfl, rfl, rfl, trivial⟩ (by simp [inK]; omega) ⟨⟨by omega, ?_⟩, by omega⟩ trivial
        have e : a[q] = b[q] := by simpa [List.getD_eq_getElem?_getD, hq, hq'] using h
        rw [List.take_succ_eq_append_getElem hq, List.take_succ_eq_append_getElem hq', h2, e]
    · have hq : q = a.length := by simp at h; omega
      refine KW.goOut lay_ok T8_ok 100 rfl (by simp) ?_
      refine KW.goRet lay_ok T8_ok 100 rfl rfl ?_ (by simp) trivial
      have e : a = b := by
        rw [hq, List.take_length] at h2
        rw [h2, hl, List.take_length]
      rw [decide_eq_true e]; rfl

/-! errors -/
theorem num_does0 (n : Int) : DoesF Tryz.prog 21 [.c (.lit (errV 47 n))] [] (sI n) [] := by
  refine DoesF.body _ Tryz.func21 rfl rfl rfl rfl ?_
  by_cases h0 : n = 0
  · subst h0
    refine KW.goIf lay_ok T8_ok 100 rfl (by simp) rfl trivial (fun h => ?_) fun h => by simp at h
    exact KW.goRet lay_ok T8_ok 100 rfl rfl rfl (by simp) trivial
  · have e : errV 47 n = .iface 47 (.int .i64 n) := by simp [errV, h0]
    rw [e]
    refine KW.goIf lay_ok T8_ok 100 rfl (by simp [ifcV]) rfl trivial (fun h => by cases h) fun h => ?_
    refine KW.goIf lay_ok T8_ok 100 rfl (by simp [Value.oneCell']) rfl trivial (fun h => ?_) fun h => by cases h
    exact KW.goRet lay_ok T8_ok 100 rfl rfl rfl (by simp) trivial
theorem num_does (v : Value) (h : isErr 47 v) : DoesF Tryz.prog 21 [.c (.lit v)] [] (sI (numV v)) [] := by
  rw [h]; simpa using num_does0 (numV v)

theorem is_does0 (n c : Int) : DoesF Tryz.prog 25 [.c (.lit (errV 47 n)), iV c] [] (sB (decide (n ≠ 0) && decide (n = c))) [] := by
  refine DoesF.body _ Tryz.func25 rfl rfl rfl rfl ?_
  by_cases h0 : n = 0
  · subst h0
    exact KW.goRet lay_ok T8_ok 100 rfl rfl rfl (by simp) trivial
  · have e : errV 47 n = .iface 47 (.int .i64 n) := by simp [errV, h0]
    rw [e]
    exact KW.goRet lay_ok T8_ok 100 rfl rfl (by simp only [SV.ren, EV.ren]; congr 5; rw [Bool.eq_iff_iff]; simp [h0]) (by simp [Value.oneCell']) trivial
theorem is_does (v : Value) (c : Int) (h : isErr 47 v) : DoesF Tryz.prog 25 [.c (.lit v), iV c] [] (sB (decide (numV v ≠ 0) && decide (numV v = c))) [] := by
  rw [h]; simpa using is_does0 (numV v) c

def T9 : Fns := (64, fLL (fun a b => sB (decide (a = b))) fun _ _ => True) ::
  (21, fV (fun v => sI (numV v)) fun v => isErr 47 v) ::
  T8
theorem T9_ok : FnsOk Tryz.prog T9 := .cons (.cons (T8_ok) Tryz.func21 rfl rfl (fV_ok num_does)) Tryz.func64 rfl rfl (fLL_ok fun a b _ => ints_does a b)


end Go.Proofs.YtdeoicedbphgoaaGreatDoor
