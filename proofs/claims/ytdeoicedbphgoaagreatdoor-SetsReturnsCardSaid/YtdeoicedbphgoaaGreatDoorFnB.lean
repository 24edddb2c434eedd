/-
  The functions of sets and of the specification of sets (counting, comparing) compute what their Lean functions say; no condition.
-/
import Derived.Test.YtdeoicedbphgoaaGreatDoorFnA
import Derived.Test.YtdeoicedbphgoaaGreatDoorPuA
set_option linter.unusedSectionVars false
set_option linter.unusedVariables false
set_option linter.unusedSimpArgs false
namespace Go.Proofs.YtdeoicedbphgoaaGreatDoor
open Go.Sy Go.Pu
variable [Drw]

theorem ones64_does (a : Int) (h : validS a = true) : DoesF Tryz.prog 194 [.c (.lit (.int .u64 a))] [] (sI (popc a)) [] := by
  obtain ⟨x, y, z, hx, hy, hz, e, hp⟩ := ones_eq h
  have e1 : iand .u64 (ishr a 1) 6148914691236517205 + iand .u64 a 6148914691236517205 = b3 (c1 x) (c1 y) (c1 z) := by subst e; exact o1_eq hx hy hz
  have e2 : iand .u64 (ishr (b3 (c1 x) (c1 y) (c1 z) : Nat) 2) 3689348814741910323 + iand .u64 (b3 (c1 x) (c1 y) (c1 z) : Nat) 3689348814741910323 = b3 (c2 (c1 x)) (c2 (c1 y)) (c2 (c1 z)) := o2_eq hx hy hz
  have e3 : iand .u64 (ishr (b3 (c2 (c1 x)) (c2 (c1 y)) (c2 (c1 z)) : Nat) 4 + (b3 (c2 (c1 x)) (c2 (c1 y)) (c2 (c1 z)) : Nat)) 1085102592571150095 = b3 (pcF 8 x) (pcF 8 y) (pcF 8 z) := o3_eq hx hy hz
  obtain ⟨l1, l2, l3, l4, l5, l6, l7, l8⟩ := ones_last (pcF_le 8 x) (pcF_le 8 y) (pcF_le 8 z) (n := (b3 (pcF 8 x) (pcF 8 y) (pcF 8 z) : Nat)) rfl
  have hb1 : (b3 (c1 x) (c1 y) (c1 z) : Int) ≤ 16777215 := by
    have := (c1_le ⟨x, hx⟩).1
    have := (c1_le ⟨y, hy⟩).1
    have := (c1_le ⟨z, hz⟩).1
    simp only at *
    unfold b3; omega
  have hb2 : (b3 (c2 (c1 x)) (c2 (c1 y)) (c2 (c1 z)) : Int) ≤ 16777215 := by
    have := (c1_le ⟨x, hx⟩).2.2.1
    have := (c1_le ⟨y, hy⟩).2.2.1
    have := (c1_le ⟨z, hz⟩).2.2.1
    simp only at *
    unfold b3; omega
  have hb3 : 0 ≤ ishr (b3 (c2 (c1 x)) (c2 (c1 y)) (c2 (c1 z)) : Nat) 4 ∧ ishr (b3 (c2 (c1 x)) (c2 (c1 y)) (c2 (c1 z)) : Nat) 4 ≤ 16777215 := by
    have := ishr_nat (b3 (c2 (c1 x)) (c2 (c1 y)) (c2 (c1 z))) 4
    rw [show ((4 : Nat) : Int) = 4 from rfl] at this
    rw [this]
    omega
  refine DoesF.body _ Tryz.func194 rfl rfl rfl rfl ?_
  refine KW.goRet lay_ok T2_ok 100 rfl rfl ?_ ?_ trivial
  · rw [e1, e2, e3, l8, hp]
    rfl
  · rw [e1, e2, e3]
    simp [inK, bitsI]
    omega

def T3 : Fns := (118, fII (fun a b => sI (cmpI a b)) fun _ _ => True) ::
  (194, fU (fun a => sI (popc a)) fun a => validS a = true) ::
  T2
theorem T3_ok : FnsOk Tryz.prog T3 := .cons (.cons (T2_ok) Tryz.func194 rfl rfl (fU_ok ones64_does)) Tryz.func118 rfl rfl (fII_ok fun a b _ => cmp_does a b)


theorem ones_does (a : Int) (h : validS a = true) : DoesF Tryz.prog 129 [.c (.lit (.int .u64 a))] [] (sI (popc a)) [] := by
  refine DoesF.body _ Tryz.func129 rfl rfl rfl rfl ?_
  refine KW.goIf lay_ok T3_ok 100 rfl (by simp) rfl trivial (fun h => by cases h) fun _ => ?_
  exact KW.goRet lay_ok T3_ok 100 rfl rfl rfl (by simp [h]) trivial

def T4 : Fns := (129, fU (fun a => sI (popc a)) fun a => validS a = true) ::
  T3
theorem T4_ok : FnsOk Tryz.prog T4 := .cons (T3_ok) Tryz.func129 rfl rfl (fU_ok ones_does)


theorem count_does (a : Int) : DoesF Tryz.prog 56 [iV a] [] (sI (popc (cutS a))) [] := by
  have hv := valid_cutS a
  have hv' := validS_iff.1 hv
  refine DoesF.body _ Tryz.func56 rfl rfl rfl rfl ?_
  exact KW.goRet lay_ok T4_ok 100 rfl rfl rfl (by simp [hv, inK]; omega) trivial

def T5 : Fns := (56, fI (fun a => sI (cntS a)) fun a => True) ::
  T4
theorem T5_ok : FnsOk Tryz.prog T5 := .cons (T4_ok) Tryz.func56 rfl rfl (fI_ok fun a _ => count_does a)


theorem compare_does (a b : Int) : DoesF Tryz.prog 47 [iV a, iV b] [] (sI (cmpS a b)) [] := by
  refine DoesF.body _ Tryz.func47 rfl rfl rfl rfl ?_
  refine KW.goIf lay_ok T5_ok 100 rfl (by simp) rfl trivial (fun h => ?_) fun h => ?_
  · exact KW.goRet lay_ok T5_ok 100 rfl rfl (by simp at h; simp [cmpS, h, SV.ren, EV.ren]) (by simp) trivial
  · exact KW.goRet lay_ok T5_ok 100 rfl rfl (by simp at h; simp [cmpS, h, SV.ren, EV.ren]) (by simp) trivial

/-! the specification's -/
theorem rvalid_does (s : Int) : DoesF Tryz.prog 125 [iV s] [] (sB (validS s)) [] := by
  refine DoesF.body _ Tryz.func125 rfl rfl rfl rfl ?_
  refine KW.goRet lay_ok T5_ok 100 rfl rfl ?_ (by simp) trivial
  simp only [SV.ren, EV.ren, validS]
  congr 5
  simp only [decide_eq_decide]
  omega
theorem rcut_does (s : Int) : DoesF Tryz.prog 174 [iV s] [] (sI (cutS s)) [] := by
  refine DoesF.body _ Tryz.func174 rfl rfl rfl rfl ?_
  exact KW.goRet lay_ok T5_ok 100 rfl rfl rfl (by simp) trivial
def T6 : Fns := (174, fI (fun a => sI (cutS a)) fun a => True) ::
  (125, fI (fun a => sB (validS a)) fun a => True) ::
  (47, fII (fun a b => sI (cmpS a b)) fun _ _ => True) ::
  T5
theorem T6_ok : FnsOk Tryz.prog T6 := .cons (.cons (.cons (T5_ok) Tryz.func47 rfl rfl (fII_ok fun a b _ => compare_does a b)) Tryz.func125 rfl rfl (fI_ok fun a _ => rvalid_does a)) Tryz.func174 rfl rfl (fI_ok fun a _ => rcut_does a)


theorem rcount_does (a : Int) : DoesF Tryz.prog 175 [iV a] [] (sI (cntS a)) [] := by
  refine DoesF.body _ Tryz.func175 rfl rfl rfl rfl ?_
  refine KW.goLp lay_ok T6_ok 100 rfl (I := fun q : Int × Int => ⟨15, [(0, sI q.1), (3, sI q.2)], []⟩) (R := fun q => validS q.1 = true ∧ q.2 + popc q.1 = cntS a ∧ 0 ≤ q.2) (m := fun q => (popc q.1).toNat) (cutS a, 0) rfl ⟨rfl, rfl, trivial⟩ (by simp) ⟨valid_cutS a, by simp [cntS], by simp⟩ trivial ?_
  rintro ⟨s, n⟩ ⟨h1, h2, h3⟩
  have h1' := validS_iff.1 h1
  have hc := popc_le (a := s)
  have hc2 := popc_le (a := cutS a)
  simp only [cntS] at h2
  simp only at h1 h2 h3
  refine KW.goIf lay_ok T6_ok 100 rfl (by simp) rfl trivial (fun h => ?_) fun h => ?_
  · have h0 : s ≠ 0 := by simpa using h
    have hp := popc_pos h1 h0
    have hl := popc_less h1 h0
    refine KW.goTo lay_ok T6_ok 100 rfl (iand .i64 s (s - 1), n + 1) rfl ⟨rfl, rfl, trivial⟩ (by simp [inK]; omega) ⟨⟨valid_iand h1, by simp only [cntS]; omega, by simp only; omega⟩, by simp only; omega⟩ trivial
  · have h0 : s = 0 := by simpa using h
    subst h0
    refine KW.goOut lay_ok T6_ok 100 rfl (by simp) ?_
    refine KW.goRet lay_ok T6_ok 100 rfl rfl ?_ (by simp) trivial
    simp only [popc_zero] at h2
    simp [SV.ren, EV.ren, ← h2, cntS]

def T7 : Fns := (175, fI (fun a => sI (cntS a)) fun a => True) ::
  T6
theorem T7_ok : FnsOk Tryz.prog T7 := .cons (T6_ok) Tryz.func175 rfl rfl (fI_ok fun a _ => rcount_does a)


theorem rcompare_does (a b : Int) : DoesF Tryz.prog 103 [iV a, iV b] [] (sI (cmpS a b)) [] := by
  refine DoesF.body _ Tryz.func103 rfl rfl rfl rfl ?_
  have e : ∀ a, cntS (cutS a) = cntS a := fun a => by simp [cntS, cutS_of (valid_cutS a)]
  refine KW.goIf lay_ok T7_ok 100 rfl (by simp) rfl trivial (fun h => ?_) fun h => ?_
  · refine KW.goRet lay_ok T7_ok 100 rfl rfl ?_ (by simp) trivial
    simp at h
    simp [cmpS, cntS, h, cmpI, SV.ren, EV.ren]
  · refine KW.goIf lay_ok T7_ok 100 rfl (by simp; omega) rfl trivial (fun h' => ?_) fun h' => ?_
    · refine KW.goRet lay_ok T7_ok 100 rfl rfl ?_ (by simp) trivial
      have : cmpS a b = -1 := by
        simp [e] at h h'
        simp only [cmpS, cmpI]
        repeat' split
        all_goals omega
      rw [this]; rfl
    · refine KW.goRet lay_ok T7_ok 100 rfl rfl ?_ (by simp) trivial
      have : cmpS a b = 1 := by
        simp [e] at h h'
        simp only [cmpS, cmpI]
        repeat' split
        all_goals omega
      rw [this]; rfl
def T8 : Fns := (103, fII (fun a b => sI (cmpS a b)) fun a b => True) ::
  T7
theorem T8_ok : FnsOk Tryz.prog T8 := .cons (T7_ok) Tryz.func103 rfl rfl (fII_ok fun a b _ => rcompare_does a b)


end Go.Proofs.YtdeoicedbphgoaaGreatDoor
