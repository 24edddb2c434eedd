/-
  Path sets and cut sets: the reference's; the law PathsTells.
-/
import Derived.Test.YtpjhpcclbenfbaaFqJ
import Derived.Test.YtpjhpcclbenfbaaFmK
set_option linter.unusedVariables false
set_option linter.unusedSimpArgs false
namespace Go.Proofs.Ytpjhpcclbenfbaa
open Go.Sy Go.Pu

theorem pIsPath_does (f : FormP) (s : Int) (hin : FormIn f) : DoesF Try.prog 40 [.ag (formC f), iV s] [] (.tup [bV (isV f s true), eV (pathSE f s)]) [] := by
  refine DoesF.body _ Try.func40 rfl rfl rfl rfl ?_
  obtain ⟨vars, ns, top⟩ := f
  refine KW.goRet lay_ok G7_ok 100 rfl rfl ?_ (by simp only [unN_nodesC, isN_nodesC, true_and, and_true]; simp [hin]) trivial
  simp only [unN_nodesC]; rfl
theorem pIsCut_does (f : FormP) (s : Int) (hin : FormIn f) : DoesF Try.prog 41 [.ag (formC f), iV s] [] (.tup [bV (isV f s false), eV (pathSE f s)]) [] := by
  refine DoesF.body _ Try.func41 rfl rfl rfl rfl ?_
  obtain ⟨vars, ns, top⟩ := f
  refine KW.goRet lay_ok G7_ok 100 rfl rfl ?_ (by simp only [unN_nodesC, isN_nodesC, true_and, and_true]; simp [hin]) trivial
  simp only [unN_nodesC]; rfl

def K1 : Fns := (66, fFI (fun f s => sB (valueF f s)) fun f s => FormIn f ∧ formE f = 0) ::
  (83, fFI (fun f s => sI (pathSE f s)) fun f s => FormIn f) ::
  J8
theorem K1_ok : FnsOk Try.prog K1 := .cons (.cons (J8_ok) Try.func83 rfl rfl (fFI_ok fun f s h => rerrorOf34_does f s h)) Try.func66 rfl rfl (fFI_ok fun f s h => rvalue_does f s h.1 h.2)


theorem rpath34_does (f : FormP) (s : Int) (hin : FormIn f) (h0 : formE f = 0) : DoesF Try.prog 84 [.ag (formC f), iV s] [] (sB (isP f s true)) [] := by
  refine DoesF.body _ Try.func84 rfl rfl rfl rfl ?_
  have e : isP f s true = !valueF f (iandNot .i64 (ishl 1 f.vars - 1) s) := by
    simp only [isP, cmplF, if_true]
    cases valueF f (iandNot .i64 (ishl 1 f.vars - 1) s) <;> rfl
  rw [e]
  obtain ⟨vars, ns, top⟩ := f
  have hv := (formE_ok h0).vars
  simp only at hv
  have hsr := shl_rng hv
  refine KW.goDT lay_ok K1_ok rfl 100 rfl 9 rfl rfl rfl rfl rfl (by simp) ?_ ?_
  · simp only [unN_nodesC, isN_nodesC, true_and, and_true, inK, bitsI]; simp [hin, h0]; omega
  refine KW.goRet lay_ok K1_ok 100 rfl rfl ?_ (by simp) trivial
  simp only [unN_nodesC]; rfl
theorem rcut34_does (f : FormP) (s : Int) (hin : FormIn f) (h0 : formE f = 0) : DoesF Try.prog 86 [.ag (formC f), iV s] [] (sB (isP f s false)) [] := by
  refine DoesF.body _ Try.func86 rfl rfl rfl rfl ?_
  rw [isP_cut]
  obtain ⟨vars, ns, top⟩ := f
  refine KW.goRet lay_ok K1_ok 100 rfl rfl ?_ (by simp [hin, h0]) trivial
  simp only [unN_nodesC]; rfl
def K2 : Fns := (84, fFI (fun f s => sB (isP f s true)) fun f s => FormIn f ∧ formE f = 0) ::
  (86, fFI (fun f s => sB (isP f s false)) fun f s => FormIn f ∧ formE f = 0) ::
  K1
theorem K2_ok : FnsOk Try.prog K2 := .cons (.cons (K1_ok) Try.func86 rfl rfl (fFI_ok fun f s h => rcut34_does f s h.1 h.2)) Try.func84 rfl rfl (fFI_ok fun f s h => rpath34_does f s h.1 h.2)


theorem rIsPath34_does (f : FormP) (s : Int) (hin : FormIn f) : DoesF Try.prog 42 [.ag (formC f), iV s] [] (.tup [bV (isV f s true), iV (pathSE f s)]) [] := by
  refine DoesF.body _ Try.func42 rfl rfl rfl rfl ?_
  obtain ⟨vars, ns, top⟩ := f
  refine KW.goIf lay_ok K2_ok 100 rfl (by simp [hin]) rfl trivial (fun h => ?_) fun h => ?_
  · simp only [unN_nodesC] at h
    have h1 : ¬ pathSE ⟨vars, ns, top⟩ s = 0 := by
      have e : (pathSE ⟨vars, ns, top⟩ s != 0) = true := h
      simpa using e
    have e2 : isV ⟨vars, ns, top⟩ s true = false := by simp [isV, h1]
    refine KW.goRet lay_ok K2_ok 100 rfl rfl ?_ (by simp) trivial
    simp only [unN_nodesC, e2]; rfl
  · simp only [unN_nodesC] at h
    have h1 : pathSE ⟨vars, ns, top⟩ s = 0 := by
      have e : (pathSE ⟨vars, ns, top⟩ s != 0) = false := h
      simpa using e
    obtain ⟨h0, hc, hs⟩ := pathSE_ok h1
    have e2 : isV ⟨vars, ns, top⟩ s true = isP ⟨vars, ns, top⟩ s true := by simp [isV, h1]
    refine KW.goRet lay_ok K2_ok 100 rfl rfl ?_ (by simp [hin, h0]) trivial
    simp only [unN_nodesC, e2, h1]; rfl
theorem rIsCut34_does (f : FormP) (s : Int) (hin : FormIn f) : DoesF Try.prog 44 [.ag (formC f), iV s] [] (.tup [bV (isV f s false), iV (pathSE f s)]) [] := by
  refine DoesF.body _ Try.func44 rfl rfl rfl rfl ?_
  obtain ⟨vars, ns, top⟩ := f
  refine KW.goIf lay_ok K2_ok 100 rfl (by simp [hin]) rfl trivial (fun h => ?_) fun h => ?_
  · simp only [unN_nodesC] at h
    have h1 : ¬ pathSE ⟨vars, ns, top⟩ s = 0 := by
      have e : (pathSE ⟨vars, ns, top⟩ s != 0) = true := h
      simpa using e
    have e2 : isV ⟨vars, ns, top⟩ s false = false := by simp [isV, h1]
    refine KW.goRet lay_ok K2_ok 100 rfl rfl ?_ (by simp) trivial
    simp only [unN_nodesC, e2]; rfl
  · simp only [unN_nodesC] at h
    have h1 : pathSE ⟨vars, ns, top⟩ s = 0 := by
      have e : (pathSE ⟨vars, ns, top⟩ s != 0) = false := h
      simpa using e
    obtain ⟨h0, hc, hs⟩ := pathSE_ok h1
    have e2 : isV ⟨vars, ns, top⟩ s false = isP ⟨vars, ns, top⟩ s false := by simp [isV, h1]
    refine KW.goRet lay_ok K2_ok 100 rfl rfl ?_ (by simp [hin, h0]) trivial
    simp only [unN_nodesC, e2, h1]; rfl
def K3 : Fns := (42, fFI (fun f s => .tup [bV (isV f s true), iV (pathSE f s)]) fun f s => FormIn f) ::
  (44, fFI (fun f s => .tup [bV (isV f s false), iV (pathSE f s)]) fun f s => FormIn f) ::
  (40, fFI (fun f s => .tup [bV (isV f s true), eV (pathSE f s)]) fun f s => FormIn f) ::
  (41, fFI (fun f s => .tup [bV (isV f s false), eV (pathSE f s)]) fun f s => FormIn f) ::
  (38, fFI (fun f s => .tup [bV (minV f s true), eV (pathSE f s)]) fun f s => FormIn f) ::
  (37, fFI (fun f s => .tup [bV (minV f s false), eV (pathSE f s)]) fun f s => FormIn f) ::
  K2
theorem K3_ok : FnsOk Try.prog K3 := .cons (.cons (.cons (.cons (.cons (.cons (K2_ok) Try.func37 rfl rfl (fFI_ok fun f s h => pMinimalCut_does f s h)) Try.func38 rfl rfl (fFI_ok fun f s h => pMinimal_does f s h)) Try.func41 rfl rfl (fFI_ok fun f s h => pIsCut_does f s h)) Try.func40 rfl rfl (fFI_ok fun f s h => pIsPath_does f s h)) Try.func44 rfl rfl (fFI_ok fun f s h => rIsCut34_does f s h)) Try.func42 rfl rfl (fFI_ok fun f s h => rIsPath34_does f s h)


/-- minimal: by the elements alone -/
theorem minP_elems {f : FormP} {s : Int} {b : Bool} {n : Nat} (hn24 : n ≤ 24) (hs : inN n s) : minP f s b n = (isP f s b && (elemsS s).all fun i => !isP f (iandNot .i64 s (ishl 1 i)) b) := by
  unfold minP
  congr 1
  rw [Bool.eq_iff_iff, List.all_eq_true, List.all_eq_true]
  constructor
  · intro h x hx
    obtain ⟨i, hi, hb, rfl⟩ := mem_elemsS.1 hx
    have hin : i < n := Nat.lt_of_not_le fun h' => by rw [hs.2 i h'] at hb; cases hb
    have := h i (by simpa using hin)
    rw [hb] at this
    have e : ishl 1 (i : Int) = Go.Pu.one i := rfl
    rw [e]
    simpa using this
  · intro h i hi
    cases hb : bit s i with
    | false => rfl
    | true =>
      have hi' : i < n := by simpa using hi
      have := h (i : Int) (mem_elemsS.2 ⟨i, by omega, hb, rfl⟩)
      have e : ishl 1 (i : Int) = Go.Pu.one i := rfl
      rw [e] at this
      simpa using this

theorem rMinimal34_does (f : FormP) (s : Int) (hin : FormIn f) : DoesF Try.prog 43 [.ag (formC f), iV s] [] (.tup [bV (minV f s true), iV (pathSE f s)]) [] := by
  refine DoesF.body _ Try.func43 rfl rfl rfl rfl ?_
  obtain ⟨vars, ns, top⟩ := f
  refine KW.goIf lay_ok K3_ok 100 rfl (by simp [hin]) rfl trivial (fun h => ?_) fun h => ?_
  · simp only [unN_nodesC] at h
    have e : (pathSE ⟨vars, ns, top⟩ s != 0 || !isV ⟨vars, ns, top⟩ s true) = true := h
    have e2 : minV ⟨vars, ns, top⟩ s true = false := by
      by_cases h1 : pathSE ⟨vars, ns, top⟩ s = 0
      · have h2 : isP ⟨vars, ns, top⟩ s true = false := by simpa [h1, isV] using e
        simp [minV, minP, h1, h2]
      · simp [minV, h1]
    refine KW.goRet lay_ok K3_ok 100 rfl rfl ?_ (by simp) trivial
    simp only [unN_nodesC, e2]; rfl
  simp only [unN_nodesC] at h
  have e : (pathSE ⟨vars, ns, top⟩ s != 0 || !isV ⟨vars, ns, top⟩ s true) = false := h
  have h1 : pathSE ⟨vars, ns, top⟩ s = 0 := by
    rw [Bool.or_eq_false_iff] at e; simpa using e.1
  have h2 : isP ⟨vars, ns, top⟩ s true = true := by
    rw [Bool.or_eq_false_iff] at e; simpa [isV, h1] using e.2
  obtain ⟨h0, hc, hs⟩ := pathSE_ok h1
  have hv := (formE_ok h0).vars
  simp only at hv hs
  obtain ⟨n, rfl⟩ := Int.eq_ofNat_of_zero_le hv.1
  have hn24 : n ≤ 24 := by omega
  have hsn : inN n s := (inN_iff hn24).2 ⟨hs.1, by rw [← ishl_one]; exact hs.2⟩
  have e2 : minV ⟨n, ns, top⟩ s true = (elemsS s).all fun i => !isP ⟨n, ns, top⟩ (iandNot .i64 s (ishl 1 i)) true := by
    rw [minV, h1, show (FormP.vars ⟨n, ns, top⟩).toNat = n from rfl, minP_elems hn24 hsn, h2]; simp
  rw [e2, h1]
  have hmem : ∀ x ∈ elemsS s, ∃ i : Nat, i < 24 ∧ x = i := fun x hx => by
    obtain ⟨i, hi, _, rfl⟩ := mem_elemsS.1 hx
    exact ⟨i, hi, rfl⟩
  have hel := elemsN_length s 24
  rw [show elemsN s 24 = elemsS s from rfl] at hel
  generalize hes : elemsS s = es at *
  refine KW.goLpR lay_ok K3_ok 100 rfl (I := fun q : Nat => ⟨Try.f43.ntmps, [(1, sI s), (2, .e (.r 2)), (24, .e (lV es)), (25, sI es.length), (26, sI q)],
      [(2, .box 24 [iV n, .c (nodesC ns), iV top] none)]⟩)
    (R := fun q => q ≤ es.length ∧ ((es.drop q).all fun i => !isP ⟨n, ns, top⟩ (iandNot .i64 s (ishl 1 i)) true) = es.all fun i => !isP ⟨n, ns, top⟩ (iandNot .i64 s (ishl 1 i)) true) (m := fun q => es.length - q) 0 [(2, 2)] rfl rfl ⟨rfl, rfl, by rw [← hes]; rfl, by rw [← hes]; rfl, rfl, trivial⟩ (by simp) ⟨Nat.zero_le _, rfl⟩ ⟨rfl, trivial⟩ ?_
  rintro q ⟨g1, g2⟩
  refine KW.goIf lay_ok K3_ok 100 rfl (by simp) rfl trivial (fun h => ?_) fun h => ?_
  · have hq : q < es.length := by simpa using h
    have hg : es.getD (Int.toNat (q : Int)) 0 = es[q] := by simp [List.getD_eq_getElem?_getD, hq]
    obtain ⟨i, hi, hiq⟩ := hmem _ (List.getElem_mem hq)
    rw [List.drop_eq_getElem_cons hq, List.all_cons] at g2
    generalize es[q] = y at hg g2 hiq
    subst hiq
    have hone : ishl 1 (i : Int) = Go.Pu.one i := rfl
    have hor := validS_iff.1 (one_valid hi)
    refine KW.goD lay_ok K3_ok rfl 100 rfl (by decide +kernel) rfl (by simp [hq]) ?_ ?_
    · simp only [hg, unN_nodesC, isN_nodesC, true_and, and_true, inK, bitsI, hone]
      simp [hin, h0]
      omega
    refine KW.goIf lay_ok K3_ok 100 rfl (by simp) rfl trivial (fun h => ?_) fun h => ?_
    · have h4 : isP ⟨n, ns, top⟩ (iandNot .i64 s (ishl 1 (i : Int))) true = true := by
        simp only [unN_nodesC, hg] at h; exact h
      rw [h4] at g2
      refine KW.goOutR lay_ok K3_ok 100 rfl (by simp) ?_
      refine KW.goRet lay_ok K3_ok 100 rfl rfl ?_ (by simp) trivial
      rw [← g2]; rfl
    · have h4 : isP ⟨n, ns, top⟩ (iandNot .i64 s (ishl 1 (i : Int))) true = false := by
        simp only [unN_nodesC, hg] at h; exact h
      rw [h4] at g2
      exact KW.goToR lay_ok K3_ok 100 rfl (q + 1) [(2, 2)] rfl rfl ⟨rfl, rfl, rfl, rfl, rfl, trivial⟩ (by simp [inK]; omega) ⟨⟨by omega, g2⟩, by omega⟩ ⟨rfl, trivial⟩
  · have hq : q = es.length := by simp at h; omega
    rw [hq, List.drop_length] at g2
    refine KW.goOut lay_ok K3_ok 100 rfl (by simp) ?_
    refine KW.goRet lay_ok K3_ok 100 rfl rfl ?_ (by simp) trivial
    rw [← g2]; rfl

theorem rMinimalCut34_does (f : FormP) (s : Int) (hin : FormIn f) : DoesF Try.prog 45 [.ag (formC f), iV s] [] (.tup [bV (minV f s false), iV (pathSE f s)]) [] := by
  refine DoesF.body _ Try.func45 rfl rfl rfl rfl ?_
  obtain ⟨vars, ns, top⟩ := f
  refine KW.goIf lay_ok K3_ok 100 rfl (by simp [hin]) rfl trivial (fun h => ?_) fun h => ?_
  · simp only [unN_nodesC] at h
    have e : (pathSE ⟨vars, ns, top⟩ s != 0 || !isV ⟨vars, ns, top⟩ s false) = true := h
    have e2 : minV ⟨vars, ns, top⟩ s false = false := by
      by_cases h1 : pathSE ⟨vars, ns, top⟩ s = 0
      · have h2 : isP ⟨vars, ns, top⟩ s false = false := by simpa [h1, isV] using e
        simp [minV, minP, h1, h2]
      · simp [minV, h1]
    refine KW.goRet lay_ok K3_ok 100 rfl rfl ?_ (by simp) trivial
    simp only [unN_nodesC, e2]; rfl
  simp only [unN_nodesC] at h
  have e : (pathSE ⟨vars, ns, top⟩ s != 0 || !isV ⟨vars, ns, top⟩ s false) = false := h
  have h1 : pathSE ⟨vars, ns, top⟩ s = 0 := by
    rw [Bool.or_eq_false_iff] at e; simpa using e.1
  have h2 : isP ⟨vars, ns, top⟩ s false = true := by
    rw [Bool.or_eq_false_iff] at e; simpa [isV, h1] using e.2
  obtain ⟨h0, hc, hs⟩ := pathSE_ok h1
  have hv := (formE_ok h0).vars
  simp only at hv hs
  obtain ⟨n, rfl⟩ := Int.eq_ofNat_of_zero_le hv.1
  have hn24 : n ≤ 24 := by omega
  have hsn : inN n s := (inN_iff hn24).2 ⟨hs.1, by rw [← ishl_one]; exact hs.2⟩
  have e2 : minV ⟨n, ns, top⟩ s false = (elemsS s).all fun i => !isP ⟨n, ns, top⟩ (iandNot .i64 s (ishl 1 i)) false := by
    rw [minV, h1, show (FormP.vars ⟨n, ns, top⟩).toNat = n from rfl, minP_elems hn24 hsn, h2]; simp
  rw [e2, h1]
  have hmem : ∀ x ∈ elemsS s, ∃ i : Nat, i < 24 ∧ x = i := fun x hx => by
    obtain ⟨i, hi, _, rfl⟩ := mem_elemsS.1 hx
    exact ⟨i, hi, rfl⟩
  have hel := elemsN_length s 24
  rw [show elemsN s 24 = elemsS s from rfl] at hel
  generalize hes : elemsS s = es at *
  refine KW.goLpR lay_ok K3_ok 100 rfl (I := fun q : Nat => ⟨Try.f45.ntmps, [(1, sI s), (2, .e (.r 2)), (24, .e (lV es)), (25, sI es.length), (26, sI q)],
      [(2, .box 24 [iV n, .c (nodesC ns), iV top] none)]⟩)
    (R := fun q => q ≤ es.length ∧ ((es.drop q).all fun i => !isP ⟨n, ns, top⟩ (iandNot .i64 s (ishl 1 i)) false) = es.all fun i => !isP ⟨n, ns, top⟩ (iandNot .i64 s (ishl 1 i)) false) (m := fun q => es.length - q) 0 [(2, 2)] rfl rfl ⟨rfl, rfl, by rw [← hes]; rfl, by rw [← hes]; rfl, rfl, trivial⟩ (by simp) ⟨Nat.zero_le _, rfl⟩ ⟨rfl, trivial⟩ ?_
  rintro q ⟨g1, g2⟩
  refine KW.goIf lay_ok K3_ok 100 rfl (by simp) rfl trivial (fun h => ?_) fun h => ?_
  · have hq : q < es.length := by simpa using h
    have hg : es.getD (Int.toNat (q : Int)) 0 = es[q] := by simp [List.getD_eq_getElem?_getD, hq]
    obtain ⟨i, hi, hiq⟩ := hmem _ (List.getElem_mem hq)
    rw [List.drop_eq_getElem_cons hq, List.all_cons] at g2
    generalize es[q] = y at hg g2 hiq
    subst hiq
    have hone : ishl 1 (i : Int) = Go.Pu.one i := rfl
    have hor := validS_iff.1 (one_valid hi)
    refine KW.goD lay_ok K3_ok rfl 100 rfl (by decide +kernel) rfl (by simp [hq]) ?_ ?_
    · simp only [hg, unN_nodesC, isN_nodesC, true_and, and_true, inK, bitsI, hone]
      simp [hin, h0]
      omega
    refine KW.goIf lay_ok K3_ok 100 rfl (by simp) rfl trivial (fun h => ?_) fun h => ?_
    · have h4 : isP ⟨n, ns, top⟩ (iandNot .i64 s (ishl 1 (i : Int))) false = true := by
        simp only [unN_nodesC, hg] at h; exact h
      rw [h4] at g2
      refine KW.goOutR lay_ok K3_ok 100 rfl (by simp) ?_
      refine KW.goRet lay_ok K3_ok 100 rfl rfl ?_ (by simp) trivial
      rw [← g2]; rfl
    · have h4 : isP ⟨n, ns, top⟩ (iandNot .i64 s (ishl 1 (i : Int))) false = false := by
        simp only [unN_nodesC, hg] at h; exact h
      rw [h4] at g2
      exact KW.goToR lay_ok K3_ok 100 rfl (q + 1) [(2, 2)] rfl rfl ⟨rfl, rfl, rfl, rfl, rfl, trivial⟩ (by simp [inK]; omega) ⟨⟨by omega, g2⟩, by omega⟩ ⟨rfl, trivial⟩
  · have hq : q = es.length := by simp at h; omega
    rw [hq, List.drop_length] at g2
    refine KW.goOut lay_ok K3_ok 100 rfl (by simp) ?_
    refine KW.goRet lay_ok K3_ok 100 rfl rfl ?_ (by simp) trivial
    rw [← g2]; rfl

def K4 : Fns := (43, fFI (fun f s => .tup [bV (minV f s true), iV (pathSE f s)]) fun f s => FormIn f) ::
  (45, fFI (fun f s => .tup [bV (minV f s false), iV (pathSE f s)]) fun f s => FormIn f) ::
  K3
theorem K4_ok : FnsOk Try.prog K4 := .cons (.cons (K3_ok) Try.func45 rfl rfl (fFI_ok fun f s h => rMinimalCut34_does f s h)) Try.func43 rfl rfl (fFI_ok fun f s h => rMinimal34_does f s h)


theorem lawPathsTells_does (f : FormP) (s : Int) (hin : FormIn f) : DoesF Try.prog 11 [.ag (formC f), iV s] [] (sB true) [] := by
  refine DoesF.body _ Try.func11 rfl rfl rfl rfl ?_
  obtain ⟨vars, ns, top⟩ := f
  refine KW.goIf lay_ok K4_ok 100 rfl (by simp [hin]) rfl trivial (fun h => ?_) fun h => ?_
  · exact KW.goRet lay_ok K4_ok 100 rfl rfl rfl (by simp) trivial
  · refine KW.goRet lay_ok K4_ok 400 rfl rfl ?_ ?_ trivial
    · simp [SV.ren, EV.ren]
    · simp +contextual [hin]
end Go.Proofs.Ytpjhpcclbenfbaa
