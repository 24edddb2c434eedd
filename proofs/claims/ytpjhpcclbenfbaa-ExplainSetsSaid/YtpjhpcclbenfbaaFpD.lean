/-
  FpD, FpE, FpF, one text.
-/
import Derived.Test.YtpjhpcclbenfbaaFpA
import Derived.Test.YtpjhpcclbenfbaaPuT
set_option linter.unusedVariables false
set_option linter.unusedSimpArgs false
/-
  What tells paths and cuts.
-/
namespace Go.Pu
open Go.Sy
def fFIB (g : FormP → Int → Bool → SV) (p : FormP → Int → Bool → Prop) : List EV → Option (SV × Prop)
  | [.ag [.lit (.int .i64 a), x, .lit (.int .i64 b)], .c (.lit (.int .i64 s)), .c (.lit (.bool c))] => some (g ⟨a, unN x, b⟩ s c, isN x ∧ p ⟨a, unN x, b⟩ s c)
  | _ => none
theorem fFIB_ok {P : Program} {f : FuncId} {g : FormP → Int → Bool → SV} {p : FormP → Int → Bool → Prop} (h : ∀ x s c, p x s c → DoesF P f [.ag (formC x), iV s, bV c] [] (g x s c) []) : ∀ ys y φ, fFIB g p ys = some (y, φ) → φ → DoesF P f ys [] y [] := by
  intro ys y φ he hφ
  unfold fFIB at he
  split at he
  · simp only [Option.some.injEq, Prod.mk.injEq] at he
    obtain ⟨rfl, rfl⟩ := he
    refine DoesF.conv ?_ (h _ _ _ hφ.2)
    exact ⟨form_eq hφ.1, CVEq.refl _, CVEq.refl _, trivial⟩
  · cases he
end Go.Pu
namespace Go.Proofs.Ytpjhpcclbenfbaa
open Go.Sy Go.Pu

def G3 : Fns := (36, fF (fun f => .tup [bV (cohV f), eV (formE f)]) FormIn) ::
  (114, fF (fun f => sB (cohF f)) fun f => FormIn f ∧ formE f = 0) ::
  G1
theorem G3_ok : FnsOk Try.prog G3 := .cons (.cons (G1_ok) Try.func114 rfl rfl (fF_ok fun f h => rsyntax_does f h.1 h.2)) Try.func36 rfl rfl (fF_ok fun f h => syntax_does f h)


def pathE (f : FormP) : Int := if formE f = 0 then if cohF f = true then 0 else 7 else formE f
theorem pcheck_does (f : FormP) (hin : FormIn f) : DoesF Try.prog 74 [.ag (formC f)] [] (.e (eV (pathE f))) [] := by
  refine DoesF.body _ Try.func74 rfl rfl rfl rfl ?_
  obtain ⟨vars, ns, top⟩ := f
  refine KW.goIf lay_ok G3_ok 100 rfl (by simp only [unN_nodesC, isN_nodesC, true_and, and_true, ifcV_errV]; simp [hin]) rfl trivial (fun h => ?_) fun h => ?_
  · simp only [unN_nodesC] at h
    have e : (isNilB (errV 66 (formE ⟨vars, ns, top⟩)) && !cohV ⟨vars, ns, top⟩) = true := h
    have h1 : formE ⟨vars, ns, top⟩ = 0 ∧ cohF ⟨vars, ns, top⟩ = false := by
      simp only [Bool.and_eq_true, cohV] at e
      have h1 : formE ⟨vars, ns, top⟩ = 0 := by simpa using e.1
      exact ⟨h1, by simpa [h1] using e.2⟩
    have e2 : pathE ⟨vars, ns, top⟩ = 7 := by simp [pathE, h1]
    refine KW.goRet lay_ok G3_ok 100 rfl rfl ?_ (by simp) trivial
    rw [e2]; rfl
  · simp only [unN_nodesC] at h
    have e : (isNilB (errV 66 (formE ⟨vars, ns, top⟩)) && !cohV ⟨vars, ns, top⟩) = false := h
    have e2 : pathE ⟨vars, ns, top⟩ = formE ⟨vars, ns, top⟩ := by
      by_cases h1 : formE ⟨vars, ns, top⟩ = 0
      · have h2 : cohF ⟨vars, ns, top⟩ = true := by simpa [h1, cohV] using e
        simp [pathE, h1, h2]
      · simp [pathE, h1]
    refine KW.goRet lay_ok G3_ok 100 rfl rfl ?_ (by simp) trivial
    simp only [unN_nodesC, e2]; rfl

def G4 : Fns := (74, fF (fun f => .e (eV (pathE f))) FormIn) ::
  G3
theorem G4_ok : FnsOk Try.prog G4 := .cons (G3_ok) Try.func74 rfl rfl (fF_ok fun f h => pcheck_does f h)


def pathSE (f : FormP) (s : Int) : Int := if pathE f = 0 then if 0 ≤ s ∧ s < ishl 1 f.vars then 0 else 3 else pathE f
theorem checked_does (f : FormP) (s : Int) (hin : FormIn f) : DoesF Try.prog 118 [.ag (formC f), iV s] [] (.e (eV (pathSE f s))) [] := by
  refine DoesF.body _ Try.func118 rfl rfl rfl rfl ?_
  obtain ⟨vars, ns, top⟩ := f
  refine KW.goIf lay_ok G4_ok 100 rfl (by simp only [unN_nodesC, isN_nodesC, true_and, and_true, ifcV_errV]; simp [hin]) rfl trivial (fun h => ?_) fun h => ?_
  · simp only [unN_nodesC] at h
    have h1 : ¬ pathE ⟨vars, ns, top⟩ = 0 := by
      have e : (!isNilB (errV 66 (pathE ⟨vars, ns, top⟩))) = true := h
      simpa using e
    have e2 : pathSE ⟨vars, ns, top⟩ s = pathE ⟨vars, ns, top⟩ := by simp [pathSE, h1]
    refine KW.goRet lay_ok G4_ok 100 rfl rfl ?_ (by simp) trivial
    simp only [unN_nodesC, e2]; rfl
  · simp only [unN_nodesC] at h
    have h1 : pathE ⟨vars, ns, top⟩ = 0 := by
      have e : (!isNilB (errV 66 (pathE ⟨vars, ns, top⟩))) = false := h
      simpa using e
    have h0 : formE ⟨vars, ns, top⟩ = 0 := by
      unfold pathE at h1
      split at h1
      · assumption
      · exact h1
    have hv := (formE_ok h0).vars
    simp only at hv
    have hsr := shl_rng hv
    refine KW.goIf lay_ok G4_ok 100 rfl (by simp [inK, bitsI]; intros; omega) rfl trivial (fun h => ?_) fun h => ?_
    · have h2 : ¬ (0 ≤ s ∧ s < ishl 1 vars) := by
        have e : (decide (s < 0) || decide (s ≥ ishl 1 vars)) = true := h
        simp at e; omega
      have e2 : pathSE ⟨vars, ns, top⟩ s = 3 := by simp only [pathSE, h1, if_true]; rw [if_neg h2]
      refine KW.goRet lay_ok G4_ok 100 rfl rfl ?_ (by simp) trivial
      rw [e2]; rfl
    · have h2 : 0 ≤ s ∧ s < ishl 1 vars := by
        have e : (decide (s < 0) || decide (s ≥ ishl 1 vars)) = false := h
        simp at e; omega
      have e2 : pathSE ⟨vars, ns, top⟩ s = 0 := by simp only [pathSE, h1, if_true]; rw [if_pos h2]
      refine KW.goRet lay_ok G4_ok 100 rfl rfl ?_ (by simp) trivial
      rw [e2]; rfl

def G5 : Fns := (118, fFI (fun f s => .e (eV (pathSE f s))) fun f s => FormIn f) ::
  G4
theorem G5_ok : FnsOk Try.prog G5 := .cons (G4_ok) Try.func118 rfl rfl (fFI_ok fun f s h => checked_does f s h)


/-- what must cut: the state itself, or all but it -/
def cmplF (f : FormP) (s : Int) (b : Bool) : Int := if b = true then iandNot .i64 (ishl 1 f.vars - 1) s else s
theorem cuts_does (f : FormP) (s : Int) (b : Bool) (hin : FormIn f) (h0 : formE f = 0) : DoesF Try.prog 117 [.ag (formC f), iV s, bV b] [] (.tup [bV (valV f (cmplF f s b) != b), eV (stateE f (cmplF f s b))]) [] := by
  refine DoesF.body _ Try.func117 rfl rfl rfl rfl ?_
  obtain ⟨vars, ns, top⟩ := f
  have hv := (formE_ok h0).vars
  simp only at hv
  have hsr := shl_rng hv
  refine KW.goIf lay_ok G5_ok 100 rfl (by simp) rfl trivial (fun h => ?_) fun h => ?_
  · subst h
    refine KW.goRet lay_ok G5_ok 100 rfl rfl ?_ (by simp only [unN_nodesC, isN_nodesC, true_and, and_true, inK, bitsI]; simp [hin]; omega) trivial
    simp only [unN_nodesC]; rfl
  · subst h
    refine KW.goRet lay_ok G5_ok 100 rfl rfl ?_ (by simp only [unN_nodesC, isN_nodesC, true_and, and_true, inK, bitsI]; simp [hin]) trivial
    simp only [unN_nodesC]; rfl

def G6 : Fns := (117, fFIB (fun f s b => .tup [bV (valV f (cmplF f s b) != b), eV (stateE f (cmplF f s b))]) fun f s b => FormIn f ∧ formE f = 0) ::
  G5
theorem G6_ok : FnsOk Try.prog G6 := .cons (G5_ok) Try.func117 rfl rfl (fFIB_ok fun f s b h => cuts_does f s b h.1 h.2)


theorem pathSE_ok {f : FormP} {s : Int} (h : pathSE f s = 0) : formE f = 0 ∧ cohF f = true ∧ 0 ≤ s ∧ s < ishl 1 f.vars := by
  unfold pathSE at h
  split at h
  · rename_i h1
    split at h
    · rename_i h2
      unfold pathE at h1
      split at h1
      · rename_i h3
        split at h1
        · rename_i h4; exact ⟨h3, h4, h2⟩
        · exact absurd h1 (by decide)
      · rename_i h3; exact absurd h1 h3
    · exact absurd h (by decide)
  · rename_i h1; exact absurd h h1
theorem cmpl_in {f : FormP} {n : Nat} (hn : f.vars = n) (hn24 : n ≤ 24) {s : Int} (hs : inN n s) (b : Bool) : inN n (cmplF f s b) := by
  unfold cmplF
  split
  · rw [hn, show ishl 1 (n : Int) - 1 = allN n by have := Nat.two_pow_pos n; rw [ishl_one, allN]; omega]
    exact inN_iandNot hn24 (inN_allN hn24)
  · exact hs
theorem cmpl_state {f : FormP} {n : Nat} (h0 : formE f = 0) (hn : f.vars = n) {s : Int} (hs : inN n s) (b : Bool) : stateE f (cmplF f s b) = 0 := by
  have hv := (formE_ok h0).vars
  have hn24 : n ≤ 24 := by omega
  have := (inN_iff hn24).1 (cmpl_in hn hn24 hs b)
  exact stateE_eq h0 ⟨this.1, by rw [hn, ishl_one]; exact this.2⟩
/-- a state that cuts, as it should -/
def isP (f : FormP) (s : Int) (b : Bool) : Bool := valueF f (cmplF f s b) != b
def isV (f : FormP) (s : Int) (b : Bool) : Bool := decide (pathSE f s = 0) && isP f s b
theorem pis_does (f : FormP) (s : Int) (b : Bool) (hin : FormIn f) : DoesF Try.prog 82 [.ag (formC f), iV s, bV b] [] (.tup [bV (isV f s b), eV (pathSE f s)]) [] := by
  refine DoesF.body _ Try.func82 rfl rfl rfl rfl ?_
  obtain ⟨vars, ns, top⟩ := f
  refine KW.goIf lay_ok G6_ok 100 rfl (by simp only [unN_nodesC, isN_nodesC, true_and, and_true, ifcV_errV]; simp [hin]) rfl trivial (fun h => ?_) fun h => ?_
  · simp only [unN_nodesC] at h
    have h1 : ¬ pathSE ⟨vars, ns, top⟩ s = 0 := by
      have e : (!isNilB (errV 66 (pathSE ⟨vars, ns, top⟩ s))) = true := h
      simpa using e
    have e2 : isV ⟨vars, ns, top⟩ s b = false := by simp [isV, h1]
    refine KW.goRet lay_ok G6_ok 100 rfl rfl ?_ (by simp) trivial
    simp only [unN_nodesC, e2]; rfl
  · simp only [unN_nodesC] at h
    have h1 : pathSE ⟨vars, ns, top⟩ s = 0 := by
      have e : (!isNilB (errV 66 (pathSE ⟨vars, ns, top⟩ s))) = false := h
      simpa using e
    obtain ⟨h0, hc, hs⟩ := pathSE_ok h1
    have hv := (formE_ok h0).vars
    simp only at hv hs
    obtain ⟨n, rfl⟩ := Int.eq_ofNat_of_zero_le hv.1
    have hsn : inN n s := (inN_iff (by omega)).2 ⟨hs.1, by rw [← ishl_one]; exact hs.2⟩
    have e3 := cmpl_state (f := ⟨n, ns, top⟩) h0 rfl hsn b
    have e4 : valV ⟨n, ns, top⟩ (cmplF ⟨n, ns, top⟩ s b) = valueF ⟨n, ns, top⟩ (cmplF ⟨n, ns, top⟩ s b) := by simp [valV, e3]
    have e2 : isV ⟨n, ns, top⟩ s b = (valueF ⟨n, ns, top⟩ (cmplF ⟨n, ns, top⟩ s b) != b) := by simp [isV, isP, h1]
    refine KW.goRet lay_ok G6_ok 100 rfl rfl ?_ (by simp only [unN_nodesC, isN_nodesC, true_and, and_true, ifcV_errV]; simp [hin, h0]) trivial
    simp only [unN_nodesC, e2, e3, e4, h1]
    simp [SV.ren, renL, EV.ren]
end Go.Proofs.Ytpjhpcclbenfbaa

/-
  Minimal paths and cuts.
-/
namespace Go.Proofs.Ytpjhpcclbenfbaa
open Go.Sy Go.Pu

def G7 : Fns := (82, fFIB (fun f s b => .tup [bV (isV f s b), eV (pathSE f s)]) fun f s b => FormIn f) ::
  G6
theorem G7_ok : FnsOk Try.prog G7 := .cons (G6_ok) Try.func82 rfl rfl (fFIB_ok fun f s b h => pis_does f s b h)


def minP (f : FormP) (s : Int) (b : Bool) (n : Nat) : Bool := isP f s b && (List.range n).all fun i => !bit s i || !isP f (iandNot .i64 s (Go.Pu.one i)) b
def minV (f : FormP) (s : Int) (b : Bool) : Bool := decide (pathSE f s = 0) && minP f s b f.vars.toNat
theorem minimal_does (f : FormP) (s : Int) (b : Bool) (hin : FormIn f) : DoesF Try.prog 81 [.ag (formC f), iV s, bV b] [] (.tup [bV (minV f s b), eV (pathSE f s)]) [] := by
  refine DoesF.body _ Try.func81 rfl rfl rfl rfl ?_
  obtain ⟨vars, ns, top⟩ := f
  refine KW.goIf lay_ok G7_ok 100 rfl (by simp only [unN_nodesC, isN_nodesC, true_and, and_true, ifcV_errV]; simp [hin]) rfl trivial (fun h => ?_) fun h => ?_
  · simp only [unN_nodesC] at h
    have e : (!isNilB (errV 66 (pathSE ⟨vars, ns, top⟩ s)) || !isV ⟨vars, ns, top⟩ s b) = true := h
    have e2 : minV ⟨vars, ns, top⟩ s b = false := by
      by_cases h1 : pathSE ⟨vars, ns, top⟩ s = 0
      · have h2 : isP ⟨vars, ns, top⟩ s b = false := by simpa [h1, isV] using e
        simp [minV, minP, h1, h2]
      · simp [minV, h1]
    refine KW.goRet lay_ok G7_ok 100 rfl rfl ?_ (by simp) trivial
    simp only [unN_nodesC, e2]; rfl
  · simp only [unN_nodesC] at h
    have e : (!isNilB (errV 66 (pathSE ⟨vars, ns, top⟩ s)) || !isV ⟨vars, ns, top⟩ s b) = false := h
    have h1 : pathSE ⟨vars, ns, top⟩ s = 0 := by
      rw [Bool.or_eq_false_iff] at e; simpa using e.1
    have h2 : isP ⟨vars, ns, top⟩ s b = true := by
      rw [Bool.or_eq_false_iff] at e; simpa [isV, h1] using e.2
    obtain ⟨h0, hc, hs⟩ := pathSE_ok h1
    have hv := (formE_ok h0).vars
    simp only at hv hs
    obtain ⟨n, rfl⟩ := Int.eq_ofNat_of_zero_le hv.1
    have hn24 : n ≤ 24 := by omega
    have hsn : inN n s := (inN_iff hn24).2 ⟨hs.1, by rw [← ishl_one]; exact hs.2⟩
    have e3 := fun (x : Int) (hx : inN n x) => cmpl_state (f := ⟨n, ns, top⟩) h0 rfl hx b
    have e4 : ∀ x, inN n x → (valV ⟨n, ns, top⟩ (cmplF ⟨n, ns, top⟩ x b) != b) = isP ⟨n, ns, top⟩ x b := fun x hx => by simp [valV, e3 x hx, isP]
    have e2 : minV ⟨n, ns, top⟩ s b = (List.range n).all fun i => !bit s i || !isP ⟨n, ns, top⟩ (iandNot .i64 s (Go.Pu.one i)) b := by simp [minV, minP, h1, h2]
    rw [e2, h1]
    refine KW.goLpR lay_ok G7_ok 100 rfl (I := fun i : Nat => ⟨Try.f81.ntmps, [(1, sI s), (2, sB b), (3, .e (.r 3)), (28, sI n), (29, sI i)],
        [(3, .box 24 [iV n, .c (nodesC ns), iV top] none)]⟩)
      (R := fun i => i ≤ n ∧ ∀ j, j < i → (!bit s j || !isP ⟨n, ns, top⟩ (iandNot .i64 s (Go.Pu.one j)) b) = true) (m := fun i => n - i) 0 [(3, 3)] rfl rfl ⟨rfl, rfl, rfl, rfl, rfl, trivial⟩ (by simp) ⟨Nat.zero_le _, fun j hj => by omega⟩ ⟨rfl, trivial⟩ ?_
    rintro i ⟨hi0, hr⟩
    refine KW.goIf lay_ok G7_ok 100 rfl (by simp) rfl trivial (fun h => ?_) fun h => ?_
    · have hi : i < n := by simpa using h
      have hone : ishl 1 (i : Int) = Go.Pu.one i := rfl
      have hor := validS_iff.1 (one_valid (show i < 24 by omega))
      have hin2 := inN_iandNot (y := Go.Pu.one i) hn24 hsn
      have e5 : (iand .i64 (ishr s (i : Int)) 1 == 0) = !bit s i := by
        rw [ishr_bit _ (by omega)]
        cases bit s i <;> rfl
      refine KW.goIf lay_ok G7_ok 100 rfl (by simp [inK, bitsI]; intros; omega) rfl trivial (fun h => ?_) fun h => ?_
      · have h3 : bit s i = false := by
          have e : (iand .i64 (ishr s (i : Int)) 1 == 0) = true := h
          rw [e5] at e; simpa using e
        refine KW.goToR lay_ok G7_ok 100 rfl (i + 1) [(3, 3)] rfl rfl ⟨rfl, rfl, rfl, rfl, rfl, trivial⟩ (by simp [inK]; omega) ⟨⟨by omega, fun j hj => ?_⟩, by omega⟩ ⟨rfl, trivial⟩
        by_cases hji : j = i
        · subst hji; rw [h3]; rfl
        · exact hr j (by omega)
      · have h3 : bit s i = true := by
          have e : (iand .i64 (ishr s (i : Int)) 1 == 0) = false := h
          rw [e5] at e; simpa using e
        refine KW.goD lay_ok G7_ok rfl 100 rfl (by decide +kernel) rfl (by simp) ?_ ?_
        · simp only [unN_nodesC, isN_nodesC, true_and, and_true, inK, bitsI, hone]
          simp [hin, h0]
          omega
        simp only [unN_nodesC, hone, e3 _ hin2, e4 _ hin2]
        refine KW.goIf lay_ok G7_ok 100 rfl (by simp [ifcV_errV]) rfl trivial (fun h => ?_) fun h => ?_
        · have h4 : isP ⟨n, ns, top⟩ (iandNot .i64 s (Go.Pu.one i)) b = true := h
          refine KW.goOutR lay_ok G7_ok 100 rfl (by simp) ?_
          refine KW.goRet lay_ok G7_ok 100 rfl rfl ?_ (by simp) trivial
          have e6 : ((List.range n).all fun i => !bit s i || !isP ⟨n, ns, top⟩ (iandNot .i64 s (Go.Pu.one i)) b) = false := by
            rw [List.all_eq_false]
            exact ⟨i, by simpa using hi, by rw [h3, h4]; decide⟩
          rw [e6]; rfl
        · have h4 : isP ⟨n, ns, top⟩ (iandNot .i64 s (Go.Pu.one i)) b = false := h
          refine KW.goToR lay_ok G7_ok 100 rfl (i + 1) [(3, 3)] rfl rfl ⟨rfl, rfl, rfl, rfl, rfl, trivial⟩ (by simp [inK]; omega) ⟨⟨by omega, fun j hj => ?_⟩, by omega⟩ ⟨rfl, trivial⟩
          by_cases hji : j = i
          · subst hji; rw [h4]; simp
          · exact hr j (by omega)
    · have hi : i = n := by simp at h; omega
      refine KW.goOut lay_ok G7_ok 100 rfl (by simp) ?_
      refine KW.goRet lay_ok G7_ok 100 rfl rfl ?_ (by simp) trivial
      have e6 : ((List.range n).all fun i => !bit s i || !isP ⟨n, ns, top⟩ (iandNot .i64 s (Go.Pu.one i)) b) = true := by
        rw [List.all_eq_true]
        exact fun j hj => hr j (by rw [hi]; simpa using hj)
      rw [e6]; rfl
end Go.Proofs.Ytpjhpcclbenfbaa

/-
  The law ExplainSets returns true.
-/
namespace Go.Proofs.Ytpjhpcclbenfbaa
open Go.Sy Go.Pu

def G8 : Fns := (81, fFIB (fun f s b => .tup [bV (minV f s b), eV (pathSE f s)]) fun f s b => FormIn f) ::
  G7
theorem G8_ok : FnsOk Try.prog G8 := .cons (G7_ok) Try.func81 rfl rfl (fFIB_ok fun f s b h => minimal_does f s b h)


theorem pMinimal_does (f : FormP) (s : Int) (hin : FormIn f) : DoesF Try.prog 38 [.ag (formC f), iV s] [] (.tup [bV (minV f s true), eV (pathSE f s)]) [] := by
  refine DoesF.body _ Try.func38 rfl rfl rfl rfl ?_
  obtain ⟨vars, ns, top⟩ := f
  refine KW.goRet lay_ok G8_ok 100 rfl rfl ?_ (by simp only [unN_nodesC, isN_nodesC, true_and, and_true]; simp [hin]) trivial
  simp only [unN_nodesC]; rfl
theorem pMinimalCut_does (f : FormP) (s : Int) (hin : FormIn f) : DoesF Try.prog 37 [.ag (formC f), iV s] [] (.tup [bV (minV f s false), eV (pathSE f s)]) [] := by
  refine DoesF.body _ Try.func37 rfl rfl rfl rfl ?_
  obtain ⟨vars, ns, top⟩ := f
  refine KW.goRet lay_ok G8_ok 100 rfl rfl ?_ (by simp only [unN_nodesC, isN_nodesC, true_and, and_true]; simp [hin]) trivial
  simp only [unN_nodesC]; rfl
def G9 : Fns := (38, fFI (fun f s => .tup [bV (minV f s true), eV (pathSE f s)]) fun f s => FormIn f) ::
  (37, fFI (fun f s => .tup [bV (minV f s false), eV (pathSE f s)]) fun f s => FormIn f) ::
  G8
theorem G9_ok : FnsOk Try.prog G9 := .cons (.cons (G8_ok) Try.func37 rfl rfl (fFI_ok fun f s h => pMinimalCut_does f s h)) Try.func38 rfl rfl (fFI_ok fun f s h => pMinimal_does f s h)


theorem isP_cut (f : FormP) (x : Int) : isP f x false = valueF f x := by simp [isP, cmplF]
theorem isP_path {f : FormP} {n : Nat} (hn : f.vars = n) (x : Int) : isP f x true = !valueF f (iandNot .i64 (allN n) x) := by
  have e : ishl 1 (n : Int) - 1 = allN n := by have := Nat.two_pow_pos n; rw [ishl_one, allN]; omega
  simp only [isP, cmplF, hn, e, if_true]
  cases valueF f (iandNot .i64 (allN n) x) <;> rfl
theorem minP_iff {f : FormP} {T : Int} {b : Bool} {n : Nat} : minP f T b n = true ↔ isP f T b = true ∧ ∀ i, i < n → bit T i = true → isP f (iandNot .i64 T (Go.Pu.one i)) b = false := by
  simp only [minP, Bool.and_eq_true, List.all_eq_true, List.mem_range, Bool.or_eq_true, Bool.not_eq_true']
  refine and_congr Iff.rfl ⟨fun h i hi hb => ?_, fun h i hi => ?_⟩
  · rcases h i hi with h1 | h1
    · rw [hb] at h1; cases h1
    · exact h1
  · cases hb : bit T i with
    | false => exact .inl rfl
    | true => exact .inr (h i hi hb)
section
variable {f : FormP} {n : Nat} {s T : Int}
theorem part_less {i : Nat} (hn24 : n ≤ 24) : ∀ j, bit (iandNot .i64 T (Go.Pu.one i)) j = true → bit T j = true := fun j hj => by
  rw [bit_iandNot', Bool.and_eq_true] at hj; exact hj.1
theorem min_true (ok : FormOk f) (hc : cohF f = true) (hn : f.vars = n) (hs : inN n s) (hT : inN n T) (hv : valueF f s = true) : (minP f T false n && (iandNot .i64 T s == 0)) = minK (okV f n s) T n := by
  have hn24 : n ≤ 24 := by have := ok.vars; omega
  have hpt : iandNot .i64 T s = 0 ↔ Part T s := by
    rw [eq_zero_iff (by simp)]
    constructor
    · intro h i hb
      have hi : i < n := Nat.lt_of_not_le fun h' => by rw [hT.2 i h'] at hb; cases hb
      have := h i (by omega)
      rw [bit_iandNot', hb] at this
      simpa using this
    · intro h i hi
      rw [bit_iandNot']
      cases hb : bit T i with
      | false => rfl
      | true => rw [h i hb]; rfl
  rw [Bool.eq_iff_iff, Bool.and_eq_true, beq_iff_eq, hpt, minP_iff, minK_iff]
  simp only [isP_cut]
  constructor
  · rintro ⟨⟨h1, h2⟩, h3⟩
    refine ⟨by rw [okV_true ok hc hn hs hT hv h3]; exact h1, fun i hi hb => ?_⟩
    rw [okV_true ok hc hn hs (inN_iandNot hn24 hT) hv fun j hj => h3 j (part_less hn24 j hj)]
    exact h2 i hi hb
  · intro h
    have h3 := minK_sub ok hc hn hs hT hv (minK_iff.2 h)
    refine ⟨⟨by rw [← okV_true ok hc hn hs hT hv h3]; exact h.1, fun i hi hb => ?_⟩, h3⟩
    rw [← okV_true ok hc hn hs (inN_iandNot hn24 hT) hv fun j hj => h3 j (part_less hn24 j hj)]
    exact h.2 i hi hb
theorem min_false (ok : FormOk f) (hc : cohF f = true) (hn : f.vars = n) (hs : inN n s) (hT : inN n T) (hv : valueF f s = false) : (minP f T true n && (iand .i64 T s == 0)) = minK (okV f n s) T n := by
  have hn24 : n ≤ 24 := by have := ok.vars; omega
  have hpt : iand .i64 T s = 0 ↔ ∀ i, bit T i = true → bit s i = false := by
    rw [iand_zero']
    constructor
    · intro h i hb
      have hi : i < n := Nat.lt_of_not_le fun h' => by rw [hT.2 i h'] at hb; cases hb
      have := h i (by omega)
      rw [hb] at this
      simpa using this
    · intro h i hi
      cases hb : bit T i with
      | false => rfl
      | true => rw [h i hb]; rfl
  rw [Bool.eq_iff_iff, Bool.and_eq_true, beq_iff_eq, hpt, minP_iff, minK_iff]
  simp only [isP_path hn]
  constructor
  · rintro ⟨⟨h1, h2⟩, h3⟩
    refine ⟨by rw [okV_false ok hc hn hs hT hv h3]; exact h1, fun i hi hb => ?_⟩
    rw [okV_false ok hc hn hs (inN_iandNot hn24 hT) hv fun j hj => h3 j (part_less hn24 j hj)]
    exact h2 i hi hb
  · intro h
    have h3 := minK_dis ok hc hn hs hT hv (minK_iff.2 h)
    refine ⟨⟨by rw [← okV_false ok hc hn hs hT hv h3]; exact h.1, fun i hi hb => ?_⟩, h3⟩
    rw [← okV_false ok hc hn hs (inN_iandNot hn24 hT) hv fun j hj => h3 j (part_less hn24 j hj)]
    exact h.2 i hi hb
end

theorem allF_nodup {f : FormP} {s : Int} {n : Nat} (hn : f.vars = n) (h : tableE f s = 0) (hn24 : n ≤ 24) (hs : inN n s) : (allF f s).Nodup := by
  rw [allF, if_pos h, hn, Int.toNat_natCast]
  exact (List.mergeSort_perm _ _).nodup_iff.2 (reasonsN_nodup hn24 hs (Nat.le_refl _))
/-- how many reasons have just these events -/
def cntR (L : List (Int × Int)) (T : Int) : Nat := (L.filter fun c => ior .i64 c.1 c.2 == T).length
theorem lawSets_does (f : FormP) (s o : Int) (hin : FormIn f) : DoesF Try.prog 9 [.ag (formC f), iV s, iV o] [] (sB true) [] := by
  refine DoesF.body _ Try.func9 rfl rfl rfl rfl ?_
  obtain ⟨vars, ns, top⟩ := f
  refine KW.goIf lay_ok G9_ok 100 rfl (by simp [hin]) rfl trivial (fun h => ?_) fun h => ?_
  · exact KW.goRet lay_ok G9_ok 100 rfl rfl rfl (by simp) trivial
  · simp only [unN_nodesC] at h
    have hvd : validF ⟨vars, ns, top⟩ s = true := by
      have e : (!validF ⟨vars, ns, top⟩ s || !true) = false := h
      simpa using e
    simp only [validF, Bool.and_eq_true, decide_eq_true_eq] at hvd
    have h1 := hvd.2
    have hv7 := hvd.1.2
    have h0 := (stateE_ok h1).1
    have ok : FormOk ⟨vars, ns, top⟩ := formE_ok h0
    have hs := (stateE_ok h1).2
    have hv := ok.vars
    simp only at hv hs hv7
    obtain ⟨n, rfl⟩ := Int.eq_ofNat_of_zero_le hv.1
    have hn24 : n ≤ 24 := by omega
    have hsn : inN n s := (inN_iff hn24).2 ⟨hs.1, by rw [← ishl_one]; exact hs.2⟩
    have hte : tableE ⟨n, ns, top⟩ s = 0 := by rw [tableE, if_pos h1, if_neg (by simp only; omega)]
    have hmem := fun c => allF_mem (f := ⟨n, ns, top⟩) (s := s) (n := n) rfl hte hn24 (c := c)
    have hnd := allF_nodup (f := ⟨n, ns, top⟩) (s := s) (n := n) rfl hte hn24 hsn
    have hll : (allF ⟨n, ns, top⟩ s).length ≤ 16777216 := by
      have e := reasonsN_length (okV ⟨n, ns, top⟩ n s) n s (2 ^ n)
      have hp : 2 ^ n ≤ 2 ^ 24 := Nat.pow_le_pow_right (by decide) hn24
      have h24 : (2 : Nat) ^ 24 = 16777216 := rfl
      rw [allF, if_pos hte, sortC_length]
      simp only [Int.toNat_natCast]
      omega
    have hsr := shl_rng hv
    have hal : ishl 1 (n : Int) - 1 = allN n := by
      have := Nat.two_pow_pos n
      rw [ishl_one, allN]; omega
    have hval : valV ⟨n, ns, top⟩ s = valueF ⟨n, ns, top⟩ s := by simp [valV, h1]
    refine KW.goIf lay_ok G9_ok 100 rfl (by simp only [unN_nodesC, isN_nodesC, true_and, and_true, ifcV_errV]; simp [hin]) rfl trivial (fun h => ?_) fun h => ?_
    · simp only [unN_nodesC, h0] at h
      exact absurd h (by decide)
    refine KW.goIf lay_ok G9_ok 100 rfl (by simp) rfl trivial (fun h => ?_) fun h => ?_
    · exact KW.goRet lay_ok G9_ok 100 rfl rfl rfl (by simp) trivial
    simp only [unN_nodesC] at h
    have hc : cohF ⟨n, ns, top⟩ = true := by
      have e : (!cohV ⟨n, ns, top⟩) = false := h
      simpa [cohV, h0] using e
    refine KW.goIf lay_ok G9_ok 100 rfl (by simp only [unN_nodesC, isN_nodesC, true_and, and_true, ifcV_errV]; simp [hin]) rfl trivial (fun h => ?_) fun h => ?_
    · simp only [unN_nodesC, h1, hte] at h
      exact absurd h (by decide)
    clear h
    have hT : inN n (iand .i64 o (ishl 1 (n : Int) - 1)) := by
      rw [hal]
      exact inN_of hn24 (by simp) fun i hi => by rw [bit_iand, (inN_allN hn24).2 i hi, Bool.and_false]
    generalize hL : allF ⟨n, ns, top⟩ s = L at hnd hll hmem
    generalize hTT : iand .i64 o (ishl 1 (n : Int) - 1) = T at hT
    refine KW.goLpR lay_ok G9_ok 100 rfl (I := fun q : Nat => ⟨Try.f9.ntmps, [(1, sI s), (2, sI T), (3, .e (.r 3)), (11, sB (valueF ⟨n, ns, top⟩ s)), (13, sI (cntR (L.take q) T)), (61, .e (clV L)), (62, sI L.length), (63, sI q)],
        [(3, .box 24 [iV n, .c (nodesC ns), iV top] none)]⟩)
      (R := fun q => q ≤ L.length) (m := fun q => L.length - q) 0 [(3, 3)] rfl rfl ⟨rfl, ?_, rfl, ?_, rfl, ?_, ?_, rfl, trivial⟩ (by simp only [inK, bitsI, true_and, and_true]; simp; omega) (Nat.zero_le _) ⟨rfl, trivial⟩ ?_
    · rw [← hTT]; rfl
    · simp only [unN_nodesC, hval]; rfl
    · simp only [unN_nodesC, hL]; rfl
    · simp only [unN_nodesC, hL]; rfl
    rintro q g1
    refine KW.goIf lay_ok G9_ok 100 rfl (by simp) rfl trivial (fun h => ?_) fun h => ?_
    · have hq : q < L.length := by simpa using h
      have hg : L.getD (Int.toNat (q : Int)) (0, 0) = L[q] := by simp [List.getD_eq_getElem?_getD, hq]
      obtain ⟨set, k1, k2, k3⟩ := (hmem L[q]).1 (List.getElem_mem hq)
      have htk : L.take (q + 1) = L.take q ++ [L[q]] := by rw [List.take_add_one, List.getElem?_eq_getElem hq]; rfl
      generalize L[q] = X at k3 hg htk
      have hlit : (valueF ⟨n, ns, top⟩ s = true → X.2 = 0) ∧ (valueF ⟨n, ns, top⟩ s = false → X.1 = 0) := by
        subst k3
        constructor
        · intro hvt
          have := min_true ok hc rfl hsn k1 hvt
          rw [k2] at this
          simp only [Bool.and_eq_true, beq_iff_eq] at this
          exact this.2
        · intro hvf
          have := min_false ok hc rfl hsn k1 hvf
          rw [k2] at this
          simp only [Bool.and_eq_true, beq_iff_eq] at this
          show iand .i64 s set = 0
          rw [← this.2]
          refine (inN_iand hn24 hsn).ext (inN_iand hn24 k1) fun j hj => ?_
          rw [bit_iand, bit_iand, Bool.and_comm]
      have hsucc : cntR (L.take (q + 1)) T = cntR (L.take q) T + if ior .i64 X.1 X.2 = T then 1 else 0 := by
        rw [htk]
        unfold cntR
        rw [List.filter_append, List.length_append]
        congr 1
        by_cases he : ior .i64 X.1 X.2 = T
        · simp [he]
        · simp [he]
      have hcl : cntR (L.take q) T ≤ q := by
        unfold cntR
        exact Nat.le_trans (List.length_filter_le _ _) (by simp; omega)
      refine KW.goIf lay_ok G9_ok 100 rfl ?_ rfl trivial (fun h => ?_) fun h => ?_
      · simp +contextual [hq]
        cases valueF ⟨n, ns, top⟩ s <;> simp
      · exfalso
        simp only [hg] at h
        cases hvv : valueF ⟨n, ns, top⟩ s with
        | true => simp [hvv, hlit.1 hvv] at h
        | false => simp [hvv, hlit.2 hvv] at h
      · clear h
        refine KW.goIf lay_ok G9_ok 100 rfl (by simp) rfl trivial (fun h => ?_) fun h => ?_
        · simp only [hg] at h
          have he : ior .i64 X.1 X.2 = T := by simpa using h
          rw [if_pos he] at hsucc
          refine KW.goToR lay_ok G9_ok 100 rfl (q + 1) [(3, 3)] rfl rfl ⟨rfl, rfl, rfl, rfl, by rw [hsucc]; rfl, rfl, rfl, rfl, trivial⟩ (by simp [inK]; omega) ⟨by omega, by omega⟩ ⟨rfl, trivial⟩
        · simp only [hg] at h
          have he : ¬ ior .i64 X.1 X.2 = T := by simpa using h
          rw [if_neg he] at hsucc
          refine KW.goToR lay_ok G9_ok 100 rfl (q + 1) [(3, 3)] rfl rfl ⟨rfl, rfl, rfl, rfl, by rw [hsucc]; rfl, rfl, rfl, rfl, trivial⟩ (by simp [inK]; omega) ⟨by omega, by omega⟩ ⟨rfl, trivial⟩
    · have hq : q = L.length := by simp at h; omega
      subst hq
      have hcnt : cntR (L.take L.length) T = if minK (okV ⟨n, ns, top⟩ n s) T n = true then 1 else 0 := by
        rw [List.take_length]
        unfold cntR
        rw [count_one (a := cubeV s T) hnd fun c hcm => ?_]
        · congr 1
          rw [hmem, eq_iff_iff]
          constructor
          · rintro ⟨set, k1, k2, k3⟩
            have := cubeV_set hn24 hsn k1
            rw [← k3, cubeV_set hn24 hsn hT] at this
            rw [this]; exact k2
          · intro h; exact ⟨T, hT, h, rfl⟩
        · obtain ⟨set, k1, k2, rfl⟩ := (hmem c).1 hcm
          rw [beq_iff_eq, cubeV_set hn24 hsn k1]
          constructor
          · rintro rfl; rfl
          · intro e
            have := cubeV_set hn24 hsn k1
            rw [e, cubeV_set hn24 hsn hT] at this
            exact this.symm
      refine KW.goOut lay_ok G9_ok 100 rfl (by simp) ?_
      have hTb := (inN_iff hn24).1 hT
      have hps : pathSE ⟨n, ns, top⟩ T = 0 := by
        simp only [pathSE, pathE, h0, hc, if_true, ishl_one]
        rw [if_pos hTb]
      have hmv : ∀ b, minV ⟨n, ns, top⟩ T b = minP ⟨n, ns, top⟩ T b n := fun b => by simp [minV, hps]
      refine KW.goIf lay_ok G9_ok 100 rfl (by simp) rfl trivial (fun h => ?_) fun h => ?_
      · have hk := min_true ok hc rfl hsn hT h
        refine KW.goRet lay_ok G9_ok 100 rfl rfl ?_ ?_ trivial
        · simp only [SV.ren, EV.ren, unN_nodesC, hmv, hps, hcnt, ← hk]
          generalize (minP ⟨n, ns, top⟩ T false n && (iandNot .i64 T s == 0)) = B
          cases B <;> rfl
        · simp only [unN_nodesC, isN_nodesC, true_and, and_true, ifcV_errV, hmv, hps, hcnt, hin]
          simp +contextual
          cases minP ⟨n, ns, top⟩ T false n <;> by_cases hz : iandNot .i64 T s = 0 <;> cases minK (okV ⟨n, ns, top⟩ n s) T n <;> simp [hz]
      · have hk := min_false ok hc rfl hsn hT h
        refine KW.goRet lay_ok G9_ok 100 rfl rfl ?_ ?_ trivial
        · simp only [SV.ren, EV.ren, unN_nodesC, hmv, hps, hcnt, ← hk]
          generalize (minP ⟨n, ns, top⟩ T true n && (iand .i64 T s == 0)) = B
          cases B <;> rfl
        · simp only [unN_nodesC, isN_nodesC, true_and, and_true, ifcV_errV, hmv, hps, hcnt, hin]
          simp +contextual
          cases minP ⟨n, ns, top⟩ T true n <;> by_cases hz : iand .i64 T s = 0 <;> cases minK (okV ⟨n, ns, top⟩ n s) T n <;> simp [hz]
end Go.Proofs.Ytpjhpcclbenfbaa
