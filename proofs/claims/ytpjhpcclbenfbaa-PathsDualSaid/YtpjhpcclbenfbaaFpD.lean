/-
  FpD, FpE, one text.
-/
import Derived.Test.YtpjhpcclbenfbaaFpA
import Derived.Test.YtpjhpcclbenfbaaPuT
set_option linter.unusedVariables false
set_option linter.unusedSimpArgs false
/-
  What tells paths and cuts.
-/
namespace Go.Pu
open Go.Sy
def fFIB (g : FormP → Int → Bool → SV) (p : FormP → Int → Bool → Prop) : List EV → Option (SV × Prop)
  | [.ag [.lit (.int .i64 a), x, .lit (.int .i64 b)], .c (.lit (.int .i64 s)), .c (.lit (.bool c))] => some (g ⟨a, unN x, b⟩ s c, isN x ∧ p ⟨a, unN x, b⟩ s c)
  | _ => none
theorem fFIB_ok {P : Program} {f : FuncId} {g : FormP → Int → Bool → SV} {p : FormP → Int → Bool → Prop} (h : ∀ x s c, p x s c → DoesF P f [.ag (formC x), iV s, bV c] [] (g x s c) []) : ∀ ys y φ, fFIB g p ys = some (y, φ) → φ → DoesF P f ys [] y [] := by
  intro ys y φ he hφ
  unfold fFIB at he
  split at he
  · simp only [Option.some.injEq, Prod.mk.injEq] at he
    obtain ⟨rfl, rfl⟩ := he
    refine DoesF.conv ?_ (h _ _ _ hφ.2)
    exact ⟨form_eq hφ.1, CVEq.refl _, CVEq.refl _, trivial⟩
  · cases he
end Go.Pu
namespace Go.Proofs.Ytpjhpcclbenfbaa
open Go.Sy Go.Pu

def G3 : Fns := (36, fF (fun f => .tup [bV (cohV f), eV (formE f)]) FormIn) ::
  (114, fF (fun f => sB (cohF f)) fun f => FormIn f ∧ formE f = 0) ::
  G1
theorem G3_ok : FnsOk Try.prog G3 := .cons (.cons (G1_ok) Try.func114 rfl rfl (fF_ok fun f h => rsyntax_does f h.1 h.2)) Try.func36 rfl rfl (fF_ok fun f h => syntax_does f h)


def pathE (f : FormP) : Int := if formE f = 0 then if cohF f = true then 0 else 7 else formE f
theorem pcheck_does (f : FormP) (hin : FormIn f) : DoesF Try.prog 74 [.ag (formC f)] [] (.e (eV (pathE f))) [] := by
  refine DoesF.body _ Try.func74 rfl rfl rfl rfl ?_
  obtain ⟨vars, ns, top⟩ := f
  refine KW.goIf lay_ok G3_ok 100 rfl (by simp only [unN_nodesC, isN_nodesC, true_and, and_true, ifcV_errV]; simp [hin]) rfl trivial (fun h => ?_) fun h => ?_
  · simp only [unN_nodesC] at h
    have e : (isNilB (errV 66 (formE ⟨vars, ns, top⟩)) && !cohV ⟨vars, ns, top⟩) = true := h
    have h1 : formE ⟨vars, ns, top⟩ = 0 ∧ cohF ⟨vars, ns, top⟩ = false := by
      simp only [Bool.and_eq_true, cohV] at e
      have h1 : formE ⟨vars, ns, top⟩ = 0 := by simpa using e.1
      exact ⟨h1, by simpa [h1] using e.2⟩
    have e2 : pathE ⟨vars, ns, top⟩ = 7 := by simp [pathE, h1]
    refine KW.goRet lay_ok G3_ok 100 rfl rfl ?_ (by simp) trivial
    rw [e2]; rfl
  · simp only [unN_nodesC] at h
    have e : (isNilB (errV 66 (formE ⟨vars, ns, top⟩)) && !cohV ⟨vars, ns, top⟩) = false := h
    have e2 : pathE ⟨vars, ns, top⟩ = formE ⟨vars, ns, top⟩ := by
      by_cases h1 : formE ⟨vars, ns, top⟩ = 0
      · have h2 : cohF ⟨vars, ns, top⟩ = true := by simpa [h1, cohV] using e
        simp [pathE, h1, h2]
      · simp [pathE, h1]
    refine KW.goRet lay_ok G3_ok 100 rfl rfl ?_ (by simp) trivial
    simp only [unN_nodesC, e2]; rfl

def G4 : Fns := (74, fF (fun f => .e (eV (pathE f))) FormIn) ::
  G3
theorem G4_ok : FnsOk Try.prog G4 := .cons (G3_ok) Try.func74 rfl rfl (fF_ok fun f h => pcheck_does f h)


def pathSE (f : FormP) (s : Int) : Int := if pathE f = 0 then if 0 ≤ s ∧ s < ishl 1 f.vars then 0 else 3 else pathE f
theorem checked_does (f : FormP) (s : Int) (hin : FormIn f) : DoesF Try.prog 118 [.ag (formC f), iV s] [] (.e (eV (pathSE f s))) [] := by
  refine DoesF.body _ Try.func118 rfl rfl rfl rfl ?_
  obtain ⟨vars, ns, top⟩ := f
  refine KW.goIf lay_ok G4_ok 100 rfl (by simp only [unN_nodesC, isN_nodesC, true_and, and_true, ifcV_errV]; simp [hin]) rfl trivial (fun h => ?_) fun h => ?_
  · simp only [unN_nodesC] at h
    have h1 : ¬ pathE ⟨vars, ns, top⟩ = 0 := by
      have e : (!isNilB (errV 66 (pathE ⟨vars, ns, top⟩))) = true := h
      simpa using e
    have e2 : pathSE ⟨vars, ns, top⟩ s = pathE ⟨vars, ns, top⟩ := by simp [pathSE, h1]
    refine KW.goRet lay_ok G4_ok 100 rfl rfl ?_ (by simp) trivial
    simp only [unN_nodesC, e2]; rfl
  · simp only [unN_nodesC] at h
    have h1 : pathE ⟨vars, ns, top⟩ = 0 := by
      have e : (!isNilB (errV 66 (pathE ⟨vars, ns, top⟩))) = false := h
      simpa using e
    have h0 : formE ⟨vars, ns, top⟩ = 0 := by
      unfold pathE at h1
      split at h1
      · assumption
      · exact h1
    have hv := (formE_ok h0).vars
    simp only at hv
    have hsr := shl_rng hv
    refine KW.goIf lay_ok G4_ok 100 rfl (by simp [inK, bitsI]; intros; omega) rfl trivial (fun h => ?_) fun h => ?_
    · have h2 : ¬ (0 ≤ s ∧ s < ishl 1 vars) := by
        have e : (decide (s < 0) || decide (s ≥ ishl 1 vars)) = true := h
        simp at e; omega
      have e2 : pathSE ⟨vars, ns, top⟩ s = 3 := by simp only [pathSE, h1, if_true]; rw [if_neg h2]
      refine KW.goRet lay_ok G4_ok 100 rfl rfl ?_ (by simp) trivial
      rw [e2]; rfl
    · have h2 : 0 ≤ s ∧ s < ishl 1 vars := by
        have e : (decide (s < 0) || decide (s ≥ ishl 1 vars)) = false := h
        simp at e; omega
      have e2 : pathSE ⟨vars, ns, top⟩ s = 0 := by simp only [pathSE, h1, if_true]; rw [if_pos h2]
      refine KW.goRet lay_ok G4_ok 100 rfl rfl ?_ (by simp) trivial
      rw [e2]; rfl

def G5 : Fns := (118, fFI (fun f s => .e (eV (pathSE f s))) fun f s => FormIn f) ::
  G4
theorem G5_ok : FnsOk Try.prog G5 := .cons (G4_ok) Try.func118 rfl rfl (fFI_ok fun f s h => checked_does f s h)


/-- what must cut: the state itself, or all but it -/
def cmplF (f : FormP) (s : Int) (b : Bool) : Int := if b = true then iandNot .i64 (ishl 1 f.vars - 1) s else s
theorem cuts_does (f : FormP) (s : Int) (b : Bool) (hin : FormIn f) (h0 : formE f = 0) : DoesF Try.prog 117 [.ag (formC f), iV s, bV b] [] (.tup [bV (valV f (cmplF f s b) != b), eV (stateE f (cmplF f s b))]) [] := by
  refine DoesF.body _ Try.func117 rfl rfl rfl rfl ?_
  obtain ⟨vars, ns, top⟩ := f
  have hv := (formE_ok h0).vars
  simp only at hv
  have hsr := shl_rng hv
  refine KW.goIf lay_ok G5_ok 100 rfl (by simp) rfl trivial (fun h => ?_) fun h => ?_
  · subst h
    refine KW.goRet lay_ok G5_ok 100 rfl rfl ?_ (by simp only [unN_nodesC, isN_nodesC, true_and, and_true, inK, bitsI]; simp [hin]; omega) trivial
    simp only [unN_nodesC]; rfl
  · subst h
    refine KW.goRet lay_ok G5_ok 100 rfl rfl ?_ (by simp only [unN_nodesC, isN_nodesC, true_and, and_true, inK, bitsI]; simp [hin]) trivial
    simp only [unN_nodesC]; rfl

def G6 : Fns := (117, fFIB (fun f s b => .tup [bV (valV f (cmplF f s b) != b), eV (stateE f (cmplF f s b))]) fun f s b => FormIn f ∧ formE f = 0) ::
  G5
theorem G6_ok : FnsOk Try.prog G6 := .cons (G5_ok) Try.func117 rfl rfl (fFIB_ok fun f s b h => cuts_does f s b h.1 h.2)


theorem pathSE_ok {f : FormP} {s : Int} (h : pathSE f s = 0) : formE f = 0 ∧ cohF f = true ∧ 0 ≤ s ∧ s < ishl 1 f.vars := by
  unfold pathSE at h
  split at h
  · rename_i h1
    split at h
    · rename_i h2
      unfold pathE at h1
      split at h1
      · rename_i h3
        split at h1
        · rename_i h4; exact ⟨h3, h4, h2⟩
        · exact absurd h1 (by decide)
      · rename_i h3; exact absurd h1 h3
    · exact absurd h (by decide)
  · rename_i h1; exact absurd h h1
theorem cmpl_in {f : FormP} {n : Nat} (hn : f.vars = n) (hn24 : n ≤ 24) {s : Int} (hs : inN n s) (b : Bool) : inN n (cmplF f s b) := by
  unfold cmplF
  split
  · rw [hn, show ishl 1 (n : Int) - 1 = allN n by have := Nat.two_pow_pos n; rw [ishl_one, allN]; omega]
    exact inN_iandNot hn24 (inN_allN hn24)
  · exact hs
theorem cmpl_state {f : FormP} {n : Nat} (h0 : formE f = 0) (hn : f.vars = n) {s : Int} (hs : inN n s) (b : Bool) : stateE f (cmplF f s b) = 0 := by
  have hv := (formE_ok h0).vars
  have hn24 : n ≤ 24 := by omega
  have := (inN_iff hn24).1 (cmpl_in hn hn24 hs b)
  exact stateE_eq h0 ⟨this.1, by rw [hn, ishl_one]; exact this.2⟩
/-- a state that cuts, as it should -/
def isP (f : FormP) (s : Int) (b : Bool) : Bool := valueF f (cmplF f s b) != b
def isV (f : FormP) (s : Int) (b : Bool) : Bool := decide (pathSE f s = 0) && isP f s b
theorem pis_does (f : FormP) (s : Int) (b : Bool) (hin : FormIn f) : DoesF Try.prog 82 [.ag (formC f), iV s, bV b] [] (.tup [bV (isV f s b), eV (pathSE f s)]) [] := by
  refine DoesF.body _ Try.func82 rfl rfl rfl rfl ?_
  obtain ⟨vars, ns, top⟩ := f
  refine KW.goIf lay_ok G6_ok 100 rfl (by simp only [unN_nodesC, isN_nodesC, true_and, and_true, ifcV_errV]; simp [hin]) rfl trivial (fun h => ?_) fun h => ?_
  · simp only [unN_nodesC] at h
    have h1 : ¬ pathSE ⟨vars, ns, top⟩ s = 0 := by
      have e : (!isNilB (errV 66 (pathSE ⟨vars, ns, top⟩ s))) = true := h
      simpa using e
    have e2 : isV ⟨vars, ns, top⟩ s b = false := by simp [isV, h1]
    refine KW.goRet lay_ok G6_ok 100 rfl rfl ?_ (by simp) trivial
    simp only [unN_nodesC, e2]; rfl
  · simp only [unN_nodesC] at h
    have h1 : pathSE ⟨vars, ns, top⟩ s = 0 := by
      have e : (!isNilB (errV 66 (pathSE ⟨vars, ns, top⟩ s))) = false := h
      simpa using e
    obtain ⟨h0, hc, hs⟩ := pathSE_ok h1
    have hv := (formE_ok h0).vars
    simp only at hv hs
    obtain ⟨n, rfl⟩ := Int.eq_ofNat_of_zero_le hv.1
    have hsn : inN n s := (inN_iff (by omega)).2 ⟨hs.1, by rw [← ishl_one]; exact hs.2⟩
    have e3 := cmpl_state (f := ⟨n, ns, top⟩) h0 rfl hsn b
    have e4 : valV ⟨n, ns, top⟩ (cmplF ⟨n, ns, top⟩ s b) = valueF ⟨n, ns, top⟩ (cmplF ⟨n, ns, top⟩ s b) := by simp [valV, e3]
    have e2 : isV ⟨n, ns, top⟩ s b = (valueF ⟨n, ns, top⟩ (cmplF ⟨n, ns, top⟩ s b) != b) := by simp [isV, isP, h1]
    refine KW.goRet lay_ok G6_ok 100 rfl rfl ?_ (by simp only [unN_nodesC, isN_nodesC, true_and, and_true, ifcV_errV]; simp [hin, h0]) trivial
    simp only [unN_nodesC, e2, e3, e4, h1]
    simp [SV.ren, renL, EV.ren]
end Go.Proofs.Ytpjhpcclbenfbaa

/-
  Minimal paths and cuts.
-/
namespace Go.Proofs.Ytpjhpcclbenfbaa
open Go.Sy Go.Pu

def G7 : Fns := (82, fFIB (fun f s b => .tup [bV (isV f s b), eV (pathSE f s)]) fun f s b => FormIn f) ::
  G6
theorem G7_ok : FnsOk Try.prog G7 := .cons (G6_ok) Try.func82 rfl rfl (fFIB_ok fun f s b h => pis_does f s b h)


def minP (f : FormP) (s : Int) (b : Bool) (n : Nat) : Bool := isP f s b && (List.range n).all fun i => !bit s i || !isP f (iandNot .i64 s (Go.Pu.one i)) b
def minV (f : FormP) (s : Int) (b : Bool) : Bool := decide (pathSE f s = 0) && minP f s b f.vars.toNat
theorem pminimal_does (f : FormP) (s : Int) (b : Bool) (hin : FormIn f) : DoesF Try.prog 81 [.ag (formC f), iV s, bV b] [] (.tup [bV (minV f s b), eV (pathSE f s)]) [] := by
  refine DoesF.body _ Try.func81 rfl rfl rfl rfl ?_
  obtain ⟨vars, ns, top⟩ := f
  refine KW.goIf lay_ok G7_ok 100 rfl (by simp only [unN_nodesC, isN_nodesC, true_and, and_true, ifcV_errV]; simp [hin]) rfl trivial (fun h => ?_) fun h => ?_
  · simp only [unN_nodesC] at h
    have e : (!isNilB (errV 66 (pathSE ⟨vars, ns, top⟩ s)) || !isV ⟨vars, ns, top⟩ s b) = true := h
    have e2 : minV ⟨vars, ns, top⟩ s b = false := by
      by_cases h1 : pathSE ⟨vars, ns, top⟩ s = 0
      · have h2 : isP ⟨vars, ns, top⟩ s b = false := by simpa [h1, isV] using e
        simp [minV, minP, h1, h2]
      · simp [minV, h1]
    refine KW.goRet lay_ok G7_ok 100 rfl rfl ?_ (by simp) trivial
    simp only [unN_nodesC, e2]; rfl
  · simp only [unN_nodesC] at h
    have e : (!isNilB (errV 66 (pathSE ⟨vars, ns, top⟩ s)) || !isV ⟨vars, ns, top⟩ s b) = false := h
    have h1 : pathSE ⟨vars, ns, top⟩ s = 0 := by
      rw [Bool.or_eq_false_iff] at e; simpa using e.1
    have h2 : isP ⟨vars, ns, top⟩ s b = true := by
      rw [Bool.or_eq_false_iff] at e; simpa [isV, h1] using e.2
    obtain ⟨h0, hc, hs⟩ := pathSE_ok h1
    have hv := (formE_ok h0).vars
    simp only at hv hs
    obtain ⟨n, rfl⟩ := Int.eq_ofNat_of_zero_le hv.1
    have hn24 : n ≤ 24 := by omega
    have hsn : inN n s := (inN_iff hn24).2 ⟨hs.1, by rw [← ishl_one]; exact hs.2⟩
    have e3 := fun (x : Int) (hx : inN n x) => cmpl_state (f := ⟨n, ns, top⟩) h0 rfl hx b
    have e4 : ∀ x, inN n x → (valV ⟨n, ns, top⟩ (cmplF ⟨n, ns, top⟩ x b) != b) = isP ⟨n, ns, top⟩ x b := fun x hx => by simp [valV, e3 x hx, isP]
    have e2 : minV ⟨n, ns, top⟩ s b = (List.range n).all fun i => !bit s i || !isP ⟨n, ns, top⟩ (iandNot .i64 s (Go.Pu.one i)) b := by simp [minV, minP, h1, h2]
    rw [e2, h1]
    refine KW.goLpR lay_ok G7_ok 100 rfl (I := fun i : Nat => ⟨Try.f81.ntmps, [(1, sI s), (2, sB b), (3, .e (.r 3)), (28, sI n), (29, sI i)],
        [(3, .box 24 [iV n, .c (nodesC ns), iV top] none)]⟩)
      (R := fun i => i ≤ n ∧ ∀ j, j < i → (!bit s j || !isP ⟨n, ns, top⟩ (iandNot .i64 s (Go.Pu.one j)) b) = true) (m := fun i => n - i) 0 [(3, 3)] rfl rfl ⟨rfl, rfl, rfl, rfl, rfl, trivial⟩ (by simp) ⟨Nat.zero_le _, fun j hj => by omega⟩ ⟨rfl, trivial⟩ ?_
    rintro i ⟨hi0, hr⟩
    refine KW.goIf lay_ok G7_ok 100 rfl (by simp) rfl trivial (fun h => ?_) fun h => ?_
    · have hi : i < n := by simpa using h
      have hone : ishl 1 (i : Int) = Go.Pu.one i := rfl
      have hor := validS_iff.1 (one_valid (show i < 24 by omega))
      have hin2 := inN_iandNot (y := Go.Pu.one i) hn24 hsn
      have e5 : (iand .i64 (ishr s (i : Int)) 1 == 0) = !bit s i := by
        rw [ishr_bit _ (by omega)]
        cases bit s i <;> rfl
      refine KW.goIf lay_ok G7_ok 100 rfl (by simp [inK, bitsI]; intros; omega) rfl trivial (fun h => ?_) fun h => ?_
      · have h3 : bit s i = false := by
          have e : (iand .i64 (ishr s (i : Int)) 1 == 0) = true := h
          rw [e5] at e; simpa using e
        refine KW.goToR lay_ok G7_ok 100 rfl (i + 1) [(3, 3)] rfl rfl ⟨rfl, rfl, rfl, rfl, rfl, trivial⟩ (by simp [inK]; omega) ⟨⟨by omega, fun j hj => ?_⟩, by omega⟩ ⟨rfl, trivial⟩
        by_cases hji : j = i
        · subst hji; rw [h3]; rfl
        · exact hr j (by omega)
      · have h3 : bit s i = true := by
          have e : (iand .i64 (ishr s (i : Int)) 1 == 0) = false := h
          rw [e5] at e; simpa using e
        refine KW.goD lay_ok G7_ok rfl 100 rfl (by decide +kernel) rfl (by simp) ?_ ?_
        · simp only [unN_nodesC, isN_nodesC, true_and, and_true, inK, bitsI, hone]
          simp [hin, h0]
          omega
        simp only [unN_nodesC, hone, e3 _ hin2, e4 _ hin2]
        refine KW.goIf lay_ok G7_ok 100 rfl (by simp [ifcV_errV]) rfl trivial (fun h => ?_) fun h => ?_
        · have h4 : isP ⟨n, ns, top⟩ (iandNot .i64 s (Go.Pu.one i)) b = true := h
          refine KW.goOutR lay_ok G7_ok 100 rfl (by simp) ?_
          refine KW.goRet lay_ok G7_ok 100 rfl rfl ?_ (by simp) trivial
          have e6 : ((List.range n).all fun i => !bit s i || !isP ⟨n, ns, top⟩ (iandNot .i64 s (Go.Pu.one i)) b) = false := by
            rw [List.all_eq_false]
            exact ⟨i, by simpa using hi, by rw [h3, h4]; decide⟩
          rw [e6]; rfl
        · have h4 : isP ⟨n, ns, top⟩ (iandNot .i64 s (Go.Pu.one i)) b = false := h
          refine KW.goToR lay_ok G7_ok 100 rfl (i + 1) [(3, 3)] rfl rfl ⟨rfl, rfl, rfl, rfl, rfl, trivial⟩ (by simp [inK]; omega) ⟨⟨by omega, fun j hj => ?_⟩, by omega⟩ ⟨rfl, trivial⟩
          by_cases hji : j = i
          · subst hji; rw [h4]; simp
          · exact hr j (by omega)
    · have hi : i = n := by simp at h; omega
      refine KW.goOut lay_ok G7_ok 100 rfl (by simp) ?_
      refine KW.goRet lay_ok G7_ok 100 rfl rfl ?_ (by simp) trivial
      have e6 : ((List.range n).all fun i => !bit s i || !isP ⟨n, ns, top⟩ (iandNot .i64 s (Go.Pu.one i)) b) = true := by
        rw [List.all_eq_true]
        exact fun j hj => hr j (by rw [hi]; simpa using hj)
      rw [e6]; rfl
def G8 : Fns := (81, fFIB (fun f s b => .tup [bV (minV f s b), eV (pathSE f s)]) fun f s b => FormIn f) ::
  G7
theorem G8_ok : FnsOk Try.prog G8 := .cons (G7_ok) Try.func81 rfl rfl (fFIB_ok fun f s b h => pminimal_does f s b h)


theorem pMinimal_does (f : FormP) (s : Int) (hin : FormIn f) : DoesF Try.prog 38 [.ag (formC f), iV s] [] (.tup [bV (minV f s true), eV (pathSE f s)]) [] := by
  refine DoesF.body _ Try.func38 rfl rfl rfl rfl ?_
  obtain ⟨vars, ns, top⟩ := f
  refine KW.goRet lay_ok G8_ok 100 rfl rfl ?_ (by simp only [unN_nodesC, isN_nodesC, true_and, and_true]; simp [hin]) trivial
  simp only [unN_nodesC]; rfl
theorem pMinimalCut_does (f : FormP) (s : Int) (hin : FormIn f) : DoesF Try.prog 37 [.ag (formC f), iV s] [] (.tup [bV (minV f s false), eV (pathSE f s)]) [] := by
  refine DoesF.body _ Try.func37 rfl rfl rfl rfl ?_
  obtain ⟨vars, ns, top⟩ := f
  refine KW.goRet lay_ok G8_ok 100 rfl rfl ?_ (by simp only [unN_nodesC, isN_nodesC, true_and, and_true]; simp [hin]) trivial
  simp only [unN_nodesC]; rfl
def G9 : Fns := (38, fFI (fun f s => .tup [bV (minV f s true), eV (pathSE f s)]) fun f s => FormIn f) ::
  (37, fFI (fun f s => .tup [bV (minV f s false), eV (pathSE f s)]) fun f s => FormIn f) ::
  G8
theorem G9_ok : FnsOk Try.prog G9 := .cons (.cons (G8_ok) Try.func37 rfl rfl (fFI_ok fun f s h => pMinimalCut_does f s h)) Try.func38 rfl rfl (fFI_ok fun f s h => pMinimal_does f s h)


theorem isP_cut (f : FormP) (x : Int) : isP f x false = valueF f x := by simp [isP, cmplF]
theorem isP_path {f : FormP} {n : Nat} (hn : f.vars = n) (x : Int) : isP f x true = !valueF f (iandNot .i64 (allN n) x) := by
  have e : ishl 1 (n : Int) - 1 = allN n := by have := Nat.two_pow_pos n; rw [ishl_one, allN]; omega
  simp only [isP, cmplF, hn, e, if_true]
  cases valueF f (iandNot .i64 (allN n) x) <;> rfl
theorem minP_iff {f : FormP} {T : Int} {b : Bool} {n : Nat} : minP f T b n = true ↔ isP f T b = true ∧ ∀ i, i < n → bit T i = true → isP f (iandNot .i64 T (Go.Pu.one i)) b = false := by
  simp only [minP, Bool.and_eq_true, List.all_eq_true, List.mem_range, Bool.or_eq_true, Bool.not_eq_true']
  refine and_congr Iff.rfl ⟨fun h i hi hb => ?_, fun h i hi => ?_⟩
  · rcases h i hi with h1 | h1
    · rw [hb] at h1; cases h1
    · exact h1
  · cases hb : bit T i with
    | false => exact .inl rfl
    | true => exact .inr (h i hi hb)
end Go.Proofs.Ytpjhpcclbenfbaa
