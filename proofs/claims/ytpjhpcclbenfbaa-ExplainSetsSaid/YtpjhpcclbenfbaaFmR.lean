/-
  FmR, FmS, FmT, one text.
-/
import Derived.Test.YtpjhpcclbenfbaaFmO
import Derived.Test.YtpjhpcclbenfbaaPuN
set_option linter.unusedVariables false
set_option linter.unusedSimpArgs false
/-
  Critical events; what carries: the code and the specification.
-/
namespace Go.Proofs.Ytpjhpcclbenfbaa
open Go.Sy Go.Pu

def critF (f : FormP) (s : Int) : Int := if stateE f s = 0 then critN f s f.vars.toNat else 0
theorem critN_valid (f : FormP) (s : Int) : ∀ k, k ≤ 24 → validS (critN f s k) = true
  | 0, _ => valid0
  | k + 1, h => by
    unfold critN
    split
    · exact valid_ior (critN_valid f s k (by omega)) (one_valid (by omega))
    · exact critN_valid f s k (by omega)
theorem critical_does (f : FormP) (s : Int) (hin : FormIn f) : DoesF Try.prog 23 [.ag (formC f), iV s] [] (.tup [iV (critF f s), eV (stateE f s)]) [] := by
  refine DoesF.body _ Try.func23 rfl rfl rfl rfl ?_
  obtain ⟨vars, ns, top⟩ := f
  refine KW.goIf lay_ok F16_ok 100 rfl (by simp only [unN_nodesC, isN_nodesC, true_and, and_true, ifcV_errV]; exact hin) rfl trivial (fun h => ?_) fun h => ?_
  · simp only [unN_nodesC] at h
    have h1 : ¬ stateE ⟨vars, ns, top⟩ s = 0 := by
      have e : (!isNilB (errV 66 (stateE ⟨vars, ns, top⟩ s))) = true := h
      simpa using e
    refine KW.goRet lay_ok F16_ok 100 rfl rfl ?_ (by simp) trivial
    simp [SV.ren, renL, EV.ren, critF, h1]
  · simp only [unN_nodesC] at h
    have h1 : stateE ⟨vars, ns, top⟩ s = 0 := by
      have e : (!isNilB (errV 66 (stateE ⟨vars, ns, top⟩ s))) = false := h
      simpa using e
    have h0 := (stateE_ok h1).1
    have ok : FormOk ⟨vars, ns, top⟩ := formE_ok h0
    have hs := (stateE_ok h1).2
    have hv := ok.vars
    simp only at hv hs
    obtain ⟨n, rfl⟩ := Int.eq_ofNat_of_zero_le hv.1
    have hn24 : n ≤ 24 := by omega
    have hsn : inN n s := (inN_iff hn24).2 ⟨hs.1, by rw [← ishl_one]; exact hs.2⟩
    have hst : ∀ x, inN n x → stateE ⟨n, ns, top⟩ x = 0 := fun x hx => stateE_eq h0 ⟨((inN_iff hn24).1 hx).1, by rw [ishl_one]; exact ((inN_iff hn24).1 hx).2⟩
    have honeN : ∀ k, k < n → inN n (Go.Pu.one k) := fun k hk => inN_of hn24 (validS_rng (one_valid (by omega))) fun i hi => by rw [one_bit (by omega)]; simp; omega
    have hval : ∀ x, inN n x → valV ⟨n, ns, top⟩ x = valueF ⟨n, ns, top⟩ x := fun x hx => by simp [valV, hst x hx]
    have hcr : critF ⟨n, ns, top⟩ s = critN ⟨n, ns, top⟩ s n := by simp [critF, h1]
    rw [hcr]
    refine KW.goIf lay_ok F16_ok 100 rfl (by simp only [unN_nodesC, isN_nodesC, true_and, and_true, ifcV_errV]; exact hin) rfl trivial (fun h => ?_) fun h => ?_
    · simp only [unN_nodesC, h1] at h
      exact absurd h (by decide)
    refine KW.goLpR lay_ok F16_ok 100 rfl (I := fun q : Nat => ⟨Try.f23.ntmps, [(1, sI s), (2, .e (.r 2)), (7, sB (valueF ⟨n, ns, top⟩ s)), (9, sI (critN ⟨n, ns, top⟩ s q)), (29, sI n), (30, sI q)],
        [(2, .box 24 [iV n, .c (nodesC ns), iV top] none)]⟩)
      (R := fun q => q ≤ n) (m := fun q => n - q) 0 [(2, 2)] rfl rfl ⟨rfl, rfl, by simp only [unN_nodesC, hval s hsn]; rfl, rfl, rfl, rfl, trivial⟩ (by simp) (by omega) ⟨rfl, trivial⟩ ?_
    rintro q hq0
    refine KW.goIf lay_ok F16_ok 100 rfl (by simp) rfl trivial (fun h => ?_) fun h => ?_
    · have hq : q < n := by simpa using h
      have ho : 0 ≤ ishl 1 (q : Int) ∧ ishl 1 (q : Int) ≤ 16777215 := validS_iff.1 (one_valid (show q < 24 by omega))
      have hxin : inN n (ixor .i64 s (ishl 1 (q : Int))) := inN_ixor hn24 hsn (honeN q hq)
      have hsucc : critN ⟨n, ns, top⟩ s (q + 1) = if valueF ⟨n, ns, top⟩ (ixor .i64 s (Go.Pu.one q)) ≠ valueF ⟨n, ns, top⟩ s then ior .i64 (critN ⟨n, ns, top⟩ s q) (Go.Pu.one q) else critN ⟨n, ns, top⟩ s q := rfl
      refine KW.goD lay_ok F16_ok rfl 100 rfl (by decide) rfl (by simp) (by simp only [unN_nodesC, isN_nodesC, true_and, and_true, hin, inK, bitsI]; omega) ?_
      refine KW.goIf lay_ok F16_ok 100 rfl (by simp only [unN_nodesC, ifcV_errV, true_and, and_true]) rfl trivial (fun h => ?_) fun h => ?_
      · simp only [unN_nodesC, hst _ hxin] at h
        exact absurd h (by decide)
      refine KW.goIf lay_ok F16_ok 100 rfl (by simp) rfl trivial (fun h => ?_) fun h => ?_
      · simp only [unN_nodesC, hval _ hxin] at h
        have e1 : valueF ⟨n, ns, top⟩ (ixor .i64 s (Go.Pu.one q)) ≠ valueF ⟨n, ns, top⟩ s := by
          have e : (valueF ⟨n, ns, top⟩ (ixor .i64 s (Go.Pu.one q)) != valueF ⟨n, ns, top⟩ s) = true := h
          simpa using e
        rw [if_pos e1] at hsucc
        exact KW.goToR lay_ok F16_ok 100 rfl (q + 1) [(2, 2)] rfl rfl ⟨rfl, rfl, rfl, by rw [hsucc]; rfl, rfl, rfl, trivial⟩ (by simp only [inK, bitsI, true_and, and_true]; omega) ⟨by omega, by omega⟩ ⟨rfl, trivial⟩
      · simp only [unN_nodesC, hval _ hxin] at h
        have e1 : ¬ valueF ⟨n, ns, top⟩ (ixor .i64 s (Go.Pu.one q)) ≠ valueF ⟨n, ns, top⟩ s := by
          have e : (valueF ⟨n, ns, top⟩ (ixor .i64 s (Go.Pu.one q)) != valueF ⟨n, ns, top⟩ s) = false := h
          simpa using e
        rw [if_neg e1] at hsucc
        exact KW.goToR lay_ok F16_ok 100 rfl (q + 1) [(2, 2)] rfl rfl ⟨rfl, rfl, rfl, by rw [hsucc]; rfl, rfl, rfl, trivial⟩ (by simp [inK]; omega) ⟨by omega, by omega⟩ ⟨rfl, trivial⟩
    · have hq : q = n := by simp at h; omega
      subst hq
      refine KW.goOut lay_ok F16_ok 100 rfl (by simp) ?_
      refine KW.goRet lay_ok F16_ok 100 rfl rfl ?_ (by simp) trivial
      simp [SV.ren, renL, EV.ren, h1, errV]

theorem rcritical_does (f : FormP) (s : Int) (hin : FormIn f) : DoesF Try.prog 25 [.ag (formC f), iV s] [] (.tup [iV (critF f s), iV (stateE f s)]) [] := by
  refine DoesF.body _ Try.func25 rfl rfl rfl rfl ?_
  obtain ⟨vars, ns, top⟩ := f
  refine KW.goIf lay_ok F16_ok 100 rfl (by simp only [unN_nodesC, isN_nodesC, true_and, and_true]; exact hin) rfl trivial (fun h => ?_) fun h => ?_
  · simp only [unN_nodesC] at h
    have h1 : ¬ stateE ⟨vars, ns, top⟩ s = 0 := by
      have e : (stateE ⟨vars, ns, top⟩ s != 0) = true := h
      simpa using e
    refine KW.goRet lay_ok F16_ok 100 rfl rfl ?_ (by simp) trivial
    simp [SV.ren, renL, EV.ren, critF, h1]
  · simp only [unN_nodesC] at h
    have h1 : stateE ⟨vars, ns, top⟩ s = 0 := by
      have e : (stateE ⟨vars, ns, top⟩ s != 0) = false := h
      simpa using e
    have h0 := (stateE_ok h1).1
    have ok : FormOk ⟨vars, ns, top⟩ := formE_ok h0
    have hv := ok.vars
    simp only at hv
    obtain ⟨n, rfl⟩ := Int.eq_ofNat_of_zero_le hv.1
    have hcr : critF ⟨n, ns, top⟩ s = critN ⟨n, ns, top⟩ s n := by simp [critF, h1]
    rw [hcr]
    refine KW.goLpR lay_ok F16_ok 100 rfl (I := fun q : Nat => ⟨Try.f25.ntmps, [(1, sI s), (2, .e (.r 2)), (7, sI (critN ⟨n, ns, top⟩ s q)), (16, sI n), (17, sI q)],
        [(2, .box 24 [iV n, .c (nodesC ns), iV top] none)]⟩)
      (R := fun q => q ≤ n) (m := fun q => n - q) 0 [(2, 2)] rfl rfl ⟨rfl, rfl, rfl, rfl, rfl, trivial⟩ (by simp) (by omega) ⟨rfl, trivial⟩ ?_
    rintro q hq0
    refine KW.goIf lay_ok F16_ok 100 rfl (by simp) rfl trivial (fun h => ?_) fun h => ?_
    · have hq : q < n := by simpa using h
      have ho : 0 ≤ ishl 1 (q : Int) ∧ ishl 1 (q : Int) ≤ 16777215 := validS_iff.1 (one_valid (show q < 24 by omega))
      have hsucc : critN ⟨n, ns, top⟩ s (q + 1) = if valueF ⟨n, ns, top⟩ (ixor .i64 s (Go.Pu.one q)) ≠ valueF ⟨n, ns, top⟩ s then ior .i64 (critN ⟨n, ns, top⟩ s q) (Go.Pu.one q) else critN ⟨n, ns, top⟩ s q := rfl
      refine KW.goD lay_ok F16_ok rfl 100 rfl (by decide) rfl (by simp) (by simp only [unN_nodesC, isN_nodesC, true_and, and_true, hin, h0, inK, bitsI]; omega) ?_
      refine KW.goIf lay_ok F16_ok 100 rfl (by simp) rfl trivial (fun h => ?_) fun h => ?_
      · simp only [unN_nodesC] at h
        have e1 : valueF ⟨n, ns, top⟩ (ixor .i64 s (Go.Pu.one q)) ≠ valueF ⟨n, ns, top⟩ s := by
          have e : (valueF ⟨n, ns, top⟩ s != valueF ⟨n, ns, top⟩ (ixor .i64 s (Go.Pu.one q))) = true := h
          exact fun he => by rw [he] at e; simp at e
        rw [if_pos e1] at hsucc
        exact KW.goToR lay_ok F16_ok 100 rfl (q + 1) [(2, 2)] rfl rfl ⟨rfl, rfl, by rw [hsucc]; rfl, rfl, rfl, trivial⟩ (by simp only [inK, bitsI, true_and, and_true]; omega) ⟨by omega, by omega⟩ ⟨rfl, trivial⟩
      · simp only [unN_nodesC] at h
        have e1 : ¬ valueF ⟨n, ns, top⟩ (ixor .i64 s (Go.Pu.one q)) ≠ valueF ⟨n, ns, top⟩ s := by
          have e : (valueF ⟨n, ns, top⟩ s != valueF ⟨n, ns, top⟩ (ixor .i64 s (Go.Pu.one q))) = false := h
          simp at e; simp [e]
        rw [if_neg e1] at hsucc
        exact KW.goToR lay_ok F16_ok 100 rfl (q + 1) [(2, 2)] rfl rfl ⟨rfl, rfl, by rw [hsucc]; rfl, rfl, rfl, trivial⟩ (by simp [inK]; omega) ⟨by omega, by omega⟩ ⟨rfl, trivial⟩
    · have hq : q = n := by simp at h; omega
      subst hq
      refine KW.goOut lay_ok F16_ok 100 rfl (by simp) ?_
      refine KW.goRet lay_ok F16_ok 100 rfl rfl ?_ (by simp) trivial
      simp [SV.ren, renL, EV.ren, h1]

theorem carries_does (k : Int) (a b : Bool) : DoesF Try.prog 65 [iV k, bV a, bV b] [] (sB (carC k a b)) [] := by
  refine DoesF.body _ Try.func65 rfl rfl rfl rfl ?_
  refine KW.goIf lay_ok F16_ok 100 rfl (by simp) rfl trivial (fun h => ?_) fun h => ?_
  · have h1 : k = 2 := by simpa using h
    refine KW.goIf lay_ok F16_ok 100 rfl (by simp) rfl trivial (fun h => ?_) fun h => ?_
    · refine KW.goRet lay_ok F16_ok 100 rfl rfl ?_ (by simp) trivial
      simp [SV.ren, EV.ren, carC, h1]
    · exact absurd h1 (by simpa using h)
  · have h1 : ¬ k = 2 := by simpa using h
    refine KW.goIf lay_ok F16_ok 100 rfl (by simp) rfl trivial (fun h => ?_) fun h => ?_
    · have h2 : k = 4 := by simpa using h
      refine KW.goIf lay_ok F16_ok 100 rfl (by simp) rfl trivial (fun h => ?_) fun h => ?_
      · refine KW.goRet lay_ok F16_ok 100 rfl rfl ?_ (by simp) trivial
        simp [SV.ren, EV.ren, carC, h2]
      · exact absurd h2 (by simpa using h)
    · have h2 : ¬ k = 4 := by simpa using h
      refine KW.goIf lay_ok F16_ok 100 rfl (by simp) rfl trivial (fun h => ?_) fun h => ?_
      · have h3 : k = 3 := by simpa using h
        refine KW.goRet lay_ok F16_ok 100 rfl rfl ?_ (by simp) trivial
        simp [SV.ren, EV.ren, carC, h3]
      · have h3 : ¬ k = 3 := by simpa using h
        refine KW.goRet lay_ok F16_ok 100 rfl rfl ?_ (by simp) trivial
        simp [SV.ren, EV.ren, carC, h1, h2, h3]
end Go.Proofs.Ytpjhpcclbenfbaa

/-
  Carriers: the code.
-/
namespace Go.Sy
open Go.Pu
def fIBB (g : Int → Bool → Bool → SV) (p : Int → Bool → Bool → Prop) : List EV → Option (SV × Prop)
  | [.c (.lit (.int .i64 k)), .c (.lit (.bool a)), .c (.lit (.bool b))] => some (g k a b, p k a b)
  | _ => none
def fNBB (g : NodeP → Bool → Bool → SV) (p : NodeP → Bool → Bool → Prop) : List EV → Option (SV × Prop)
  | [.ag [.lit (.int .i64 k), .lit (.int .i64 kk), x], .c (.lit (.bool a)), .c (.lit (.bool b))] => some (g ⟨k, kk, unI x⟩ a b, isI x ∧ p ⟨k, kk, unI x⟩ a b)
  | _ => none
def nodeL (x : NodeP) : List CV := [.lit (.int .i64 x.kind), .lit (.int .i64 x.k), ints x.args]
section
variable {P : Program} {f : FuncId}
theorem fIBB_ok {g : Int → Bool → Bool → SV} {p : Int → Bool → Bool → Prop} (h : ∀ k a b, p k a b → DoesF P f [iV k, bV a, bV b] [] (g k a b) []) : ∀ ys y φ, fIBB g p ys = some (y, φ) → φ → DoesF P f ys [] y [] := by
  intro ys y φ he hφ
  unfold fIBB at he
  split at he
  · simp only [Option.some.injEq, Prod.mk.injEq] at he
    obtain ⟨rfl, rfl⟩ := he
    exact h _ _ _ hφ
  · cases he
theorem fNBB_ok {g : NodeP → Bool → Bool → SV} {p : NodeP → Bool → Bool → Prop} (h : ∀ x a b, p x a b → DoesF P f [.ag (nodeL x), bV a, bV b] [] (g x a b) []) : ∀ ys y φ, fNBB g p ys = some (y, φ) → φ → DoesF P f ys [] y [] := by
  intro ys y φ he hφ
  unfold fNBB at he
  split at he
  · rename_i k kk x a b
    simp only [Option.some.injEq, Prod.mk.injEq] at he
    obtain ⟨rfl, rfl⟩ := he
    refine DoesF.conv ?_ (h _ _ _ hφ.2)
    refine ⟨⟨rfl, fun q y z hy hz => ?_⟩, CVEq.refl _, CVEq.refl _, trivial⟩
    match q, hy, hz with
    | 0, hy, hz => simp [nodeL] at hy hz; subst hy; subst hz; exact CVEq.refl _
    | 1, hy, hz => simp [nodeL] at hy hz; subst hy; subst hz; exact CVEq.refl _
    | 2, hy, hz => simp [nodeL] at hy hz; subst hy; subst hz; exact hφ.1
    | q + 3, hy, hz => simp at hy
  · cases he
end
end Go.Sy
namespace Go.Proofs.Ytpjhpcclbenfbaa
open Go.Sy Go.Pu

theorem rcarries_does (x : NodeP) (a b : Bool) : DoesF Try.prog 68 [.ag (nodeL x), bV a, bV b] [] (sB (carR x.kind a b)) [] := by
  refine DoesF.body _ Try.func68 rfl rfl rfl rfl ?_
  refine KW.goIf lay_ok F16_ok 100 rfl (by simp) rfl trivial (fun h => ?_) fun h => ?_
  · have h1 : x.kind = 2 := by simpa using h
    refine KW.goRet lay_ok F16_ok 100 rfl rfl ?_ (by simp) trivial
    simp [SV.ren, EV.ren, carR, h1]
  · have h1 : ¬ x.kind = 2 := by simpa using h
    refine KW.goIf lay_ok F16_ok 100 rfl (by simp) rfl trivial (fun h => ?_) fun h => ?_
    · have h2 : x.kind = 3 := by simpa using h
      refine KW.goRet lay_ok F16_ok 100 rfl rfl ?_ (by simp) trivial
      simp [SV.ren, EV.ren, carR, h2]
    · have h2 : ¬ x.kind = 3 := by simpa using h
      refine KW.goIf lay_ok F16_ok 100 rfl (by simp) rfl trivial (fun h => ?_) fun h => ?_
      · have h3 : x.kind = 4 := by simpa using h
        refine KW.goRet lay_ok F16_ok 100 rfl rfl ?_ (by simp) trivial
        simp [SV.ren, EV.ren, carR, h3]
      · have h3 : ¬ x.kind = 4 := by simpa using h
        refine KW.goRet lay_ok F16_ok 100 rfl rfl ?_ (by simp) trivial
        simp [SV.ren, EV.ren, carR, h1, h2, h3]

def F17 : Fns := (65, fIBB (fun k a b => sB (carC k a b)) fun _ _ _ => True) ::
  (68, fNBB (fun x a b => sB (carR x.kind a b)) fun _ _ _ => True) ::
  (23, fFI (fun f s => .tup [iV (critF f s), eV (stateE f s)]) fun f s => FormIn f) ::
  (25, fFI (fun f s => .tup [iV (critF f s), iV (stateE f s)]) fun f s => FormIn f) ::
  F16
theorem F17_ok : FnsOk Try.prog F17 := .cons (.cons (.cons (.cons (F16_ok) Try.func25 rfl rfl (fFI_ok fun f s h => rcritical_does f s h)) Try.func23 rfl rfl (fFI_ok fun f s h => critical_does f s h)) Try.func68 rfl rfl (fNBB_ok fun x a b _ => rcarries_does x a b)) Try.func65 rfl rfl (fIBB_ok fun k a b _ => carries_does k a b)


def carM (f : FormP) (s : Int) : List Bool := marksF f (carF f s)
def carE (f : FormP) (s : Int) : Int := if stateE f s = 0 then evN (carM f s) f.vars.toNat (f.vars.toNat + f.nodes.length) else 0
def carNd (f : FormP) (s : Int) : List Int := if stateE f s = 0 then ndN (carM f s) f.vars.toNat (f.vars.toNat + f.nodes.length) else []
theorem evN_valid (m : List Bool) {n : Nat} (hn : n ≤ 24) : ∀ k, inN n (evN m n k)
  | 0 => (inN_iff hn).2 ⟨Int.le_refl _, Int.natCast_pos.2 (Nat.two_pow_pos n)⟩
  | k + 1 => by
    unfold evN
    split
    · rename_i h
      simp only [Bool.and_eq_true, decide_eq_true_eq] at h
      exact inN_ior hn (evN_valid m hn k) (inN_of hn (validS_rng (one_valid (by omega))) fun i hi => by rw [one_bit (by omega)]; simp; omega)
    · exact evN_valid m hn k

theorem carriers_does (f : FormP) (s : Int) (hin : FormIn f) : DoesF Try.prog 24 [.ag (formC f), iV s] [] (.tup [lV (carNd f s), iV (carE f s), eV (stateE f s)]) [] := by
  refine DoesF.body _ Try.func24 rfl rfl rfl rfl ?_
  obtain ⟨vars, ns, top⟩ := f
  refine KW.goIf lay_ok F17_ok 100 rfl (by simp only [unN_nodesC, isN_nodesC, true_and, and_true, ifcV_errV]; exact hin) rfl trivial (fun h => ?_) fun h => ?_
  · simp only [unN_nodesC] at h
    have h1 : ¬ stateE ⟨vars, ns, top⟩ s = 0 := by
      have e : (!isNilB (errV 66 (stateE ⟨vars, ns, top⟩ s))) = true := h
      simpa using e
    refine KW.go lay_ok F17_ok 100 rfl (by simp) ?_
    refine KW.conv 4 (ints []) rfl ⟨rfl, rfl⟩ ?_
    refine KW.fin [] rfl rfl ?_ trivial
    simp [SV.ren, renL, EV.ren, carNd, carE, h1]
  · simp only [unN_nodesC] at h
    have h1 : stateE ⟨vars, ns, top⟩ s = 0 := by
      have e : (!isNilB (errV 66 (stateE ⟨vars, ns, top⟩ s))) = false := h
      simpa using e
    have h0 := (stateE_ok h1).1
    have ok : FormOk ⟨vars, ns, top⟩ := formE_ok h0
    have hs := (stateE_ok h1).2
    have hv := ok.vars
    have hn128 := ok.len
    have htop := ok.top
    simp only at hv hs hn128 htop
    obtain ⟨n, rfl⟩ := Int.eq_ofNat_of_zero_le hv.1
    have hn24 : n ≤ 24 := by omega
    have hsr := shl_rng hv
    have hnd : carNd ⟨n, ns, top⟩ s = ndN (carM ⟨n, ns, top⟩ s) n (n + ns.length) := by simp [carNd, h1]
    have hev : carE ⟨n, ns, top⟩ s = evN (carM ⟨n, ns, top⟩ s) n (n + ns.length) := by simp [carE, h1]
    rw [hnd, hev, h1]
    have hnl := nodesV_length ⟨n, ns, top⟩ s
    have hnv : ∀ i, (nodesV ⟨n, ns, top⟩ s).getD i false = (valsF ⟨n, ns, top⟩ s).getD (n + i) false := fun i => by
      rw [nodesV, List.getD_eq_getElem?_getD, List.getElem?_drop, List.getD_eq_getElem?_getD]; rfl
    have hve : ∀ i, i < n → (valsF ⟨n, ns, top⟩ s).getD i false = bit s i := fun i hi => valsF_event ⟨n, ns, top⟩ s hi
    simp only at hnl
    refine KW.goIf lay_ok F17_ok 100 rfl (by simp only [unN_nodesC, isN_nodesC, true_and, and_true, ifcV_errV]; exact hin) rfl trivial (fun h => ?_) fun h => ?_
    · simp only [unN_nodesC, h1] at h
      exact absurd h (by decide)
    have hm0 := mark0_length ⟨n, ns, top⟩
    simp only [Int.toNat_natCast] at hm0
    refine KW.go lay_ok F17_ok 100 rfl (by simp [inK]; omega) (KW.updB 38 rfl ?_)
    refine KW.lp (I := fun q : Nat × List Bool => ⟨Try.f24.ntmps, [(1, sI s), (2, .e (.r 2)), (4, .e (.c (.lit (.slice none 0 0)))), (5, sI 0), (8, .e (blV (nodesV ⟨n, ns, top⟩ s))), (10, .e (.r 10)), (11, sI ((q.1 : Int) - 1))],
        [(2, .box 24 [iV n, .c (nodesC ns), iV top] none), (10, .own 4 (bools q.2))]⟩)
      (R := fun q => q.1 ≤ ns.length ∧ q.2.length = n + ns.length ∧ markN n ns (carF ⟨n, ns, top⟩ s) q.1 q.2 = carM ⟨n, ns, top⟩ s) (m := fun q => q.1) (ns.length, mark0 ⟨n, ns, top⟩) ⟨Nat.le_refl _, hm0, rfl⟩ [(2, 2), (10, 38)] ⟨rfl, rfl, ⟨rfl, rfl, rfl, rfl, ?_, rfl, rfl, trivial⟩, ⟨rfl, own_catB0 _ ?_, trivial⟩⟩ ?_
    · simp only [unN_nodesC, h1, if_true]; rfl
    · show (List.replicate (Int.toNat ((n : Int) + (ns.length : Int))) false).set top.toNat true = mark0 ⟨n, ns, top⟩
      rw [mark0]
      simp only [Int.toNat_natCast]
      congr 2
    rintro ⟨i1, m⟩ ⟨r1, r2, r3⟩
    simp only at r1 r2 r3
    refine KW.goIf lay_ok F17_ok 100 rfl (by simp) rfl trivial (fun h => ?_) fun h => ?_
    · obtain ⟨i, rfl⟩ : ∃ i, i1 = i + 1 := ⟨i1 - 1, by simp at h; omega⟩
      have hi : i < ns.length := by omega
      have hii : ((i + 1 : Nat) : Int) - 1 = (i : Int) := by omega
      have hidx : Int.toNat ((n : Int) + (i : Int)) = n + i := by omega
      rw [markN] at r3
      simp only [hii]
      refine KW.goIf lay_ok F17_ok 100 rfl (by simp only [inK, true_and, and_true, r2]; omega) rfl trivial (fun h => ?_) fun h => ?_
      · have h3 : m.getD (n + i) false = false := by
          have e : (!m.getD (Int.toNat ((n : Int) + (i : Int))) false) = true := h
          rw [hidx] at e; simpa using e
        rw [if_neg (by rw [h3]; decide)] at r3
        exact KW.goToR lay_ok F17_ok 100 rfl (i, m) [(2, 2), (10, 10)] rfl rfl ⟨rfl, rfl, rfl, rfl, rfl, rfl, rfl, trivial⟩ (by simp only [inK, true_and, and_true]; omega) ⟨⟨by simp only; omega, r2, r3⟩, by simp only; omega⟩ ⟨rfl, rfl, trivial⟩
      · have h3 : m.getD (n + i) false = true := by
          have e : (!m.getD (Int.toNat ((n : Int) + (i : Int))) false) = false := h
          rw [hidx] at e; simpa using e
        rw [if_pos h3] at r3
        have hX : ns.getD (Int.toNat (i : Int)) node0 = ns[i] := by simp [List.getD_eq_getElem?_getD, hi]
        have hX2 : ns.getD i node0 = ns[i] := hX
        have okX := ok.nodes i hi
        have hcar : ∀ a, carF ⟨n, ns, top⟩ s i a = carC ns[i].kind ((valsF ⟨n, ns, top⟩ s).getD (n + i) false) ((valsF ⟨n, ns, top⟩ s).getD a.toNat false) := fun a => by
          unfold carF; simp only [hX2, Int.toNat_natCast]
        rw [hX2] at r3
        simp only at okX
        generalize hXX : ns[i] = X at hX okX r3 hcar
        have hkind : ((ns.getD (Int.toNat (i : Int)) node0).kind) = X.kind := by rw [hX]
        have h16 := argsB_le okX.cnt
        refine KW.goLpR lay_ok F17_ok 100 rfl (I := fun q : Nat × List Bool => ⟨Try.f24.ntmps, [(1, sI s), (2, .e (.r 2)), (4, .e (.c (.lit (.slice none 0 0)))), (5, sI 0), (8, .e (blV (nodesV ⟨n, ns, top⟩ s))), (10, .e (.r 10)), (11, sI (i : Int)), (64, .e (lV X.args)), (65, sI X.args.length), (66, sI q.1)],
            [(2, .box 24 [iV n, .c (nodesC ns), iV top] none), (10, .own 4 (bools q.2))]⟩)
          (R := fun q => q.1 ≤ X.args.length ∧ q.2.length = n + ns.length ∧ markN n ns (carF ⟨n, ns, top⟩ s) i (markA (carF ⟨n, ns, top⟩ s i) q.2 (X.args.drop q.1)) = carM ⟨n, ns, top⟩ s) (m := fun q => X.args.length - q.1) (0, m) [(2, 2), (10, 10)] rfl rfl
          ⟨rfl, rfl, rfl, rfl, rfl, rfl, rfl, (by rw [← hX]; rfl), (by rw [← hX]; rfl), rfl, trivial⟩ (by simp only [inK, true_and, and_true]; simp; omega) ⟨Nat.zero_le _, r2, r3⟩ ⟨rfl, rfl, trivial⟩ ?_
        rintro ⟨j, m'⟩ ⟨g1, g2, g3⟩
        simp only at g1 g2 g3
        refine KW.goIf lay_ok F17_ok 100 rfl (by simp) rfl trivial (fun h => ?_) fun h => ?_
        · have hj : j < X.args.length := by simpa using h
          have hg : X.args.getD (Int.toNat (j : Int)) 0 = X.args[j] := by simp [List.getD_eq_getElem?_getD, hj]
          have ha := okX.args _ (List.getElem_mem hj)
          rw [List.drop_eq_getElem_cons hj, markA_cons] at g3
          generalize X.args[j] = a at hg ha g3
          obtain ⟨an, rfl⟩ := Int.eq_ofNat_of_zero_le ha.1
          refine KW.go lay_ok F17_ok 13 rfl (by simp only [true_and, and_true, Int.toNat_natCast]; omega) ?_
          refine KW.shrI rfl rfl rfl rfl rfl rfl trivial trivial ?_ ?_ ?_
          · simp only [inK]; omega
          · show (0 : Int) ≤ X.args.getD (Int.toNat (j : Int)) 0
            rw [hg]; exact ha.1
          simp only [hg]
          refine KW.goIf lay_ok F17_ok 100 rfl (by simp) rfl trivial (fun h => ?_) fun h => ?_
          · refine KW.goDS lay_ok F17_ok rfl 100 rfl 21 rfl (by decide +kernel) (by decide +kernel) rfl (by
              have h4 : n ≤ an := by simpa using h
              simp only [hnl, inK]; simp; omega) ?_ ?_
            · simp only [hkind, hnl, g2, inK, true_and, and_true, Int.toNat_natCast]
              simp +contextual
              omega
            refine KW.go lay_ok F17_ok 100 rfl (by simp only [inK, true_and, and_true, g2]; simp; omega) (KW.updB 10 rfl (KW.to (j + 1, m'.set (an : Int).toNat (m'.getD (an : Int).toNat false || carF ⟨n, ns, top⟩ s i an)) ⟨⟨by simp only; omega, by simp only [List.length_set]; exact g2, g3⟩, by simp only; omega⟩ [(2, 2), (10, 10)] ⟨rfl, rfl, ⟨rfl, rfl, rfl, rfl, rfl, rfl, rfl, rfl, rfl, rfl, trivial⟩, ⟨rfl, own_catB0 _ ?_, trivial⟩⟩))
            have h4 : n ≤ an := by simpa using h
            rw [hkind, show Int.toNat ((an : Int) - (n : Int)) = an - n by omega]
            simp only [Int.toNat_natCast, hnv, hcar]
            rw [show n + (an - n) = an by omega]
          · refine KW.goDS lay_ok F17_ok rfl 100 rfl 21 rfl (by decide +kernel) (by decide +kernel) rfl (by simp) ?_ ?_
            · simp only [hkind, hnl, g2, inK, true_and, and_true, Int.toNat_natCast]
              simp +contextual
              omega
            refine KW.go lay_ok F17_ok 100 rfl (by simp only [inK, true_and, and_true, g2]; simp; omega) (KW.updB 10 rfl (KW.to (j + 1, m'.set (an : Int).toNat (m'.getD (an : Int).toNat false || carF ⟨n, ns, top⟩ s i an)) ⟨⟨by simp only; omega, by simp only [List.length_set]; exact g2, g3⟩, by simp only; omega⟩ [(2, 2), (10, 10)] ⟨rfl, rfl, ⟨rfl, rfl, rfl, rfl, rfl, rfl, rfl, rfl, rfl, rfl, trivial⟩, ⟨rfl, own_catB0 _ ?_, trivial⟩⟩))
            have h4 : an < n := by simpa using h
            have e : (iand .i64 (ishr s an) 1 == 1) = bit s an := by
              rw [ishr_bit s (by omega)]
              cases bit s an <;> rfl
            rw [hkind, e]
            simp only [Int.toNat_natCast, hnv, hcar, hve an h4]
        · have hj : j = X.args.length := by simp at h; omega
          rw [hj, List.drop_length] at g3
          refine KW.goOut lay_ok F17_ok 100 rfl (by simp) ?_
          exact KW.goToR lay_ok F17_ok 100 rfl (i, m') [(2, 2), (10, 10)] rfl rfl ⟨rfl, rfl, rfl, rfl, rfl, rfl, rfl, trivial⟩ (by simp only [inK, true_and, and_true]; omega) ⟨⟨by simp only; omega, g2, g3⟩, by simp only; omega⟩ ⟨rfl, rfl, trivial⟩
    · have hi0 : i1 = 0 := by simp at h; omega
      subst hi0
      replace r3 : m = carM ⟨n, ns, top⟩ s := r3
      subst r3
      have hML := marksF_length ⟨n, ns, top⟩ (carF ⟨n, ns, top⟩ s)
      simp only [Int.toNat_natCast] at hML
      have hML' : (carM ⟨n, ns, top⟩ s).length = n + ns.length := hML
      generalize carM ⟨n, ns, top⟩ s = M at hML'
      have hevb := fun k => (inN_iff hn24).1 (evN_valid M hn24 k)
      refine KW.goOut lay_ok F17_ok 100 rfl (by simp) ?_
      refine KW.nilO 4 4 3 (ints []) rfl rfl rfl ?_
      refine KW.goLpR lay_ok F17_ok 100 rfl (I := fun k : Nat => ⟨Try.f24.ntmps, [(2, .e (.r 2)), (4, .e (.r 4)), (5, sI (evN M n k)), (108, .e (.r 10)), (109, sI (n + ns.length : Nat)), (110, sI k)],
          [(2, .box 24 [iV n, .c (nodesC ns), iV top] none), (10, .own 4 (bools M)), (4, .own 3 (ints (ndN M n k)))]⟩)
        (R := fun k => k ≤ n + ns.length) (m := fun k => n + ns.length - k) 0 [(2, 2), (10, 10), (4, 4)] rfl rfl ⟨rfl, rfl, rfl, rfl, ?_, rfl, trivial⟩ (by simp) (by omega) ⟨rfl, rfl, rfl, trivial⟩ ?_
      · show some (sI (M.length : Nat)) = some (sI _)
        rw [hML']
      intro k hk0
      have hnlen := ndN_length M n k
      refine KW.goIf lay_ok F17_ok 100 rfl (by simp) rfl trivial (fun h => ?_) fun h => ?_
      · have hk : k < n + ns.length := by simp at h; omega
        refine KW.goIf lay_ok F17_ok 100 rfl (by simp only [hML', Int.toNat_natCast]; simp; omega) rfl trivial (fun h => ?_) fun h => ?_
        · have h3 : (M.getD k false && decide (k < n)) = true := by
            have e : (M.getD (Int.toNat (k : Int)) false && decide ((k : Int) < (n : Int))) = true := h
            simpa using e
          have hkn : k < n := by simp at h3; omega
          have ho : 0 ≤ ishl 1 (k : Int) ∧ ishl 1 (k : Int) ≤ 16777215 := validS_iff.1 (one_valid (show k < 24 by omega))
          have hsucc : evN M n (k + 1) = ior .i64 (evN M n k) (Go.Pu.one k) := by rw [evN, if_pos h3]
          have hsucc2 : ndN M n (k + 1) = ndN M n k := by rw [ndN, if_pos h3]
          exact KW.goToR lay_ok F17_ok 100 rfl (k + 1) [(2, 2), (10, 10), (4, 4)] rfl rfl ⟨rfl, rfl, by rw [hsucc]; rfl, rfl, rfl, rfl, trivial⟩ (by simp only [inK, bitsI, true_and, and_true]; omega) ⟨by omega, by omega⟩ ⟨rfl, rfl, own_cat1 _ hsucc2.symm, trivial⟩
        · have h3 : (M.getD k false && decide (k < n)) = false := by
            have e : (M.getD (Int.toNat (k : Int)) false && decide ((k : Int) < (n : Int))) = false := h
            simpa using e
          have hsucc : evN M n (k + 1) = evN M n k := by rw [evN, if_neg (by rw [h3]; decide)]
          refine KW.goIf lay_ok F17_ok 100 rfl (by simp) rfl trivial (fun h => ?_) fun h => ?_
          · have h4 : M.getD k false = true := h
            have hsucc2 : ndN M n (k + 1) = ndN M n k ++ [(k : Int) - n] := by rw [ndN, if_neg (by rw [h3]; decide), if_pos h4]
            exact KW.goToR lay_ok F17_ok 100 rfl (k + 1) [(2, 2), (10, 10), (4, 135)] rfl rfl ⟨rfl, rfl, by rw [hsucc]; rfl, rfl, rfl, rfl, trivial⟩ (by simp [inK]; omega) ⟨by omega, by omega⟩ ⟨rfl, rfl, own_cat _ hsucc2.symm, trivial⟩
          · have h4 : ¬ M.getD k false = true := by
              have e : M.getD k false = false := h
              rw [e]; decide
            have hsucc2 : ndN M n (k + 1) = ndN M n k := by rw [ndN, if_neg (by rw [h3]; decide), if_neg h4]
            exact KW.goToR lay_ok F17_ok 100 rfl (k + 1) [(2, 2), (10, 10), (4, 4)] rfl rfl ⟨rfl, rfl, by rw [hsucc]; rfl, rfl, rfl, rfl, trivial⟩ (by simp [inK]; omega) ⟨by omega, by omega⟩ ⟨rfl, rfl, own_cat1 _ hsucc2.symm, trivial⟩
      · have hk : k = n + ns.length := by simp at h; omega
        refine KW.goOut lay_ok F17_ok 100 rfl (by simp) ?_
        refine KW.go lay_ok F17_ok 100 rfl (by simp) ?_
        refine KW.frz 4 [4] rfl rfl rfl ?_
        refine KW.fin [] rfl rfl ?_ trivial
        rw [hk]
        simp [SV.ren, renL, EV.ren, errV]
end Go.Proofs.Ytpjhpcclbenfbaa

/-
  Carriers: the specification.
-/
namespace Go.Proofs.Ytpjhpcclbenfbaa
open Go.Sy Go.Pu

theorem set_getD_self (m : List Bool) (i : Nat) : m.set i (m.getD i false) = m := by
  refine List.ext_getElem (by simp) fun j h1 h2 => ?_
  rw [List.getElem_set]
  split
  · rename_i h; subst h
    simp [List.getD_eq_getElem?_getD, h2]
  · rfl
theorem rcarriers_does (f : FormP) (s : Int) (hin : FormIn f) : DoesF Try.prog 26 [.ag (formC f), iV s] [] (.tup [lV (carNd f s), iV (carE f s), iV (stateE f s)]) [] := by
  refine DoesF.body _ Try.func26 rfl rfl rfl rfl ?_
  obtain ⟨vars, ns, top⟩ := f
  refine KW.goIf lay_ok F17_ok 100 rfl (by simp only [unN_nodesC, isN_nodesC, true_and, and_true]; exact hin) rfl trivial (fun h => ?_) fun h => ?_
  · simp only [unN_nodesC] at h
    have h1 : ¬ stateE ⟨vars, ns, top⟩ s = 0 := by
      have e : (stateE ⟨vars, ns, top⟩ s != 0) = true := h
      simpa using e
    refine KW.go lay_ok F17_ok 100 rfl (by simp) ?_
    refine KW.conv 4 (ints []) rfl ⟨rfl, rfl⟩ ?_
    refine KW.fin [] rfl rfl ?_ trivial
    simp [SV.ren, renL, EV.ren, carNd, carE, h1]
  · simp only [unN_nodesC] at h
    have h1 : stateE ⟨vars, ns, top⟩ s = 0 := by
      have e : (stateE ⟨vars, ns, top⟩ s != 0) = false := h
      simpa using e
    have h0 := (stateE_ok h1).1
    have ok : FormOk ⟨vars, ns, top⟩ := formE_ok h0
    have hs := (stateE_ok h1).2
    have hv := ok.vars
    have hn128 := ok.len
    have htop := ok.top
    simp only at hv hs hn128 htop
    obtain ⟨n, rfl⟩ := Int.eq_ofNat_of_zero_le hv.1
    have hn24 : n ≤ 24 := by omega
    have hsr := shl_rng hv
    have hnd : carNd ⟨n, ns, top⟩ s = ndN (carM ⟨n, ns, top⟩ s) n (n + ns.length) := by simp [carNd, h1]
    have hev : carE ⟨n, ns, top⟩ s = evN (carM ⟨n, ns, top⟩ s) n (n + ns.length) := by simp [carE, h1]
    rw [hnd, hev, h1]
    have hnl := nodesV_length ⟨n, ns, top⟩ s
    have hnv : ∀ i, (nodesV ⟨n, ns, top⟩ s).getD i false = (valsF ⟨n, ns, top⟩ s).getD (n + i) false := fun i => by
      rw [nodesV, List.getD_eq_getElem?_getD, List.getElem?_drop, List.getD_eq_getElem?_getD]; rfl
    have hve : ∀ i, i < n → (valsF ⟨n, ns, top⟩ s).getD i false = bit s i := fun i hi => valsF_event ⟨n, ns, top⟩ s hi
    simp only at hnl
    have hm0 := mark0_length ⟨n, ns, top⟩
    simp only [Int.toNat_natCast] at hm0
    refine KW.go lay_ok F17_ok 100 rfl (by simp only [unN_nodesC, isN_nodesC, true_and, and_true, hin, h0]; simp [inK]; omega) (KW.updB 32 rfl ?_)
    refine KW.lp (I := fun q : Nat × List Bool => ⟨Try.f26.ntmps, [(1, sI s), (2, .e (.r 2)), (8, .e (blV (nodesV ⟨n, ns, top⟩ s))), (9, .e (.r 9)), (10, sI ((q.1 : Int) - 1))],
        [(2, .box 24 [iV n, .c (nodesC ns), iV top] none), (9, .own 4 (bools q.2))]⟩)
      (R := fun q => q.1 ≤ ns.length ∧ q.2.length = n + ns.length ∧ markN n ns (carF ⟨n, ns, top⟩ s) q.1 q.2 = carM ⟨n, ns, top⟩ s) (m := fun q => q.1) (ns.length, mark0 ⟨n, ns, top⟩) ⟨Nat.le_refl _, hm0, rfl⟩ [(2, 2), (9, 32)] ⟨rfl, rfl, ⟨rfl, rfl, ?_, rfl, rfl, trivial⟩, ⟨rfl, own_catB0 _ ?_, trivial⟩⟩ ?_
    · simp only [unN_nodesC]; rfl
    · show (List.replicate (Int.toNat ((n : Int) + (ns.length : Int))) false).set top.toNat true = mark0 ⟨n, ns, top⟩
      rw [mark0]
      simp only [Int.toNat_natCast]
      congr 2
    rintro ⟨i1, m⟩ ⟨r1, r2, r3⟩
    simp only at r1 r2 r3
    refine KW.goIf lay_ok F17_ok 100 rfl (by simp) rfl trivial (fun h => ?_) fun h => ?_
    · obtain ⟨i, rfl⟩ : ∃ i, i1 = i + 1 := ⟨i1 - 1, by simp at h; omega⟩
      have hi : i < ns.length := by omega
      have hii : ((i + 1 : Nat) : Int) - 1 = (i : Int) := by omega
      have hidx : Int.toNat ((n : Int) + (i : Int)) = n + i := by omega
      rw [markN] at r3
      simp only [hii]
      refine KW.goIf lay_ok F17_ok 100 rfl (by simp only [inK, true_and, and_true, r2]; omega) rfl trivial (fun h => ?_) fun h => ?_
      · have h3 : m.getD (n + i) false = false := by
          have e : (!m.getD (Int.toNat ((n : Int) + (i : Int))) false) = true := h
          rw [hidx] at e; simpa using e
        rw [if_neg (by rw [h3]; decide)] at r3
        exact KW.goToR lay_ok F17_ok 100 rfl (i, m) [(2, 2), (9, 9)] rfl rfl ⟨rfl, rfl, rfl, rfl, rfl, trivial⟩ (by simp only [inK, true_and, and_true]; omega) ⟨⟨by simp only; omega, r2, r3⟩, by simp only; omega⟩ ⟨rfl, rfl, trivial⟩
      · have h3 : m.getD (n + i) false = true := by
          have e : (!m.getD (Int.toNat ((n : Int) + (i : Int))) false) = false := h
          rw [hidx] at e; simpa using e
        rw [if_pos h3] at r3
        have hX : ns.getD (Int.toNat (i : Int)) node0 = ns[i] := by simp [List.getD_eq_getElem?_getD, hi]
        have hX2 : ns.getD i node0 = ns[i] := hX
        have okX := ok.nodes i hi
        have hcar : ∀ a, carF ⟨n, ns, top⟩ s i a = carC ns[i].kind ((valsF ⟨n, ns, top⟩ s).getD (n + i) false) ((valsF ⟨n, ns, top⟩ s).getD a.toNat false) := fun a => by
          unfold carF; simp only [hX2, Int.toNat_natCast]
        rw [hX2] at r3
        simp only at okX
        generalize hXX : ns[i] = X at hX okX r3 hcar
        have hkind : ((ns.getD (Int.toNat (i : Int)) node0).kind) = X.kind := by rw [hX]
        have h16 := argsB_le okX.cnt
        refine KW.goLpR lay_ok F17_ok 100 rfl (I := fun q : Nat × List Bool => ⟨Try.f26.ntmps, [(1, sI s), (2, .e (.r 2)), (8, .e (blV (nodesV ⟨n, ns, top⟩ s))), (9, .e (.r 9)), (10, sI (i : Int)), (58, .e (lV X.args)), (59, sI X.args.length), (60, sI q.1)],
            [(2, .box 24 [iV n, .c (nodesC ns), iV top] none), (9, .own 4 (bools q.2))]⟩)
          (R := fun q => q.1 ≤ X.args.length ∧ q.2.length = n + ns.length ∧ markN n ns (carF ⟨n, ns, top⟩ s) i (markA (carF ⟨n, ns, top⟩ s i) q.2 (X.args.drop q.1)) = carM ⟨n, ns, top⟩ s) (m := fun q => X.args.length - q.1) (0, m) [(2, 2), (9, 9)] rfl rfl
          ⟨rfl, rfl, rfl, rfl, rfl, (by rw [← hX]; rfl), (by rw [← hX]; rfl), rfl, trivial⟩ (by simp only [inK, true_and, and_true]; simp; omega) ⟨Nat.zero_le _, r2, r3⟩ ⟨rfl, rfl, trivial⟩ ?_
        rintro ⟨j, m'⟩ ⟨g1, g2, g3⟩
        simp only at g1 g2 g3
        refine KW.goIf lay_ok F17_ok 100 rfl (by simp) rfl trivial (fun h => ?_) fun h => ?_
        · have hj : j < X.args.length := by simpa using h
          have hg : X.args.getD (Int.toNat (j : Int)) 0 = X.args[j] := by simp [List.getD_eq_getElem?_getD, hj]
          have ha := okX.args _ (List.getElem_mem hj)
          rw [List.drop_eq_getElem_cons hj, markA_cons] at g3
          have hce := car_eq ok s hi (a := X.args[j]) (by simp only [hXX]; exact List.getElem_mem hj)
          simp only [hXX, Int.toNat_natCast] at hce
          generalize X.args[j] = a at hg ha g3 hce
          have hg' : X.args.getD j 0 = a := hg
          have hI : isI (nodeC (ns.getD i node0) (0 + 1 + 1)) := isI_ints _
          have hkind' : (ns.getD i node0).kind = X.kind := hkind
          have hof := ofB_all (f := ⟨n, ns, top⟩) (s := s) (a := a) hv.1 ha.1 (by simp only; omega)
          refine KW.goD lay_ok F17_ok rfl 100 rfl (by decide +kernel) rfl (by simp only [Int.toNat_natCast]; simp; omega) ?_ ?_
          · simp only [hg, Int.toNat_natCast, hg', hI, unN_nodesC, isN_nodesC, unB_bools, isB_bools, isI_ints, hnl, true_and, and_true, Int.toNat_natCast]
            (repeat' apply And.intro) <;> omega
          refine KW.goIf lay_ok F17_ok 100 rfl (by simp) rfl trivial (fun h => ?_) fun h => ?_
          · simp only [unN_nodesC, unB_bools, Int.toNat_natCast, hg', hkind', hof, hnv, hce] at h
            rw [h, Bool.or_true] at g3
            refine KW.go lay_ok F17_ok 100 rfl (by simp only [hg, inK, true_and, and_true, g2]; omega) (KW.updB 9 rfl (KW.to (j + 1, m'.set a.toNat true) ⟨⟨by simp only; omega, by simp only [List.length_set]; exact g2, g3⟩, by simp only; omega⟩ [(2, 2), (9, 9)] ⟨rfl, rfl, ⟨rfl, rfl, rfl, rfl, rfl, rfl, rfl, rfl, trivial⟩, ⟨rfl, own_catB0 _ ?_, trivial⟩⟩))
            rw [hg]
          · simp only [unN_nodesC, unB_bools, Int.toNat_natCast, hg', hkind', hof, hnv, hce] at h
            rw [h, Bool.or_false, set_getD_self] at g3
            exact KW.goToR lay_ok F17_ok 100 rfl (j + 1, m') [(2, 2), (9, 9)] rfl rfl ⟨rfl, rfl, rfl, rfl, rfl, rfl, rfl, rfl, trivial⟩ (by simp only [inK, true_and, and_true]; omega) ⟨⟨by simp only; omega, g2, g3⟩, by simp only; omega⟩ ⟨rfl, rfl, trivial⟩
        · have hj : j = X.args.length := by simp at h; omega
          rw [hj, List.drop_length] at g3
          refine KW.goOut lay_ok F17_ok 100 rfl (by simp) ?_
          exact KW.goToR lay_ok F17_ok 100 rfl (i, m') [(2, 2), (9, 9)] rfl rfl ⟨rfl, rfl, rfl, rfl, rfl, trivial⟩ (by simp only [inK, true_and, and_true]; omega) ⟨⟨by simp only; omega, g2, g3⟩, by simp only; omega⟩ ⟨rfl, rfl, trivial⟩
    · have hi0 : i1 = 0 := by simp at h; omega
      subst hi0
      replace r3 : m = carM ⟨n, ns, top⟩ s := r3
      subst r3
      have hML := marksF_length ⟨n, ns, top⟩ (carF ⟨n, ns, top⟩ s)
      simp only [Int.toNat_natCast] at hML
      have hML' : (carM ⟨n, ns, top⟩ s).length = n + ns.length := hML
      generalize carM ⟨n, ns, top⟩ s = M at hML'
      have hevb := fun k => (inN_iff hn24).1 (evN_valid M hn24 k)
      refine KW.goOut lay_ok F17_ok 100 rfl (by simp) ?_
      refine KW.go lay_ok F17_ok 4 rfl (by simp) ?_
      refine KW.nilO 13 13 3 (ints []) rfl rfl rfl ?_
      refine KW.goLpR lay_ok F17_ok 100 rfl (I := fun k : Nat => ⟨Try.f26.ntmps, [(2, .e (.r 2)), (13, .e (.r 13)), (14, sI (evN M n k)), (83, .e (.r 9)), (84, sI (n + ns.length : Nat)), (85, sI k)],
          [(2, .box 24 [iV n, .c (nodesC ns), iV top] none), (9, .own 4 (bools M)), (13, .own 3 (ints (ndN M n k)))]⟩)
        (R := fun k => k ≤ n + ns.length) (m := fun k => n + ns.length - k) 0 [(2, 2), (9, 9), (13, 13)] rfl rfl ⟨rfl, rfl, rfl, rfl, ?_, rfl, trivial⟩ (by simp) (by omega) ⟨rfl, rfl, rfl, trivial⟩ ?_
      · show some (sI (M.length : Nat)) = some (sI _)
        rw [hML']
      intro k hk0
      have hnlen := ndN_length M n k
      refine KW.goIf lay_ok F17_ok 100 rfl (by simp) rfl trivial (fun h => ?_) fun h => ?_
      · have hk : k < n + ns.length := by simp at h; omega
        refine KW.goIf lay_ok F17_ok 100 rfl (by simp only [hML', Int.toNat_natCast]; simp; omega) rfl trivial (fun h => ?_) fun h => ?_
        · have h3 : (M.getD k false && decide (k < n)) = true := by
            have e : (M.getD (Int.toNat (k : Int)) false && decide ((k : Int) < (n : Int))) = true := h
            simpa using e
          have hkn : k < n := by simp at h3; omega
          have ho : 0 ≤ ishl 1 (k : Int) ∧ ishl 1 (k : Int) ≤ 16777215 := validS_iff.1 (one_valid (show k < 24 by omega))
          have hsucc : evN M n (k + 1) = ior .i64 (evN M n k) (Go.Pu.one k) := by rw [evN, if_pos h3]
          have hsucc2 : ndN M n (k + 1) = ndN M n k := by rw [ndN, if_pos h3]
          exact KW.goToR lay_ok F17_ok 100 rfl (k + 1) [(2, 2), (9, 9), (13, 13)] rfl rfl ⟨rfl, rfl, by rw [hsucc]; rfl, rfl, rfl, rfl, trivial⟩ (by simp only [inK, bitsI, true_and, and_true]; omega) ⟨by omega, by omega⟩ ⟨rfl, rfl, own_cat1 _ hsucc2.symm, trivial⟩
        · have h3 : (M.getD k false && decide (k < n)) = false := by
            have e : (M.getD (Int.toNat (k : Int)) false && decide ((k : Int) < (n : Int))) = false := h
            simpa using e
          have hsucc : evN M n (k + 1) = evN M n k := by rw [evN, if_neg (by rw [h3]; decide)]
          refine KW.goIf lay_ok F17_ok 100 rfl (by simp) rfl trivial (fun h => ?_) fun h => ?_
          · have h4 : M.getD k false = true := h
            have hsucc2 : ndN M n (k + 1) = ndN M n k ++ [(k : Int) - n] := by rw [ndN, if_neg (by rw [h3]; decide), if_pos h4]
            exact KW.goToR lay_ok F17_ok 100 rfl (k + 1) [(2, 2), (9, 9), (13, 108)] rfl rfl ⟨rfl, rfl, by rw [hsucc]; rfl, rfl, rfl, rfl, trivial⟩ (by simp [inK]; omega) ⟨by omega, by omega⟩ ⟨rfl, rfl, own_cat _ hsucc2.symm, trivial⟩
          · have h4 : ¬ M.getD k false = true := by
              have e : M.getD k false = false := h
              rw [e]; decide
            have hsucc2 : ndN M n (k + 1) = ndN M n k := by rw [ndN, if_neg (by rw [h3]; decide), if_neg h4]
            exact KW.goToR lay_ok F17_ok 100 rfl (k + 1) [(2, 2), (9, 9), (13, 13)] rfl rfl ⟨rfl, rfl, by rw [hsucc]; rfl, rfl, rfl, rfl, trivial⟩ (by simp [inK]; omega) ⟨by omega, by omega⟩ ⟨rfl, rfl, own_cat1 _ hsucc2.symm, trivial⟩
      · have hk : k = n + ns.length := by simp at h; omega
        refine KW.goOut lay_ok F17_ok 100 rfl (by simp) ?_
        refine KW.go lay_ok F17_ok 100 rfl (by simp) ?_
        refine KW.frz 13 [4] rfl rfl rfl ?_
        refine KW.fin [] rfl rfl ?_ trivial
        rw [hk]
        simp [SV.ren, renL, EV.ren]
end Go.Proofs.Ytpjhpcclbenfbaa
