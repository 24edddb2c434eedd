/-
  FmK, FmL, FmM, FmN, one text.
-/
import Derived.Test.YtpjhpcclbenfbaaFmH
import Derived.Test.YtpjhpcclbenfbaaPuN
import Derived.Test.YtpjhpcclbenfbaaSyX
import Derived.Test.YtpjhpcclbenfbaaShelf
set_option linter.unusedVariables false
set_option linter.unusedSimpArgs false
/-
  Formulas: the value by the specification; cubes; tables.
-/
namespace Go.Sy
open Go.Pu
def unC : CV → List (Int × Int)
  | .sl n _ f => (List.range n).map fun e => (cvInt (f e 0), cvInt (f e 1))
  | _ => []
def isC (x : CV) : Prop := CVEq x (cubes (unC x))
@[simp] theorem unC_cubes (xs : List (Int × Int)) : unC (cubes xs) = xs := by
  unfold unC cubes rows
  refine List.ext_getElem (by simp) fun j h1 h2 => ?_
  simp [List.getD_eq_getElem?_getD, h2, cvInt, cubeC]
@[simp] theorem isC_cubes (xs : List (Int × Int)) : isC (cubes xs) := by unfold isC; rw [unC_cubes]; exact CVEq.refl _
def fBII (g : List Bool → Int → Int → SV) (p : List Bool → Int → Int → Prop) : List EV → Option (SV × Prop)
  | [.c x, .c (.lit (.int .i64 a)), .c (.lit (.int .i64 b))] => some (g (unB x) a b, isB x ∧ p (unB x) a b)
  | _ => none
def fFII (g : FormP → Int → Int → SV) (p : FormP → Int → Int → Prop) : List EV → Option (SV × Prop)
  | [.ag [.lit (.int .i64 a), x, .lit (.int .i64 b)], .c (.lit (.int .i64 s)), .c (.lit (.int .i64 i))] => some (g ⟨a, unN x, b⟩ s i, isN x ∧ p ⟨a, unN x, b⟩ s i)
  | _ => none
def fCsCs (g : List (Int × Int) → List (Int × Int) → SV) (p : List (Int × Int) → List (Int × Int) → Prop) : List EV → Option (SV × Prop)
  | [.c x, .c y] => some (g (unC x) (unC y), isC x ∧ isC y ∧ p (unC x) (unC y))
  | _ => none
def fCs (g : List (Int × Int) → SV) (p : List (Int × Int) → Prop) : List EV → Option (SV × Prop)
  | [.c x] => some (g (unC x), isC x ∧ p (unC x))
  | _ => none
def fCC (g : Int × Int → Int × Int → SV) (p : Int × Int → Int × Int → Prop) : List EV → Option (SV × Prop)
  | [.ag [.lit (.int .i64 a), .lit (.int .i64 b)], .ag [.lit (.int .i64 c), .lit (.int .i64 d)]] => some (g (a, b) (c, d), p (a, b) (c, d))
  | _ => none
def fC (g : Int × Int → SV) (p : Int × Int → Prop) : List EV → Option (SV × Prop)
  | [.ag [.lit (.int .i64 a), .lit (.int .i64 b)]] => some (g (a, b), p (a, b))
  | _ => none
section
variable {P : Program} {f : FuncId}
theorem fBII_ok {g : List Bool → Int → Int → SV} {p : List Bool → Int → Int → Prop} (h : ∀ v a b, p v a b → DoesF P f [.c (bools v), iV a, iV b] [] (g v a b) []) : ∀ ys y φ, fBII g p ys = some (y, φ) → φ → DoesF P f ys [] y [] := by
  intro ys y φ he hφ
  unfold fBII at he
  split at he
  · simp only [Option.some.injEq, Prod.mk.injEq] at he
    obtain ⟨rfl, rfl⟩ := he
    refine DoesF.conv ?_ (h _ _ _ hφ.2)
    exact ⟨hφ.1, CVEq.refl _, CVEq.refl _, trivial⟩
  · cases he
theorem fFII_ok {g : FormP → Int → Int → SV} {p : FormP → Int → Int → Prop} (h : ∀ x s i, p x s i → DoesF P f [.ag (formC x), iV s, iV i] [] (g x s i) []) : ∀ ys y φ, fFII g p ys = some (y, φ) → φ → DoesF P f ys [] y [] := by
  intro ys y φ he hφ
  unfold fFII at he
  split at he
  · simp only [Option.some.injEq, Prod.mk.injEq] at he
    obtain ⟨rfl, rfl⟩ := he
    refine DoesF.conv ?_ (h _ _ _ hφ.2)
    exact ⟨form_eq hφ.1, CVEq.refl _, CVEq.refl _, trivial⟩
  · cases he
theorem fCsCs_ok {g : List (Int × Int) → List (Int × Int) → SV} {p : List (Int × Int) → List (Int × Int) → Prop} (h : ∀ a b, p a b → DoesF P f [.c (cubes a), .c (cubes b)] [] (g a b) []) : ∀ ys y φ, fCsCs g p ys = some (y, φ) → φ → DoesF P f ys [] y [] := by
  intro ys y φ he hφ
  unfold fCsCs at he
  split at he
  · simp only [Option.some.injEq, Prod.mk.injEq] at he
    obtain ⟨rfl, rfl⟩ := he
    refine DoesF.conv ?_ (h _ _ hφ.2.2)
    exact ⟨hφ.1, hφ.2.1, trivial⟩
  · cases he
theorem fCs_ok {g : List (Int × Int) → SV} {p : List (Int × Int) → Prop} (h : ∀ a, p a → DoesF P f [.c (cubes a)] [] (g a) []) : ∀ ys y φ, fCs g p ys = some (y, φ) → φ → DoesF P f ys [] y [] := by
  intro ys y φ he hφ
  unfold fCs at he
  split at he
  · simp only [Option.some.injEq, Prod.mk.injEq] at he
    obtain ⟨rfl, rfl⟩ := he
    refine DoesF.conv ?_ (h _ hφ.2)
    exact ⟨hφ.1, trivial⟩
  · cases he
theorem fCC_ok {g : Int × Int → Int × Int → SV} {p : Int × Int → Int × Int → Prop} (h : ∀ a b, p a b → DoesF P f [.ag (cubeL a), .ag (cubeL b)] [] (g a b) []) : ∀ ys y φ, fCC g p ys = some (y, φ) → φ → DoesF P f ys [] y [] := by
  intro ys y φ he hφ
  unfold fCC at he
  split at he
  · simp only [Option.some.injEq, Prod.mk.injEq] at he
    obtain ⟨rfl, rfl⟩ := he
    exact h _ _ hφ
  · cases he
theorem fC_ok {g : Int × Int → SV} {p : Int × Int → Prop} (h : ∀ a, p a → DoesF P f [.ag (cubeL a)] [] (g a) []) : ∀ ys y φ, fC g p ys = some (y, φ) → φ → DoesF P f ys [] y [] := by
  intro ys y φ he hφ
  unfold fC at he
  split at he
  · simp only [Option.some.injEq, Prod.mk.injEq] at he
    obtain ⟨rfl, rfl⟩ := he
    exact h _ hφ
  · cases he
end
end Go.Sy
namespace Go.Proofs.Ytpjhpcclbenfbaa
open Go.Sy Go.Pu

abbrev clV (l : List (Int × Int)) : EV := .c (cubes l)

def F9 : Fns := (64, fFI (fun f s => .tup [blV (if stateE f s = 0 then nodesV f s else []), eV (stateE f s)]) fun f s => FormIn f) ::
  (67, fFI (fun f s => .e (blV (nodesV f s))) fun f s => FormIn f ∧ formE f = 0) ::
  F8
theorem F9_ok : FnsOk Try.prog F9 := .cons (.cons (F8_ok) Try.func67 rfl rfl (fFI_ok fun f s h => rvalues_does f s h.1 h.2)) Try.func64 rfl rfl (fFI_ok fun f s h => fvalues_does f s h)


theorem ofB_all {f : FormP} {s a : Int} (hv : 0 ≤ f.vars) (h0 : 0 ≤ a) (h1 : a < f.vars + f.nodes.length) : ofB f (nodesV f s) s a = (valsF f s).getD a.toNat false := by
  have := ofB_pre (f := f) (s := s) hv (Nat.le_refl _) [] h0 h1
  rwa [List.append_nil, valsN_all _ _ (Nat.le_refl _)] at this
theorem rvalue_does (f : FormP) (s : Int) (hin : FormIn f) (h0 : formE f = 0) : DoesF Try.prog 66 [.ag (formC f), iV s] [] (sB (valueF f s)) [] := by
  refine DoesF.body _ Try.func66 rfl rfl rfl rfl ?_
  have ok := formE_ok h0
  have ht := ok.top
  have hv := ok.vars
  have hl := nodesV_length f s
  have hof := ofB_all (s := s) hv.1 ht.1 ht.2
  obtain ⟨vars, ns, top⟩ := f
  simp only at ht hl hv hof
  refine KW.goD lay_ok F9_ok rfl 100 rfl (by decide) rfl (by simp) (by simp only [unN_nodesC, isN_nodesC, unB_bools, isB_bools, true_and, and_true, hl]; exact ⟨⟨hin, h0⟩, hv, ht⟩) ?_
  refine KW.goRet lay_ok F9_ok 100 rfl rfl ?_ (by simp) trivial
  simp only [SV.ren, EV.ren, unN_nodesC, unB_bools, hof]
  rfl

theorem cubes_does (a b : List (Int × Int)) : DoesF Try.prog 22 [clV a, clV b] [] (sB (decide (a = b))) [] := by
  refine DoesF.body _ Try.func22 rfl rfl rfl rfl ?_
  refine KW.len 0 rfl rfl fun hla => ?_
  refine KW.goIf lay_ok F9_ok 100 rfl (by simp) rfl trivial (fun h => ?_) fun h => ?_
  · refine KW.goRet lay_ok F9_ok 100 rfl rfl ?_ (by simp) trivial
    have hne : a ≠ b := fun e => by subst e; simp at h
    rw [decide_eq_false hne]; rfl
  · have hl : a.length = b.length := by simp at h; omega
    refine KW.goLp lay_ok F9_ok 100 rfl (I := fun q : Nat => ⟨Try.f22.ntmps, [(0, .e (clV a)), (1, .e (clV b)), (12, sI a.length), (13, sI q)], []⟩) (R := fun q => q ≤ a.length ∧ a.take q = b.take q) (m := fun q => a.length - q) 0 rfl ⟨rfl, rfl, rfl, rfl, trivial⟩ (by simp) ⟨by simp, by simp⟩ trivial ?_
    rintro q ⟨h1, h2⟩
    refine KW.goIf lay_ok F9_ok 100 rfl (by simp) rfl trivial (fun h => ?_) fun h => ?_
    · have hq : q < a.length := by simpa using h
      have hq' : q < b.length := by omega
      refine KW.goD lay_ok F9_ok rfl 100 rfl (by decide) rfl (by simp) (by simp; omega) ?_
      refine KW.goIf lay_ok F9_ok 100 rfl (by simp) rfl trivial (fun h => ?_) fun h => ?_
      · refine KW.goOutR lay_ok F9_ok 100 rfl (by simp) ?_
        refine KW.goRet lay_ok F9_ok 100 rfl rfl ?_ (by simp) trivial
        have hne : a ≠ b := fun e => by subst e; simp at h
        rw [decide_eq_false hne]; rfl
      · refine KW.goTo lay_ok F9_ok 100 rfl (q + 1) rfl ⟨rfl, rfl, rfl, rfl, trivial⟩ (by simp [inK]; omega) ⟨⟨by omega, ?_⟩, by omega⟩ trivial
        have e : a[q] = b[q] := by
          have h3 : a.getD q (0, 0) = a[q] := by simp [List.getD_eq_getElem?_getD, hq]
          have h4 : b.getD q (0, 0) = b[q] := by simp [List.getD_eq_getElem?_getD, hq']
          have h5 : (!decide ([(a.getD (Int.toNat (q : Int)) (0, 0)).1, (a.getD (Int.toNat (q : Int)) (0, 0)).2] = [(b.getD (Int.toNat (q : Int)) (0, 0)).1, (b.getD (Int.toNat (q : Int)) (0, 0)).2])) = false := h
          rw [Int.toNat_natCast, h3, h4] at h5
          simp only [Bool.not_eq_false', decide_eq_true_eq, List.cons.injEq, and_true] at h5
          exact Prod.ext h5.1 h5.2
        rw [List.take_succ_eq_append_getElem hq, List.take_succ_eq_append_getElem hq', h2, e]
    · have hq : q = a.length := by simp at h; omega
      refine KW.goOut lay_ok F9_ok 100 rfl (by simp) ?_
      refine KW.goRet lay_ok F9_ok 100 rfl rfl ?_ (by simp) trivial
      have e : a = b := by
        rw [hq, List.take_length] at h2
        rw [h2, hl, List.take_length]
      rw [decide_eq_true e]; rfl

theorem cube_does (s e : Int) : DoesF Try.prog 56 [iV s, iV e] [] (.e (.ag (cubeL (cubeV s e)))) [] := by
  refine DoesF.bodyC lay_ok _ Try.func56 rfl rfl rfl rfl ?_
  exact KW.goRetC lay_ok F9_ok 100 rfl rfl rfl (by simp) trivial
theorem literals_does (s e : Int) : DoesF Try.prog 61 [iV s, iV e] [] (.e (.ag (cubeL (cubeV s e)))) [] := by
  refine DoesF.bodyC lay_ok _ Try.func61 rfl rfl rfl rfl ?_
  exact KW.goRetC lay_ok F9_ok 100 rfl rfl rfl (by simp) trivial

def F10 : Fns := (66, fFI (fun f s => sB (valueF f s)) fun f s => FormIn f ∧ formE f = 0) ::
  (22, fCsCs (fun a b => sB (decide (a = b))) fun _ _ => True) ::
  (56, fII (fun s e => .e (.ag (cubeL (cubeV s e)))) fun _ _ => True) ::
  (61, fII (fun s e => .e (.ag (cubeL (cubeV s e)))) fun _ _ => True) ::
  F9
theorem F10_ok : FnsOk Try.prog F10 := .cons (.cons (.cons (.cons (F9_ok) Try.func61 rfl rfl (fII_ok fun s e _ => literals_does s e)) Try.func56 rfl rfl (fII_ok fun s e _ => cube_does s e)) Try.func22 rfl rfl (fCsCs_ok fun a b _ => cubes_does a b)) Try.func66 rfl rfl (fFI_ok fun f s h => rvalue_does f s h.1 h.2)


theorem rsame_does (f : FormP) (n : Nat) (s e : Int) (hin : FormIn f) (h0 : formE f = 0) (hn : f.vars = n) (hs : inN n s) : DoesF Try.prog 60 [.ag (formC f), iV s, iV e] [] (sB (okV f n s e)) [] := by
  refine DoesF.body _ Try.func60 rfl rfl rfl rfl ?_
  have ok := formE_ok h0
  have hv := ok.vars
  have hn24 : n ≤ 24 := by omega
  have hp : 2 ^ n ≤ 2 ^ 24 := Nat.pow_le_pow_right (by decide) hn24
  have h24 : (2 : Nat) ^ 24 = 16777216 := rfl
  obtain ⟨sn, rfl, hsn⟩ := hs.nat hn24
  have hiff := sameV_iff (vs := tabF f n) (n := n) (state := (sn : Int)) (set := e)
  rw [Int.toNat_natCast, tabF_get f hsn] at hiff
  obtain ⟨vars, ns, top⟩ := f
  simp only at hn hv
  subst hn
  refine KW.goLpR lay_ok F10_ok 100 rfl (I := fun q : Nat => ⟨Try.f60.ntmps, [(1, sI sn), (2, sI e), (3, .e (.r 3)), (7, sB (valueF ⟨n, ns, top⟩ sn)), (14, sI (ishl 1 (n : Int))), (15, sI q)], [(3, .box 24 [iV n, .c (nodesC ns), iV top] none)]⟩)
    (R := fun q => q ≤ 2 ^ n ∧ ∀ x : Nat, x < q → iand .i64 (ixor .i64 (x : Int) sn) e = 0 → valueF ⟨n, ns, top⟩ x = valueF ⟨n, ns, top⟩ sn) (m := fun q => 2 ^ n - q) 0 [(3, 3)] rfl rfl ⟨rfl, rfl, rfl, by simp only [unN_nodesC]; rfl, rfl, rfl, trivial⟩ (by simp only [unN_nodesC, isN_nodesC, true_and, and_true, inK, bitsI, ishl_one]; exact ⟨⟨hin, h0⟩, by omega⟩) ⟨by omega, by simp⟩ ⟨rfl, trivial⟩ ?_
  rintro q ⟨h1, h2⟩
  refine KW.goIf lay_ok F10_ok 100 rfl (by simp) rfl trivial (fun h => ?_) fun h => ?_
  · have hq : q < 2 ^ n := by
      have e1 : decide ((q : Int) < ishl 1 (n : Int)) = true := h
      rw [ishl_one, decide_eq_true_eq] at e1; omega
    refine KW.goIf lay_ok F10_ok 100 rfl (by simp only [unN_nodesC, isN_nodesC, true_and, and_true]; simp +contextual [hin, h0]) rfl trivial (fun h => ?_) fun h => ?_
    · simp only [unN_nodesC] at h
      have e1 : iand .i64 (ixor .i64 (q : Int) sn) e = 0 ∧ ¬ valueF ⟨n, ns, top⟩ q = valueF ⟨n, ns, top⟩ sn := by simpa using h
      refine KW.goOutR lay_ok F10_ok 100 rfl (by simp) ?_
      refine KW.goRet lay_ok F10_ok 100 rfl rfl ?_ (by simp) trivial
      have e2 : okV ⟨n, ns, top⟩ n sn e = false := by
        cases hk : okV ⟨n, ns, top⟩ n sn e with
        | false => rfl
        | true => exact absurd (by rw [← tabF_get _ hq]; exact hiff.1 hk q hq e1.1) e1.2
      rw [e2]; rfl
    · simp only [unN_nodesC] at h
      refine KW.goToR lay_ok F10_ok 100 rfl (q + 1) [(3, 3)] rfl rfl ⟨rfl, rfl, rfl, rfl, rfl, rfl, trivial⟩ (by simp [inK]; omega) ⟨⟨by omega, fun x hx hc => ?_⟩, by omega⟩ ⟨rfl, trivial⟩
      by_cases hxq : x = q
      · subst hxq
        simp only [hc, beq_self_eq_true, Bool.true_and] at h
        simpa using h
      · exact h2 x (by omega) hc
  · have hq : q = 2 ^ n := by
      have e1 : decide ((q : Int) < ishl 1 (n : Int)) = false := h
      rw [ishl_one, decide_eq_false_iff_not] at e1; omega
    refine KW.goOut lay_ok F10_ok 100 rfl (by simp) ?_
    refine KW.goRet lay_ok F10_ok 100 rfl rfl ?_ (by simp) trivial
    have e2 : okV ⟨n, ns, top⟩ n sn e = true := hiff.2 fun x hx hc => by rw [tabF_get _ hx]; exact h2 x (by omega) hc
    rw [e2]; rfl
end Go.Proofs.Ytpjhpcclbenfbaa

/-
  Formulas: which sets of events decide a value: the code.
-/
namespace Go.Proofs.Ytpjhpcclbenfbaa
open Go.Sy Go.Pu

def sameQ (vs : List Bool) (state set : Int) : Bool := sameV vs (Nat.log2 vs.length) state set
theorem sameQ_eq {vs : List Bool} {n : Nat} (h : vs.length = 2 ^ n) (state set : Int) : sameQ vs state set = sameV vs n state set := by
  rw [sameQ, h, Nat.log2_two_pow]
theorem same_does (vs : List Bool) (state set : Int) {n : Nat} (hn : n ≤ 24) (hl : vs.length = 2 ^ n) (h1 : inN n state) (h2 : inN n set) : DoesF Try.prog 101 [blV vs, iV state, iV set] [] (sB (sameQ vs state set)) [] := by
  rw [sameQ_eq hl]
  refine DoesF.body _ Try.func101 rfl rfl rfl rfl ?_
  have hp : 2 ^ n ≤ 2 ^ 24 := Nat.pow_le_pow_right (by decide) hn
  have h24 : (2 : Nat) ^ 24 = 16777216 := rfl
  have hpos := Nat.two_pow_pos n
  have hF : inN n (iandNot .i64 (allN n) set) := inN_iandNot hn (inN_allN hn)
  have hall : (vs.length : Int) - 1 = allN n := by unfold allN; omega
  have hsn := (inN_iff hn).1 h1
  have hiff := sameV_iff (vs := vs) (n := n) (state := state) (set := set)
  have hb1 := (inN_iff hn).1 h1
  generalize hFF : iandNot .i64 (allN n) set = F at hF
  refine KW.goLp lay_ok F10_ok 100 rfl (I := fun s : Int => ⟨Try.f101.ntmps, [(0, .e (blV vs)), (1, sI state), (2, sI set), (7, sI F), (8, sI s)], []⟩)
    (R := fun s => inN n s ∧ Part s F ∧ ∀ t, inN n t → Part t F → s < t → vs.getD (ior .i64 (iand .i64 state set) t).toNat false = vs.getD state.toNat false) (m := fun s => s.toNat) F rfl ⟨rfl, rfl, rfl, by rw [← hFF, ← hall]; rfl, by rw [← hFF, ← hall]; rfl, trivial⟩ (by simp [inK]; omega) ⟨hF, Part.refl _, fun t ht hp hlt => ?_⟩ trivial ?_
  · have e1 := (inN_iff hn).1 ht
    have e2 := (iand_part ht.1).2 hp
    have e3 := (inN_iff hn).1 hF
    obtain ⟨a, rfl, ha⟩ := ht.nat hn
    obtain ⟨b, rfl, hb⟩ := hF.nat hn
    rw [iand_nat a b (by omega) (by omega)] at e2
    have : a &&& b ≤ b := Nat.and_le_right
    omega
  rintro s ⟨g1, g2, g3⟩
  have hst := like_state hn h1 h2 g1 (by rw [hFF]; exact g2)
  have hb := (inN_iff hn).1 hst.1
  have hs := (inN_iff hn).1 g1
  refine KW.goD lay_ok F10_ok rfl 100 rfl (by decide) rfl (by simp) (by simp only [inK, true_and, and_true, hl]; omega) ?_
  refine KW.goIf lay_ok F10_ok 100 rfl (by simp) rfl trivial (fun h => ?_) fun h => ?_
  · have e1 : ¬ vs.getD (ior .i64 (iand .i64 state set) s).toNat false = vs.getD state.toNat false := by
      have e : (vs.getD (ior .i64 (iand .i64 state set) s).toNat false != vs.getD state.toNat false) = true := h
      simpa using e
    refine KW.goOutR lay_ok F10_ok 100 rfl (by simp) ?_
    refine KW.goRet lay_ok F10_ok 100 rfl rfl ?_ (by simp) trivial
    have e2 : sameV vs n state set = false := by
      cases hk : sameV vs n state set with
      | false => rfl
      | true =>
        have := hiff.1 hk (ior .i64 (iand .i64 state set) s).toNat (by omega) (by rw [Int.toNat_of_nonneg hb.1]; exact hst.2)
        exact absurd this e1
    rw [e2]; rfl
  · have e1 : vs.getD (ior .i64 (iand .i64 state set) s).toNat false = vs.getD state.toNat false := by
      have e : (vs.getD (ior .i64 (iand .i64 state set) s).toNat false != vs.getD state.toNat false) = false := h
      simpa using e
    refine KW.goIf lay_ok F10_ok 100 rfl (by simp) rfl trivial (fun h => ?_) fun h => ?_
    · have h0 : s = 0 := by simpa using h
      subst h0
      refine KW.goOutR lay_ok F10_ok 100 rfl (by simp) ?_
      refine KW.goRet lay_ok F10_ok 100 rfl rfl ?_ (by simp) trivial
      have e2 : sameV vs n state set = true := by
        refine hiff.2 fun x hx hc => ?_
        obtain ⟨k1, k2, k3⟩ := like_free hn h1 h2 ((inN_iff hn).2 ⟨by omega, by omega⟩ : inN n (x : Int)) hc
        rw [hFF] at k2
        by_cases hz : iandNot .i64 (x : Int) set = 0
        · rw [hz] at k3
          rw [k3, Int.toNat_natCast] at e1
          exact e1
        · have := g3 _ k1 k2 (by have := ((inN_iff hn).1 k1).1; omega)
          rw [k3, Int.toNat_natCast] at this
          exact this
      rw [e2]; rfl
    · have h0 : ¬ s = 0 := by simpa using h
      have hz : inN n 0 := (inN_iff hn).2 ⟨by omega, by omega⟩
      have hnx := fun t ht hp hlt => part_next hn (s := s) (t := t) (f := F) g1 ht hF g2 hp hlt
      have hn0 := hnx 0 hz (fun i hi => by simp at hi) (by omega)
      refine KW.goTo lay_ok F10_ok 100 rfl (iand .i64 (s - 1) F) rfl ⟨rfl, rfl, rfl, rfl, rfl, trivial⟩ (by simp [inK]; omega) ⟨⟨hn0.2.2.1, hn0.2.2.2, fun t ht hp hlt => ?_⟩, by have := ((inN_iff hn).1 hn0.2.2.1).1; omega⟩ trivial
      by_cases hts : t = s
      · rw [hts]; exact e1
      · refine g3 t ht hp ?_
        rcases Int.lt_or_le s t with h | h
        · exact h
        · have := (hnx t ht hp (by omega)).1
          omega

def F11 : Fns := (60, fFII (fun f s e => sB (okV f f.vars.toNat s e)) fun f s e => FormIn f ∧ formE f = 0 ∧ inN f.vars.toNat s) ::
  (101, fBII (fun v a b => sB (sameQ v a b)) fun v a b => ∃ n, n ≤ 24 ∧ v.length = 2 ^ n ∧ inN n a ∧ inN n b) ::
  F10
theorem F11_ok : FnsOk Try.prog F11 := .cons (.cons (F10_ok) Try.func101 rfl rfl (fBII_ok fun v a b h => by obtain ⟨n, h1, h2, h3, h4⟩ := h; exact same_does v a b h1 h2 h3 h4)) Try.func60 rfl rfl (fFII_ok fun f s e h => rsame_does f f.vars.toNat s e h.1 h.2.1 (by have := (formE_ok h.2.1).vars; omega) h.2.2)


/-- what a table's error is -/
theorem tableE_ok {f : FormP} {s : Int} (h : tableE f s = 0) : stateE f s = 0 ∧ f.vars ≤ 12 := by
  unfold tableE at h
  split at h
  · split at h
    · cases h
    · exact ⟨by assumption, by omega⟩
  · contradiction
theorem agree_does (f : FormP) (s : Int) (hin : FormIn f) : DoesF Try.prog 55 [.ag (formC f), iV s] [] (.tup [blV (if tableE f s = 0 then agreeL f f.vars.toNat s else []), eV (tableE f s)]) [] := by
  refine DoesF.body _ Try.func55 rfl rfl rfl rfl ?_
  obtain ⟨vars, ns, top⟩ := f
  refine KW.goIf lay_ok F11_ok 100 rfl (by simp only [unN_nodesC, isN_nodesC, true_and, and_true, ifcV_errV]; exact hin) rfl trivial (fun h => ?_) fun h => ?_
  · simp only [unN_nodesC] at h
    have h1 : ¬ stateE ⟨vars, ns, top⟩ s = 0 := by
      have e : (!isNilB (errV 66 (stateE ⟨vars, ns, top⟩ s))) = true := h
      simpa using e
    have h2 : tableE ⟨vars, ns, top⟩ s = stateE ⟨vars, ns, top⟩ s := by rw [tableE, if_neg h1]
    refine KW.go lay_ok F11_ok 100 rfl (by simp) ?_
    refine KW.conv 4 (bools []) rfl ⟨rfl, rfl⟩ ?_
    refine KW.fin [] rfl rfl ?_ trivial
    simp [SV.ren, renL, EV.ren, h1, h2]
  · simp only [unN_nodesC] at h
    have h1 : stateE ⟨vars, ns, top⟩ s = 0 := by
      have e : (!isNilB (errV 66 (stateE ⟨vars, ns, top⟩ s))) = false := h
      simpa using e
    have ok : FormOk ⟨vars, ns, top⟩ := formE_ok (stateE_ok h1).1
    have hs := (stateE_ok h1).2
    have hv := ok.vars
    simp only at hv hs
    obtain ⟨n, rfl⟩ := Int.eq_ofNat_of_zero_le hv.1
    refine KW.goIf lay_ok F11_ok 100 rfl (by simp) rfl trivial (fun h => ?_) fun h => ?_
    · have h2 : (12 : Int) < n := by simpa using h
      have h3 : tableE ⟨n, ns, top⟩ s = 4 := by rw [tableE, if_pos h1, if_pos h2]
      refine KW.go lay_ok F11_ok 100 rfl (by simp) ?_
      refine KW.conv 4 (bools []) rfl ⟨rfl, rfl⟩ ?_
      refine KW.fin [] rfl rfl ?_ trivial
      rw [h3]
      simp [SV.ren, renL, EV.ren, errV]
    · have h2 : ¬ (12 : Int) < n := by
        have e : decide ((12 : Int) < (n : Int)) = false := h
        rwa [decide_eq_false_iff_not] at e
      have h3 : tableE ⟨n, ns, top⟩ s = 0 := by rw [tableE, if_pos h1, if_neg h2]
      have hn24 : n ≤ 24 := by omega
      have hp : 2 ^ n ≤ 2 ^ 12 := Nat.pow_le_pow_right (by decide) (by omega)
      have h12 : (2 : Nat) ^ 12 = 4096 := rfl
      have hsn : inN n s := (inN_iff hn24).2 ⟨hs.1, by rw [← ishl_one]; exact hs.2⟩
      have hinx : ∀ x : Nat, x < 2 ^ n → inN n (x : Int) := fun x hx => (inN_iff hn24).2 ⟨by omega, by omega⟩
      have hish := ishl_one n
      have htl : (tabF ⟨n, ns, top⟩ n).length = 2 ^ n := tabF_length _ n
      have hag : agreeL ⟨n, ns, top⟩ n s = (List.range (2 ^ n)).map fun x : Nat => okV ⟨n, ns, top⟩ n s x := rfl
      have htab : tabF ⟨n, ns, top⟩ n = (List.range (2 ^ n)).map fun x : Nat => valueF ⟨n, ns, top⟩ x := rfl
      have hsq := sameQ_eq htl
      rw [h3]
      generalize 2 ^ n = N at hp hinx hish htl hag htab
      refine KW.go lay_ok F11_ok 100 rfl (by simp only [inK, bitsI, hish, true_and, and_true]; omega) ?_
      refine KW.nilO 7 7 4 (bools []) rfl rfl rfl ?_
      have hst : ∀ x : Nat, x < N → stateE ⟨n, ns, top⟩ x = 0 := fun x hx => stateE_eq (stateE_ok h1).1 ⟨by omega, by simp only [hish]; omega⟩
      have hval : ∀ x : Nat, x < N → valV ⟨n, ns, top⟩ x = valueF ⟨n, ns, top⟩ x := fun x hx => by simp [valV, hst x hx]
      refine KW.lp (I := fun q : Nat => ⟨Try.f55.ntmps, [(1, sI s), (2, .e (.r 2)), (7, .e (.r 7)), (25, sI (ishl 1 (n : Int))), (26, sI q)],
          [(2, .box 24 [iV n, .c (nodesC ns), iV top] none), (7, .own 4 (bools ((List.range q).map fun x : Nat => valueF ⟨n, ns, top⟩ x)))]⟩)
        (R := fun q => q ≤ N) (m := fun q => N - q) 0 (by omega) [(2, 2), (7, 7)] ⟨rfl, rfl, ⟨rfl, rfl, rfl, rfl, rfl, trivial⟩, ⟨rfl, rfl, trivial⟩⟩ ?_
      rintro q hq0
      refine KW.goIf lay_ok F11_ok 100 rfl (by simp) rfl trivial (fun h => ?_) fun h => ?_
      · have hq : q < N := by
          have e1 : decide ((q : Int) < ishl 1 (n : Int)) = true := h
          rw [hish, decide_eq_true_eq] at e1; omega
        refine KW.goIf lay_ok F11_ok 100 rfl (by simp only [unN_nodesC, isN_nodesC, true_and, and_true, ifcV_errV]; exact hin) rfl trivial (fun h => ?_) fun h => ?_
        · simp only [unN_nodesC, hst q hq] at h
          exact absurd h (by decide)
        · simp only [unN_nodesC]
          refine KW.go lay_ok F11_ok 100 rfl (by simp [inK]; omega) (KW.catB 41 rfl (KW.to (q + 1) ⟨by omega, by omega⟩ [(2, 2), (7, 41)] ⟨rfl, rfl, ⟨rfl, rfl, rfl, rfl, rfl, trivial⟩, ⟨rfl, own_catB0 _ ?_, trivial⟩⟩))
          rw [hval q hq, List.range_succ, List.map_append]; rfl
      · have hq : q = N := by
          have e1 : decide ((q : Int) < ishl 1 (n : Int)) = false := h
          rw [hish, decide_eq_false_iff_not] at e1; omega
        replace hq := hq.symm; subst hq
        refine KW.goOut lay_ok F11_ok 100 rfl (by simp) ?_
        refine KW.goLpR lay_ok F11_ok 100 rfl (I := fun p : Nat => ⟨Try.f55.ntmps, [(1, sI s), (7, .e (.r 7)), (11, .e (.r 11)), (47, sI N), (48, sI p)],
            [(7, .own 4 (bools (tabF ⟨n, ns, top⟩ n))), (11, .own 4 (bools (((List.range p).map fun x : Nat => okV ⟨n, ns, top⟩ n s x) ++ List.replicate (N - p) false)))]⟩)
          (R := fun p => p ≤ N) (m := fun p => N - p) 0 [(7, 7), (11, 45)] rfl rfl ⟨rfl, rfl, rfl, ?_, rfl, trivial⟩ (by simp [inK]; omega) (by omega) ⟨own_catB0 _ htab.symm, own_catB0 _ ?_, trivial⟩ ?_
        · show some (sI _) = some (sI _)
          simp
        · simp
        rintro p hp0
        have hrl : (((List.range p).map fun x : Nat => okV ⟨n, ns, top⟩ n s x) ++ List.replicate (N - p) false).length = N := by simp; omega
        refine KW.goIf lay_ok F11_ok 100 rfl (by simp) rfl trivial (fun h => ?_) fun h => ?_
        · have hpp : p < N := by simp at h; omega
          have hpin : inN n (p : Int) := hinx p hpp
          refine KW.go lay_ok F11_ok 100 rfl (by simp only [unB_bools, isB_bools, true_and, and_true, hrl, inK]; (repeat' apply And.intro) <;> first | exact ⟨n, hn24, tabF_length _ n, hsn, hpin⟩ | omega) ?_
          refine KW.updB 11 rfl ?_
          refine KW.go lay_ok F11_ok 100 rfl (by simp) (KW.to (p + 1) ⟨by omega, by omega⟩ [(7, 7), (11, 11)] ⟨rfl, rfl, ⟨rfl, rfl, rfl, rfl, rfl, trivial⟩, ⟨rfl, own_catB0 _ ?_, trivial⟩⟩)
          simp only [unB_bools]
          rw [hsq, Int.toNat_natCast, List.set_append_right _ _ (by simp), List.length_map, List.length_range, Nat.sub_self, show N - p = (N - (p + 1)) + 1 by omega, List.replicate_succ, List.set_cons_zero, List.range_succ, List.map_append]
          simp [okV]
        · have hpp : p = N := by simp at h; omega
          replace hpp := hpp.symm; subst hpp
          refine KW.goOut lay_ok F11_ok 100 rfl (by simp) ?_
          refine KW.go lay_ok F11_ok 100 rfl (by simp) ?_
          refine KW.frz 11 [4] rfl rfl rfl ?_
          refine KW.fin [] rfl rfl ?_ trivial
          simp [SV.ren, renL, EV.ren, hag, errV]
end Go.Proofs.Ytpjhpcclbenfbaa

/-
  Cubes: their order, sorting: the code and the specification.
-/
namespace Go.Pu
open Go.Sy
def orI : List Int → Int
  | [] => 0
  | x :: l => if x ≠ 0 then x else orI l
theorem orI_three (x y z : Int) : orI [x, y, z] = if x ≠ 0 then x else if y ≠ 0 then y else z := by
  simp only [orI]; split <;> (try split) <;> (try split) <;> omega
theorem ordC_or (a b : Int × Int) : orI [cmpI (popc (ior .i64 a.1 a.2)) (popc (ior .i64 b.1 b.2)), cmpI a.1 b.1, cmpI a.2 b.2] = ordC a b := by rw [orI_three]; rfl
theorem sumN_apart {a b : Int} (h : ∀ i, i < 64 → (bit a i && bit b i) = false) : ∀ k, k ≤ 24 → sumN (fun _ => 1) (ior .i64 a b) k = sumN (fun _ => 1) a k + sumN (fun _ => 1) b k
  | 0, _ => rfl
  | k + 1, hk => by
    simp only [sumN, sumN_apart h k (by omega), bit_ior]
    have := h k (by omega)
    cases ha : bit a k <;> cases hb : bit b k <;> simp_all <;> omega
theorem popc_apart {a b : Int} (ha : validS a = true) (hb : validS b = true) (h : iand .i64 a b = 0) : popc (ior .i64 a b) = popc a + popc b := by
  rw [popc_sum ha, popc_sum hb, popc_sum (valid_ior ha hb)]
  exact sumN_apart (iand_zero'.1 h) 24 (Nat.le_refl _)
theorem pcF_half {m : Nat} (h : m < 16777216) : pcF 24 m = m % 2 + pcF 24 (m / 2) := by
  have e := pcF_add 1 23 (m / 2)
  have e2 : m / 2 / 2 ^ 23 = 0 := by rw [Nat.div_eq_zero_iff]; right; have : (2 : Nat) ^ 23 = 8388608 := rfl; omega
  rw [e2] at e
  rw [pcF_succ 23 m, e]
  simp [pcF]
theorem insC_at {c : Int × Int} : ∀ {l : List (Int × Int)} {p : Nat}, p ≤ l.length → (∀ j (h : j < p) (h' : j < l.length), ordC l[j] c < 0) → (∀ h : p < l.length, ¬ ordC l[p] c < 0) →
    insC c l = if l.getD p (0, 0) = c ∧ p < l.length then l else l.take p ++ c :: l.drop p
  | [], p, hp, h1, h2 => by
    have : p = 0 := by simpa using hp
    subst this; simp [insC]
  | d :: r, 0, hp, h1, h2 => by
    have h3 := h2 (by simp)
    simp only [List.getElem_cons_zero] at h3
    rw [insC, if_neg h3]
    simp
  | d :: r, p + 1, hp, h1, h2 => by
    have h3 := h1 0 (by omega) (by simp)
    simp only [List.getElem_cons_zero] at h3
    have ih := insC_at (c := c) (l := r) (p := p) (by simpa using hp) (fun j hj hj' => h1 (j + 1) (by omega) (by simpa using hj')) (fun hh => h2 (by simpa using hh))
    rw [insC, if_pos h3, ih]
    have e : (d :: r).getD (p + 1) (0, 0) = r.getD p (0, 0) := by simp [List.getD_eq_getElem?_getD]
    rw [e]
    by_cases hc : r.getD p (0, 0) = c ∧ p < r.length
    · rw [if_pos hc, if_pos ⟨hc.1, by simpa using hc.2⟩]
    · rw [if_neg hc, if_neg (fun hh => hc ⟨hh.1, by simpa using hh.2⟩)]; simp
theorem insC_ok {c : Int × Int} (hc : CubeOk c) : ∀ {l : List (Int × Int)}, (∀ x ∈ l, CubeOk x) → ∀ x ∈ insC c l, CubeOk x
  | [], h, x, hx => by simp [insC] at hx; subst hx; exact hc
  | d :: r, h, x, hx => by
    unfold insC at hx
    split at hx
    · rcases List.mem_cons.1 hx with rfl | hx
      · exact h _ (.head _)
      · exact insC_ok hc (fun y hy => h y (.tail _ hy)) x hx
    · split at hx
      · exact h x hx
      · rcases List.mem_cons.1 hx with rfl | hx
        · exact hc
        · exact h x hx
theorem befC {a b : Int × Int} (ha : CubeOk a) (hb : CubeOk b) : ordC a b < 0 ↔ popc a.1 + popc a.2 < popc b.1 + popc b.2 ∨ (popc a.1 + popc a.2 = popc b.1 + popc b.2 ∧ (a.1 < b.1 ∨ (a.1 = b.1 ∧ a.2 < b.2))) := by
  rw [ordC_neg, popc_apart ha.yes ha.no ha.apart, popc_apart hb.yes hb.no hb.apart]
end Go.Pu
namespace Go.Proofs.Ytpjhpcclbenfbaa
open Go.Sy Go.Pu

theorem cmpOr_does (l : List Int) : DoesF Try.prog 104 [lV l] [] (sI (orI l)) [] := by
  refine DoesF.body _ Try.func104 rfl rfl rfl rfl ?_
  refine KW.len 0 rfl rfl fun hla => ?_
  refine KW.goLp lay_ok F11_ok 100 rfl (I := fun q : Nat => ⟨Try.f104.ntmps, [(3, sI 0), (6, .e (lV l)), (7, sI l.length), (8, sI q)], []⟩) (R := fun q => q ≤ l.length ∧ orI (l.drop q) = orI l) (m := fun q => l.length - q) 0 rfl ⟨rfl, rfl, rfl, rfl, trivial⟩ (by simp) ⟨by simp, by simp⟩ trivial ?_
  rintro q ⟨h1, h2⟩
  refine KW.goIf lay_ok F11_ok 100 rfl (by simp) rfl trivial (fun h => ?_) fun h => ?_
  · have hq : q < l.length := by simpa using h
    have hg : l.getD (Int.toNat (q : Int)) 0 = l[q] := by simp [List.getD_eq_getElem?_getD, hq]
    rw [List.drop_eq_getElem_cons hq, orI] at h2
    refine KW.goIf lay_ok F11_ok 100 rfl (by simp; omega) rfl trivial (fun h => ?_) fun h => ?_
    · have h3 : l[q] ≠ 0 := by rw [← hg]; simpa using h
      rw [if_pos h3] at h2
      refine KW.goOutR lay_ok F11_ok 100 rfl (by simp) ?_
      refine KW.goRet lay_ok F11_ok 100 rfl rfl ?_ (by simp) trivial
      rw [← h2, ← hg]; rfl
    · have h3 : ¬ l[q] ≠ 0 := by rw [← hg]; simpa using h
      rw [if_neg h3] at h2
      exact KW.goTo lay_ok F11_ok 100 rfl (q + 1) rfl ⟨rfl, rfl, rfl, rfl, trivial⟩ (by simp [inK]; omega) ⟨⟨by omega, h2⟩, by omega⟩ trivial
  · have hq : q = l.length := by simp at h; omega
    refine KW.goOut lay_ok F11_ok 100 rfl (by simp) ?_
    refine KW.goRet lay_ok F11_ok 100 rfl rfl ?_ (by simp) trivial
    rw [hq, List.drop_length] at h2
    rw [← h2]; rfl

theorem bits12_does (n : Int) (hv : validS n = true) : DoesF Try.prog 154 [iV n] [] (sI (popc n)) [] := by
  refine DoesF.body _ Try.func154 rfl rfl rfl rfl ?_
  have hb := validS_iff.1 hv
  obtain ⟨m0, rfl⟩ := Int.eq_ofNat_of_zero_le hb.1
  refine KW.goLp lay_ok F11_ok 100 rfl (I := fun s : Nat × Nat => ⟨Try.f154.ntmps, [(0, sI s.1), (3, sI s.2)], []⟩) (R := fun s => s.1 < 16777216 ∧ s.2 + pcF 24 s.1 = pcF 24 m0) (m := fun s => s.1) (m0, 0) rfl ⟨rfl, rfl, trivial⟩ (by simp) ⟨by simp only; omega, by simp⟩ trivial ?_
  rintro ⟨m, t⟩ ⟨h1, h2⟩
  simp only at h1 h2
  have h24 := pcF_le 24 m0
  refine KW.goIf lay_ok F11_ok 100 rfl (by simp) rfl trivial (fun h => ?_) fun h => ?_
  · have hm : 0 < m := by simp at h; omega
    have e1 : iand .i64 (m : Int) 1 = ((m % 2 : Nat) : Int) := by
      rw [show (1 : Int) = ((1 : Nat) : Int) from rfl, iand_nat m 1 (by omega) (by omega), Nat.and_one_is_mod]
    have e2 : ishr (m : Int) 1 = ((m / 2 : Nat) : Int) := by
      rw [show (1 : Int) = ((1 : Nat) : Int) from rfl, ishr_nat, Nat.pow_one]
    rw [pcF_half h1] at h2
    refine KW.goTo lay_ok F11_ok 100 rfl (m / 2, t + m % 2) rfl ⟨by rw [← e2]; rfl, ?_, trivial⟩ (by simp only [e1, inK, bitsI, true_and, and_true]; omega) ⟨⟨by simp only; omega, by simp only; omega⟩, by simp only; omega⟩ trivial
    show some (sI _) = some (sI _)
    rw [e1]; rfl
  · have hm : m = 0 := by simp at h; omega
    subst hm
    have h0 : pcF 24 0 = 0 := by decide
    refine KW.goOut lay_ok F11_ok 100 rfl (by simp) ?_
    refine KW.goRet lay_ok F11_ok 100 rfl rfl ?_ (by simp) trivial
    have e : popc (m0 : Int) = (t : Int) := by rw [popc, Int.toNat_natCast, ← h2, h0]; simp
    rw [e]; rfl

def F12 : Fns := (104, fL (fun l => sI (orI l)) fun _ => True) ::
  (154, fI (fun n => sI (popc n)) fun n => validS n = true) ::
  F11
theorem F12_ok : FnsOk Try.prog F12 := .cons (.cons (F11_ok) Try.func154 rfl rfl (fI_ok bits12_does)) Try.func104 rfl rfl (fL_ok fun l _ => cmpOr_does l)


theorem size12_does (c : Int × Int) (hc : CubeOk c) : DoesF Try.prog 140 [.ag (cubeL c)] [] (sI (popc c.1 + popc c.2)) [] := by
  refine DoesF.body _ Try.func140 rfl rfl rfl rfl ?_
  have h1 := popc_le (a := c.1)
  have h2 := popc_le (a := c.2)
  refine KW.goD lay_ok F12_ok rfl 100 rfl (by decide) rfl (by simp) (by simp only [inK, true_and, and_true]; (repeat' apply And.intro) <;> first | exact hc.yes | exact hc.no | omega) ?_
  exact KW.goRet lay_ok F12_ok 100 rfl rfl rfl (by simp) trivial

def F13 : Fns := (140, fC (fun c => sI (popc c.1 + popc c.2)) CubeOk) ::
  F12
theorem F13_ok : FnsOk Try.prog F13 := .cons (F12_ok) Try.func140 rfl rfl (fC_ok size12_does)


theorem before12_does (a b : Int × Int) (ha : CubeOk a) (hb : CubeOk b) : DoesF Try.prog 107 [.ag (cubeL a), .ag (cubeL b)] [] (sB (decide (ordC a b < 0))) [] := by
  refine DoesF.body _ Try.func107 rfl rfl rfl rfl ?_
  have hbef := befC ha hb
  refine KW.goD lay_ok F13_ok rfl 100 rfl (by decide) rfl (by simp) (by simp only [true_and, and_true]; exact ⟨ha, hb⟩) ?_
  refine KW.goIf lay_ok F13_ok 100 rfl (by simp) rfl trivial (fun h => ?_) fun h => ?_
  · have h1 : popc a.1 + popc a.2 ≠ popc b.1 + popc b.2 := by simpa using h
    refine KW.goD lay_ok F13_ok rfl 100 rfl (by decide) rfl (by simp) (by simp only [true_and, and_true]; exact ⟨ha, hb⟩) ?_
    refine KW.goRet lay_ok F13_ok 100 rfl rfl ?_ (by simp) trivial
    have e : decide (ordC a b < 0) = decide (popc a.1 + popc a.2 < popc b.1 + popc b.2) := by rw [decide_eq_decide, hbef]; omega
    rw [e]; rfl
  · have h1 : popc a.1 + popc a.2 = popc b.1 + popc b.2 := by simpa using h
    refine KW.goIf lay_ok F13_ok 100 rfl (by simp) rfl trivial (fun h => ?_) fun h => ?_
    · have h2 : a.1 ≠ b.1 := by simpa using h
      refine KW.goRet lay_ok F13_ok 100 rfl rfl ?_ (by simp) trivial
      have e : decide (ordC a b < 0) = decide (a.1 < b.1) := by rw [decide_eq_decide, hbef]; omega
      rw [e]; rfl
    · have h2 : a.1 = b.1 := by simpa using h
      refine KW.goRet lay_ok F13_ok 100 rfl rfl ?_ (by simp) trivial
      have e : decide (ordC a b < 0) = decide (a.2 < b.2) := by rw [decide_eq_decide, hbef]; omega
      rw [e]; rfl

theorem order_does (a b : Int × Int) (ha : validS a.1 = true ∧ validS a.2 = true) (hb : validS b.1 = true ∧ validS b.2 = true) : DoesF Try.prog 58 [.ag (cubeL a), .ag (cubeL b)] [] (sI (ordC a b)) [] := by
  refine DoesF.body _ Try.func58 rfl rfl rfl rfl ?_
  have h1 := valid_ior ha.1 ha.2
  have h2 := valid_ior hb.1 hb.2
  have g1 := validS_iff.1 h1
  have g2 := validS_iff.1 h2
  refine KW.go lay_ok F13_ok 100 rfl (by simp) ?_
  refine KW.drawnTails (n := 25) lay_ok F13_ok rfl rfl (by decide +kernel) (by decide +kernel) rfl (by simp only [inK, true_and, and_true]; (repeat' apply And.intro) <;> first | exact h1 | exact h2 | omega) ?_
  refine KW.goRet lay_ok F13_ok 100 rfl rfl ?_ (by simp) trivial
  rw [← ordC_or]
  simp only [SV.ren, EV.ren, unI_ints]

def F14 : Fns := (107, fCC (fun a b => sB (decide (ordC a b < 0))) fun a b => CubeOk a ∧ CubeOk b) ::
  F13
theorem F14_ok : FnsOk Try.prog F14 := .cons (F13_ok) Try.func107 rfl rfl (fCC_ok fun a b h => before12_does a b h.1 h.2)


end Go.Proofs.Ytpjhpcclbenfbaa

/-
  Sorting cubes by the specification; all reasons.
-/
namespace Go.Proofs.Ytpjhpcclbenfbaa
open Go.Sy Go.Pu

theorem shift_step {out : List (Int × Int)} {k : Nat} (hk : k ≤ out.length) (h0 : 0 < k) (y : Int × Int) :
    (out.take k ++ y :: out.drop k).set k ((out.take k ++ y :: out.drop k).getD (k - 1) (0, 0)) = out.take (k - 1) ++ out[k - 1] :: out.drop (k - 1) := by
  have e1 : (out.take k ++ y :: out.drop k).getD (k - 1) (0, 0) = out[k - 1] := by
    rw [List.getD_eq_getElem?_getD, List.getElem?_append_left (by rw [List.length_take]; omega), List.getElem?_take, if_pos (by omega), List.getElem?_eq_getElem (by omega)]; rfl
  rw [e1, List.set_append_right _ _ (by rw [List.length_take]; omega), List.length_take, show k - min k out.length = 0 by omega, List.set_cons_zero]
  have e2 : out.take k = out.take (k - 1) ++ [out[k - 1]] := by
    have := List.take_succ_eq_append_getElem (l := out) (i := k - 1) (by omega)
    rwa [show k - 1 + 1 = k by omega] at this
  have e3 : out.drop (k - 1) = out[k - 1] :: out.drop k := by
    have := List.drop_eq_getElem_cons (l := out) (i := k - 1) (by omega)
    rwa [show k - 1 + 1 = k by omega] at this
  rw [e2, e3, List.append_assoc]; rfl
theorem sort12_does (l : List (Int × Int)) (hok : ∀ c ∈ l, CubeOk c) (hlen : l.length ≤ 1048576) : DoesF Try.prog 62 [clV l] [] (.e (clV (sortR l))) [] := by
  refine DoesF.body _ Try.func62 rfl rfl rfl rfl ?_
  refine KW.go lay_ok F14_ok 100 rfl (by simp) ?_
  refine KW.nilO 3 3 28 (cubes []) rfl rfl rfl ?_
  refine KW.lp (I := fun s : Nat × List (Int × Int) => ⟨Try.f62.ntmps, [(0, .e (clV l)), (3, .e (.r 3)), (4, sI s.1)], [(3, .own 28 (cubes s.2))]⟩)
    (R := fun s => s.1 ≤ l.length ∧ s.2.length ≤ s.1 ∧ (∀ c ∈ s.2, CubeOk c) ∧ (l.drop s.1).foldl (fun out c => insC c out) s.2 = sortR l) (m := fun s => l.length - s.1) (0, []) ⟨by simp, by simp, by simp, rfl⟩ [(3, 3)] ⟨rfl, rfl, ⟨rfl, rfl, rfl, trivial⟩, ⟨rfl, trivial⟩⟩ ?_
  rintro ⟨q, out⟩ ⟨h1, h2, h3, h4⟩
  simp only at h1 h2 h3 h4
  refine KW.goIf lay_ok F14_ok 100 rfl (by simp) rfl trivial (fun h => ?_) fun h => ?_
  · have hq : q < l.length := by simpa using h
    have hg : l.getD q (0, 0) = l[q] := by simp [List.getD_eq_getElem?_getD, hq]
    have hcq : CubeOk l[q] := hok _ (List.getElem_mem hq)
    rw [List.drop_eq_getElem_cons hq, List.foldl_cons] at h4
    generalize l[q] = c at hg hcq h4
    refine KW.goLpR lay_ok F14_ok 100 rfl (I := fun p : Nat => ⟨Try.f62.ntmps, [(0, .e (clV l)), (3, .e (.r 3)), (4, sI q), (5, sI p)], [(3, .own 28 (cubes out))]⟩)
      (R := fun p => p ≤ out.length ∧ ∀ j (h : j < p) (h' : j < out.length), ordC out[j] c < 0) (m := fun p => out.length - p) 0 [(3, 3)] rfl rfl ⟨rfl, rfl, rfl, rfl, trivial⟩ (by simp) ⟨by simp, by simp⟩ ⟨rfl, trivial⟩ ?_
    rintro p ⟨g1, g2⟩
    have hcp : ∀ h : p < out.length, CubeOk (out.getD p (0, 0)) := fun h => by
      rw [List.getD_eq_getElem?_getD, List.getElem?_eq_getElem h]; exact h3 _ (List.getElem_mem h)
    have hcp' : ∀ h : p < out.length, CubeOk (out[p].1, out[p].2) := fun h => h3 _ (List.getElem_mem h)
    refine KW.goD lay_ok F14_ok rfl 100 rfl (by decide) rfl (by simp) ?_ ?_
    · simp only [Int.toNat_natCast, hg]
      simp +contextual [hcp', hcq, hq]
    refine KW.goIf lay_ok F14_ok 100 rfl (by simp) rfl trivial (fun h => ?_) fun h => ?_
    · simp only [Int.toNat_natCast, hg] at h
      have e1 : p < out.length ∧ ordC (out.getD p (0, 0)) c < 0 := by
        have e : (decide ((p : Int) < (out.length : Int)) && decide (ordC (out.getD p (0, 0)) c < 0)) = true := h
        simpa using e
      refine KW.goToR lay_ok F14_ok 100 rfl (p + 1) [(3, 3)] rfl rfl ⟨rfl, rfl, rfl, rfl, trivial⟩ (by simp [inK]; omega) ⟨⟨by omega, fun j hj hj' => ?_⟩, by omega⟩ ⟨rfl, trivial⟩
      by_cases hjp : j = p
      · subst hjp
        have := e1.2
        rwa [List.getD_eq_getElem?_getD, List.getElem?_eq_getElem hj'] at this
      · exact g2 j (by omega) hj'
    · simp only [Int.toNat_natCast, hg] at h
      have e1 : ∀ hp : p < out.length, ¬ ordC out[p] c < 0 := fun hp hc => by
        have e : (decide ((p : Int) < (out.length : Int)) && decide (ordC (out.getD p (0, 0)) c < 0)) = false := h
        rw [List.getD_eq_getElem?_getD, List.getElem?_eq_getElem hp] at e
        exact absurd hc (by simpa [hp] using e)
      have hins := insC_at g1 g2 e1
      refine KW.goOut lay_ok F14_ok 100 rfl (by simp) ?_
      refine KW.goD lay_ok F14_ok rfl 100 rfl (by decide) rfl (by simp) ?_ ?_
      · simp only [Int.toNat_natCast, hg]
        simp +contextual [hcp', hcq, hq]
      refine KW.goIf lay_ok F14_ok 100 rfl (by simp) rfl trivial (fun h => ?_) fun h => ?_
      · simp only [Int.toNat_natCast, hg] at h
        have e2 : out.getD p (0, 0) = c ∧ p < out.length := by
          have e : (decide ((p : Int) < (out.length : Int)) && decide ([(out.getD p (0, 0)).1, (out.getD p (0, 0)).2] = [c.1, c.2])) = true := h
          simp only [Bool.and_eq_true, decide_eq_true_eq, List.cons.injEq, and_true] at e
          exact ⟨Prod.ext e.2.1 e.2.2, by omega⟩
        rw [if_pos e2] at hins
        rw [hins] at h4
        exact KW.goToR lay_ok F14_ok 100 rfl (q + 1, out) [(3, 3)] rfl rfl ⟨rfl, rfl, rfl, trivial⟩ (by simp [inK]; omega) ⟨⟨by simp only; omega, by simp only; omega, h3, h4⟩, by simp only; omega⟩ ⟨rfl, trivial⟩
      · simp only [Int.toNat_natCast, hg] at h
        have e2 : ¬ (out.getD p (0, 0) = c ∧ p < out.length) := fun hh => by
          have e : (decide ((p : Int) < (out.length : Int)) && decide ([(out.getD p (0, 0)).1, (out.getD p (0, 0)).2] = [c.1, c.2])) = false := h
          rw [hh.1] at e
          simp at e
          omega
        rw [if_neg e2] at hins
        rw [hins] at h4
        have hgc : l.getD (Int.toNat (q : Int)) (0, 0) = c := hg
        have hx : ∀ q', q' < 2 → CVEq (nthD (.lit undef) [.lit (.int .i64 (l.getD (Int.toNat (q : Int)) (0, 0)).1), .lit (.int .i64 (l.getD (Int.toNat (q : Int)) (0, 0)).2)] q') (cubeC c q') := fun q' hq' => by
          rw [hgc]
          rcases (by omega : q' = 0 ∨ q' = 1) with rfl | rfl
          · exact CVEq.refl (.lit _)
          · exact CVEq.refl (.lit _)
        refine KW.go lay_ok F14_ok 16 rfl (by simp; omega) (KW.catG (enc := cubeC) (d := (0, 0)) 51 c rfl hx ?_)
        refine KW.goLpR lay_ok F14_ok 100 rfl (I := fun s : Nat × (Int × Int) => ⟨Try.f62.ntmps, [(0, .e (clV l)), (3, .e (.r 3)), (4, sI q), (5, sI p), (6, sI s.1)], [(3, .own 28 (cubes (out.take s.1 ++ s.2 :: out.drop s.1)))]⟩)
          (R := fun s => p ≤ s.1 ∧ s.1 ≤ out.length) (m := fun s => s.1) (out.length, c) [(3, 51)] rfl rfl ⟨rfl, rfl, rfl, rfl, ?_, trivial⟩ (by simp [inK, rows]; omega) ⟨g1, Nat.le_refl _⟩ ⟨?_, trivial⟩ ?_
        · show some (sI (((out ++ [c]).length : Nat) - 1 : Int)) = some (sI ((out.length : Nat) : Int))
          rw [List.length_append, List.length_singleton, show (((out.length + 1 : Nat) : Int) - 1) = ((out.length : Nat) : Int) by omega]
        · show some (Res.own _ (cubes (out ++ [c]))) = some (Res.own _ (cubes (out.take out.length ++ c :: out.drop out.length)))
          rw [List.take_length, List.drop_length]
        rintro ⟨k, y⟩ ⟨k1, k2⟩
        simp only at k1 k2
        have hWl : (out.take k ++ y :: out.drop k).length = out.length + 1 := by simp; omega
        refine KW.goIf lay_ok F14_ok 100 rfl (by simp) rfl trivial (fun h => ?_) fun h => ?_
        · have hk : p < k := by simp at h; omega
          have hsh := shift_step k2 (by omega) y
          have hkk : Int.toNat ((k : Int) - 1) = k - 1 := by omega
          generalize hW : out.take k ++ y :: out.drop k = W at hWl hsh
          refine KW.go lay_ok F14_ok 100 rfl (by simp only [inK, true_and, and_true, hWl]; omega) (KW.updG (enc := cubeC) (d := (0, 0)) 3 (W.getD (k - 1) (0, 0)) rfl rfl ?_ (KW.to (k - 1, out[k - 1]) ⟨⟨by simp only; omega, by simp only; omega⟩, by simp only; omega⟩ [(3, 3)] ⟨rfl, rfl, ⟨rfl, rfl, rfl, rfl, ?_, trivial⟩, ⟨?_, trivial⟩⟩))
          · intro q' hq'
            rcases (by omega : q' = 0 ∨ q' = 1) with rfl | rfl
            · show CVEq (CV.lit (.int .i64 (W.getD (Int.toNat ((k : Int) - 1)) (0, 0)).1)) (CV.lit (.int .i64 (W.getD (k - 1) (0, 0)).1))
              rw [hkk]; exact CVEq.refl (.lit _)
            · show CVEq (CV.lit (.int .i64 (W.getD (Int.toNat ((k : Int) - 1)) (0, 0)).2)) (CV.lit (.int .i64 (W.getD (k - 1) (0, 0)).2))
              rw [hkk]; exact CVEq.refl (.lit _)
          · show some (sI ((k : Int) - 1)) = some (sI ((k - 1 : Nat) : Int))
            rw [show ((k - 1 : Nat) : Int) = (k : Int) - 1 by omega]
          · show some (Res.own _ (cubes (W.set k (W.getD (k - 1) (0, 0))))) = some (Res.own _ (cubes (out.take (k - 1) ++ out[k - 1] :: out.drop (k - 1))))
            rw [hsh]
        · have hk : k = p := by simp at h; omega
          subst hk
          refine KW.goOut lay_ok F14_ok 100 rfl (by simp) ?_
          refine KW.go lay_ok F14_ok 100 rfl (by simp only [inK, true_and, and_true, hWl]; simp; omega) (KW.updG (enc := cubeC) (d := (0, 0)) 3 c rfl rfl hx (KW.to (q + 1, out.take k ++ c :: out.drop k) ⟨⟨by simp only; omega, by simp; omega, ?_, h4⟩, by simp only; omega⟩ [(3, 3)] ⟨rfl, rfl, ⟨rfl, rfl, rfl, trivial⟩, ⟨?_, trivial⟩⟩))
          · intro z hz
            rw [← hins] at hz
            exact insC_ok hcq h3 z hz
          · show some (Res.own _ (cubes ((out.take k ++ y :: out.drop k).set k c))) = some (Res.own _ (cubes (out.take k ++ c :: out.drop k)))
            rw [List.set_append_right _ _ (by simp; omega), List.length_take, show k - min k out.length = 0 by omega, List.set_cons_zero]
  · have hq : q = l.length := by simp at h; omega
    refine KW.goOut lay_ok F14_ok 100 rfl (by simp) ?_
    rw [hq, List.drop_length] at h4
    exact KW.goRetO lay_ok F14_ok 100 rfl 3 2 rfl rfl rfl (by rw [← h4]; rfl) (by simp)
end Go.Proofs.Ytpjhpcclbenfbaa
