/-
  FmH, FmJ, one text.
-/
import Derived.Test.YtpjhpcclbenfbaaFmA
import Derived.Test.YtpjhpcclbenfbaaSyX
import Derived.Test.YtpjhpcclbenfbaaPuN
set_option linter.unusedVariables false
set_option linter.unusedSimpArgs false
/-
  Formulas: the values of all arguments.
-/
namespace Go.Proofs.Ytpjhpcclbenfbaa
open Go.Sy Go.Pu

theorem values_does (f : FormP) (s : Int) (hin : FormIn f) (hE : stateE f s = 0) : DoesF Try.prog 71 [.ag (formC f), iV s] [] (.e (.c (bools (valsF f s)))) [] := by
  refine DoesF.body _ Try.func71 rfl rfl rfl rfl ?_
  obtain ⟨vars, ns, top⟩ := f
  have h0 : formE ⟨vars, ns, top⟩ = 0 := by
    unfold stateE at hE
    split at hE
    · assumption
    · contradiction
  have hv := formE_vars h0
  obtain ⟨n, rfl⟩ := Int.eq_ofNat_of_zero_le hv.1
  simp only at hv
  have hl : ns.length ≤ 128 := by
    unfold formE at h0
    simp only at h0
    split at h0
    · cases h0
    · split at h0
      · cases h0
      · omega
  refine KW.goLpR lay_ok F5_ok 100 rfl (I := fun q : Nat => ⟨Try.f71.ntmps, [(1, sI s), (2, .e (.r 2)), (5, .e (.r 5)), (23, sI n), (24, sI q)],
      [(2, .box 24 [iV n, .c (nodesC ns), iV top] none), (5, .own 4 (bools (eventsV s q ++ List.replicate (n - q) false)))]⟩)
    (R := fun q => q ≤ n) (m := fun q => n - q) 0 [(2, 2), (5, 21)] rfl rfl ⟨rfl, rfl, rfl, ?_, rfl, trivial⟩ (by simp [inK]; omega) (by simp) ⟨rfl, ?_, trivial⟩ ?_
  · show some (sI ((List.replicate (Int.toNat (n : Int)) false).length : Nat)) = some (sI n)
    simp
  · show some (Res.own _ (bools (List.replicate (Int.toNat (n : Int)) false))) = some (Res.own _ (bools (eventsV s 0 ++ List.replicate (n - 0) false)))
    simp [eventsV]
  rintro q hq
  have hlen : (eventsV s q ++ List.replicate (n - q) false).length = n := by rw [List.length_append, eventsV_length, List.length_replicate]; omega
  refine KW.goIf lay_ok F5_ok 100 rfl (by simp) rfl trivial (fun h => ?_) fun h => ?_
  · have hq' : q < n := by simpa using h
    refine KW.go lay_ok F5_ok 100 rfl (by simp only [inK, bitsI, true_and, and_true, hlen]; omega) ?_
    refine KW.updB 5 rfl ?_
    have hst : (eventsV s q ++ List.replicate (n - q) false).set (Int.toNat (q : Int)) (iand .i64 (ishr s q) 1 == 1) = eventsV s (q + 1) ++ List.replicate (n - (q + 1)) false := by
      have e : (iand .i64 (ishr s q) 1 == 1) = bit s q := by
        rw [ishr_bit s (by omega)]
        cases bit s q <;> rfl
      rw [e, Int.toNat_natCast, List.set_append_right _ _ (by rw [eventsV_length]; omega), eventsV_length, Nat.sub_self]
      have e2 : n - q = (n - (q + 1)) + 1 := by omega
      rw [e2, List.replicate_succ, List.set_cons_zero]
      simp [eventsV, List.range_succ]
    rw [hst]
    exact KW.to (q + 1) ⟨by omega, by omega⟩ [(2, 2), (5, 5)] ⟨rfl, rfl, ⟨rfl, rfl, rfl, rfl, rfl, trivial⟩, ⟨rfl, rfl, trivial⟩⟩
  · have hq' : q = n := by simp at h; omega
    subst hq'
    refine KW.goOut lay_ok F5_ok 100 rfl (by simp) ?_
    have ok : FormOk ⟨q, ns, top⟩ := formE_ok h0
    have e0 : eventsV s q ++ List.replicate (q - q) false = valsN ⟨q, ns, top⟩ s 0 := by simp [valsN_zero]
    refine KW.goLpR lay_ok F5_ok 100 rfl (I := fun p : Nat => ⟨Try.f71.ntmps, [(5, .e (.r 5)), (37, .e (.c (nodesC ns))), (38, sI ns.length), (39, sI p)], [(5, .own 4 (bools (valsN ⟨q, ns, top⟩ s p)))]⟩)
      (R := fun p => p ≤ ns.length) (m := fun p => ns.length - p) 0 [(5, 5)] rfl rfl ⟨rfl, rfl, rfl, rfl, trivial⟩ (by simp) (by simp) ⟨own_catB0 _ e0, trivial⟩ ?_
    rintro p hp
    have hlen := valsN_length ⟨q, ns, top⟩ s hp
    simp only [Int.toNat_natCast] at hlen
    refine KW.goIf lay_ok F5_ok 100 rfl (by simp) rfl trivial (fun h => ?_) fun h => ?_
    · have hp' : p < ns.length := by simpa using h
      have okp := ok.nodes p hp'
      simp only at okp
      have hX : ns.getD (Int.toNat (p : Int)) node0 = ns[p] := by simp [List.getD_eq_getElem?_getD, hp']
      have hinX : NodeIn ns[p] := hin.nodes _ (List.getElem_mem hp')
      have hsucc := valsN_succ ⟨q, ns, top⟩ s hp'
      simp only at hsucc
      generalize ns[p] = X at okp hX hinX hsucc
      have h16 := argsB_le okp.cnt
      generalize hV : valsN ⟨q, ns, top⟩ s p = V at hlen hsucc
      refine KW.goLpR lay_ok F5_ok 100 rfl (I := fun j : Nat => ⟨Try.f71.ntmps, [(5, .e (.r 5)), (8, .e (.r 8)), (9, sI (cntT V (X.args.take j))), (37, .e (.c (nodesC ns))), (38, sI ns.length), (39, sI p), (44, .e (lV X.args)), (45, sI X.args.length), (46, sI j)],
          [(5, .own 4 (bools V)), (8, .box 71 [iV X.kind, iV X.k, lV X.args] none)]⟩)
        (R := fun j => j ≤ X.args.length) (m := fun j => X.args.length - j) 0 [(5, 5), (8, 8)] rfl rfl ⟨rfl, rfl, rfl, rfl, rfl, rfl, (by rw [← hX]; rfl), (by rw [← hX]; rfl), rfl, trivial⟩ (by simp; omega) (by simp) ⟨by rw [← hV]; rfl, (by rw [← hX]; rfl), trivial⟩ ?_
      rintro j hj
      have hc := cntT_rng V (X.args.take j)
      have hcl : (X.args.take j).length ≤ 16 := by simp; omega
      refine KW.goIf lay_ok F5_ok 100 rfl (by simp) rfl trivial (fun h => ?_) fun h => ?_
      · have hj' : j < X.args.length := by simpa using h
        have hg : X.args.getD (Int.toNat (j : Int)) 0 = X.args[j] := by simp [List.getD_eq_getElem?_getD, hj']
        have ha := okp.args _ (List.getElem_mem hj')
        have ht := cntT_take V X.args hj'
        generalize X.args[j] = a at hg ha ht
        refine KW.goIf lay_ok F5_ok 100 rfl (by rw [hg, hlen]; simp; omega) rfl trivial (fun h => ?_) fun h => ?_
        · rw [hg] at h
          refine KW.goToR lay_ok F5_ok 100 rfl (j + 1) [(5, 5), (8, 8)] rfl rfl ⟨rfl, rfl, ?_, rfl, rfl, rfl, rfl, rfl, rfl, trivial⟩ (by simp only [inK, true_and, and_true]; omega) ⟨by omega, by omega⟩ ⟨rfl, rfl, trivial⟩
          rw [ht, if_pos (by simpa using h)]; rfl
        · rw [hg] at h
          refine KW.goToR lay_ok F5_ok 100 rfl (j + 1) [(5, 5), (8, 8)] rfl rfl ⟨rfl, rfl, ?_, rfl, rfl, rfl, rfl, rfl, rfl, trivial⟩ (by simp only [inK, true_and, and_true]; omega) ⟨by omega, by omega⟩ ⟨rfl, rfl, trivial⟩
          rw [ht, if_neg (by simpa using h), Int.add_zero]; rfl
      · have hj' : j = X.args.length := by simp at h; omega
        subst hj'
        rw [List.take_length] at hc ⊢
        refine KW.goOut lay_ok F5_ok 100 rfl (by simp) ?_
        have fin : ∀ b, b = nodeV X (cntT V X.args) → V ++ [b] = valsN ⟨q, ns, top⟩ s (p + 1) := fun b hb => by rw [hb, hsucc]
        refine KW.goIf lay_ok F5_ok 100 rfl (by simp) rfl trivial (fun h => ?_) fun h => ?_
        · have k0 : X.kind = 0 := by simpa using h
          refine KW.go lay_ok F5_ok 100 rfl (by simp only [inK, true_and, and_true, hlen]; omega) (KW.catB 93 rfl (KW.to (p + 1) ⟨by omega, by omega⟩ [(5, 93)] ⟨rfl, rfl, ⟨rfl, rfl, rfl, rfl, trivial⟩, ⟨own_catB0 _ (fin _ ?_), trivial⟩⟩))
          simp [nodeV, k0]
          try (rw [Bool.eq_iff_iff]; simp)
        · have n0 : ¬ X.kind = 0 := by simpa using h
          refine KW.goIf lay_ok F5_ok 100 rfl (by simp) rfl trivial (fun h => ?_) fun h => ?_
          · have k1 : X.kind = 1 := by simpa using h
            refine KW.go lay_ok F5_ok 100 rfl (by simp only [inK, true_and, and_true, hlen]; omega) (KW.catB 93 rfl (KW.to (p + 1) ⟨by omega, by omega⟩ [(5, 93)] ⟨rfl, rfl, ⟨rfl, rfl, rfl, rfl, trivial⟩, ⟨own_catB0 _ (fin _ ?_), trivial⟩⟩))
            simp [nodeV, k1]
            try (rw [Bool.eq_iff_iff]; simp)
          · have n1 : ¬ X.kind = 1 := by simpa using h
            refine KW.goIf lay_ok F5_ok 100 rfl (by simp) rfl trivial (fun h => ?_) fun h => ?_
            · have k2 : X.kind = 2 := by simpa using h
              refine KW.go lay_ok F5_ok 100 rfl (by simp only [inK, true_and, and_true, hlen]; omega) (KW.catB 93 rfl (KW.to (p + 1) ⟨by omega, by omega⟩ [(5, 93)] ⟨rfl, rfl, ⟨rfl, rfl, rfl, rfl, trivial⟩, ⟨own_catB0 _ (fin _ ?_), trivial⟩⟩))
              simp [nodeV, k2]
              rw [Bool.eq_iff_iff]; simp
            · have n2 : ¬ X.kind = 2 := by simpa using h
              refine KW.goIf lay_ok F5_ok 100 rfl (by simp) rfl trivial (fun h => ?_) fun h => ?_
              · have k3 : X.kind = 3 := by simpa using h
                refine KW.go lay_ok F5_ok 100 rfl (by simp only [inK, true_and, and_true, hlen]; omega) (KW.catB 93 rfl (KW.to (p + 1) ⟨by omega, by omega⟩ [(5, 93)] ⟨rfl, rfl, ⟨rfl, rfl, rfl, rfl, trivial⟩, ⟨own_catB0 _ (fin _ ?_), trivial⟩⟩))
                simp [nodeV, k3]
                try (rw [Bool.eq_iff_iff]; simp)
              · have n3 : ¬ X.kind = 3 := by simpa using h
                refine KW.goIf lay_ok F5_ok 100 rfl (by simp) rfl trivial (fun h => ?_) fun h => ?_
                · have k4 : X.kind = 4 := by simpa using h
                  refine KW.go lay_ok F5_ok 100 rfl (by simp only [inK, true_and, and_true, hlen]; omega) (KW.catB 93 rfl (KW.to (p + 1) ⟨by omega, by omega⟩ [(5, 93)] ⟨rfl, rfl, ⟨rfl, rfl, rfl, rfl, trivial⟩, ⟨own_catB0 _ (fin _ ?_), trivial⟩⟩))
                  simp [nodeV, k4]
                  try (rw [Bool.eq_iff_iff]; simp)
                · have n4 : ¬ X.kind = 4 := by simpa using h
                  refine KW.goIf lay_ok F5_ok 100 rfl (by simp) rfl trivial (fun h => ?_) fun h => ?_
                  · have k5 : X.kind = 5 := by simpa using h
                    refine KW.go lay_ok F5_ok 100 rfl (by simp only [inK, true_and, and_true, hlen]; omega) (KW.catB 93 rfl (KW.to (p + 1) ⟨by omega, by omega⟩ [(5, 93)] ⟨rfl, rfl, ⟨rfl, rfl, rfl, rfl, trivial⟩, ⟨own_catB0 _ (fin _ ?_), trivial⟩⟩))
                    simp [nodeV, k5]
                    rw [Int.tmod_eq_emod_of_nonneg hc.1, Bool.eq_iff_iff]; simp
                  · have n5 : ¬ X.kind = 5 := by simpa using h
                    exact absurd okp.kind (by omega)
    · have hp' : p = ns.length := by simp at h; omega
      refine KW.goOut lay_ok F5_ok 100 rfl (by simp) ?_
      have e9 : valsN ⟨q, ns, top⟩ s p = valsF ⟨q, ns, top⟩ s := valsN_all _ _ (by rw [hp']; exact Nat.le_refl _)
      rw [← e9]
      exact KW.goRetO lay_ok F5_ok 100 rfl 5 4 rfl rfl rfl rfl (by simp)

def F7 : Fns := (71, fFI (fun f s => .e (.c (bools (valsF f s)))) fun f s => FormIn f ∧ stateE f s = 0) ::
  F6
theorem F7_ok : FnsOk Try.prog F7 := .cons (F6_ok) Try.func71 rfl rfl (fFI_ok fun f s h => values_does f s h.1 h.2)


/-- what is returned beside an error -/
def valV (f : FormP) (s : Int) : Bool := decide (stateE f s = 0) && valueF f s
theorem value_does (f : FormP) (s : Int) (hin : FormIn f) : DoesF Try.prog 30 [.ag (formC f), iV s] [] (.tup [bV (valV f s), eV (stateE f s)]) [] := by
  refine DoesF.body _ Try.func30 rfl rfl rfl rfl ?_
  obtain ⟨vars, ns, top⟩ := f
  refine KW.goIf lay_ok F7_ok 100 rfl (by simp only [unN_nodesC, isN_nodesC, true_and, and_true, ifcV_errV]; exact hin) rfl trivial (fun h => ?_) fun h => ?_
  · simp only [unN_nodesC] at h
    have h1 : ¬ stateE ⟨vars, ns, top⟩ s = 0 := by
      have e : (!isNilB (errV 66 (stateE ⟨vars, ns, top⟩ s))) = true := h
      simpa using e
    refine KW.goRet lay_ok F7_ok 100 rfl rfl ?_ (by simp) trivial
    simp [SV.ren, renL, EV.ren, valV, h1]
  · simp only [unN_nodesC] at h
    have h1 : stateE ⟨vars, ns, top⟩ s = 0 := by
      have e : (!isNilB (errV 66 (stateE ⟨vars, ns, top⟩ s))) = false := h
      simpa using e
    have ok : FormOk ⟨vars, ns, top⟩ := formE_ok (stateE_ok h1).1
    have ht := ok.top
    have hl := valsF_length ⟨vars, ns, top⟩ s
    simp only at ht hl
    refine KW.goD lay_ok F7_ok rfl 100 rfl (by decide) rfl (by simp) (by simp only [unN_nodesC, isN_nodesC, true_and, and_true, hl]; exact ⟨⟨⟨hin, h1⟩, by omega⟩, by omega⟩) ?_
    refine KW.goRet lay_ok F7_ok 100 rfl rfl ?_ (by simp) trivial
    simp [SV.ren, renL, EV.ren, valV, h1, valueF, errV]
end Go.Proofs.Ytpjhpcclbenfbaa

/-
  Formulas: formula.Values; the values of the specification.
-/
namespace Go.Sy
open Go.Pu
def cvBool : CV → Bool
  | .lit (.bool b) => b
  | _ => false
def unB : CV → List Bool
  | .sl n _ f => (List.range n).map fun e => cvBool (f e 0)
  | _ => []
def isB (x : CV) : Prop := CVEq x (bools (unB x))
@[simp] theorem unB_bools (xs : List Bool) : unB (bools xs) = xs := by
  unfold unB bools
  refine List.ext_getElem (by simp) fun j h1 h2 => ?_
  simp [List.getD_eq_getElem?_getD, h2, cvBool]
@[simp] theorem isB_bools (xs : List Bool) : isB (bools xs) := by unfold isB; rw [unB_bools]; exact CVEq.refl _
theorem isB_drop (xs : List Bool) (n lo : Nat) (h : lo + n ≤ xs.length) : isB (.sl n 1 fun e _ => .lit (.bool (xs.getD (e + lo) false))) ∧ unB (.sl n 1 fun e _ => .lit (.bool (xs.getD (e + lo) false))) = (xs.drop lo).take n := by
  have e : unB (.sl n 1 fun e _ => .lit (.bool (xs.getD (e + lo) false))) = (xs.drop lo).take n := by
    unfold unB
    refine List.ext_getElem (by simp; omega) fun j h1 h2 => ?_
    simp at h1 h2
    simp [cvBool, List.getD_eq_getElem?_getD, Nat.add_comm lo j]
    rw [List.getElem?_eq_getElem (by omega)]; rfl
  refine ⟨?_, e⟩
  unfold isB
  rw [e]
  refine ⟨by simp; omega, .inr ⟨rfl, fun j q hj hq => ?_⟩⟩
  have : ((xs.drop lo).take n).getD j false = xs.getD (j + lo) false := by
    simp [List.getD_eq_getElem?_getD, List.getElem?_take, hj, Nat.add_comm lo j]
  show CVEq (CV.lit (.bool (xs.getD (j + lo) false))) (CV.lit (.bool (((xs.drop lo).take n).getD j false)))
  rw [this]
  exact CVEq.refl (.lit (.bool _))
def fB (g : List Bool → SV) (p : List Bool → Prop) : List EV → Option (SV × Prop)
  | [.c x] => some (g (unB x), isB x ∧ p (unB x))
  | _ => none
def fFBII (g : FormP → List Bool → Int → Int → SV) (p : FormP → List Bool → Int → Int → Prop) : List EV → Option (SV × Prop)
  | [.ag [.lit (.int .i64 a), x, .lit (.int .i64 b)], .c v, .c (.lit (.int .i64 s)), .c (.lit (.int .i64 i))] => some (g ⟨a, unN x, b⟩ (unB v) s i, isN x ∧ isB v ∧ p ⟨a, unN x, b⟩ (unB v) s i)
  | _ => none
section
variable {P : Program} {f : FuncId}
theorem fB_ok {g : List Bool → SV} {p : List Bool → Prop} (h : ∀ a, p a → DoesF P f [.c (bools a)] [] (g a) []) : ∀ ys y φ, fB g p ys = some (y, φ) → φ → DoesF P f ys [] y [] := by
  intro ys y φ he hφ
  unfold fB at he
  split at he
  · simp only [Option.some.injEq, Prod.mk.injEq] at he
    obtain ⟨rfl, rfl⟩ := he
    refine DoesF.conv ?_ (h _ hφ.2)
    exact ⟨hφ.1, trivial⟩
  · cases he
theorem fFBII_ok {g : FormP → List Bool → Int → Int → SV} {p : FormP → List Bool → Int → Int → Prop} (h : ∀ x v s i, p x v s i → DoesF P f [.ag (formC x), .c (bools v), iV s, iV i] [] (g x v s i) []) : ∀ ys y φ, fFBII g p ys = some (y, φ) → φ → DoesF P f ys [] y [] := by
  intro ys y φ he hφ
  unfold fFBII at he
  split at he
  · simp only [Option.some.injEq, Prod.mk.injEq] at he
    obtain ⟨rfl, rfl⟩ := he
    refine DoesF.conv ?_ (h _ _ _ _ hφ.2.2)
    exact ⟨form_eq hφ.1, hφ.2.1, CVEq.refl _, CVEq.refl _, trivial⟩
  · cases he
end
end Go.Sy
namespace Go.Proofs.Ytpjhpcclbenfbaa
open Go.Sy Go.Pu

abbrev blV (l : List Bool) : EV := .c (bools l)
theorem cloneB_does (xs : List Bool) (hb : xs.length ≤ 1099511627776) : DoesF Try.prog 109 [blV xs] [] (.e (blV xs)) [] := by
  refine DoesF.body _ Try.func109 rfl rfl rfl rfl ?_
  refine KW.go lay_ok F7_ok 100 rfl (by simp) ?_
  refine KW.eqNil (neg := false) lay_ok rfl rfl rfl rfl rfl rfl rfl rfl trivial fun b hb0 => ?_
  refine KW.goIf lay_ok F7_ok 100 rfl (by simp) rfl trivial (fun h => ?_) fun h => ?_
  · have : xs = [] := List.length_eq_zero_iff.1 (hb0 h)
    subst this
    refine KW.go lay_ok F7_ok 100 rfl (by simp) ?_
    refine KW.conv 2 (bools []) rfl ⟨rfl, rfl⟩ ?_
    exact KW.fin [] rfl rfl rfl trivial
  · exact KW.goRetO lay_ok F7_ok 100 rfl 7 2 rfl rfl rfl (catV_bools [] xs) (by simp <;> omega)

/-- the value of an argument, by the specification -/
def ofB (f : FormP) (vs : List Bool) (s a : Int) : Bool := if a < f.vars then bit s a.toNat else vs.getD (a - f.vars).toNat false
theorem of_does (f : FormP) (vs : List Bool) (s a : Int) (hv : 0 ≤ f.vars ∧ f.vars ≤ 24) (ha : 0 ≤ a ∧ a < f.vars + vs.length) : DoesF Try.prog 69 [.ag (formC f), blV vs, iV s, iV a] [] (sB (ofB f vs s a)) [] := by
  refine DoesF.body _ Try.func69 rfl rfl rfl rfl ?_
  obtain ⟨vars, ns, top⟩ := f
  simp only at hv ha
  refine KW.len 1 rfl rfl fun hl => ?_
  refine KW.goIf lay_ok F7_ok 100 rfl (by simp) rfl trivial (fun h => ?_) fun h => ?_
  · have h1 : a < vars := by simpa using h
    obtain ⟨n, rfl⟩ := Int.eq_ofNat_of_zero_le ha.1
    refine KW.goRet lay_ok F7_ok 100 rfl rfl ?_ (by simp only [inK, bitsI]; simp; omega) trivial
    rw [ofB, if_pos (by simpa using h1), Int.toNat_natCast]
    have e : (iand .i64 (ishr s n) 1 == 1) = bit s n := by
      rw [ishr_bit s (by omega)]
      cases bit s n <;> rfl
    rw [← e]; rfl
  · have h1 : ¬ a < vars := by
      have e : decide (a < vars) = false := h
      rwa [decide_eq_false_iff_not] at e
    refine KW.goRet lay_ok F7_ok 100 rfl rfl ?_ (by simp only [inK]; simp; omega) trivial
    rw [ofB, if_neg (by simpa using h1)]
    rfl

def F8 : Fns := (109, fB (fun l => .e (blV l)) fun l => l.length ≤ 1099511627776) ::
  (69, fFBII (fun f vs s a => sB (ofB f vs s a)) fun f vs s a => (0 ≤ f.vars ∧ f.vars ≤ 24) ∧ (0 ≤ a ∧ a < f.vars + vs.length)) ::
  (30, fFI (fun f s => .tup [bV (valV f s), eV (stateE f s)]) fun f s => FormIn f) ::
  F7
theorem F8_ok : FnsOk Try.prog F8 := .cons (.cons (.cons (F7_ok) Try.func30 rfl rfl (fFI_ok fun f s h => value_does f s h)) Try.func69 rfl rfl (fFBII_ok fun f vs s a h => of_does f vs s a h.1 h.2)) Try.func109 rfl rfl (fB_ok fun l h => cloneB_does l h)


/-- the values of the nodes alone -/
def nodesV (f : FormP) (s : Int) : List Bool := (valsF f s).drop f.vars.toNat
theorem nodesV_length (f : FormP) (s : Int) : (nodesV f s).length = f.nodes.length := by rw [nodesV, List.length_drop, valsF_length]; omega
theorem fvalues_does (f : FormP) (s : Int) (hin : FormIn f) : DoesF Try.prog 64 [.ag (formC f), iV s] [] (.tup [blV (if stateE f s = 0 then nodesV f s else []), eV (stateE f s)]) [] := by
  refine DoesF.body _ Try.func64 rfl rfl rfl rfl ?_
  obtain ⟨vars, ns, top⟩ := f
  refine KW.goIf lay_ok F8_ok 100 rfl (by simp only [unN_nodesC, isN_nodesC, true_and, and_true, ifcV_errV]; exact hin) rfl trivial (fun h => ?_) fun h => ?_
  · simp only [unN_nodesC] at h
    have h1 : ¬ stateE ⟨vars, ns, top⟩ s = 0 := by
      have e : (!isNilB (errV 66 (stateE ⟨vars, ns, top⟩ s))) = true := h
      simpa using e
    refine KW.go lay_ok F8_ok 100 rfl (by simp) ?_
    refine KW.conv 4 (bools []) rfl ⟨rfl, rfl⟩ ?_
    refine KW.fin [] rfl rfl ?_ trivial
    simp [SV.ren, renL, EV.ren, h1]
  · simp only [unN_nodesC] at h
    have h1 : stateE ⟨vars, ns, top⟩ s = 0 := by
      have e : (!isNilB (errV 66 (stateE ⟨vars, ns, top⟩ s))) = false := h
      simpa using e
    have ok : FormOk ⟨vars, ns, top⟩ := formE_ok (stateE_ok h1).1
    have hv := ok.vars
    have hn := ok.len
    have hl := valsF_length ⟨vars, ns, top⟩ s
    simp only at hv hl hn
    obtain ⟨n, rfl⟩ := Int.eq_ofNat_of_zero_le hv.1
    simp only [Int.toNat_natCast] at hl
    have hd := isB_drop (valsF ⟨n, ns, top⟩ s) ns.length n (by omega)
    have en : ((n + ns.length : Nat) : Int).toNat - ((n : Nat) : Int).toNat = ns.length := by omega
    have e5 : nodesV ⟨n, ns, top⟩ s = ((valsF ⟨n, ns, top⟩ s).drop n).take ns.length := by
      rw [nodesV, List.take_of_length_le (by rw [List.length_drop]; omega)]; rfl
    refine KW.goD lay_ok F8_ok rfl 100 rfl (by decide) rfl (by simp) ?_ ?_
    · simp only [unN_nodesC, isN_nodesC, true_and, and_true, hl, en]
      simp only [Int.toNat_natCast, hd.2]
      exact ⟨⟨⟨hin, h1⟩, by omega, by omega, by omega⟩, hd.1, by rw [List.length_take]; omega⟩
    · refine KW.goRet lay_ok F8_ok 100 rfl rfl ?_ (by simp) trivial
      simp only [unN_nodesC, hl, en]
      simp only [Int.toNat_natCast, hd.2, ← e5]
      simp [SV.ren, renL, EV.ren, h1, errV]

theorem ofB_pre {f : FormP} {s : Int} {q : Nat} (hv : 0 ≤ f.vars) (hq : q ≤ f.nodes.length) (pad : List Bool) {a : Int} (h0 : 0 ≤ a) (h1 : a < f.vars + q) :
    ofB f ((valsN f s q).drop f.vars.toNat ++ pad) s a = (valsN f s q).getD a.toNat false := by
  have hl := valsN_length f s hq
  unfold ofB
  split
  · rename_i h
    rw [valsN_pre f s hq (by omega), valsF_event f s (by omega)]
  · rename_i h
    rw [List.getD_eq_getElem?_getD, List.getElem?_append_left (by rw [List.length_drop]; omega), List.getElem?_drop, List.getD_eq_getElem?_getD]
    congr 2
    omega
theorem rvalues_does (f : FormP) (s : Int) (hin : FormIn f) (h0 : formE f = 0) : DoesF Try.prog 67 [.ag (formC f), iV s] [] (.e (blV (nodesV f s))) [] := by
  refine DoesF.body _ Try.func67 rfl rfl rfl rfl ?_
  obtain ⟨vars, ns, top⟩ := f
  have ok : FormOk ⟨vars, ns, top⟩ := formE_ok h0
  have hv := ok.vars
  have hn := ok.len
  simp only at hv hn
  obtain ⟨n, rfl⟩ := Int.eq_ofNat_of_zero_le hv.1
  have e0 : List.replicate (Int.toNat (ns.length : Int)) false = (valsN ⟨n, ns, top⟩ s 0).drop n ++ List.replicate (ns.length - 0) false := by
    rw [List.drop_of_length_le (by rw [valsN_length _ _ (Nat.zero_le _)]; simp)]; simp
  refine KW.goLpR lay_ok F8_ok 100 rfl (I := fun p : Nat => ⟨Try.f67.ntmps, [(1, sI s), (2, .e (.r 2)), (5, .e (.r 5)), (16, .e (.c (nodesC ns))), (17, sI ns.length), (18, sI p)],
      [(2, .box 24 [iV n, .c (nodesC ns), iV top] none), (5, .own 4 (bools ((valsN ⟨n, ns, top⟩ s p).drop n ++ List.replicate (ns.length - p) false)))]⟩)
    (R := fun p => p ≤ ns.length) (m := fun p => ns.length - p) 0 [(2, 2), (5, 14)] rfl rfl ⟨rfl, rfl, rfl, rfl, rfl, rfl, trivial⟩ (by simp [inK]; omega) (by simp) ⟨rfl, own_catB0 _ e0, trivial⟩ ?_
  rintro p hp
  have hlen := valsN_length ⟨n, ns, top⟩ s hp
  simp only [Int.toNat_natCast] at hlen
  refine KW.goIf lay_ok F8_ok 100 rfl (by simp) rfl trivial (fun h => ?_) fun h => ?_
  · have hp' : p < ns.length := by simpa using h
    have okp := ok.nodes p hp'
    simp only at okp
    have hX : ns.getD (Int.toNat (p : Int)) node0 = ns[p] := by simp [List.getD_eq_getElem?_getD, hp']
    have hinX : NodeIn ns[p] := hin.nodes _ (List.getElem_mem hp')
    have hsucc := valsN_succ ⟨n, ns, top⟩ s hp'
    have hof := fun (a : Int) h0 h1 => ofB_pre (f := ⟨n, ns, top⟩) (s := s) (a := a) (by simp) hp (List.replicate (ns.length - p) false) h0 h1
    simp only [Int.toNat_natCast] at hsucc hof
    generalize ns[p] = X at okp hX hinX hsucc
    have h16 := argsB_le okp.cnt
    generalize hV : valsN ⟨n, ns, top⟩ s p = V at hlen hsucc hof
    have hrl : (V.drop n ++ List.replicate (ns.length - p) false).length = ns.length := by rw [List.length_append, List.length_drop, List.length_replicate]; omega
    generalize hW : V.drop n ++ List.replicate (ns.length - p) false = W at hof hrl
    refine KW.goLpR lay_ok F8_ok 100 rfl (I := fun j : Nat => ⟨Try.f67.ntmps, [(1, sI s), (2, .e (.r 2)), (5, .e (.r 5)), (6, sI p), (7, .e (.r 7)), (8, sI (cntT V (X.args.take j))), (16, .e (.c (nodesC ns))), (17, sI ns.length), (18, sI p), (24, .e (lV X.args)), (25, sI X.args.length), (26, sI j)],
        [(2, .box 24 [iV n, .c (nodesC ns), iV top] none), (5, .own 4 (bools W)), (7, .box 71 [iV X.kind, iV X.k, lV X.args] none)]⟩)
      (R := fun j => j ≤ X.args.length) (m := fun j => X.args.length - j) 0 [(2, 2), (5, 5), (7, 7)] rfl rfl ⟨rfl, rfl, rfl, rfl, rfl, rfl, rfl, rfl, rfl, (by rw [← hX]; rfl), (by rw [← hX]; rfl), rfl, trivial⟩ (by simp; omega) (by simp) ⟨rfl, by rw [← hW, ← hV]; rfl, (by rw [← hX]; rfl), trivial⟩ ?_
    rintro j hj
    have hc := cntT_rng V (X.args.take j)
    have hcl : (X.args.take j).length ≤ 16 := by simp; omega
    refine KW.goIf lay_ok F8_ok 100 rfl (by simp) rfl trivial (fun h => ?_) fun h => ?_
    · have hj' : j < X.args.length := by simpa using h
      have hg : X.args.getD (Int.toNat (j : Int)) 0 = X.args[j] := by simp [List.getD_eq_getElem?_getD, hj']
      have ha := okp.args _ (List.getElem_mem hj')
      have ht := cntT_take V X.args hj'
      generalize X.args[j] = a at hg ha ht
      refine KW.goIf lay_ok F8_ok 100 rfl (by rw [hg]; simp only [unN_nodesC, isN_nodesC, unB_bools, isB_bools, true_and, and_true, hrl]; simp; omega) rfl trivial (fun h => ?_) fun h => ?_
      · rw [hg] at h
        simp only [unN_nodesC, unB_bools] at h
        refine KW.goToR lay_ok F8_ok 100 rfl (j + 1) [(2, 2), (5, 5), (7, 7)] rfl rfl ⟨rfl, rfl, rfl, rfl, rfl, ?_, rfl, rfl, rfl, rfl, rfl, rfl, trivial⟩ (by simp only [inK, true_and, and_true]; omega) ⟨by omega, by omega⟩ ⟨rfl, rfl, rfl, trivial⟩
        have e : ofB ⟨n, ns, top⟩ W s a = true := h
        rw [ht, if_pos (by rw [← hof a ha.1 ha.2]; exact e)]; rfl
      · rw [hg] at h
        simp only [unN_nodesC, unB_bools] at h
        refine KW.goToR lay_ok F8_ok 100 rfl (j + 1) [(2, 2), (5, 5), (7, 7)] rfl rfl ⟨rfl, rfl, rfl, rfl, rfl, ?_, rfl, rfl, rfl, rfl, rfl, rfl, trivial⟩ (by simp only [inK, true_and, and_true]; omega) ⟨by omega, by omega⟩ ⟨rfl, rfl, rfl, trivial⟩
        have e : ofB ⟨n, ns, top⟩ W s a = false := h
        rw [ht, if_neg (by rw [← hof a ha.1 ha.2, e]; decide), Int.add_zero]; rfl
    · have hj' : j = X.args.length := by simp at h; omega
      subst hj'
      rw [List.take_length] at hc ⊢
      refine KW.goOut lay_ok F8_ok 100 rfl (by simp) ?_
      have fin : ∀ b, b = nodeV X (cntT V X.args) → W.set (Int.toNat (p : Int)) b = (valsN ⟨n, ns, top⟩ s (p + 1)).drop n ++ List.replicate (ns.length - (p + 1)) false := fun b hb => by
        rw [hb, hsucc, ← hW, Int.toNat_natCast, List.drop_append_of_le_length (by omega), List.set_append_right _ _ (by rw [List.length_drop]; omega), List.length_drop]
        have e1 : p - (V.length - n) = 0 := by omega
        have e2 : ns.length - p = (ns.length - (p + 1)) + 1 := by omega
        rw [e1, e2, List.replicate_succ, List.set_cons_zero]; simp
      refine KW.goIf lay_ok F8_ok 100 rfl (by simp) rfl trivial (fun h => ?_) fun h => ?_
      · have k0 : X.kind = 0 := by simpa using h
        refine KW.go lay_ok F8_ok 100 rfl (by simp only [inK, true_and, and_true, hrl]; omega) (KW.updB 5 rfl (KW.to (p + 1) ⟨by omega, by omega⟩ [(2, 2), (5, 5)] ⟨rfl, rfl, ⟨rfl, rfl, rfl, rfl, rfl, rfl, trivial⟩, ⟨rfl, own_catB0 _ (fin _ ?_), trivial⟩⟩))
        simp [nodeV, k0]
        try (rw [Bool.eq_iff_iff]; simp)
      · have n0 : ¬ X.kind = 0 := by simpa using h
        refine KW.goIf lay_ok F8_ok 100 rfl (by simp) rfl trivial (fun h => ?_) fun h => ?_
        · have k1 : X.kind = 1 := by simpa using h
          refine KW.go lay_ok F8_ok 100 rfl (by simp only [inK, true_and, and_true, hrl]; omega) (KW.updB 5 rfl (KW.to (p + 1) ⟨by omega, by omega⟩ [(2, 2), (5, 5)] ⟨rfl, rfl, ⟨rfl, rfl, rfl, rfl, rfl, rfl, trivial⟩, ⟨rfl, own_catB0 _ (fin _ ?_), trivial⟩⟩))
          simp [nodeV, k1]
          try (rw [Bool.eq_iff_iff]; simp)
        · have n1 : ¬ X.kind = 1 := by simpa using h
          refine KW.goIf lay_ok F8_ok 100 rfl (by simp) rfl trivial (fun h => ?_) fun h => ?_
          · have k2 : X.kind = 2 := by simpa using h
            refine KW.go lay_ok F8_ok 100 rfl (by simp only [inK, true_and, and_true, hrl]; omega) (KW.updB 5 rfl (KW.to (p + 1) ⟨by omega, by omega⟩ [(2, 2), (5, 5)] ⟨rfl, rfl, ⟨rfl, rfl, rfl, rfl, rfl, rfl, trivial⟩, ⟨rfl, own_catB0 _ (fin _ ?_), trivial⟩⟩))
            simp [nodeV, k2]
            try (rw [Bool.eq_iff_iff]; simp)
          · have n2 : ¬ X.kind = 2 := by simpa using h
            refine KW.goIf lay_ok F8_ok 100 rfl (by simp) rfl trivial (fun h => ?_) fun h => ?_
            · have k3 : X.kind = 3 := by simpa using h
              refine KW.go lay_ok F8_ok 100 rfl (by simp only [inK, true_and, and_true, hrl]; omega) (KW.updB 5 rfl (KW.to (p + 1) ⟨by omega, by omega⟩ [(2, 2), (5, 5)] ⟨rfl, rfl, ⟨rfl, rfl, rfl, rfl, rfl, rfl, trivial⟩, ⟨rfl, own_catB0 _ (fin _ ?_), trivial⟩⟩))
              simp [nodeV, k3]
              try (rw [Bool.eq_iff_iff]; simp)
            · have n3 : ¬ X.kind = 3 := by simpa using h
              refine KW.goIf lay_ok F8_ok 100 rfl (by simp) rfl trivial (fun h => ?_) fun h => ?_
              · have k4 : X.kind = 4 := by simpa using h
                refine KW.go lay_ok F8_ok 100 rfl (by simp only [inK, true_and, and_true, hrl]; omega) (KW.updB 5 rfl (KW.to (p + 1) ⟨by omega, by omega⟩ [(2, 2), (5, 5)] ⟨rfl, rfl, ⟨rfl, rfl, rfl, rfl, rfl, rfl, trivial⟩, ⟨rfl, own_catB0 _ (fin _ ?_), trivial⟩⟩))
                simp [nodeV, k4]
                try (rw [Bool.eq_iff_iff]; simp)
              · have n4 : ¬ X.kind = 4 := by simpa using h
                have k5 : X.kind = 5 := by have := okp.kind; omega
                refine KW.go lay_ok F8_ok 100 rfl (by simp only [inK, true_and, and_true, hrl]; omega) (KW.updB 5 rfl (KW.to (p + 1) ⟨by omega, by omega⟩ [(2, 2), (5, 5)] ⟨rfl, rfl, ⟨rfl, rfl, rfl, rfl, rfl, rfl, trivial⟩, ⟨rfl, own_catB0 _ (fin _ ?_), trivial⟩⟩))
                simp [nodeV, k5]
                rw [Int.tmod_eq_emod_of_nonneg hc.1, Bool.eq_iff_iff]; simp
  · have hp' : p = ns.length := by simp at h; omega
    refine KW.goOut lay_ok F8_ok 100 rfl (by simp) ?_
    refine KW.goRetO lay_ok F8_ok 100 rfl 5 4 rfl rfl rfl ?_ (by simp)
    rw [hp', valsN_all _ _ (Nat.le_refl _), Nat.sub_self]
    simp [nodesV]
end Go.Proofs.Ytpjhpcclbenfbaa
