/-
  Minimal path sets and cut sets within a set; the laws PathsReduces and PathsComplement.
-/
import Derived.Test.YtpjhpcclbenfbaaFqK
set_option linter.unusedVariables false
set_option linter.unusedSimpArgs false
namespace Go.Pu
open Go.Sy
/-- leaving out, from the last event to the first, what can be left out -/
def redN (ok : Int → Bool) : Nat → Int → Int
  | 0, s => s
  | i + 1, s => redN ok i (if ok (iandNot .i64 s (one i)) = true then iandNot .i64 s (one i) else s)
theorem redN_in {ok : Int → Bool} {n : Nat} (hn : n ≤ 24) : ∀ (k : Nat) {s : Int}, inN n s → inN n (redN ok k s)
  | 0, s, h => h
  | k + 1, s, h => by
    rw [redN]
    refine redN_in hn k ?_
    split
    · exact inN_iandNot hn h
    · exact h
theorem part_iandNot (s x : Int) : Part (iandNot .i64 s x) s := fun i hi => by rw [bit_iandNot', Bool.and_eq_true] at hi; exact hi.1
theorem redN_part {ok : Int → Bool} : ∀ (k : Nat) (s : Int), Part (redN ok k s) s
  | 0, s => Part.refl s
  | k + 1, s => by
    rw [redN]
    refine (redN_part k _).trans ?_
    split
    · exact part_iandNot _ _
    · exact Part.refl s
theorem redN_ok {ok : Int → Bool} : ∀ (k : Nat) {s : Int}, ok s = true → ok (redN ok k s) = true
  | 0, s, h => h
  | k + 1, s, h => by
    rw [redN]
    refine redN_ok k ?_
    split
    · rename_i h; exact h
    · exact h
theorem redN_min {ok : Int → Bool} {n : Nat} (hn : n ≤ 24) (hm : ∀ x y, inN n x → inN n y → Part x y → ok x = true → ok y = true) : ∀ (k : Nat), k ≤ n → ∀ {s : Int}, inN n s → ∀ i, i < k → bit (redN ok k s) i = true → ok (iandNot .i64 (redN ok k s) (one i)) = false
  | 0, _, s, _, i, hi, _ => by omega
  | k + 1, hk, s, hs, i, hi, hb => by
    have hlt : k < 24 := by omega
    rw [redN] at hb ⊢
    generalize hS : (if ok (iandNot .i64 s (one k)) = true then iandNot .i64 s (one k) else s) = S at hb ⊢
    have hSn : inN n S := by
      rw [← hS]; split
      · exact inN_iandNot hn hs
      · exact hs
    by_cases hik : i = k
    · subst hik
      have h1 := redN_part i S i hb
      split at hS
      · rw [← hS, bit_iandNot', one_bit hlt] at h1
        simp at h1
      · rename_i h2
        subst hS
        cases h3 : ok (iandNot .i64 (redN ok i s) (one i)) with
        | false => rfl
        | true =>
          refine absurd (hm _ _ (inN_iandNot hn (redN_in hn i hs)) (inN_iandNot hn hs) (fun j hj => ?_) h3) h2
          rw [bit_iandNot', Bool.and_eq_true] at hj ⊢
          exact ⟨redN_part i s j hj.1, hj.2⟩
    · exact redN_min hn hm k (by omega) hSn i (by omega) hb
theorem redN_same {ok : Int → Bool} {i : Nat} {s : Int} (hs : rng s) (hi : i < 24) (hb : bit s i = false) : iandNot .i64 s (one i) = s := by
  refine rng_ext (by simp) hs fun j _ => ?_
  rw [bit_iandNot', one_bit hi]
  by_cases h : i = j
  · subst h; simp [hb]
  · simp [h]
end Go.Pu
namespace Go.Proofs.Ytpjhpcclbenfbaa
open Go.Sy Go.Pu
theorem isP_mono {f : FormP} (ok : FormOk f) (hc : cohF f = true) {n : Nat} (hn : f.vars = n) (b : Bool) : ∀ x y, inN n x → inN n y → Part x y → isP f x b = true → isP f y b = true := by
  intro x y hx hy hp h
  have hn24 : n ≤ 24 := by have := ok.vars; omega
  cases b with
  | false =>
    rw [isP_cut] at h ⊢
    exact value_mono ok hc (fun i _ hi => hp i hi) h
  | true =>
    rw [isP_path hn] at h ⊢
    cases hv : valueF f (iandNot .i64 (allN n) y) with
    | false => rfl
    | true =>
      have := value_mono ok hc (y := iandNot .i64 (allN n) x) (fun i _ hi => by
        rw [bit_iandNot', Bool.and_eq_true] at hi ⊢
        refine ⟨hi.1, ?_⟩
        cases hxi : bit x i with
        | false => rfl
        | true => rw [hp i hxi] at hi; exact absurd hi.2 (by decide)) hv
      rw [this] at h; exact absurd h (by decide)
def redV (f : FormP) (s : Int) (b : Bool) : Int := if isV f s b = true then redN (fun x => isP f x b) f.vars.toNat s else 0
def redE (f : FormP) (s : Int) (b : Bool) : Int := if pathSE f s = 0 then if isP f s b = true then 0 else 17 else pathSE f s
theorem red_min {f : FormP} {s : Int} {b : Bool} (h : redE f s b = 0) : minV f (redV f s b) b = true ∧ pathSE f (redV f s b) = 0 ∧ iandNot .i64 (redV f s b) s = 0 := by
  have h1 : pathSE f s = 0 := by
    unfold redE at h
    split at h
    · assumption
    · exact h
  have h2 : isP f s b = true := by
    rw [redE, if_pos h1] at h
    split at h
    · assumption
    · cases h
  obtain ⟨h0, hc, hs⟩ := pathSE_ok h1
  have ok := formE_ok h0
  have hv := ok.vars
  obtain ⟨n, hn⟩ := Int.eq_ofNat_of_zero_le hv.1
  have hn24 : n ≤ 24 := by omega
  have hnn : f.vars.toNat = n := by omega
  rw [hn] at hs
  have hsn : inN n s := (inN_iff hn24).2 ⟨hs.1, by rw [← ishl_one]; exact hs.2⟩
  have e : redV f s b = redN (fun x => isP f x b) n s := by rw [redV, if_pos (by simp [isV, h1, h2]), hnn]
  rw [e]
  have hr := redN_in (ok := fun x => isP f x b) hn24 n hsn
  have hr' := (inN_iff hn24).1 hr
  have hp : pathSE f (redN (fun x => isP f x b) n s) = 0 := by
    have hpe : pathE f = 0 := by
      unfold pathSE at h1
      split at h1
      · assumption
      · exact h1
    rw [pathSE, if_pos hpe, if_pos ⟨hr'.1, by rw [hn, ishl_one]; exact hr'.2⟩]
  refine ⟨?_, hp, ?_⟩
  · rw [minV, hp, hnn]
    simp only [decide_true, Bool.true_and]
    exact minP_iff.2 ⟨redN_ok (ok := fun x => isP f x b) n h2, fun i hi hb => redN_min (ok := fun x => isP f x b) hn24 (isP_mono ok hc hn b) n (Nat.le_refl _) hsn i hi hb⟩
  · rw [eq_zero_iff (by simp)]
    intro i hi
    rw [bit_iandNot']
    cases hb : bit (redN (fun x => isP f x b) n s) i with
    | false => rfl
    | true => rw [redN_part n s i hb]; rfl

theorem preduce_does (f : FormP) (s : Int) (b : Bool) (hin : FormIn f) : DoesF Try.prog 87 [.ag (formC f), iV s, bV b] [] (.tup [iV (redV f s b), eV (redE f s b)]) [] := by
  refine DoesF.body _ Try.func87 rfl rfl rfl rfl ?_
  obtain ⟨vars, ns, top⟩ := f
  refine KW.goIf lay_ok G7_ok 100 rfl (by simp only [unN_nodesC, isN_nodesC, true_and, and_true, ifcV_errV]; simp [hin]) rfl trivial (fun h => ?_) fun h => ?_
  · simp only [unN_nodesC] at h
    have h1 : ¬ pathSE ⟨vars, ns, top⟩ s = 0 := by
      have e : (!isNilB (errV 66 (pathSE ⟨vars, ns, top⟩ s))) = true := h
      simpa using e
    have e2 : redV ⟨vars, ns, top⟩ s b = 0 := by simp [redV, isV, h1]
    have e3 : redE ⟨vars, ns, top⟩ s b = pathSE ⟨vars, ns, top⟩ s := by simp [redE, h1]
    refine KW.goRet lay_ok G7_ok 100 rfl rfl ?_ (by simp) trivial
    simp only [unN_nodesC, e2, e3]; rfl
  simp only [unN_nodesC] at h
  have h1 : pathSE ⟨vars, ns, top⟩ s = 0 := by
    have e : (!isNilB (errV 66 (pathSE ⟨vars, ns, top⟩ s))) = false := h
    simpa using e
  refine KW.goIf lay_ok G7_ok 100 rfl (by simp) rfl trivial (fun h => ?_) fun h => ?_
  · simp only [unN_nodesC] at h
    have h2 : isP ⟨vars, ns, top⟩ s b = false := by
      have e : (!isV ⟨vars, ns, top⟩ s b) = true := h
      simpa [isV, h1] using e
    have e2 : redV ⟨vars, ns, top⟩ s b = 0 := by simp [redV, isV, h2]
    have e3 : redE ⟨vars, ns, top⟩ s b = 17 := by simp [redE, h1, h2]
    refine KW.goRet lay_ok G7_ok 100 rfl rfl ?_ (by simp) trivial
    simp only [unN_nodesC, e2, e3]; rfl
  simp only [unN_nodesC] at h
  have h2 : isP ⟨vars, ns, top⟩ s b = true := by
    have e : (!isV ⟨vars, ns, top⟩ s b) = false := h
    simpa [isV, h1] using e
  obtain ⟨h0, hc, hs⟩ := pathSE_ok h1
  have hv := (formE_ok h0).vars
  simp only at hv hs
  obtain ⟨n, rfl⟩ := Int.eq_ofNat_of_zero_le hv.1
  have hn24 : n ≤ 24 := by omega
  have hsn : inN n s := (inN_iff hn24).2 ⟨hs.1, by rw [← ishl_one]; exact hs.2⟩
  have e3 := fun (x : Int) (hx : inN n x) => cmpl_state (f := ⟨n, ns, top⟩) h0 rfl hx b
  have e4 : ∀ x, inN n x → (valV ⟨n, ns, top⟩ (cmplF ⟨n, ns, top⟩ x b) != b) = isP ⟨n, ns, top⟩ x b := fun x hx => by simp [valV, e3 x hx, isP]
  have e2 : redV ⟨n, ns, top⟩ s b = redN (fun x => isP ⟨n, ns, top⟩ x b) n s := by rw [redV, if_pos (by simp [isV, h1, h2])]; rfl
  have e5 : redE ⟨n, ns, top⟩ s b = 0 := by simp [redE, h1, h2]
  rw [e2, e5]
  refine KW.goLpR lay_ok G7_ok 100 rfl (I := fun q : Nat × Int => ⟨Try.f87.ntmps, [(1, sI q.2), (2, sB b), (3, .e (.r 3)), (10, sI ((q.1 : Int) - 1))], [(3, .box 24 [iV n, .c (nodesC ns), iV top] none)]⟩)
    (R := fun q => q.1 ≤ n ∧ inN n q.2 ∧ redN (fun x => isP ⟨n, ns, top⟩ x b) q.1 q.2 = redN (fun x => isP ⟨n, ns, top⟩ x b) n s) (m := fun q => q.1) (n, s) [(3, 3)] rfl rfl ⟨rfl, rfl, rfl, rfl, trivial⟩ (by simp [inK]; omega) ⟨Nat.le_refl _, hsn, rfl⟩ ⟨rfl, trivial⟩ ?_
  rintro ⟨k, x⟩ ⟨g1, g2, g3⟩
  simp only at g1 g2 g3
  refine KW.goIf lay_ok G7_ok 100 rfl (by simp) rfl trivial (fun h => ?_) fun h => ?_
  · obtain ⟨j, rfl⟩ : ∃ j, k = j + 1 := ⟨k - 1, by simp at h; omega⟩
    have hj : (((j + 1 : Nat) : Int) - 1) = (j : Int) := by omega
    have hone : ishl 1 (j : Int) = Go.Pu.one j := rfl
    have hor := validS_iff.1 (one_valid (show j < 24 by omega))
    have hin2 := inN_iandNot (y := Go.Pu.one j) hn24 g2
    rw [redN] at g3
    refine KW.goIf lay_ok G7_ok 100 rfl ?_ rfl trivial (fun h => ?_) fun h => ?_
    · simp only [hj, unN_nodesC, isN_nodesC, true_and, and_true, inK, bitsI, hone, ifcV_errV]
      simp [hin, h0]
      omega
    · exfalso
      simp only [hj, unN_nodesC, hone] at h
      have e : (!isNilB (errV 66 (stateE ⟨n, ns, top⟩ (cmplF ⟨n, ns, top⟩ (iandNot .i64 x (Go.Pu.one j)) b)))) = true := h
      rw [e3 _ hin2] at e
      exact absurd e (by decide)
    · refine KW.goIf lay_ok G7_ok 100 rfl (by simp) rfl trivial (fun h => ?_) fun h => ?_
      · have h4 : isP ⟨n, ns, top⟩ (iandNot .i64 x (Go.Pu.one j)) b = true := by
          simp only [hj, unN_nodesC, hone] at h
          rw [← e4 _ hin2]; exact h
        rw [if_pos h4] at g3
        refine KW.goToR lay_ok G7_ok 100 rfl (j, iandNot .i64 x (Go.Pu.one j)) [(3, 3)] rfl rfl ⟨?_, rfl, rfl, ?_, trivial⟩ (by simp [inK]; omega) ⟨⟨by simp only; omega, hin2, g3⟩, by simp only; omega⟩ ⟨rfl, trivial⟩
        · rw [← hone, ← hj]; rfl
        · show _ = some (sI ((j : Int) - 1))
          rw [← hj]; rfl
      · have h4 : ¬ isP ⟨n, ns, top⟩ (iandNot .i64 x (Go.Pu.one j)) b = true := by
          simp only [hj, unN_nodesC, hone] at h
          rw [← e4 _ hin2, h]; decide
        rw [if_neg h4] at g3
        refine KW.goToR lay_ok G7_ok 100 rfl (j, x) [(3, 3)] rfl rfl ⟨rfl, rfl, rfl, ?_, trivial⟩ (by simp [inK]; omega) ⟨⟨by simp only; omega, g2, g3⟩, by simp only; omega⟩ ⟨rfl, trivial⟩
        · show _ = some (sI ((j : Int) - 1))
          rw [← hj]; rfl
  · have hk : k = 0 := by simp at h; omega
    subst hk
    refine KW.goOut lay_ok G7_ok 100 rfl (by simp) ?_
    refine KW.goRet lay_ok G7_ok 100 rfl rfl ?_ (by simp) trivial
    rw [← g3]; rfl
def K5a : Fns := (87, fFIB (fun f s b => .tup [iV (redV f s b), eV (redE f s b)]) fun f s b => FormIn f) ::
  G7
theorem K5a_ok : FnsOk Try.prog K5a := .cons (G7_ok) Try.func87 rfl rfl (fFIB_ok fun f s b h => preduce_does f s b h)


theorem pReduce_does (f : FormP) (s : Int) (hin : FormIn f) : DoesF Try.prog 46 [.ag (formC f), iV s] [] (.tup [iV (redV f s true), eV (redE f s true)]) [] := by
  refine DoesF.body _ Try.func46 rfl rfl rfl rfl ?_
  obtain ⟨vars, ns, top⟩ := f
  refine KW.goRet lay_ok K5a_ok 100 rfl rfl ?_ (by simp only [unN_nodesC, isN_nodesC, true_and, and_true]; simp [hin]) trivial
  simp only [unN_nodesC]; rfl
theorem pReduceCut_does (f : FormP) (s : Int) (hin : FormIn f) : DoesF Try.prog 47 [.ag (formC f), iV s] [] (.tup [iV (redV f s false), eV (redE f s false)]) [] := by
  refine DoesF.body _ Try.func47 rfl rfl rfl rfl ?_
  obtain ⟨vars, ns, top⟩ := f
  refine KW.goRet lay_ok K5a_ok 100 rfl rfl ?_ (by simp only [unN_nodesC, isN_nodesC, true_and, and_true]; simp [hin]) trivial
  simp only [unN_nodesC]; rfl
theorem rReduce34_does (f : FormP) (s : Int) (hin : FormIn f) : DoesF Try.prog 48 [.ag (formC f), iV s] [] (.tup [iV (redV f s true), iV (redE f s true)]) [] := by
  refine DoesF.body _ Try.func48 rfl rfl rfl rfl ?_
  obtain ⟨vars, ns, top⟩ := f
  refine KW.goIf lay_ok K4_ok 100 rfl (by simp [hin]) rfl trivial (fun h => ?_) fun h => ?_
  · simp only [unN_nodesC] at h
    have h1 : ¬ pathSE ⟨vars, ns, top⟩ s = 0 := by
      have e : (pathSE ⟨vars, ns, top⟩ s != 0) = true := h
      simpa using e
    have e2 : redV ⟨vars, ns, top⟩ s true = 0 := by simp [redV, isV, h1]
    have e3 : redE ⟨vars, ns, top⟩ s true = pathSE ⟨vars, ns, top⟩ s := by simp [redE, h1]
    refine KW.goRet lay_ok K4_ok 100 rfl rfl ?_ (by simp) trivial
    simp only [unN_nodesC, e2, e3]; rfl
  simp only [unN_nodesC] at h
  have h1 : pathSE ⟨vars, ns, top⟩ s = 0 := by
    have e : (pathSE ⟨vars, ns, top⟩ s != 0) = false := h
    simpa using e
  refine KW.goIf lay_ok K4_ok 100 rfl (by simp) rfl trivial (fun h => ?_) fun h => ?_
  · simp only [unN_nodesC] at h
    have h2 : isP ⟨vars, ns, top⟩ s true = false := by
      have e : (!isV ⟨vars, ns, top⟩ s true) = true := h
      simpa [isV, h1] using e
    have e2 : redV ⟨vars, ns, top⟩ s true = 0 := by simp [redV, isV, h2]
    have e3 : redE ⟨vars, ns, top⟩ s true = 17 := by simp [redE, h1, h2]
    refine KW.goRet lay_ok K4_ok 100 rfl rfl ?_ (by simp) trivial
    simp only [unN_nodesC, e2, e3]; rfl
  simp only [unN_nodesC] at h
  have h2 : isP ⟨vars, ns, top⟩ s true = true := by
    have e : (!isV ⟨vars, ns, top⟩ s true) = false := h
    simpa [isV, h1] using e
  obtain ⟨h0, hc, hs⟩ := pathSE_ok h1
  have hv := (formE_ok h0).vars
  simp only at hv hs
  obtain ⟨n, rfl⟩ := Int.eq_ofNat_of_zero_le hv.1
  have hn24 : n ≤ 24 := by omega
  have hsn : inN n s := (inN_iff hn24).2 ⟨hs.1, by rw [← ishl_one]; exact hs.2⟩
  have e2 : redV ⟨n, ns, top⟩ s true = redN (fun x => isP ⟨n, ns, top⟩ x true) n s := by rw [redV, if_pos (by simp [isV, h1, h2])]; rfl
  have e5 : redE ⟨n, ns, top⟩ s true = 0 := by simp [redE, h1, h2]
  rw [e2, e5]
  refine KW.goLpR lay_ok K4_ok 100 rfl (I := fun q : Nat × Int => ⟨Try.f48.ntmps, [(1, sI q.2), (2, .e (.r 2)), (8, sI ((q.1 : Int) - 1))], [(2, .box 24 [iV n, .c (nodesC ns), iV top] none)]⟩)
    (R := fun q => q.1 ≤ n ∧ inN n q.2 ∧ redN (fun x => isP ⟨n, ns, top⟩ x true) q.1 q.2 = redN (fun x => isP ⟨n, ns, top⟩ x true) n s) (m := fun q => q.1) (n, s) [(2, 2)] rfl rfl ⟨rfl, rfl, rfl, trivial⟩ (by simp [inK]; omega) ⟨Nat.le_refl _, hsn, rfl⟩ ⟨rfl, trivial⟩ ?_
  rintro ⟨k, x⟩ ⟨g1, g2, g3⟩
  simp only at g1 g2 g3
  refine KW.goIf lay_ok K4_ok 100 rfl (by simp) rfl trivial (fun h => ?_) fun h => ?_
  · obtain ⟨j, rfl⟩ : ∃ j, k = j + 1 := ⟨k - 1, by simp at h; omega⟩
    have hj : (((j + 1 : Nat) : Int) - 1) = (j : Int) := by omega
    have hj24 : j < 24 := by omega
    have hone : ishl 1 (j : Int) = Go.Pu.one j := rfl
    have hor := validS_iff.1 (one_valid hj24)
    have hin2 := inN_iandNot (y := Go.Pu.one j) hn24 g2
    have e6 : (iand .i64 (ishr x (j : Int)) 1 == 1) = bit x j := by
      rw [ishr_bit _ (by omega)]
      cases bit x j <;> rfl
    rw [redN] at g3
    refine KW.goD lay_ok K4_ok rfl 100 rfl (by decide +kernel) rfl (by simp) ?_ ?_
    · simp only [hj, unN_nodesC, isN_nodesC, true_and, and_true, inK, bitsI, hone]
      simp [hin, h0]
      omega
    refine KW.goIf lay_ok K4_ok 100 rfl (by simp) rfl trivial (fun h => ?_) fun h => ?_
    · have h4 : bit x j = true ∧ isP ⟨n, ns, top⟩ (iandNot .i64 x (Go.Pu.one j)) true = true := by
        simp only [hj, unN_nodesC, hone, e6] at h
        simpa using h
      rw [if_pos h4.2] at g3
      refine KW.goToR lay_ok K4_ok 100 rfl (j, iandNot .i64 x (Go.Pu.one j)) [(2, 2)] rfl rfl ⟨?_, rfl, ?_, trivial⟩ (by simp [inK, bitsI]; omega) ⟨⟨by simp only; omega, hin2, g3⟩, by simp only; omega⟩ ⟨rfl, trivial⟩
      · rw [← hone, ← hj]; rfl
      · show _ = some (sI ((j : Int) - 1))
        rw [← hj]; rfl
    · have h4 : ¬ (bit x j = true ∧ isP ⟨n, ns, top⟩ (iandNot .i64 x (Go.Pu.one j)) true = true) := by
        simp only [hj, unN_nodesC, hone, e6] at h
        simpa using h
      have g3' : redN (fun x => isP ⟨n, ns, top⟩ x true) j x = redN (fun x => isP ⟨n, ns, top⟩ x true) n s := by
        rw [← g3]
        split
        · rename_i h5
          have h6 : bit x j = false := by
            cases hb : bit x j with
            | false => rfl
            | true => exact absurd ⟨hb, h5⟩ h4
          rw [redN_same (ok := fun x => isP ⟨n, ns, top⟩ x true) (validS_rng g2.1) hj24 h6]
        · rfl
      refine KW.goToR lay_ok K4_ok 100 rfl (j, x) [(2, 2)] rfl rfl ⟨rfl, rfl, ?_, trivial⟩ (by simp [inK]; omega) ⟨⟨by simp only; omega, g2, g3'⟩, by simp only; omega⟩ ⟨rfl, trivial⟩
      · show _ = some (sI ((j : Int) - 1))
        rw [← hj]; rfl
  · have hk : k = 0 := by simp at h; omega
    subst hk
    refine KW.goOut lay_ok K4_ok 100 rfl (by simp) ?_
    refine KW.goRet lay_ok K4_ok 100 rfl rfl ?_ (by simp) trivial
    rw [← g3]; rfl

theorem rReduceCut34_does (f : FormP) (s : Int) (hin : FormIn f) : DoesF Try.prog 49 [.ag (formC f), iV s] [] (.tup [iV (redV f s false), iV (redE f s false)]) [] := by
  refine DoesF.body _ Try.func49 rfl rfl rfl rfl ?_
  obtain ⟨vars, ns, top⟩ := f
  refine KW.goIf lay_ok K4_ok 100 rfl (by simp [hin]) rfl trivial (fun h => ?_) fun h => ?_
  · simp only [unN_nodesC] at h
    have h1 : ¬ pathSE ⟨vars, ns, top⟩ s = 0 := by
      have e : (pathSE ⟨vars, ns, top⟩ s != 0) = true := h
      simpa using e
    have e2 : redV ⟨vars, ns, top⟩ s false = 0 := by simp [redV, isV, h1]
    have e3 : redE ⟨vars, ns, top⟩ s false = pathSE ⟨vars, ns, top⟩ s := by simp [redE, h1]
    refine KW.goRet lay_ok K4_ok 100 rfl rfl ?_ (by simp) trivial
    simp only [unN_nodesC, e2, e3]; rfl
  simp only [unN_nodesC] at h
  have h1 : pathSE ⟨vars, ns, top⟩ s = 0 := by
    have e : (pathSE ⟨vars, ns, top⟩ s != 0) = false := h
    simpa using e
  refine KW.goIf lay_ok K4_ok 100 rfl (by simp) rfl trivial (fun h => ?_) fun h => ?_
  · simp only [unN_nodesC] at h
    have h2 : isP ⟨vars, ns, top⟩ s false = false := by
      have e : (!isV ⟨vars, ns, top⟩ s false) = true := h
      simpa [isV, h1] using e
    have e2 : redV ⟨vars, ns, top⟩ s false = 0 := by simp [redV, isV, h2]
    have e3 : redE ⟨vars, ns, top⟩ s false = 17 := by simp [redE, h1, h2]
    refine KW.goRet lay_ok K4_ok 100 rfl rfl ?_ (by simp) trivial
    simp only [unN_nodesC, e2, e3]; rfl
  simp only [unN_nodesC] at h
  have h2 : isP ⟨vars, ns, top⟩ s false = true := by
    have e : (!isV ⟨vars, ns, top⟩ s false) = false := h
    simpa [isV, h1] using e
  obtain ⟨h0, hc, hs⟩ := pathSE_ok h1
  have hv := (formE_ok h0).vars
  simp only at hv hs
  obtain ⟨n, rfl⟩ := Int.eq_ofNat_of_zero_le hv.1
  have hn24 : n ≤ 24 := by omega
  have hsn : inN n s := (inN_iff hn24).2 ⟨hs.1, by rw [← ishl_one]; exact hs.2⟩
  have e2 : redV ⟨n, ns, top⟩ s false = redN (fun x => isP ⟨n, ns, top⟩ x false) n s := by rw [redV, if_pos (by simp [isV, h1, h2])]; rfl
  have e5 : redE ⟨n, ns, top⟩ s false = 0 := by simp [redE, h1, h2]
  rw [e2, e5]
  refine KW.goLpR lay_ok K4_ok 100 rfl (I := fun q : Nat × Int => ⟨Try.f49.ntmps, [(1, sI q.2), (2, .e (.r 2)), (8, sI ((q.1 : Int) - 1))], [(2, .box 24 [iV n, .c (nodesC ns), iV top] none)]⟩)
    (R := fun q => q.1 ≤ n ∧ inN n q.2 ∧ redN (fun x => isP ⟨n, ns, top⟩ x false) q.1 q.2 = redN (fun x => isP ⟨n, ns, top⟩ x false) n s) (m := fun q => q.1) (n, s) [(2, 2)] rfl rfl ⟨rfl, rfl, rfl, trivial⟩ (by simp [inK]; omega) ⟨Nat.le_refl _, hsn, rfl⟩ ⟨rfl, trivial⟩ ?_
  rintro ⟨k, x⟩ ⟨g1, g2, g3⟩
  simp only at g1 g2 g3
  refine KW.goIf lay_ok K4_ok 100 rfl (by simp) rfl trivial (fun h => ?_) fun h => ?_
  · obtain ⟨j, rfl⟩ : ∃ j, k = j + 1 := ⟨k - 1, by simp at h; omega⟩
    have hj : (((j + 1 : Nat) : Int) - 1) = (j : Int) := by omega
    have hj24 : j < 24 := by omega
    have hone : ishl 1 (j : Int) = Go.Pu.one j := rfl
    have hor := validS_iff.1 (one_valid hj24)
    have hin2 := inN_iandNot (y := Go.Pu.one j) hn24 g2
    have e6 : (iand .i64 (ishr x (j : Int)) 1 == 1) = bit x j := by
      rw [ishr_bit _ (by omega)]
      cases bit x j <;> rfl
    rw [redN] at g3
    refine KW.goD lay_ok K4_ok rfl 100 rfl (by decide +kernel) rfl (by simp) ?_ ?_
    · simp only [hj, unN_nodesC, isN_nodesC, true_and, and_true, inK, bitsI, hone]
      simp [hin, h0]
      omega
    refine KW.goIf lay_ok K4_ok 100 rfl (by simp) rfl trivial (fun h => ?_) fun h => ?_
    · have h4 : bit x j = true ∧ isP ⟨n, ns, top⟩ (iandNot .i64 x (Go.Pu.one j)) false = true := by
        simp only [hj, unN_nodesC, hone, e6] at h
        simpa using h
      rw [if_pos h4.2] at g3
      refine KW.goToR lay_ok K4_ok 100 rfl (j, iandNot .i64 x (Go.Pu.one j)) [(2, 2)] rfl rfl ⟨?_, rfl, ?_, trivial⟩ (by simp [inK, bitsI]; omega) ⟨⟨by simp only; omega, hin2, g3⟩, by simp only; omega⟩ ⟨rfl, trivial⟩
      · rw [← hone, ← hj]; rfl
      · show _ = some (sI ((j : Int) - 1))
        rw [← hj]; rfl
    · have h4 : ¬ (bit x j = true ∧ isP ⟨n, ns, top⟩ (iandNot .i64 x (Go.Pu.one j)) false = true) := by
        simp only [hj, unN_nodesC, hone, e6] at h
        simpa using h
      have g3' : redN (fun x => isP ⟨n, ns, top⟩ x false) j x = redN (fun x => isP ⟨n, ns, top⟩ x false) n s := by
        rw [← g3]
        split
        · rename_i h5
          have h6 : bit x j = false := by
            cases hb : bit x j with
            | false => rfl
            | true => exact absurd ⟨hb, h5⟩ h4
          rw [redN_same (ok := fun x => isP ⟨n, ns, top⟩ x false) (validS_rng g2.1) hj24 h6]
        · rfl
      refine KW.goToR lay_ok K4_ok 100 rfl (j, x) [(2, 2)] rfl rfl ⟨rfl, rfl, ?_, trivial⟩ (by simp [inK]; omega) ⟨⟨by simp only; omega, g2, g3'⟩, by simp only; omega⟩ ⟨rfl, trivial⟩
      · show _ = some (sI ((j : Int) - 1))
        rw [← hj]; rfl
  · have hk : k = 0 := by simp at h; omega
    subst hk
    refine KW.goOut lay_ok K4_ok 100 rfl (by simp) ?_
    refine KW.goRet lay_ok K4_ok 100 rfl rfl ?_ (by simp) trivial
    rw [← g3]; rfl

def K5 : Fns := (48, fFI (fun f s => .tup [iV (redV f s true), iV (redE f s true)]) fun f s => FormIn f) ::
  (49, fFI (fun f s => .tup [iV (redV f s false), iV (redE f s false)]) fun f s => FormIn f) ::
  (46, fFI (fun f s => .tup [iV (redV f s true), eV (redE f s true)]) fun f s => FormIn f) ::
  (47, fFI (fun f s => .tup [iV (redV f s false), eV (redE f s false)]) fun f s => FormIn f) ::
  K4
theorem K5_ok : FnsOk Try.prog K5 := .cons (.cons (.cons (.cons (K4_ok) Try.func47 rfl rfl (fFI_ok fun f s h => pReduceCut_does f s h)) Try.func46 rfl rfl (fFI_ok fun f s h => pReduce_does f s h)) Try.func49 rfl rfl (fFI_ok fun f s h => rReduceCut34_does f s h)) Try.func48 rfl rfl (fFI_ok fun f s h => rReduce34_does f s h)


theorem lawPathsReduces_does (f : FormP) (s : Int) (hin : FormIn f) : DoesF Try.prog 12 [.ag (formC f), iV s] [] (sB true) [] := by
  refine DoesF.body _ Try.func12 rfl rfl rfl rfl ?_
  obtain ⟨vars, ns, top⟩ := f
  refine KW.goIf lay_ok K5_ok 100 rfl (by simp [hin]) rfl trivial (fun h => ?_) fun h => ?_
  · exact KW.goRet lay_ok K5_ok 100 rfl rfl rfl (by simp) trivial
  have r1 := red_min (f := ⟨vars, ns, top⟩) (s := s) (b := true)
  have r2 := red_min (f := ⟨vars, ns, top⟩) (s := s) (b := false)
  refine KW.goIf lay_ok K5_ok 400 rfl (by simp +contextual [hin]) rfl trivial (fun h => ?_) fun h => ?_
  · exfalso
    simp at h
  have fin : ∀ (A : St) (k : List K), True := fun _ _ => trivial
  refine KW.goIf lay_ok K5_ok 100 rfl (by simp) rfl trivial (fun h => ?_) fun h => ?_
  · simp only [unN_nodesC] at h
    have h1 : redE ⟨vars, ns, top⟩ s true = 0 := by
      have e : isNilB (errV 66 (redE ⟨vars, ns, top⟩ s true)) = true := h
      simpa using e
    obtain ⟨m1, m2, m3⟩ := r1 h1
    refine KW.goIf lay_ok K5_ok 100 rfl (by simp +contextual [hin]) rfl trivial (fun h => ?_) fun h => ?_
    · exfalso
      simp [m1, m2, m3] at h
    refine KW.goIf lay_ok K5_ok 100 rfl (by simp) rfl trivial (fun h => ?_) fun h => ?_
    · simp only [unN_nodesC] at h
      have h1 : redE ⟨vars, ns, top⟩ s false = 0 := by
        have e : isNilB (errV 66 (redE ⟨vars, ns, top⟩ s false)) = true := h
        simpa using e
      obtain ⟨m1, m2, m3⟩ := r2 h1
      refine KW.goIf lay_ok K5_ok 100 rfl (by simp +contextual [hin]) rfl trivial (fun h => ?_) fun h => ?_
      · exfalso
        simp [m1, m2, m3] at h
      exact KW.goRet lay_ok K5_ok 100 rfl rfl rfl (by simp) trivial
    · exact KW.goRet lay_ok K5_ok 100 rfl rfl rfl (by simp) trivial
  · refine KW.goIf lay_ok K5_ok 100 rfl (by simp) rfl trivial (fun h => ?_) fun h => ?_
    · simp only [unN_nodesC] at h
      have h1 : redE ⟨vars, ns, top⟩ s false = 0 := by
        have e : isNilB (errV 66 (redE ⟨vars, ns, top⟩ s false)) = true := h
        simpa using e
      obtain ⟨m1, m2, m3⟩ := r2 h1
      refine KW.goIf lay_ok K5_ok 100 rfl (by simp +contextual [hin]) rfl trivial (fun h => ?_) fun h => ?_
      · exfalso
        simp [m1, m2, m3] at h
      exact KW.goRet lay_ok K5_ok 100 rfl rfl rfl (by simp) trivial
    · exact KW.goRet lay_ok K5_ok 100 rfl rfl rfl (by simp) trivial

theorem pathE_ok {f : FormP} (h1 : pathE f = 0) : formE f = 0 ∧ cohF f = true := by
  unfold pathE at h1
  split at h1
  · rename_i h0
    split at h1
    · rename_i hc; exact ⟨h0, hc⟩
    · cases h1
  · rename_i h0; exact absurd h1 h0
theorem lawPathsComplement_does (f : FormP) (s more : Int) (hin : FormIn f) : DoesF Try.prog 10 [.ag (formC f), iV s, iV more] [] (sB true) [] := by
  refine DoesF.body _ Try.func10 rfl rfl rfl rfl ?_
  obtain ⟨vars, ns, top⟩ := f
  refine KW.goIf lay_ok K5_ok 100 rfl (by simp [hin]) rfl trivial (fun h => ?_) fun h => ?_
  · exact KW.goRet lay_ok K5_ok 100 rfl rfl rfl (by simp) trivial
  have h1 : pathE ⟨vars, ns, top⟩ = 0 := by
    simp at h; exact h.2
  obtain ⟨h0, hc⟩ := pathE_ok h1
  have ok := formE_ok h0
  have hv := ok.vars
  simp only at hv
  obtain ⟨n, rfl⟩ := Int.eq_ofNat_of_zero_le hv.1
  have hn24 : n ≤ 24 := by omega
  have hsr := shl_rng hv
  have eA : ishl 1 (n : Int) - 1 = allN n := by have := Nat.two_pow_pos n; rw [ishl_one, allN]; omega
  have hA : inN n (allN n) := inN_allN hn24
  have hS : inN n (iand .i64 s (allN n)) := by
    have := inN_iand (y := s) hn24 hA
    have e : iand .i64 s (allN n) = iand .i64 (allN n) s := rng_ext (by simp) (by simp) fun i _ => by simp only [bit_iand]; exact Bool.and_comm _ _
    rw [e]; exact this
  have hM : inN n (iand .i64 more (allN n)) := by
    have := inN_iand (y := more) hn24 hA
    have e : iand .i64 more (allN n) = iand .i64 (allN n) more := rng_ext (by simp) (by simp) fun i _ => by simp only [bit_iand]; exact Bool.and_comm _ _
    rw [e]; exact this
  have hC : inN n (iandNot .i64 (allN n) (iand .i64 s (allN n))) := inN_iandNot hn24 hA
  have hU : inN n (ior .i64 (iand .i64 s (allN n)) (iand .i64 more (allN n))) := inN_ior hn24 hS hM
  have hE : ∀ x, inN n x → pathSE ⟨n, ns, top⟩ x = 0 := fun x hx => by
    have hx' := (inN_iff hn24).1 hx
    rw [pathSE, if_pos h1, if_pos ⟨hx'.1, by rw [ishl_one]; exact hx'.2⟩]
  have hV : ∀ x b, inN n x → isV ⟨n, ns, top⟩ x b = isP ⟨n, ns, top⟩ x b := fun x b hx => by simp [isV, hE x hx]
  have hP : Part (iand .i64 s (allN n)) (ior .i64 (iand .i64 s (allN n)) (iand .i64 more (allN n))) := fun i hi => by rw [bit_ior, hi]; rfl
  have m1 := isP_mono ok hc (n := n) rfl true _ _ hS hU hP
  have m2 := isP_mono ok hc (n := n) rfl false _ _ hS hU hP
  have m3 : isP ⟨n, ns, top⟩ (iand .i64 s (allN n)) true = !isP ⟨n, ns, top⟩ (iandNot .i64 (allN n) (iand .i64 s (allN n))) false := by rw [isP_path (n := n) rfl, isP_cut]
  refine KW.goRet lay_ok K5_ok 400 rfl rfl ?_ ?_ trivial
  · simp only [SV.ren, EV.ren, unN_nodesC, eA, hE _ hS, hE _ hC, hE _ hU, hV _ _ hS, hV _ _ hC, hV _ _ hU, m3]
    generalize isP ⟨n, ns, top⟩ (iandNot .i64 (allN n) (iand .i64 s (allN n))) false = a at *
    generalize isP ⟨n, ns, top⟩ (ior .i64 (iand .i64 s (allN n)) (iand .i64 more (allN n))) true = c at *
    generalize isP ⟨n, ns, top⟩ (ior .i64 (iand .i64 s (allN n)) (iand .i64 more (allN n))) false = u at *
    generalize isP ⟨n, ns, top⟩ (iand .i64 s (allN n)) false = d at *
    generalize isP ⟨n, ns, top⟩ (iand .i64 s (allN n)) true = a' at *
    subst m3
    cases a <;> cases c <;> cases u <;> cases d <;> simp_all
  · simp only [unN_nodesC, isN_nodesC, true_and, and_true, inK, bitsI, eA]
    simp +contextual [hin]
    omega
end Go.Proofs.Ytpjhpcclbenfbaa
