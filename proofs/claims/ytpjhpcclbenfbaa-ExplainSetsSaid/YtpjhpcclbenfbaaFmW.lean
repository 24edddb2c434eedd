/-
  The law ExplainDecides returns true.
-/
import Derived.Test.YtpjhpcclbenfbaaFmV
import Derived.Test.YtpjhpcclbenfbaaPuR
set_option linter.unusedVariables false
set_option linter.unusedSimpArgs false
namespace Go.Proofs.Ytpjhpcclbenfbaa
open Go.Sy Go.Pu

theorem ishr_zero {n : Nat} (hn : n ≤ 24) {x : Int} (h : inN n x) : ishr x (n : Int) = 0 := by
  obtain ⟨m, rfl, hm⟩ := h.nat hn
  rw [ishr_nat, Nat.div_eq_of_lt hm]; rfl
theorem lawDecides_does (f : FormP) (s o : Int) (hin : FormIn f) : DoesF Try.prog 7 [.ag (formC f), iV s, iV o] [] (sB true) [] := by
  refine DoesF.body _ Try.func7 rfl rfl rfl rfl ?_
  obtain ⟨vars, ns, top⟩ := f
  refine KW.goIf lay_ok F19_ok 100 rfl (by simp [hin]) rfl trivial (fun h => ?_) fun h => ?_
  · exact KW.goRet lay_ok F19_ok 100 rfl rfl rfl (by simp) trivial
  · simp only [unN_nodesC] at h
    have h1 : stateE ⟨vars, ns, top⟩ s = 0 := by
      have e : ((!lightF ⟨vars, ns, top⟩ || stateE ⟨vars, ns, top⟩ s != 0) || !true) = false := h
      simp only [Bool.or_eq_false_iff] at e
      simpa using e.1.2
    have h0 := (stateE_ok h1).1
    have ok : FormOk ⟨vars, ns, top⟩ := formE_ok h0
    have hs := (stateE_ok h1).2
    have hv := ok.vars
    simp only at hv hs
    obtain ⟨n, rfl⟩ := Int.eq_ofNat_of_zero_le hv.1
    have hn24 : n ≤ 24 := by omega
    have hp : 2 ^ n ≤ 2 ^ 24 := Nat.pow_le_pow_right (by decide) hn24
    have h24 : (2 : Nat) ^ 24 = 16777216 := rfl
    have hsn : inN n s := (inN_iff hn24).2 ⟨hs.1, by rw [← ishl_one]; exact hs.2⟩
    have hev : carE ⟨n, ns, top⟩ s = evN (carM ⟨n, ns, top⟩ s) n (n + ns.length) := by simp [carE, h1]
    have hS : inN n (carE ⟨n, ns, top⟩ s) := by rw [hev]; exact evN_valid _ hn24 _
    have hSb : ∀ i, i < n → bit (carE ⟨n, ns, top⟩ s) i = (marksF ⟨n, ns, top⟩ (carF ⟨n, ns, top⟩ s)).getD i false := fun i hi => by
      rw [hev, evN_bit _ hn24]
      simp only [hi, decide_true, Bool.and_true, show i < n + ns.length by omega, Bool.true_and]
      rfl
    have hal : ishl 1 (n : Int) - 1 = allN n := by
      have := Nat.two_pow_pos n
      rw [ishl_one, allN]; omega
    have hish := ishl_one n
    have hpos := Nat.two_pow_pos n
    have hx : inN n (ior .i64 (iand .i64 s (carE ⟨n, ns, top⟩ s)) (iandNot .i64 (iand .i64 o (ishl 1 (n : Int) - 1)) (carE ⟨n, ns, top⟩ s))) := by
      refine inN_of hn24 (by simp) fun i hi => ?_
      rw [hal]
      simp only [bit_ior, bit_iand, bit_iandNot', bit_allN hn24, hS.2 i hi, decide_eq_false (show ¬ i < n by omega)]
      simp
    have hxb := (inN_iff hn24).1 hx
    have hst : stateE ⟨n, ns, top⟩ (ior .i64 (iand .i64 s (carE ⟨n, ns, top⟩ s)) (iandNot .i64 (iand .i64 o (ishl 1 (n : Int) - 1)) (carE ⟨n, ns, top⟩ s))) = 0 := stateE_eq h0 ⟨hxb.1, by have := hxb.2; rw [← ishl_one] at this; exact this⟩
    have hval : valueF ⟨n, ns, top⟩ (ior .i64 (iand .i64 s (carE ⟨n, ns, top⟩ s)) (iandNot .i64 (iand .i64 o (ishl 1 (n : Int) - 1)) (carE ⟨n, ns, top⟩ s))) = valueF ⟨n, ns, top⟩ s := by
      refine carry_decides ok fun i hi hm => ?_
      have hi' : i < n := hi
      have hb := hSb i hi'
      rw [hm] at hb
      simp only [bit_ior, bit_iand, bit_iandNot', hb]
      simp
    have hz := ishr_zero hn24 hS
    refine KW.goRet lay_ok F19_ok 200 rfl rfl ?_ ?_ trivial
    · simp only [SV.ren, EV.ren, unN_nodesC, h1, hst, valV, hval, hz]
      simp
    · have hsr := shl_rng hv
      simp only [unN_nodesC, isN_nodesC, hin, ifcV_errV, inK, bitsI]
      simp +contextual
      refine ⟨by omega, fun _ _ => by omega⟩

def validF (f : FormP) (s : Int) : Bool := lightF f && decide (f.vars ≤ 7) && decide (stateE f s = 0)
theorem valid56_does (f : FormP) (s : Int) (hin : FormIn f) : DoesF Try.prog 28 [.ag (formC f), iV s] [] (sB (validF f s)) [] := by
  refine DoesF.body _ Try.func28 rfl rfl rfl rfl ?_
  obtain ⟨vars, ns, top⟩ := f
  refine KW.goRet lay_ok F19_ok 200 rfl rfl ?_ (by simp +contextual [hin]) trivial
  simp only [SV.ren, EV.ren, unN_nodesC, validF]
  congr 4
  all_goals (rw [Bool.eq_iff_iff]; simp)

theorem constant_does (f : FormP) (n : Nat) (c : Int × Int) (hin : FormIn f) (h0 : formE f = 0) (hn : f.vars = n) (h1 : inN n c.1) (h2 : inN n c.2) (h3 : iand .i64 c.1 c.2 = 0) :
    DoesF Try.prog 29 [.ag (formC f), .ag (cubeL c)] [] (sB (okV f n c.1 (ior .i64 c.1 c.2))) [] := by
  refine DoesF.body _ Try.func29 rfl rfl rfl rfl ?_
  have ok := formE_ok h0
  have hv := ok.vars
  obtain ⟨vars, ns, top⟩ := f
  obtain ⟨cy, cn⟩ := c
  simp only at hn hv h1 h2 h3
  subst hn
  have hn24 : n ≤ 24 := by omega
  have hp : 2 ^ n ≤ 2 ^ 24 := Nat.pow_le_pow_right (by decide) hn24
  have h24 : (2 : Nat) ^ 24 = 16777216 := rfl
  have hpos := Nat.two_pow_pos n
  have hinx : ∀ x : Nat, x < 2 ^ n → inN n (x : Int) := fun x hx => (inN_iff hn24).2 ⟨by omega, by omega⟩
  have hst : ∀ x : Nat, x < 2 ^ n → stateE ⟨n, ns, top⟩ x = 0 := fun x hx => stateE_eq h0 ⟨by omega, by simp only [ishl_one]; omega⟩
  have hval : ∀ x : Nat, x < 2 ^ n → valV ⟨n, ns, top⟩ x = valueF ⟨n, ns, top⟩ x := fun x hx => by simp [valV, hst x hx]
  have hcube : ∀ x, inN n x → ((iandNot .i64 cy x = 0 ∧ iand .i64 cn x = 0) ↔ iand .i64 (ixor .i64 x cy) (ior .i64 cy cn) = 0) := fun x hx => by
    rw [eq_zero_iff (by simp), eq_zero_iff (by simp), iand_zero']
    constructor
    · rintro ⟨a, b⟩ i hi
      have g1 := a i hi
      have g2 := b i hi
      have g3 := iand_zero'.1 h3 i hi
      simp only [bit_iandNot', bit_iand, bit_ixor, bit_ior] at g1 g2 ⊢
      revert g1 g2 g3
      cases bit cy i <;> cases bit cn i <;> cases bit x i <;> decide
    · intro a
      refine ⟨fun i hi => ?_, fun i hi => ?_⟩
      · have g1 := a i hi
        have g3 := iand_zero'.1 h3 i hi
        simp only [bit_iandNot', bit_iand, bit_ixor, bit_ior] at g1 ⊢
        revert g1 g3
        cases bit cy i <;> cases bit cn i <;> cases bit x i <;> decide
      · have g1 := a i hi
        have g3 := iand_zero'.1 h3 i hi
        simp only [bit_iandNot', bit_iand, bit_ixor, bit_ior] at g1 ⊢
        revert g1 g3
        cases bit cy i <;> cases bit cn i <;> cases bit x i <;> decide
  have hiff := okV_iff (f := ⟨n, ns, top⟩) hn24 (e := ior .i64 cy cn) h1
  have hself : iandNot .i64 cy cy = 0 ∧ iand .i64 cn cy = 0 := by
    rw [eq_zero_iff (by simp), eq_zero_iff (by simp)]
    refine ⟨fun i hi => by simp, fun i hi => ?_⟩
    have g3 := iand_zero'.1 h3 i hi
    rw [bit_iand, Bool.and_comm]; exact g3
  obtain ⟨yn, rfl, hyn⟩ := h1.nat hn24
  have hish := ishl_one n
  generalize hN : 2 ^ n = N at hp hpos hinx hst hval hyn hish
  refine KW.goLpR lay_ok F19_ok 100 rfl (I := fun q : Nat × Bool × Bool => ⟨Try.f29.ntmps, [(2, .e (.r 2)), (3, .e (.r 3)), (5, sB q.2.1), (6, sB q.2.2), (12, sI (ishl 1 (n : Int))), (13, sI q.1)],
      [(2, .box 24 [iV n, .c (nodesC ns), iV top] none), (3, .box 28 [iV yn, iV cn] none)]⟩)
    (R := fun q => q.1 ≤ N ∧ (∀ x : Nat, x < q.1 → iandNot .i64 (yn : Int) x = 0 ∧ iand .i64 cn x = 0 → q.2.2 = true ∧ valueF ⟨n, ns, top⟩ x = q.2.1) ∧ (q.2.2 = true → ∃ x : Nat, x < q.1 ∧ iandNot .i64 (yn : Int) x = 0 ∧ iand .i64 cn x = 0)) (m := fun q => N - q.1) (0, false, false) [(2, 2), (3, 3)] rfl rfl ⟨rfl, rfl, rfl, rfl, rfl, rfl, trivial⟩ (by simp only [inK, bitsI, hish, true_and, and_true]; omega) ⟨by simp, by simp, by simp⟩ ⟨rfl, rfl, trivial⟩ ?_
  rintro ⟨q, fi, fo⟩ ⟨g1, g2, g3⟩
  simp only at g1 g2 g3
  refine KW.goIf lay_ok F19_ok 100 rfl (by simp) rfl trivial (fun h => ?_) fun h => ?_
  · have hq : q < N := by
      have e1 : decide ((q : Int) < ishl 1 (n : Int)) = true := h
      rw [hish, decide_eq_true_eq] at e1; omega
    refine KW.goIf lay_ok F19_ok 100 rfl (by simp) rfl trivial (fun h => ?_) fun h => ?_
    · have h4 : ¬ (iandNot .i64 (yn : Int) q = 0 ∧ iand .i64 cn q = 0) := fun hh => by
        have e : (iandNot .i64 (yn : Int) q != 0 || iand .i64 cn q != 0) = true := h
        rw [hh.1, hh.2] at e
        simp at e
      refine KW.goToR lay_ok F19_ok 100 rfl (q + 1, fi, fo) [(2, 2), (3, 3)] rfl rfl ⟨rfl, rfl, rfl, rfl, rfl, rfl, trivial⟩ (by simp only [inK, true_and, and_true]; omega) ⟨⟨by simp only; omega, fun x hx hc => ?_, fun hh => ?_⟩, by simp only; omega⟩ ⟨rfl, rfl, trivial⟩
      · simp only at hx
        by_cases hxq : x = q
        · subst hxq; exact absurd hc h4
        · exact g2 x (by omega) hc
      · obtain ⟨x, hx, hc⟩ := g3 hh
        exact ⟨x, by simp only; omega, hc⟩
    · have h4 : iandNot .i64 (yn : Int) q = 0 ∧ iand .i64 cn q = 0 := by
        have e : (iandNot .i64 (yn : Int) q != 0 || iand .i64 cn q != 0) = false := h
        simpa using e
      refine KW.goIf lay_ok F19_ok 100 rfl (by simp only [unN_nodesC, isN_nodesC, hin, ifcV_errV]; simp +contextual) rfl trivial (fun h => ?_) fun h => ?_
      · simp only [unN_nodesC, hst q hq, hval q hq] at h
        have h5 : fo = true ∧ ¬ valueF ⟨n, ns, top⟩ q = fi := by
          have e : (!isNilB (errV 66 0) || (fo && valueF ⟨n, ns, top⟩ q != fi)) = true := h
          simpa using e
        obtain ⟨x, hx, hc⟩ := g3 h5.1
        have hvx := (g2 x hx hc).2
        refine KW.goOutR lay_ok F19_ok 100 rfl (by simp) ?_
        refine KW.goRet lay_ok F19_ok 100 rfl rfl ?_ (by simp) trivial
        have e2 : okV ⟨n, ns, top⟩ n (yn : Int) (ior .i64 (yn : Int) cn) = false := by
          cases hk : okV ⟨n, ns, top⟩ n (yn : Int) (ior .i64 (yn : Int) cn) with
          | false => rfl
          | true =>
            have k1 := hiff.1 hk x (hinx x (by omega)) ((hcube x (hinx x (by omega))).1 hc)
            have k2 := hiff.1 hk q (hinx q hq) ((hcube q (hinx q hq)).1 h4)
            exact absurd (k2.trans (k1.symm.trans hvx)) h5.2
        simp only [e2]; rfl
      · simp only [unN_nodesC, hst q hq, hval q hq] at h
        have h5 : fo = true → valueF ⟨n, ns, top⟩ q = fi := fun hfo => by
          have e : (!isNilB (errV 66 0) || (fo && valueF ⟨n, ns, top⟩ q != fi)) = false := h
          rw [hfo] at e
          simpa using e
        refine KW.goToR lay_ok F19_ok 100 rfl (q + 1, valueF ⟨n, ns, top⟩ q, true) [(2, 2), (3, 3)] rfl rfl ⟨rfl, rfl, by simp only [unN_nodesC, hval q hq]; rfl, rfl, rfl, rfl, trivial⟩ (by simp only [inK, true_and, and_true]; omega) ⟨⟨by simp only; omega, fun x hx hc => ⟨rfl, ?_⟩, fun _ => ⟨q, by simp only; omega, h4⟩⟩, by simp only; omega⟩ ⟨rfl, rfl, trivial⟩
        simp only at hx
        by_cases hxq : x = q
        · subst hxq; rfl
        · have := g2 x (by omega) hc
          rw [this.2, h5 this.1]
  · have hq : q = N := by
      have e1 : decide ((q : Int) < ishl 1 (n : Int)) = false := h
      rw [hish, decide_eq_false_iff_not] at e1; omega
    subst hq
    have hy := g2 yn hyn hself
    refine KW.goOut lay_ok F19_ok 100 rfl (by simp) ?_
    refine KW.goRet lay_ok F19_ok 100 rfl rfl ?_ (by simp) trivial
    have e2 : okV ⟨n, ns, top⟩ n (yn : Int) (ior .i64 (yn : Int) cn) = true := hiff.2 fun x hx hc => by
      obtain ⟨xn, rfl, hxn⟩ := hx.nat hn24
      rw [hy.2]
      exact (g2 xn (by omega) ((hcube _ hx).2 hc)).2
    simp only [e2, hy.1]; rfl
end Go.Proofs.Ytpjhpcclbenfbaa
