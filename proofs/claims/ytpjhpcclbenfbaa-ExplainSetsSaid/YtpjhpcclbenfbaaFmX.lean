/-
  The law ExplainCritical returns true.
-/
import Derived.Test.YtpjhpcclbenfbaaFmW
set_option linter.unusedVariables false
set_option linter.unusedSimpArgs false
namespace Go.Pu
open Go.Sy
def andC (l : List (Int × Int)) (a : Int) : Int := l.foldl (fun a c => iand .i64 a (ior .i64 c.1 c.2)) a
theorem andC_bit : ∀ (l : List (Int × Int)) (a : Int) (i : Nat), bit (andC l a) i = true ↔ bit a i = true ∧ ∀ c ∈ l, bit (ior .i64 c.1 c.2) i = true
  | [], a, i => by simp [andC]
  | c :: l, a, i => by
    have := andC_bit l (iand .i64 a (ior .i64 c.1 c.2)) i
    rw [show andC (c :: l) a = andC l (iand .i64 a (ior .i64 c.1 c.2)) from rfl, this, bit_iand, Bool.and_eq_true]
    simp only [List.mem_cons, forall_eq_or_imp, and_assoc]
theorem andC_in {n : Nat} (hn : n ≤ 24) : ∀ (l : List (Int × Int)) {a : Int}, inN n a → inN n (andC l a)
  | [], a, h => h
  | c :: l, a, h => andC_in hn l (inN_iand hn h)
end Go.Pu
namespace Go.Proofs.Ytpjhpcclbenfbaa
open Go.Sy Go.Pu

def F20 : Fns := (28, fFI (fun f s => sB (validF f s)) fun f _ => FormIn f) ::
  F19
theorem F20_ok : FnsOk Try.prog F20 := .cons (F19_ok) Try.func28 rfl rfl (fFI_ok fun f s h => valid56_does f s h)


theorem allF_mem {f : FormP} {s : Int} {n : Nat} (hn : f.vars = n) (h : tableE f s = 0) (hn24 : n ≤ 24) {c : Int × Int} : c ∈ allF f s ↔ ∃ set, inN n set ∧ minK (okV f n s) set n = true ∧ c = cubeV s set := by
  rw [allF, if_pos h, hn, Int.toNat_natCast, sortC_mem, reasons_mem hn24]
theorem lawCritical_does (f : FormP) (s : Int) (hin : FormIn f) : DoesF Try.prog 6 [.ag (formC f), iV s] [] (sB true) [] := by
  refine DoesF.body _ Try.func6 rfl rfl rfl rfl ?_
  obtain ⟨vars, ns, top⟩ := f
  refine KW.goIf lay_ok F20_ok 100 rfl (by simp [hin]) rfl trivial (fun h => ?_) fun h => ?_
  · exact KW.goRet lay_ok F20_ok 100 rfl rfl rfl (by simp) trivial
  · simp only [unN_nodesC] at h
    have hvd : validF ⟨vars, ns, top⟩ s = true := by
      have e : (!validF ⟨vars, ns, top⟩ s || !true) = false := h
      simpa using e
    simp only [validF, Bool.and_eq_true, decide_eq_true_eq] at hvd
    have h1 := hvd.2
    have hv7 := hvd.1.2
    have h0 := (stateE_ok h1).1
    have ok : FormOk ⟨vars, ns, top⟩ := formE_ok h0
    have hs := (stateE_ok h1).2
    have hv := ok.vars
    simp only at hv hs hv7
    obtain ⟨n, rfl⟩ := Int.eq_ofNat_of_zero_le hv.1
    have hn24 : n ≤ 24 := by omega
    have hsn : inN n s := (inN_iff hn24).2 ⟨hs.1, by rw [← ishl_one]; exact hs.2⟩
    have hte : tableE ⟨n, ns, top⟩ s = 0 := by rw [tableE, if_pos h1, if_neg (by simp only; omega)]
    have hst : ∀ x, inN n x → stateE ⟨n, ns, top⟩ x = 0 := fun x hx => stateE_eq h0 ⟨((inN_iff hn24).1 hx).1, by rw [ishl_one]; exact ((inN_iff hn24).1 hx).2⟩
    have honeN : ∀ k, k < n → inN n (Go.Pu.one k) := fun k hk => inN_of hn24 (validS_rng (one_valid (by omega))) fun i hi => by rw [one_bit (by omega)]; simp; omega
    have hval : ∀ x, inN n x → valV ⟨n, ns, top⟩ x = valueF ⟨n, ns, top⟩ x := fun x hx => by simp [valV, hst x hx]
    have hcr : critF ⟨n, ns, top⟩ s = critN ⟨n, ns, top⟩ s n := by simp [critF, h1]
    have hcb := fun i => critN_bit ⟨n, ns, top⟩ s hn24 n (Nat.le_refl _) i
    have hsr := shl_rng hv
    have hal : ishl 1 (n : Int) - 1 = allN n := by
      have := Nat.two_pow_pos n
      rw [ishl_one, allN]; omega
    have hmem := fun c => allF_mem (f := ⟨n, ns, top⟩) (s := s) (n := n) rfl hte hn24 (c := c)
    have hfin : critN ⟨n, ns, top⟩ s n = andC (allF ⟨n, ns, top⟩ s) (allN n) := by
      have hci : inN n (critN ⟨n, ns, top⟩ s n) := inN_of hn24 (validS_rng (critN_valid _ _ _ hn24)) fun i hi => by rw [hcb]; simp; omega
      refine hci.ext (andC_in hn24 _ (inN_allN hn24)) fun i hi => ?_
      rw [Bool.eq_iff_iff, andC_bit, bit_allN hn24, hcb]
      simp only [hi, decide_true, Bool.true_and, true_and, bne_iff_ne]
      rw [crit_all hn24 hsn hi]
      constructor
      · intro hh c hc
        obtain ⟨set, k1, k2, rfl⟩ := (hmem c).1 hc
        rw [cubeV_set hn24 hsn k1]; exact hh set k1 k2
      · intro hh set k1 k2
        have := hh _ ((hmem _).2 ⟨set, k1, k2, rfl⟩)
        rwa [cubeV_set hn24 hsn k1] at this
    refine KW.goIf lay_ok F20_ok 100 rfl (by simp [hin]) rfl trivial (fun h => ?_) fun h => ?_
    · simp only [unN_nodesC, h1, hte] at h
      exact absurd h (by decide)
    have hll : (allF ⟨n, ns, top⟩ s).length ≤ 16777216 := by
      have e := reasonsN_length (okV ⟨n, ns, top⟩ n s) n s (2 ^ n)
      have hp : 2 ^ n ≤ 2 ^ 24 := Nat.pow_le_pow_right (by decide) hn24
      have h24 : (2 : Nat) ^ 24 = 16777216 := rfl
      rw [allF, if_pos hte, sortC_length]
      simp only [Int.toNat_natCast]
      omega
    generalize hL : allF ⟨n, ns, top⟩ s = L at hfin hll
    refine KW.goLpR lay_ok F20_ok 100 rfl (I := fun q : Nat × Int => ⟨Try.f6.ntmps, [(1, sI s), (2, .e (.r 2)), (5, sI (critN ⟨n, ns, top⟩ s n)), (9, sB (valueF ⟨n, ns, top⟩ s)), (11, sI q.2), (58, .e (clV L)), (59, sI L.length), (60, sI q.1)],
        [(2, .box 24 [iV n, .c (nodesC ns), iV top] none)]⟩)
      (R := fun q => q.1 ≤ L.length ∧ andC (L.drop q.1) q.2 = andC L (allN n)) (m := fun q => L.length - q.1) (0, allN n) [(2, 2)] rfl rfl ⟨rfl, rfl, ?_, ?_, ?_, ?_, ?_, rfl, trivial⟩ (by simp only [inK, bitsI, true_and, and_true]; omega) ⟨Nat.zero_le _, rfl⟩ ⟨rfl, trivial⟩ ?_
    · simp only [unN_nodesC, hcr]; rfl
    · simp only [unN_nodesC, hval s hsn]; rfl
    · rw [← hal]; rfl
    · simp only [unN_nodesC, hL]; rfl
    · simp only [unN_nodesC, hL]; rfl
    rintro ⟨q, a⟩ ⟨g1, g2⟩
    simp only at g1 g2
    refine KW.goIf lay_ok F20_ok 100 rfl (by simp) rfl trivial (fun h => ?_) fun h => ?_
    · have hq : q < L.length := by simpa using h
      have hg : L.getD (Int.toNat (q : Int)) (0, 0) = L[q] := by simp [List.getD_eq_getElem?_getD, hq]
      rw [List.drop_eq_getElem_cons hq] at g2
      refine KW.goToR lay_ok F20_ok 100 rfl (q + 1, iand .i64 a (ior .i64 L[q].1 L[q].2)) [(2, 2)] rfl rfl ⟨rfl, rfl, rfl, rfl, by rw [← hg]; rfl, rfl, rfl, rfl, trivial⟩ (by simp [inK, cubes, rows]; omega) ⟨⟨by simp only; omega, g2⟩, by simp only; omega⟩ ⟨rfl, trivial⟩
    · have hq : q = L.length := by simp at h; omega
      rw [hq, List.drop_length] at g2
      replace g2 : a = andC L (allN n) := g2
      rw [← hfin] at g2
      subst g2
      refine KW.goOut lay_ok F20_ok 100 rfl (by simp) ?_
      refine KW.goLpR lay_ok F20_ok 100 rfl (I := fun q : Nat => ⟨Try.f6.ntmps, [(1, sI s), (2, .e (.r 2)), (5, sI (critN ⟨n, ns, top⟩ s n)), (9, sB (valueF ⟨n, ns, top⟩ s)), (11, sI (critN ⟨n, ns, top⟩ s n)), (73, sI n), (74, sI q)],
          [(2, .box 24 [iV n, .c (nodesC ns), iV top] none)]⟩)
        (R := fun q => q ≤ n) (m := fun q => n - q) 0 [(2, 2)] rfl rfl ⟨rfl, rfl, rfl, rfl, rfl, rfl, rfl, trivial⟩ (by simp) (by omega) ⟨rfl, trivial⟩ ?_
      rintro k hk0
      refine KW.goIf lay_ok F20_ok 100 rfl (by simp) rfl trivial (fun h => ?_) fun h => ?_
      · have hk : k < n := by simpa using h
        have ho : 0 ≤ ishl 1 (k : Int) ∧ ishl 1 (k : Int) ≤ 16777215 := validS_iff.1 (one_valid (show k < 24 by omega))
        have hxin : inN n (ixor .i64 s (ishl 1 (k : Int))) := inN_ixor hn24 hsn (honeN k hk)
        refine KW.goD lay_ok F20_ok rfl 100 rfl (by decide) rfl (by simp) (by simp only [unN_nodesC, isN_nodesC, true_and, and_true, hin, inK, bitsI]; omega) ?_
        refine KW.goIf lay_ok F20_ok 100 rfl (by simp only [unN_nodesC, ifcV_errV, bitsI]; simp; omega) rfl trivial (fun h => ?_) fun h => ?_
        · exfalso
          simp only [unN_nodesC, hst _ hxin, hval _ hxin] at h
          have hb := hcb k
          have e : (!isNilB (errV 66 0) || ((valueF ⟨n, ns, top⟩ (ixor .i64 s (Go.Pu.one k)) != valueF ⟨n, ns, top⟩ s) != (iand .i64 (ishr (critN ⟨n, ns, top⟩ s n) (k : Int)) 1 == 1))) = true := h
          have e3 : (iand .i64 (ishr (critN ⟨n, ns, top⟩ s n) (k : Int)) 1 == 1) = bit (critN ⟨n, ns, top⟩ s n) k := by
            rw [ishr_bit _ (by omega)]
            cases bit (critN ⟨n, ns, top⟩ s n) k <;> rfl
          rw [e3, hb] at e
          simp [hk] at e
        · exact KW.goToR lay_ok F20_ok 100 rfl (k + 1) [(2, 2)] rfl rfl ⟨rfl, rfl, rfl, rfl, rfl, rfl, rfl, trivial⟩ (by simp [inK]; omega) ⟨by omega, by omega⟩ ⟨rfl, trivial⟩
      · refine KW.goOut lay_ok F20_ok 100 rfl (by simp) ?_
        refine KW.goRet lay_ok F20_ok 100 rfl rfl ?_ (by simp) trivial
        simp [SV.ren, EV.ren]
end Go.Proofs.Ytpjhpcclbenfbaa
