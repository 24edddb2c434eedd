/-
  ref05.Next, ref05.Binomial, ref05.Choose, ref05.Parts; the law SetsChooses.
-/
import Derived.Test.YtjaanpbahlbmoaaDoorStF
import Derived.Test.YtjaanpbahlbmoaaDoorPuD
set_option linter.unusedSectionVars false
set_option linter.unusedVariables false
set_option linter.unusedSimpArgs false
attribute [local instance] Go.Sy.drwNo
namespace Go.Proofs.YtjaanpbahlbmoaaDoor
open Go.Sy Go.Pu

theorem rnext_does (s : Int) : DoesF Tryd.prog 38 [iV s] [] (.tup [iV (nextP s).1, iV (nextP s).2]) [] := by
  refine DoesF.body _ Tryd.func38 rfl rfl rfl rfl ?_
  refine KW.goIf lay_ok S9_ok 100 rfl (by simp) rfl trivial (fun h => ?_) fun h => ?_
  · have h1 : ¬ validS s = true := by simpa using h
    refine KW.goRet lay_ok S9_ok 100 rfl rfl ?_ (by simp) trivial
    rw [nextP, if_neg h1]; rfl
  have h1 : validS s = true := by simpa using h
  have hs' := validS_iff.1 h1
  obtain ⟨s, rfl⟩ := Int.eq_ofNat_of_zero_le hs'.1
  have hs : s ≤ 16777215 := by omega
  have hbit : ∀ i : Nat, i < 24 → hasB (s : Int) (i : Int) = s.testBit i := fun i hi => by rw [hasB_nat _ hi, bit_nat (by omega)]
  refine KW.goLpR lay_ok S9_ok 100 rfl (I := fun q : Nat × Nat => ⟨Tryd.f38.ntmps, [(0, sI s), (4, sI q.2), (9, sI q.1)], []⟩)
    (R := fun q => q.1 ≤ 23 ∧ InvN s q.1 q.2) (m := fun q => 23 - q.1) (0, 0) [] rfl rfl ⟨rfl, rfl, rfl, trivial⟩ (by simp) ⟨Nat.zero_le _, inv_zero s⟩ trivial ?_
  rintro ⟨q, b⟩ ⟨r1, r2⟩
  simp only at r1 r2
  have hb := r2.1
  refine KW.goIf lay_ok S9_ok 100 rfl (by simp) rfl trivial (fun h => ?_) fun h => ?_
  · have hq : q < 23 := by simp at h; omega
    have t1 := hbit q (by omega)
    have t2 := hbit (q + 1) (by omega)
    refine KW.goIf lay_ok S9_ok 100 rfl (by simp) rfl trivial (fun h => ?_) fun h => ?_
    · have g1 : s.testBit q = false := by rw [← t1]; simpa using h
      obtain ⟨rfl, g2⟩ := inv_skip r2 g1
      exact KW.goToR lay_ok S9_ok 100 rfl (q + 1, 0) [] rfl rfl ⟨rfl, rfl, rfl, trivial⟩ (by simp [inK]; omega) ⟨⟨by simp only; omega, g2⟩, by simp only; omega⟩ trivial
    have g1 : s.testBit q = true := by rw [← t1]; simpa using h
    refine KW.goIf lay_ok S9_ok 100 rfl (by simp [inK]; omega) rfl trivial (fun h => ?_) fun h => ?_
    · have g2 : s.testBit (q + 1) = false := by rw [← t2]; simpa using h
      obtain ⟨e1, e2, e3⟩ := next_found hs (by omega) r2 g1 g2
      have hp : 2 ^ (q + 1) ≤ 2 ^ 24 := Nat.pow_le_pow_right (by decide) (by omega)
      have hpb : 2 ^ b ≤ 2 ^ 24 := Nat.pow_le_pow_right (by decide) (by omega)
      refine KW.goDS lay_ok S9_ok rfl 100 rfl 15 rfl (by decide +kernel) (by decide +kernel) rfl (by simp) ?_ ?_
      · have eq1 := ishl_one (q + 1)
        have eq2 := ishl_one b
        rw [Int.natCast_add, Int.natCast_one] at eq1
        have eq3 : ishr (s : Int) ((q : Int) + 1) = ((s / 2 ^ (q + 1) : Nat) : Int) := by
          rw [show (q : Int) + 1 = ((q + 1 : Nat) : Int) by omega, ishr_nat]
        have hdl := Nat.div_le_self s (2 ^ (q + 1))
        rw [eq3] at e2 e3
        simp only [inK, bitsI, eq1, eq2, eq3, true_and, and_true]
        generalize s / 2 ^ (q + 1) = d at *
        generalize 2 ^ (q + 1) = X at *
        generalize 2 ^ b = Y at *
        generalize ishl (d : Int) ((q : Int) + 1) = Z at *
        omega
      · refine KW.goOutR lay_ok S9_ok 100 rfl (by simp) ?_
        refine KW.goRet lay_ok S9_ok 100 rfl rfl ?_ (by simp) trivial
        rw [e1, nextR]; rfl
    · have g2 : s.testBit (q + 1) = true := by rw [← t2]; simpa using h
      exact KW.goToR lay_ok S9_ok 100 rfl (q + 1, b + 1) [] rfl rfl ⟨rfl, rfl, rfl, trivial⟩ (by simp [inK]; omega) ⟨⟨by simp only; omega, inv_next r2 g1 g2⟩, by simp only; omega⟩ trivial
  · have hq : q = 23 := by simp at h; omega
    subst hq
    refine KW.goOut lay_ok S9_ok 100 rfl (by simp) ?_
    refine KW.goRet lay_ok S9_ok 100 rfl rfl ?_ (by simp) trivial
    rw [next_end hs r2]; rfl

theorem rBinomial_does (n k : Int) : DoesF Tryd.prog 41 [iV n, iV k] [] (.tup [iV (binP n k).1, iV (binP n k).2]) [] := by
  refine DoesF.body _ Tryd.func41 rfl rfl rfl rfl ?_
  refine KW.goIf lay_ok S9_ok 100 rfl (by simp) rfl trivial (fun h => ?_) fun h => ?_
  · have h1 : n < 0 ∨ 60 < n := by simpa using h
    refine KW.goRet lay_ok S9_ok 100 rfl rfl ?_ (by simp) trivial
    rw [binP, if_pos h1]; rfl
  have h1 : ¬ (n < 0 ∨ 60 < n) := by simp at h; omega
  refine KW.goIf lay_ok S9_ok 100 rfl (by simp) rfl trivial (fun h => ?_) fun h => ?_
  · have h2 : k < 0 ∨ n < k := by simpa using h
    refine KW.goRet lay_ok S9_ok 100 rfl rfl ?_ (by simp) trivial
    rw [binP, if_neg h1, if_pos h2]; rfl
  have h2 : ¬ (k < 0 ∨ n < k) := by simp at h; omega
  obtain ⟨n, rfl⟩ := Int.eq_ofNat_of_zero_le (show 0 ≤ n by omega)
  obtain ⟨k, rfl⟩ := Int.eq_ofNat_of_zero_le (show 0 ≤ k by omega)
  rw [binP, if_neg h1, if_neg h2, Int.toNat_natCast, Int.toNat_natCast]
  have hn : n ≤ 60 := by omega
  have hk : k ≤ n := by omega
  refine KW.goLpR lay_ok S9_ok 100 rfl (I := fun q : Nat => ⟨Tryd.f41.ntmps, [(1, sI k), (6, .e (.r 6)), (23, sI n), (24, sI q)], [(6, .own 3 (ints (rowC q (q + 1))))]⟩)
    (R := fun q => q ≤ n) (m := fun q => n - q) 0 [(6, 22)] rfl rfl ⟨rfl, rfl, rfl, rfl, trivial⟩ (by simp) (Nat.zero_le _) ⟨rfl, trivial⟩ ?_
  rintro q hq0
  refine KW.goIf lay_ok S9_ok 100 rfl (by simp) rfl trivial (fun h => ?_) fun h => ?_
  · have hq : q < n := by simp at h; omega
    refine KW.goLpR lay_ok S9_ok 100 rfl (I := fun i : Nat => ⟨Tryd.f41.ntmps, [(1, sI k), (6, .e (.r 6)), (7, .e (.r 7)), (8, sI ((i : Int) + 1)), (23, sI n), (24, sI q)], [(6, .own 3 (ints (rowC q (q + 1)))), (7, .own 3 (ints (rowC (q + 1) (i + 1))))]⟩)
      (R := fun i => i ≤ q) (m := fun i => q - i) 0 [(6, 6), (7, 26)] rfl rfl ⟨rfl, rfl, rfl, rfl, rfl, rfl, trivial⟩ (by simp) (Nat.zero_le _) ⟨rfl, ?_, trivial⟩ ?_
    · rw [show rowC (q + 1) (0 + 1) = [1] by show [((cN (q + 1) 0 : Nat) : Int)] = [1]; rw [cN_zero]; rfl]; rfl
    rintro i hi0
    refine KW.goIf lay_ok S9_ok 100 rfl (by simp) rfl trivial (fun h => ?_) fun h => ?_
    · have hi : i < q := by simp [rowC_len] at h; omega
      have hp := pas60 (show q < 60 by omega) hi
      have hl := cN_le (show q + 1 ≤ 60 by omega) (show i + 1 ≤ q + 1 by omega)
      have hg1 : (rowC q (q + 1)).getD (Int.toNat ((i : Int) + 1 - 1)) 0 = (cN q i : Int) := by
        rw [show Int.toNat ((i : Int) + 1 - 1) = i by omega]; exact rowC_get (by omega)
      have hg2 : (rowC q (q + 1)).getD (Int.toNat ((i : Int) + 1)) 0 = (cN q (i + 1) : Int) := by
        rw [show Int.toNat ((i : Int) + 1) = i + 1 by omega]; exact rowC_get (by omega)
      refine KW.goDX lay_ok S9_ok rfl 100 rfl 12 rfl (by decide +kernel) (by decide +kernel) rfl rfl (by simp) ?_ ?_
      · simp only [hg1, hg2, rowC_len, inK, true_and, and_true]
        omega
      · refine KW.goToR lay_ok S9_ok 100 rfl (i + 1) [(6, 6), (7, 45)] rfl rfl ⟨rfl, rfl, rfl, rfl, rfl, rfl, trivial⟩ ?_ ⟨by omega, by omega⟩ ⟨rfl, own_cat _ ?_, trivial⟩
        · simp only [rowC_len, inK, true_and, and_true, List.length_singleton]
          omega
        · rw [hg1, hg2, rowC_succ (q + 1) (i + 1), ← hp]; rfl
    · have hi : i = q := by simp [rowC_len] at h; omega
      subst hi
      refine KW.goOut lay_ok S9_ok 100 rfl (by simp) ?_
      refine KW.goToR lay_ok S9_ok 100 rfl (i + 1) [(6, 48)] rfl rfl ⟨rfl, rfl, rfl, rfl, trivial⟩ ?_ ⟨by omega, by omega⟩ ⟨own_cat _ ?_, trivial⟩
      · simp [inK, rowC_len]; omega
      · rw [rowC_succ (i + 1) (i + 1), cN_self]; rfl
  · have hq : q = n := by simp at h; omega
    subst hq
    refine KW.goOut lay_ok S9_ok 100 rfl (by simp) ?_
    refine KW.goRet lay_ok S9_ok 100 rfl rfl ?_ ?_ trivial
    · have e : (rowC q (q + 1)).getD (Int.toNat (k : Int)) 0 = (cN q k : Int) := by rw [Int.toNat_natCast]; exact rowC_get (by omega)
      simp only [e]; rfl
    · simp [rowC_len]; omega

def S10 : Fns := (38, fI (fun s => .tup [iV (nextP s).1, iV (nextP s).2]) fun _ => True) ::
  (41, fII (fun n k => .tup [iV (binP n k).1, iV (binP n k).2]) fun _ _ => True) ::
  S9
theorem S10_ok : FnsOk Tryd.prog S10 := .cons (.cons (S9_ok) Tryd.func41 rfl rfl (fII_ok fun n k _ => rBinomial_does n k)) Tryd.func38 rfl rfl (fI_ok fun s _ => rnext_does s)


theorem rchoose_does (n k : Int) : DoesF Tryd.prog 39 [iV n, iV k] [] (.tup [lV (chooseP n k).1, iV (chooseP n k).2]) [] := by
  refine DoesF.body _ Tryd.func39 rfl rfl rfl rfl ?_
  refine KW.goIf lay_ok S10_ok 100 rfl (by simp) rfl trivial (fun h => ?_) fun h => ?_
  · have h1 : n < 0 ∨ 24 < n ∨ k < 0 ∨ n < k := by simp at h; omega
    refine KW.go lay_ok S10_ok 100 rfl (by simp) ?_
    refine KW.conv 4 (ints []) rfl ⟨rfl, rfl⟩ ?_
    refine KW.fin [] rfl rfl ?_ trivial
    rw [chooseP, if_pos h1]; rfl
  have h1 : ¬ (n < 0 ∨ 24 < n ∨ k < 0 ∨ n < k) := by simp at h; omega
  obtain ⟨n, rfl⟩ := Int.eq_ofNat_of_zero_le (show 0 ≤ n by omega)
  obtain ⟨k, rfl⟩ := Int.eq_ofNat_of_zero_le (show 0 ≤ k by omega)
  have hn : n ≤ 24 := by omega
  have hk : k ≤ n := by omega
  have eB : binP (n : Int) (k : Int) = ((cN n k : Int), 0) := by
    unfold binP
    rw [if_neg (by omega), if_neg (by omega), Int.toNat_natCast, Int.toNat_natCast]
  rw [chooseP, if_neg h1]
  simp only [Int.toNat_natCast]
  refine KW.goIf lay_ok S10_ok 100 rfl (by simp) rfl trivial (fun h => ?_) fun h => ?_
  · have h2 : 1024 < cN n k := by
      rw [eB] at h
      have := of_decide_eq_true h
      simp only at this
      omega
    refine KW.go lay_ok S10_ok 100 rfl (by simp) ?_
    refine KW.conv 4 (ints []) rfl ⟨rfl, rfl⟩ ?_
    refine KW.fin [] rfl rfl ?_ trivial
    rw [if_pos h2]; rfl
  have h2 : ¬ 1024 < cN n k := by
    rw [eB] at h
    have := of_decide_eq_false h
    simp only at this
    omega
  rw [if_neg h2]
  have hp := cN_pos (show n ≤ 60 by omega) hk
  have hS := choose_spec hn hk (by omega)
  have h2k : 2 ^ k ≤ 2 ^ 24 := Nat.pow_le_pow_right (by decide) (by omega)
  have h2n : 2 ^ n ≤ 2 ^ 24 := Nat.pow_le_pow_right (by decide) hn
  have h2p := Nat.two_pow_pos k
  have e1 : ishl 1 (k : Int) - 1 = ((2 ^ k - 1 : Nat) : Int) := by rw [ishl_one]; omega
  have es := ishl_one k
  have en := ishl_one n
  generalize hP : 2 ^ n = P at *
  have e0 : (chooseL n k) = (List.range (cN n k)).map fun i => ((itN i (2 ^ k - 1) : Nat) : Int) := rfl
  generalize hs0 : 2 ^ k - 1 = s0 at hS e1 e0
  have hlast : ∀ q, q + 1 ≤ cN n k → ((List.range (q + 1)).map fun i => ((itN i s0 : Nat) : Int)).getD (Int.toNat (((q + 1 : Nat) : Int) - 1)) 0 = (itN q s0 : Nat) := fun q hq => by
    rw [show Int.toNat (((q + 1 : Nat) : Int) - 1) = q by omega, List.getD_eq_getElem?_getD, List.getElem?_map, List.getElem?_range (by omega)]; rfl
  refine KW.goLpR lay_ok S10_ok 100 rfl (I := fun q : Nat => ⟨Tryd.f39.ntmps, [(0, sI n), (8, .e (.r 8))], [(8, .own 3 (ints ((List.range (q + 1)).map fun i => ((itN i s0 : Nat) : Int))))]⟩)
    (R := fun q => q + 1 ≤ cN n k) (m := fun q => cN n k - q) 0 [(8, 37)] rfl rfl ⟨rfl, rfl, trivial⟩ ?_ hp ⟨?_, trivial⟩ ?_
  · simp only [inK, bitsI, es, true_and, and_true]; omega
  · rw [e1]; rfl
  rintro q hq0
  obtain ⟨c1, c2, c3, c4⟩ := hS q hq0
  have g4 := hlast q hq0
  have g5 : ((List.range (q + 1)).map fun i => ((itN i s0 : Nat) : Int)).length = q + 1 := by simp
  by_cases hq : q + 1 < cN n k
  · obtain ⟨d1, d2, d3, d4⟩ := hS (q + 1) hq
    have g3 := nextP_in hn (c3 hq) (by rw [hP]; exact d1) (itN_succ q s0).symm
    refine KW.goIf lay_ok S10_ok 100 rfl ?_ rfl trivial (fun h => ?_) fun h => ?_
    · simp only [g5, g4, g3]
      simp [inK, bitsI, en]
      omega
    · exfalso
      simp only [g5, g4, g3] at h
      simp [en] at h
      omega
    refine KW.goToR lay_ok S10_ok 100 rfl (q + 1) [(8, 60)] rfl rfl ⟨rfl, rfl, trivial⟩ ?_ ⟨by omega, by omega⟩ ⟨own_cat _ ?_, trivial⟩
    · simp only [g5, g4, g3]
      simp [inK]
      omega
    · simp only [g5, g4, g3]
      rw [show List.range (q + 1 + 1) = List.range (q + 1) ++ [q + 1] from List.range_succ, List.map_append]; rfl
  · have hq1 : q + 1 = cN n k := by omega
    have g3 := nextP_out hn (by rw [hP]; exact c1) (by rw [hP]; exact c4 hq1)
    rw [hP] at g3
    refine KW.goIf lay_ok S10_ok 100 rfl ?_ rfl trivial (fun h => ?_) fun h => ?_
    · simp only [g5, g4]
      simp [inK, bitsI, en]
      exact ⟨by omega, fun h => ⟨h, by omega, by omega⟩⟩
    · refine KW.goOutR lay_ok S10_ok 100 rfl (by simp) ?_
      refine KW.go lay_ok S10_ok 100 rfl (by simp) ?_
      refine KW.frz 8 [4] rfl rfl rfl ?_
      refine KW.fin [] rfl rfl ?_ trivial
      rw [e0, ← hq1]; rfl
    · exfalso
      simp only [g5, g4] at h
      simp [en] at h
      rcases g3 with g3 | g3
      · exact g3 h.1
      · have := h.2; omega

theorem rparts_does (s : Int) : DoesF Tryd.prog 40 [iV s] [] (.tup [lV (partsP s).1, iV (partsP s).2]) [] := by
  refine DoesF.body _ Tryd.func40 rfl rfl rfl rfl ?_
  refine KW.goIf lay_ok S10_ok 100 rfl (by simp) rfl trivial (fun h => ?_) fun h => ?_
  · have h1 : ¬ validS s = true := by simpa using h
    rw [partsP, if_neg h1]
    refine KW.go lay_ok S10_ok 100 rfl (by simp) ?_
    refine KW.conv 2 (ints []) rfl ⟨rfl, rfl⟩ ?_
    exact KW.fin [] rfl rfl rfl trivial
  have h1 : validS s = true := by simpa using h
  rw [partsP, if_pos h1]
  refine KW.goIf lay_ok S10_ok 100 rfl (by simp) rfl trivial (fun h => ?_) fun h => ?_
  · have h2 : 10 < cntS s := by simpa using h
    rw [if_pos h2]
    refine KW.go lay_ok S10_ok 100 rfl (by simp) ?_
    refine KW.conv 2 (ints []) rfl ⟨rfl, rfl⟩ ?_
    exact KW.fin [] rfl rfl rfl trivial
  have h2 : ¬ 10 < cntS s := by simpa using h
  rw [if_neg h2]
  have hmem : ∀ x ∈ elemsS s, 0 ≤ x ∧ x < 24 := fun x hx => by
    obtain ⟨i, hi, _, rfl⟩ := mem_elemsS.1 hx; omega
  have hel : (elemsS s).length ≤ 10 := by
    have := elemsS_length s h1
    rw [cntS, cutS_of h1] at h2
    omega
  have hdl : ∀ q, q ≤ (elemsS s).length → (dblL [0] ((elemsS s).take q)).length ≤ 1024 := fun q hq => by
    rw [dblL_length, List.length_take]
    have : 2 ^ min q (elemsS s).length ≤ 2 ^ 10 := Nat.pow_le_pow_right (by decide) (by omega)
    simp only [List.length_singleton]; omega
  refine KW.goLpR lay_ok S10_ok 100 rfl (I := fun q : Nat => ⟨Tryd.f40.ntmps, [(4, .e (.r 4)), (17, .e (lV (elemsS s))), (18, sI (elemsS s).length), (19, sI q)], [(4, .own 3 (ints (dblL [0] ((elemsS s).take q))))]⟩)
    (R := fun q => q ≤ (elemsS s).length) (m := fun q => (elemsS s).length - q) 0 [(4, 15)] rfl rfl ⟨rfl, rfl, rfl, rfl, trivial⟩ (by simp) (Nat.zero_le _) ⟨rfl, trivial⟩ ?_
  rintro q hq0
  refine KW.goIf lay_ok S10_ok 100 rfl (by simp) rfl trivial (fun h => ?_) fun h => ?_
  · have hq : q < (elemsS s).length := by simp at h; omega
    have hg : (elemsS s).getD (Int.toNat (q : Int)) 0 = (elemsS s)[q] := by simp [List.getD_eq_getElem?_getD, hq]
    have hz := hmem _ (List.getElem_mem hq)
    have htk : (elemsS s).take (q + 1) = (elemsS s).take q ++ [(elemsS s)[q]] := by rw [List.take_add_one, List.getElem?_eq_getElem hq]; rfl
    have hd0 := hdl q hq0
    refine KW.go lay_ok S10_ok 100 rfl (by simp; omega) ?_
    refine KW.frz 25 [25] rfl rfl rfl ?_
    have hor : validS (ishl 1 (elemsS s)[q]) = true := by
      obtain ⟨i, hi⟩ := Int.eq_ofNat_of_zero_le hz.1
      rw [hi]; exact one_valid (by omega)
    have hor' := validS_iff.1 hor
    have hsucc : dblL [0] ((elemsS s).take (q + 1)) = dblL [0] ((elemsS s).take q) ++ (dblL [0] ((elemsS s).take q)).map fun x => ior .i64 x (ishl 1 (elemsS s)[q]) := by
      rw [htk, dblL_append]; rfl
    have hd1 := hdl (q + 1) hq
    rw [hsucc, List.length_append, List.length_map] at hd1
    generalize hL : dblL [0] ((elemsS s).take q) = L at *
    generalize hA : (elemsS s)[q] = a at *
    refine KW.goLpR lay_ok S10_ok 100 rfl (I := fun p : Nat => ⟨Tryd.f40.ntmps, [(4, .e (.r 4)), (6, sI a), (17, .e (lV (elemsS s))), (18, sI (elemsS s).length), (19, sI q), (25, .e (lV L)), (26, sI L.length), (27, sI p)], [(4, .own 3 (ints (L ++ (L.take p).map fun x => ior .i64 x (ishl 1 a))))]⟩)
      (R := fun p => p ≤ L.length) (m := fun p => L.length - p) 0 [(4, 4)] rfl rfl ⟨rfl, by rw [← hg]; rfl, rfl, rfl, rfl, ?_, ?_, rfl, trivial⟩ (by simp) (Nat.zero_le _) ⟨own_cat1 _ (by simp), trivial⟩ ?_
    · rw [catV_ints, List.nil_append]; rfl
    · rw [show ([] : List Int).length + L.length = L.length from Nat.zero_add _]; rfl
    rintro p hp0
    refine KW.goIf lay_ok S10_ok 100 rfl (by simp) rfl trivial (fun h => ?_) fun h => ?_
    · have hp : p < L.length := by simp at h; omega
      have hgp : L.getD (Int.toNat (p : Int)) 0 = L[p] := by simp [List.getD_eq_getElem?_getD, hp]
      have htp : L.take (p + 1) = L.take p ++ [L[p]] := by rw [List.take_add_one, List.getElem?_eq_getElem hp]; rfl
      refine KW.goToR lay_ok S10_ok 100 rfl (p + 1) [(4, 37)] rfl rfl ⟨rfl, rfl, rfl, rfl, rfl, rfl, rfl, rfl, trivial⟩ ?_ ⟨by omega, by omega⟩ ⟨own_cat _ ?_, trivial⟩
      · simp only [inK, bitsI, true_and, and_true, List.length_append, List.length_map, List.length_take, List.length_singleton]
        omega
      · rw [htp, List.map_append, hgp, List.append_assoc]; rfl
    · have hp : p = L.length := by simp at h; omega
      subst hp
      rw [List.take_length, ← hsucc]
      refine KW.goOut lay_ok S10_ok 100 rfl (by simp) ?_
      exact KW.goToR lay_ok S10_ok 100 rfl (q + 1) [(4, 4)] rfl rfl ⟨rfl, rfl, rfl, rfl, trivial⟩ (by simp [inK]; omega) ⟨by omega, by omega⟩ ⟨rfl, trivial⟩
  · have hq : q = (elemsS s).length := by simp at h; omega
    subst hq
    refine KW.goOut lay_ok S10_ok 100 rfl (by simp) ?_
    rw [List.take_length]
    have hd := hdl _ hq0
    rw [List.take_length] at hd
    refine KW.frz 4 [4] rfl rfl rfl ?_
    refine KW.goRet lay_ok S10_ok 100 rfl rfl ?_ ?_ trivial
    · simp only [unI_ints]; rfl
    · simp only [unI_ints, isI_ints, true_and, and_true]; omega

def S11 : Fns := (39, fII (fun n k => .tup [lV (chooseP n k).1, iV (chooseP n k).2]) fun _ _ => True) ::
  (40, fI (fun s => .tup [lV (partsP s).1, iV (partsP s).2]) fun _ => True) ::
  S10
theorem S11_ok : FnsOk Tryd.prog S11 := .cons (.cons (S10_ok) Tryd.func40 rfl rfl (fI_ok fun s _ => rparts_does s)) Tryd.func39 rfl rfl (fII_ok fun n k _ => rchoose_does n k)


set_option maxRecDepth 100000 in
theorem lawSetsChooses_does (s n k : Int) : DoesF Tryd.prog 7 [iV s, iV n, iV k] [] (sB true) [] := by
  refine DoesF.body _ Tryd.func7 rfl rfl rfl rfl ?_
  refine KW.goIf lay_ok S11_ok 100 rfl (by simp) rfl trivial (fun h => absurd h (by decide)) fun h => ?_
  refine KW.goRet lay_ok S11_ok 300 rfl rfl ?_ (by simp) trivial
  simp [SV.ren, EV.ren]
end Go.Proofs.YtjaanpbahlbmoaaDoor
