/-
  PLAIN LEAN: the next set with as many elements, by its greatest run that can move up.
-/
import Derived.Test.YtjaanpbahlbmoaaDoorPuC
set_option linter.unusedVariables false
set_option linter.unusedSectionVars false
set_option linter.unusedSimpArgs false
namespace Go.Pu
open Go.Sy
theorem lowN_mul (j v : Nat) : lowN (2 ^ j * (2 * v + 1)) = 2 ^ j := by
  have hp := Nat.two_pow_pos j
  have e1 : 2 ^ j * (2 * v + 1) - 1 = 2 ^ j * (2 * v) + (2 ^ j - 1) := by rw [Nat.mul_add]; omega
  have e2 : 2 ^ j * (2 * v + 1) &&& (2 ^ j * (2 * v + 1) - 1) = 2 ^ j * (2 * v) := by
    rw [e1]
    refine Nat.eq_of_testBit_eq fun k => ?_
    rw [Nat.testBit_and, Nat.testBit_two_pow_mul, Nat.testBit_two_pow_mul_add _ (by omega), Nat.testBit_two_pow_mul]
    by_cases hk : k < j
    · rw [if_pos hk]; simp [Nat.not_le.2 hk]
    · rw [if_neg hk]
      have : k ≥ j := by omega
      simp only [this, decide_true, Bool.true_and]
      cases k - j with
      | zero => simp
      | succ t => rw [Nat.testBit_succ, Nat.testBit_succ, show (2 * v + 1) / 2 = v by omega, show 2 * v / 2 = v by omega, Bool.and_self]
  rw [lowN, e2, Nat.mul_add]; omega
theorem xor_run (m h : Nat) : (2 ^ (m + 1) * h + (2 ^ m - 1)) ^^^ (2 ^ (m + 1) * h + 2 ^ m) = 2 ^ (m + 1) - 1 := by
  have hp := Nat.two_pow_pos m
  have hs : 2 ^ (m + 1) = 2 * 2 ^ m := by rw [Nat.pow_succ]; omega
  refine Nat.eq_of_testBit_eq fun k => ?_
  rw [Nat.testBit_xor, Nat.testBit_two_pow_mul_add _ (by omega), Nat.testBit_two_pow_mul_add _ (by omega), Nat.testBit_two_pow_sub_one, Nat.testBit_two_pow_sub_one, Nat.testBit_two_pow]
  by_cases hk : k < m + 1
  · simp only [hk, if_true, decide_true]
    by_cases h2 : k < m
    · rw [decide_eq_true h2, decide_eq_false (by omega)]; rfl
    · rw [decide_eq_false h2, decide_eq_true (by omega)]; rfl
  · simp [hk]
theorem nxN_run (j m h : Nat) : nxN (2 ^ j * (2 ^ (m + 2) * h + (2 ^ (m + 1) - 1))) = 2 ^ j * (2 ^ (m + 1) * (2 * h + 1)) ||| (2 ^ m - 1) := by
  have hp := Nat.two_pow_pos m
  have hpj := Nat.two_pow_pos j
  have hs : 2 ^ (m + 1) = 2 * 2 ^ m := by rw [Nat.pow_succ]; omega
  have hs2 : 2 ^ (m + 2) = 2 * 2 ^ (m + 1) := by rw [Nat.pow_succ]; omega
  have e1 : 2 ^ (m + 2) * h + (2 ^ (m + 1) - 1) = 2 * (2 ^ (m + 1) * h + (2 ^ m - 1)) + 1 := by rw [hs2, Nat.mul_assoc]; omega
  have e2 : lowN (2 ^ j * (2 ^ (m + 2) * h + (2 ^ (m + 1) - 1))) = 2 ^ j := by rw [e1, lowN_mul]
  have e3 : 2 ^ j * (2 ^ (m + 2) * h + (2 ^ (m + 1) - 1)) + 2 ^ j = 2 ^ j * (2 ^ (m + 2) * h + 2 ^ (m + 1)) := by
    rw [← Nat.mul_succ]; congr 1; omega
  have e4 : 2 ^ (m + 2) * h + 2 ^ (m + 1) = 2 ^ (m + 1) * (2 * h + 1) := by rw [hs2, Nat.mul_add, Nat.mul_one, Nat.mul_comm 2 (2 ^ (m + 1)), Nat.mul_assoc]
  have e5 : 2 ^ j * (2 ^ (m + 2) * h + (2 ^ (m + 1) - 1)) ^^^ 2 ^ j * (2 ^ (m + 2) * h + 2 ^ (m + 1)) = 2 ^ j * (2 ^ (m + 2) - 1) := by
    have := xor_run (m + 1) h
    rw [← this, Nat.mul_comm (2 ^ j), Nat.mul_comm (2 ^ j), Nat.mul_comm (2 ^ j), ← Nat.shiftLeft_eq, ← Nat.shiftLeft_eq, ← Nat.shiftLeft_eq, Nat.shiftLeft_xor_distrib]
  have e6 : (2 ^ (m + 2) - 1) >>> 2 = 2 ^ m - 1 := by rw [Nat.shiftRight_eq_div_pow]; omega
  rw [nxN, e2, e3, e5, Nat.mul_div_cancel_left _ hpj, e6, e4]
def nextR (s : Int) (b i : Int) : Int := ior .i64 (ior .i64 (ishl (ishr s (i + 1)) (i + 1)) (ishl 1 (i + 1))) (ishl 1 b - 1)
def InvN (s q b : Nat) : Prop := b ≤ q ∧ s % 2 ^ q + 2 ^ (q - b) = 2 ^ q ∧ (0 < b → s.testBit q = true)
theorem mod_succ (x w : Nat) : x % 2 ^ (w + 1) = x % 2 ^ w + 2 ^ w * (x.testBit w).toNat := by
  rw [Nat.pow_succ, Nat.mod_mul, Nat.testBit_eq_decide_div_mod_eq]
  congr 2
  have : x / 2 ^ w % 2 < 2 := Nat.mod_lt _ (by decide)
  by_cases h : x / 2 ^ w % 2 = 1
  · simp [h]
  · have h : x / 2 ^ w % 2 = 0 := by omega
    simp [h]
theorem inv_zero (s : Nat) : InvN s 0 0 := ⟨Nat.le_refl 0, by simp [Nat.mod_one], fun h => absurd h (Nat.lt_irrefl 0)⟩
theorem inv_skip {s q b : Nat} (h : InvN s q b) (h1 : s.testBit q = false) : b = 0 ∧ InvN s (q + 1) 0 := by
  obtain ⟨a1, a2, a3⟩ := h
  have hb : b = 0 := Nat.eq_zero_of_not_pos fun h => by rw [a3 h] at h1; cases h1
  subst hb
  refine ⟨rfl, Nat.zero_le _, ?_, fun h => absurd h (Nat.lt_irrefl 0)⟩
  rw [Nat.sub_zero] at a2 ⊢
  rw [mod_succ, h1]
  simp; omega
theorem mod_run {s q b : Nat} (h : InvN s q b) (h1 : s.testBit q = true) : s % 2 ^ (q + 1) + 2 ^ (q - b) = 2 ^ (q + 1) := by
  obtain ⟨a1, a2, a3⟩ := h
  rw [mod_succ, h1, Nat.pow_succ]
  simp; omega
theorem inv_next {s q b : Nat} (h : InvN s q b) (h1 : s.testBit q = true) (h2 : s.testBit (q + 1) = true) : InvN s (q + 1) (b + 1) := by
  refine ⟨by have := h.1; omega, ?_, fun _ => h2⟩
  rw [show q + 1 - (b + 1) = q - b by omega]
  exact mod_run h h1
theorem inv_found {s q b : Nat} (h : InvN s q b) (h1 : s.testBit q = true) (h2 : s.testBit (q + 1) = false) : s ≠ 0 ∧ nxN s = 2 ^ (q + 1) * (2 * (s / 2 ^ (q + 2)) + 1) ||| (2 ^ b - 1) := by
  have hm := mod_run h h1
  have hb := h.1
  have hm2 : s % 2 ^ (q + 2) = s % 2 ^ (q + 1) := by rw [mod_succ, h2]; simp
  have hd := Nat.div_add_mod s (2 ^ (q + 2))
  have e1 : 2 ^ (q + 2) = 2 ^ (q - b) * 2 ^ (b + 2) := by rw [← Nat.pow_add]; congr 1; omega
  have e2 : 2 ^ (q + 1) = 2 ^ (q - b) * 2 ^ (b + 1) := by rw [← Nat.pow_add]; congr 1; omega
  have e3 : s = 2 ^ (q - b) * (2 ^ (b + 2) * (s / 2 ^ (q + 2)) + (2 ^ (b + 1) - 1)) := by
    rw [Nat.mul_add, ← Nat.mul_assoc, ← e1, Nat.mul_sub, ← e2, Nat.mul_one]
    omega
  refine ⟨fun h0 => ?_, ?_⟩
  · subst h0; simp at h1
  · have := nxN_run (q - b) b (s / 2 ^ (q + 2))
    rw [← e3, ← Nat.mul_assoc, ← e2] at this
    exact this
variable [Drw]
theorem nextP_nat {s : Nat} (hs : s ≤ 16777215) (h0 : s ≠ 0) : nextP (s : Int) = if nxN s ≤ 16777215 then ((nxN s : Int), 0) else (0, 20) := by
  have hv : validS (s : Int) = true := validS_iff.2 (by omega)
  unfold nextP
  rw [if_pos hv, if_neg (by omega), nextG_nat hs h0]
  by_cases h : nxN s ≤ 16777215
  · rw [if_pos h, if_pos (validS_iff.2 (by omega))]
  · rw [if_neg h, if_neg (by rw [validS_iff]; omega)]
theorem next_found {s q b : Nat} (hs : s ≤ 16777215) (hq : q ≤ 22) (h : InvN s q b) (h1 : s.testBit q = true) (h2 : s.testBit (q + 1) = false) :
    nextP (s : Int) = (nextR s b q, 0) ∧ 0 ≤ ishl (ishr (s : Int) ((q : Int) + 1)) ((q : Int) + 1) ∧ ishl (ishr (s : Int) ((q : Int) + 1)) ((q : Int) + 1) ≤ 16777215 := by
  obtain ⟨h0, hx⟩ := inv_found h h1 h2
  have hb := h.1
  generalize hH : s / 2 ^ (q + 2) = H at hx
  have hs2 : 2 ^ (q + 2) = 2 * 2 ^ (q + 1) := by rw [Nat.pow_succ]; omega
  have hd := Nat.div_add_mod s (2 ^ (q + 2))
  have hp24 : 2 ^ (q + 2) * 2 ^ (22 - q) = 2 ^ 24 := by rw [← Nat.pow_add]; congr 1; omega
  have hH2 : H < 2 ^ (22 - q) := by
    refine Nat.lt_of_mul_lt_mul_left (a := 2 ^ (q + 2)) ?_
    rw [hp24, ← hH]; omega
  have hub : 2 ^ (q + 2) * (H + 1) ≤ 2 ^ (q + 2) * 2 ^ (22 - q) := Nat.mul_le_mul_left _ hH2
  rw [hp24, Nat.mul_add, Nat.mul_one] at hub
  have hp1 := Nat.two_pow_pos (q + 1)
  have hval : 2 ^ (q + 1) * (2 * H + 1) = 2 ^ (q + 2) * H + 2 ^ (q + 1) := by
    rw [Nat.mul_add, Nat.mul_one, hs2, Nat.mul_comm 2 (2 ^ (q + 1)), Nat.mul_assoc]
  have hb2 : 2 ^ b ≤ 2 ^ 22 := Nat.pow_le_pow_right (by decide) (by omega)
  have hlt : nxN s < 2 ^ 24 := by rw [hx]; exact Nat.or_lt_two_pow (by omega) (by omega)
  have hdiv : s / 2 ^ (q + 1) = 2 * H := by
    have hm := Nat.div_add_mod s (2 ^ (q + 1))
    have e : s % 2 ^ (q + 2) = s % 2 ^ (q + 1) := by rw [mod_succ, h2]; simp
    rw [hH] at hd
    have : 2 ^ (q + 1) * (s / 2 ^ (q + 1)) = 2 ^ (q + 1) * (2 * H) := by
      have : 2 ^ (q + 1) * (2 * H) = 2 ^ (q + 2) * H := by rw [hs2, Nat.mul_comm 2 (2 ^ (q + 1)), Nat.mul_assoc]
      omega
    exact Nat.eq_of_mul_eq_mul_left hp1 this
  have eq1 : (q : Int) + 1 = ((q + 1 : Nat) : Int) := by omega
  have eshl : ishl (ishr (s : Int) ((q : Int) + 1)) ((q : Int) + 1) = ((2 ^ (q + 1) * (2 * H) : Nat) : Int) := by
    rw [eq1, ishr_nat, hdiv, ishl, Int.toNat_natCast, Nat.mul_comm]
    simp
    exact Int.mul_comm _ _
  have hlow : 2 ^ (q + 1) * (2 * H) = 2 ^ (q + 2) * H := by rw [hs2, Nat.mul_comm 2 (2 ^ (q + 1)), Nat.mul_assoc]
  refine ⟨?_, by rw [eshl]; omega, by rw [eshl]; omega⟩
  rw [nextP_nat hs h0, if_pos (by omega), nextR, eshl, eq1, ishl_one, ishl_one, ior_nat _ _ (by omega) (by omega)]
  have hpb := Nat.two_pow_pos b
  have hor : 2 ^ (q + 1) * (2 * H) ||| 2 ^ (q + 1) = 2 ^ (q + 1) * (2 * H + 1) := by
    have : (2 * H) ||| 1 = 2 * H + 1 := by
      refine Nat.eq_of_testBit_eq fun k => ?_
      cases k with
      | zero => simp
      | succ k => rw [Nat.testBit_or, Nat.testBit_succ, Nat.testBit_succ, Nat.testBit_succ, show (2 * H + 1) / 2 = H by omega, show 2 * H / 2 = H by omega]; simp
    rw [← this, Nat.mul_comm, Nat.mul_comm (2 ^ (q + 1)), ← Nat.shiftLeft_eq, ← Nat.shiftLeft_eq, Nat.shiftLeft_or_distrib, Nat.shiftLeft_eq 1, Nat.one_mul]
  rw [hor, show ((2 ^ b : Nat) : Int) - 1 = ((2 ^ b - 1 : Nat) : Int) by omega, ior_nat _ _ (by omega) (by omega), hx]
theorem next_end {s b : Nat} (hs : s ≤ 16777215) (h : InvN s 23 b) : nextP (s : Int) = (0, 20) := by
  cases h1 : s.testBit 23 with
  | false =>
    obtain ⟨rfl, h3⟩ := inv_skip h h1
    have h4 := h3.2.1
    have : s = 0 := by simp at h4; omega
    subst this; decide
  | true =>
    have h2 : s.testBit 24 = false := Nat.testBit_lt_two_pow (by omega)
    obtain ⟨h0, hx⟩ := inv_found h h1 h2
    have hle := Nat.left_le_or (n := 2 ^ (23 + 1) * (2 * (s / 2 ^ (23 + 2)) + 1)) (m := 2 ^ b - 1)
    rw [nextP_nat hs h0, if_neg (by rw [hx]; omega)]
theorem pas_all60 : allN2 (fun n => allN2 (fun k => Nat.ble n k || Nat.beq (cN n k + cN n (k + 1)) (cN (n + 1) (k + 1))) (n + 1)) 60 = true := by decide +kernel
theorem pas60 {n k : Nat} (hn : n < 60) (hk : k < n) : cN n k + cN n (k + 1) = cN (n + 1) (k + 1) := by
  have h := allN2_iff.1 (allN2_iff.1 pas_all60 n hn) k (by omega)
  have h0 : Nat.ble n k = false := by
    cases hb : Nat.ble n k with
    | false => rfl
    | true => have := Nat.le_of_ble_eq_true hb; omega
  rw [h0, Bool.false_or] at h
  exact Nat.eq_of_beq_eq_true h
theorem cN_zero (n : Nat) : cN n 0 = 1 := by rw [cN, Nat.zero_min]; rfl
theorem cN_self (n : Nat) : cN n n = 1 := by rw [cN, Nat.sub_self, Nat.min_zero]; rfl
theorem cN_le {n k : Nat} (hn : n ≤ 60) (hk : k ≤ n) : cN n k < 9223372036854775808 := by
  obtain ⟨h1, h2⟩ := bin_ok hn (show 2 * min k (n - k) ≤ n by omega)
  by_cases h0 : n = 0
  · subst h0; have : k = 0 := by omega
    subst this; decide
  · have : binN n (min k (n - k)) * 1 ≤ binN n (min k (n - k)) * (n - min k (n - k)) := Nat.mul_le_mul_left _ (by omega)
    rw [cN]; omega
def rowC (n : Nat) (i : Nat) : List Int := (List.range i).map fun k => (cN n k : Int)
theorem rowC_len (n i : Nat) : (rowC n i).length = i := by simp [rowC]
theorem rowC_get {n i k : Nat} (h : k < i) : (rowC n i).getD k 0 = (cN n k : Int) := by
  rw [rowC, List.getD_eq_getElem?_getD, List.getElem?_map, List.getElem?_range h]; rfl
theorem rowC_succ (n i : Nat) : rowC n (i + 1) = rowC n i ++ [(cN n i : Int)] := by
  rw [rowC, List.range_succ, List.map_append]; rfl
end Go.Pu
