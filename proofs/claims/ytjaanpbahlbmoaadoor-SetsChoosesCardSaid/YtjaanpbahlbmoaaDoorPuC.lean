/-
  PLAIN LEAN: the sets of k of n elements, in order; the binomial numbers.
-/
import Derived.Test.YtjaanpbahlbmoaaDoorPuS
set_option linter.unusedVariables false
set_option linter.unusedSectionVars false
set_option linter.unusedSimpArgs false
namespace Go.Pu
open Go.Sy
def lowN (s : Nat) : Nat := s - (s &&& (s - 1))
def nxN (s : Nat) : Nat := (s + lowN s) ||| (((s ^^^ (s + lowN s)) / lowN s) >>> 2)
def binN (n : Nat) : Nat → Nat
  | 0 => 1
  | i + 1 => binN n i * (n - i) / (i + 1)
def chkN (n k : Nat) : Nat → Nat → Bool
  | 0, s => Nat.blt s (2 ^ n) && Nat.beq (pcF 24 s) k && (Nat.beq s 0 || Nat.ble (2 ^ n) (nxN s))
  | f + 1, s => Nat.blt s (2 ^ n) && Nat.beq (pcF 24 s) k && (Nat.blt s (nxN s) && chkN n k f (nxN s))
def allN2 (p : Nat → Bool) : Nat → Bool
  | 0 => true
  | k + 1 => p k && allN2 p k
theorem allN2_iff {p : Nat → Bool} : ∀ {k}, allN2 p k = true ↔ ∀ i, i < k → p i = true
  | 0 => by simp [allN2]
  | k + 1 => by
    rw [allN2, Bool.and_eq_true, allN2_iff]
    exact ⟨fun h i hi => by rcases Nat.lt_succ_iff_lt_or_eq.1 hi with h1 | rfl; exact h.2 i h1; exact h.1, fun h => ⟨h k (Nat.lt_succ_self k), fun i hi => h i (Nat.lt_succ_of_lt hi)⟩⟩
theorem blt_f {a b : Nat} (h : b ≤ a) : Nat.blt a b = false := by
  cases hb : Nat.blt a b with
  | false => rfl
  | true => have : a < b := by simpa using hb
            omega
theorem blt_t {a b : Nat} (h : Nat.blt a b = true) : a < b := by simpa using h
def cN (n k : Nat) : Nat := binN n (min k (n - k))
theorem chk_all : allN2 (fun n => allN2 (fun k => Nat.blt 1024 (cN n k) || chkN n k (cN n k - 1) (2 ^ k - 1)) (n + 1)) 25 = true := by decide +kernel
theorem bin_all : allN2 (fun n => allN2 (fun i => Nat.blt n (2 * i) || (Nat.blt (binN n i * (n - i)) 9223372036854775808 && Nat.ble 1 (binN n i))) 31) 61 = true := by decide +kernel
theorem pas_all : allN2 (fun n => allN2 (fun k => Nat.beq (cN n k + (if k + 1 ≤ n then cN n (k + 1) else 0)) (cN (n + 1) (k + 1))) (n + 1)) 24 = true := by decide +kernel
theorem bin_ok {n i : Nat} (hn : n ≤ 60) (hi : 2 * i ≤ n) : binN n i * (n - i) < 9223372036854775808 ∧ 1 ≤ binN n i := by
  have h := allN2_iff.1 (allN2_iff.1 bin_all n (by omega)) i (by omega)
  have h0 : Nat.blt n (2 * i) = false := blt_f (by omega)
  rw [h0, Bool.false_or, Bool.and_eq_true] at h
  exact ⟨by simpa using h.1, by simpa using h.2⟩
theorem pas_ok {n k : Nat} (hn : n < 24) (hk : k ≤ n) : cN n k + (if k + 1 ≤ n then cN n (k + 1) else 0) = cN (n + 1) (k + 1) := by
  have h := allN2_iff.1 (allN2_iff.1 pas_all n hn) k (by omega)
  exact Nat.eq_of_beq_eq_true h
def itN : Nat → Nat → Nat
  | 0, s => s
  | i + 1, s => itN i (nxN s)
theorem itN_succ : ∀ (i s : Nat), itN (i + 1) s = nxN (itN i s)
  | 0, s => rfl
  | i + 1, s => itN_succ i (nxN s)
theorem chkN_spec {n k : Nat} : ∀ {f s : Nat}, chkN n k f s = true → ∀ i, i ≤ f → itN i s < 2 ^ n ∧ pcF 24 (itN i s) = k ∧ (i < f → itN i s < itN (i + 1) s) ∧ (i = f → itN i s = 0 ∨ 2 ^ n ≤ nxN (itN i s))
  | 0, s, h, i, hi => by
    obtain rfl : i = 0 := by omega
    simp only [chkN, Bool.and_eq_true, Bool.or_eq_true] at h
    obtain ⟨⟨h1, h2⟩, h3⟩ := h
    refine ⟨blt_t h1, Nat.eq_of_beq_eq_true h2, fun h => absurd h (Nat.lt_irrefl 0), fun _ => ?_⟩
    exact h3.imp (fun h => Nat.eq_of_beq_eq_true h) fun h => Nat.le_of_ble_eq_true h
  | f + 1, s, h, i, hi => by
    simp only [chkN, Bool.and_eq_true] at h
    obtain ⟨⟨h1, h2⟩, h3, h4⟩ := h
    cases i with
    | zero => exact ⟨blt_t h1, Nat.eq_of_beq_eq_true h2, fun _ => blt_t h3, fun h => by omega⟩
    | succ i =>
      obtain ⟨a, b, c, d⟩ := chkN_spec h4 i (by omega)
      exact ⟨a, b, fun h => c (by omega), fun h => d (by omega)⟩
def chooseL (n k : Nat) : List Int := (List.range (cN n k)).map fun i => (itN i (2 ^ k - 1) : Nat)
theorem cN_pos {n k : Nat} (hn : n ≤ 60) (hk : k ≤ n) : 1 ≤ cN n k := (bin_ok hn (by omega)).2
theorem choose_spec {n k : Nat} (hn : n ≤ 24) (hk : k ≤ n) (hc : cN n k ≤ 1024) : ∀ i, i < cN n k → itN i (2 ^ k - 1) < 2 ^ n ∧ pcF 24 (itN i (2 ^ k - 1)) = k ∧ (i + 1 < cN n k → itN i (2 ^ k - 1) < itN (i + 1) (2 ^ k - 1)) ∧ (i + 1 = cN n k → itN i (2 ^ k - 1) = 0 ∨ 2 ^ n ≤ nxN (itN i (2 ^ k - 1))) := by
  have h := allN2_iff.1 (allN2_iff.1 chk_all n (by omega)) k (by omega)
  have h0 : Nat.blt 1024 (cN n k) = false := blt_f (by omega)
  rw [h0, Bool.false_or] at h
  intro i hi
  obtain ⟨a, b, c, d⟩ := chkN_spec h i (by omega)
  exact ⟨a, b, fun h => c (by omega), fun h => d (by omega)⟩
variable [Drw]
theorem ior_nat (a b : Nat) (ha : a < 4611686018427387904) (hb : b < 4611686018427387904) : ior .i64 (a : Int) (b : Int) = ((a ||| b : Nat) : Int) := by
  have hx : a ||| b < 2 ^ 62 := Nat.or_lt_two_pow (by omega) (by omega)
  refine rng_ext (by simp) (by simp only [rng, inK]; omega) fun i _ => ?_
  rw [bit_ior, bit_nat (by omega), bit_nat (by omega), bit_nat (by omega), Nat.testBit_or]
theorem lowS_nat {s : Nat} (hs : s ≤ 16777215) (h0 : s ≠ 0) : lowS (s : Int) = (lowN s : Nat) := by
  have hv : validS (s : Int) = true := validS_iff.2 (by omega)
  have e : lowS (s : Int) = iandNot .i64 s (s - 1) := by
    rw [lowS, iand_comm', neg_and (by omega) (by omega)]
  have h1 := split_and hv (s - 1)
  rw [← e, show (s : Int) - 1 = ((s - 1 : Nat) : Int) by omega, iand_nat s (s - 1) (by omega) (by omega)] at h1
  have : s &&& (s - 1) ≤ s := Nat.and_le_left
  rw [lowN]; omega
theorem nextG_nat {s : Nat} (hs : s ≤ 16777215) (h0 : s ≠ 0) : nextG (s : Int) = (nxN s : Nat) := by
  have hl : lowN s ≤ s := Nat.sub_le _ _
  rw [nextG, lowS_nat hs h0, nxN]
  generalize lowN s = l at *
  rw [show (s : Int) + (l : Int) = ((s + l : Nat) : Int) by omega, ixor_nat s (s + l) (by omega) (by omega)]
  have hx : s ^^^ (s + l) < 2 ^ 25 := Nat.xor_lt_two_pow (by omega) (by omega)
  generalize s ^^^ (s + l) = x at hx
  rw [show (x : Int).tdiv (l : Int) = ((x / l : Nat) : Int) by rw [Int.tdiv_eq_ediv_of_nonneg (by omega)]; rfl]
  have hq := Nat.div_le_self x l
  generalize x / l = q at hq
  rw [show (2 : Int) = ((2 : Nat) : Int) from rfl, ishr_nat, Nat.shiftRight_eq_div_pow, ior_nat _ _ (by omega) (by have := Nat.div_le_self q (2 ^ 2); omega)]
theorem nextP_in {s t n : Nat} (hn : n ≤ 24) (hs : s < t) (ht : t < 2 ^ n) (h : nxN s = t) : nextP (s : Int) = ((t : Int), 0) := by
  have : 2 ^ n ≤ 2 ^ 24 := Nat.pow_le_pow_right (by decide) hn
  have h0 : s ≠ 0 := fun e => by
    subst e
    have : nxN 0 = 0 := rfl
    omega
  have hv : validS (s : Int) = true := validS_iff.2 (by omega)
  rw [nextP, if_pos hv, if_neg (by omega), nextG_nat (by omega) h0, h, if_pos (validS_iff.2 (by omega))]
theorem nextP_out {s n : Nat} (hn : n ≤ 24) (hs : s < 2 ^ n) (h : s = 0 ∨ 2 ^ n ≤ nxN s) : (nextP (s : Int)).2 ≠ 0 ∨ ((2 ^ n : Nat) : Int) ≤ (nextP (s : Int)).1 := by
  have : 2 ^ n ≤ 2 ^ 24 := Nat.pow_le_pow_right (by decide) hn
  have hv : validS (s : Int) = true := validS_iff.2 (by omega)
  by_cases h0 : s = 0
  · subst h0; exact .inl (by decide)
  · have e : nextP (s : Int) = if validS (nextG s) = true then (nextG s, 0) else (0, 20) := by unfold nextP; rw [if_pos hv, if_neg (by omega)]
    rw [e, nextG_nat (by omega) h0]
    split
    · exact .inr (by simp only; have := h.resolve_left h0; omega)
    · exact .inl (by decide)
theorem nextG_in {s t n : Nat} (hn : n ≤ 24) (hs : s < t) (ht : t < 2 ^ n) (h : nxN s = t) : validS (s : Int) = true ∧ (s : Int) ≠ 0 ∧ nextG (s : Int) = t := by
  have : 2 ^ n ≤ 2 ^ 24 := Nat.pow_le_pow_right (by decide) hn
  have h0 : s ≠ 0 := fun e => by
    subst e
    have : nxN 0 = 0 := rfl
    omega
  exact ⟨validS_iff.2 (by omega), by omega, by rw [nextG_nat (by omega) h0, h]⟩
end Go.Pu
