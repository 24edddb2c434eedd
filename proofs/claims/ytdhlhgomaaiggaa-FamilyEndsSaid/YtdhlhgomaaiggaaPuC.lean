/-
  THE NUMBER OF BITS AS THE LIBRARY RECKONS IT (sums of neighbours), FOR NUMBERS OF THREE BYTES. No program is named here.
-/
import Derived.Test.YtdhlhgomaaiggaaPuB
set_option linter.unusedVariables false
namespace Go.Pu
open Go.Sy

theorem and8 (a b q p : Nat) (hb : b < 256) (hp : p < 256) : (256 * a + b) &&& (256 * q + p) = 256 * (a &&& q) + (b &&& p) := by
  apply Nat.eq_of_testBit_eq
  intro i
  have h1 := Nat.testBit_two_pow_mul_add (i := 8) a hb i
  have h2 := Nat.testBit_two_pow_mul_add (i := 8) q hp i
  have h3 := Nat.testBit_two_pow_mul_add (i := 8) (a &&& q) (Nat.lt_of_le_of_lt Nat.and_le_left hb : b &&& p < 2 ^ 8) i
  rw [Nat.testBit_and]
  rw [show (256 : Nat) = 2 ^ 8 from rfl, h1, h2, h3]
  split <;> simp [Nat.testBit_and]
def b3 (x y z : Nat) : Nat := 256 * (256 * z + y) + x
theorem and3 (x y z M m : Nat) (hx : x < 256) (hy : y < 256) (hz : z < 256) (hm : m < 256) : b3 x y z &&& (256 * (256 * (256 * M + m) + m) + m) = b3 (x &&& m) (y &&& m) (z &&& m) := by
  unfold b3
  rw [and8 _ _ _ _ hx hm, and8 _ _ _ _ hy hm]
  have : z &&& (256 * M + m) = z &&& m := by
    have := and8 0 z M m hz hm
    simpa using this
  rw [this]
theorem iandU_nat (a m : Nat) (ha : a < 18446744073709551616) (hm : m < 18446744073709551616) : iand .u64 (a : Int) (m : Int) = ((a &&& m : Nat) : Int) := by
  rw [iandU_eq, BitVec.toNat_and]
  simp only [bv, BitVec.ofInt_natCast, BitVec.toNat_ofNat]
  rw [Nat.mod_eq_of_lt (by simpa using ha), Nat.mod_eq_of_lt (by simpa using hm)]
theorem ishr_nat (a : Nat) (k : Nat) : ishr (a : Int) (k : Int) = ((a / 2 ^ k : Nat) : Int) := by
  unfold ishr
  rw [Int.fdiv_eq_ediv_of_nonneg _ (by exact_mod_cast Nat.zero_le _)]
  simp

def c1 (x : Nat) : Nat := (x / 2 &&& 85) + (x &&& 85)
def c2 (x : Nat) : Nat := (x / 4 &&& 51) + (x &&& 51)
def c3 (x : Nat) : Nat := (x / 16 + x) &&& 15
theorem c1_le : ∀ x : Fin 256, c1 x.val ≤ 170 ∧ (x.val / 2 + 128 &&& 85) = (x.val / 2 &&& 85) ∧ c2 (c1 x.val) ≤ 68 ∧ c2 (c1 x.val) % 16 ≤ 4 ∧ (∀ t : Fin 4, (c1 x.val / 4 + 64 * t.val &&& 51) = (c1 x.val / 4 &&& 51)) ∧
    (∀ t : Fin 5, ((c2 (c1 x.val) / 16 + c2 (c1 x.val) + 16 * t.val) &&& 15) = c3 (c2 (c1 x.val))) ∧ c3 (c2 (c1 x.val)) = pcF 8 x.val := by decide +kernel

def o1 (a : Int) : Int := iand .u64 (ishr a 1) 6148914691236517205 + iand .u64 a 6148914691236517205
def o2 (a : Int) : Int := iand .u64 (ishr a 2) 3689348814741910323 + iand .u64 a 3689348814741910323
def o3 (a : Int) : Int := iand .u64 (ishr a 4 + a) 1085102592571150095

theorem o1_eq {x y z : Nat} (hx : x < 256) (hy : y < 256) (hz : z < 256) : o1 (b3 x y z) = b3 (c1 x) (c1 y) (c1 z) := by
  have lt : ∀ {x y z : Nat}, x < 256 → y < 256 → z < 256 → b3 x y z < 18446744073709551616 := fun hx hy hz => by unfold b3; omega
  have key : ∀ {x t : Nat}, x < 256 → t < 2 → (x / 2 + 128 * t &&& 85) = (x / 2 &&& 85) := fun {x t} hx ht => by
    have := (c1_le ⟨x, hx⟩).2.1
    rcases (by omega : t = 0 ∨ t = 1) with rfl | rfl
    · simp
    · simpa using this
  have e1 : b3 x y z / 2 ^ 1 = b3 (x / 2 + 128 * (y % 2)) (y / 2 + 128 * (z % 2)) (z / 2) := by unfold b3; omega
  unfold o1
  rw [show (1 : Int) = ((1 : Nat) : Int) from rfl, ishr_nat, e1, show (6148914691236517205 : Int) = ((256 * (256 * (256 * 366503875925 + 85) + 85) + 85 : Nat) : Int) from rfl,
    iandU_nat _ _ (lt (by omega) (by omega) (by omega)) (by decide), iandU_nat _ _ (lt hx hy hz) (by decide), and3 _ _ _ _ _ (by omega) (by omega) (by omega) (by decide), and3 _ _ _ _ _ hx hy hz (by decide),
    key hx (by omega), key hy (by omega)]
  unfold b3 c1
  omega
theorem o2_eq {x y z : Nat} (hx : x < 256) (hy : y < 256) (hz : z < 256) : o2 (b3 (c1 x) (c1 y) (c1 z)) = b3 (c2 (c1 x)) (c2 (c1 y)) (c2 (c1 z)) := by
  have lt : ∀ {x y z : Nat}, x < 256 → y < 256 → z < 256 → b3 x y z < 18446744073709551616 := fun hx hy hz => by unfold b3; omega
  have key : ∀ {x t : Nat}, x < 256 → t < 4 → (c1 x / 4 + 64 * t &&& 51) = (c1 x / 4 &&& 51) := fun {x t} hx ht => (c1_le ⟨x, hx⟩).2.2.2.2.1 ⟨t, ht⟩
  have lx := (c1_le ⟨x, hx⟩).1
  have ly := (c1_le ⟨y, hy⟩).1
  have lz := (c1_le ⟨z, hz⟩).1
  simp only at lx ly lz
  have e1 : b3 (c1 x) (c1 y) (c1 z) / 2 ^ 2 = b3 (c1 x / 4 + 64 * (c1 y % 4)) (c1 y / 4 + 64 * (c1 z % 4)) (c1 z / 4) := by unfold b3; omega
  unfold o2
  rw [show (2 : Int) = ((2 : Nat) : Int) from rfl, ishr_nat, e1, show (3689348814741910323 : Int) = ((256 * (256 * (256 * 219902325555 + 51) + 51) + 51 : Nat) : Int) from rfl,
    iandU_nat _ _ (lt (by omega) (by omega) (by omega)) (by decide), iandU_nat _ _ (lt (by omega) (by omega) (by omega)) (by decide), and3 _ _ _ _ _ (by omega) (by omega) (by omega) (by decide), and3 _ _ _ _ _ (by omega) (by omega) (by omega) (by decide),
    key hx (by omega), key hy (by omega)]
  unfold b3
  rw [show c2 (c1 x) = (c1 x / 4 &&& 51) + (c1 x &&& 51) from rfl, show c2 (c1 y) = (c1 y / 4 &&& 51) + (c1 y &&& 51) from rfl, show c2 (c1 z) = (c1 z / 4 &&& 51) + (c1 z &&& 51) from rfl]
  omega
theorem o3_eq {x y z : Nat} (hx : x < 256) (hy : y < 256) (hz : z < 256) : o3 (b3 (c2 (c1 x)) (c2 (c1 y)) (c2 (c1 z))) = b3 (pcF 8 x) (pcF 8 y) (pcF 8 z) := by
  have lt : ∀ {x y z : Nat}, x < 256 → y < 256 → z < 256 → b3 x y z < 18446744073709551616 := fun hx hy hz => by unfold b3; omega
  obtain ⟨_, _, x3, x4, _, x6, x7⟩ := c1_le ⟨x, hx⟩
  obtain ⟨_, _, y3, y4, _, y6, y7⟩ := c1_le ⟨y, hy⟩
  obtain ⟨_, _, z3, z4, _, z6, z7⟩ := c1_le ⟨z, hz⟩
  simp only at x3 x4 x6 x7 y3 y4 y6 y7 z3 z4 z6 z7
  have e1 : b3 (c2 (c1 x)) (c2 (c1 y)) (c2 (c1 z)) / 2 ^ 4 + b3 (c2 (c1 x)) (c2 (c1 y)) (c2 (c1 z)) =
      b3 (c2 (c1 x) / 16 + c2 (c1 x) + 16 * (c2 (c1 y) % 16)) (c2 (c1 y) / 16 + c2 (c1 y) + 16 * (c2 (c1 z) % 16)) (c2 (c1 z) / 16 + c2 (c1 z) + 16 * 0) := by unfold b3; omega
  unfold o3
  rw [show (4 : Int) = ((4 : Nat) : Int) from rfl, ishr_nat, ← Int.natCast_add, e1, show (1085102592571150095 : Int) = ((256 * (256 * (256 * 64677154575 + 15) + 15) + 15 : Nat) : Int) from rfl,
    iandU_nat _ _ (lt (by omega) (by omega) (by omega)) (by decide), and3 _ _ _ _ _ (by omega) (by omega) (by omega) (by decide), x6 ⟨c2 (c1 y) % 16, by omega⟩, y6 ⟨c2 (c1 z) % 16, by omega⟩, z6 ⟨0, by omega⟩, x7, y7, z7]
theorem ones_eq {a : Int} (h : validS a = true) : ∃ x y z : Nat, x < 256 ∧ y < 256 ∧ z < 256 ∧ a = b3 x y z ∧ popc a = pcF 8 x + pcF 8 y + pcF 8 z := by
  rw [validS_iff] at h
  obtain ⟨n, rfl⟩ := Int.eq_ofNat_of_zero_le h.1
  refine ⟨n % 256, n / 256 % 256, n / 65536, by omega, by omega, by omega, by unfold b3; omega, ?_⟩
  unfold popc
  rw [Int.toNat_natCast, pcF_add 16 8 n, pcF_add 8 8 (n / 2 ^ 8), ← pcF_mod 8 n, ← pcF_mod 8 (n / 2 ^ 8), show n / 2 ^ 8 / 2 ^ 8 = n / 65536 by omega]
  push_cast
  omega
theorem popc_le {a : Int} : 0 ≤ popc a ∧ popc a ≤ 24 := by
  unfold popc
  have := pcF_le 24 a.toNat
  omega
/-- what the library's last steps come to -/
theorem ones_last {x y z : Nat} (hx : x ≤ 8) (hy : y ≤ 8) (hz : z ≤ 8) {n : Int} (hn : n = b3 x y z) :
    n + ishr n 8 + ishr (n + ishr n 8) 16 + ishr (n + ishr n 8 + ishr (n + ishr n 8) 16) 32 < 1000000000000 ∧ 0 ≤ n ∧ 0 ≤ n + ishr n 8 ∧ 0 ≤ n + ishr n 8 + ishr (n + ishr n 8) 16 ∧ n + ishr n 8 ≤ 1000000000000 ∧ n + ishr n 8 + ishr (n + ishr n 8) 16 ≤ 1000000000000 ∧
    0 ≤ n + ishr n 8 + ishr (n + ishr n 8) 16 + ishr (n + ishr n 8 + ishr (n + ishr n 8) 16) 32 ∧ 
    iand .i64 (n + ishr n 8 + ishr (n + ishr n 8) 16 + ishr (n + ishr n 8 + ishr (n + ishr n 8) 16) 32) 127 = x + y + z := by
  subst hn
  have s : ∀ (a : Nat) (k : Nat) (K : Int), K = (k : Int) → ishr (a : Int) K = ((a / 2 ^ k : Nat) : Int) := fun a k K e => by rw [e, ishr_nat]
  have e1 : (b3 x y z : Int) + ishr (b3 x y z) 8 = ((65536 * z + 256 * (y + z) + (x + y) : Nat) : Int) := by
    rw [s _ 8 8 rfl]; unfold b3; omega
  rw [e1]
  have e2 : ((65536 * z + 256 * (y + z) + (x + y) : Nat) : Int) + ishr ((65536 * z + 256 * (y + z) + (x + y) : Nat) : Int) 16 = ((65536 * z + 256 * (y + z) + (x + y + z) : Nat) : Int) := by
    rw [s _ 16 16 rfl]; omega
  rw [e2]
  have e3 : ((65536 * z + 256 * (y + z) + (x + y + z) : Nat) : Int) + ishr ((65536 * z + 256 * (y + z) + (x + y + z) : Nat) : Int) 32 = ((65536 * z + 256 * (y + z) + (x + y + z) : Nat) : Int) := by
    rw [s _ 32 32 rfl]; omega
  rw [e3]
  refine ⟨by omega, by omega, by omega, by omega, by omega, by omega, by omega, ?_⟩
  rw [iand_eq]
  have e4 : (bv ((65536 * z + 256 * (y + z) + (x + y + z) : Nat) : Int) &&& bv 127).toNat = x + y + z := by
    rw [BitVec.toNat_and]
    simp only [bv, BitVec.ofInt_natCast, BitVec.toNat_ofNat]
    rw [Nat.mod_eq_of_lt (by omega)]
    show (65536 * z + 256 * (y + z) + (x + y + z)) &&& (2 ^ 7 - 1) = _
    rw [Nat.and_two_pow_sub_one_eq_mod]
    omega
  rw [BitVec.toInt_eq_toNat_cond, e4, if_pos (by omega)]
  push_cast
  rfl

/-- the least bit taken away -/
theorem pcF_less : ∀ k n, n ≠ 0 → n < 2 ^ k → pcF k (n &&& (n - 1)) + 1 = pcF k n
  | 0, n, h0, hn => by simp at hn; omega
  | k + 1, n, h0, hn => by
    rw [pcF_succ, pcF_succ]
    have hd : (n &&& (n - 1)) / 2 = n / 2 &&& (n - 1) / 2 := by rw [Nat.and_div_two]
    have hm : (n &&& (n - 1)) % 2 = n % 2 * ((n - 1) % 2) := by
      have := Nat.and_mod_two_pow (a := n) (b := n - 1) (n := 1)
      simp only [Nat.pow_one] at this
      rw [this]
      rcases Nat.mod_two_eq_zero_or_one n with h | h <;> rcases Nat.mod_two_eq_zero_or_one (n - 1) with h' | h' <;> simp [h, h']
    rw [hd, hm]
    rcases Nat.mod_two_eq_zero_or_one n with h | h
    · rw [h, show (n - 1) / 2 = n / 2 - 1 by omega]
      have := pcF_less k (n / 2) (by omega) (by rw [Nat.pow_succ] at hn; omega)
      omega
    · rw [show (n - 1) / 2 = n / 2 by omega, Nat.and_self, show (n - 1) % 2 = 0 by omega]
      omega
theorem iand_nat (a b : Nat) (ha : a < 9223372036854775808) (hb : b < 9223372036854775808) : iand .i64 (a : Int) (b : Int) = ((a &&& b : Nat) : Int) := by
  have e4 : (bv (a : Int) &&& bv (b : Int)).toNat = a &&& b := by
    rw [BitVec.toNat_and]
    simp only [bv, BitVec.ofInt_natCast, BitVec.toNat_ofNat]
    rw [Nat.mod_eq_of_lt (by omega), Nat.mod_eq_of_lt (by omega)]
  have := @Nat.and_le_left a b
  rw [iand_eq, BitVec.toInt_eq_toNat_cond, e4, if_pos (by omega)]
theorem popc_less {s : Int} (h : validS s = true) (h0 : s ≠ 0) : popc (iand .i64 s (s - 1)) + 1 = popc s := by
  rw [validS_iff] at h
  obtain ⟨n, rfl⟩ := Int.eq_ofNat_of_zero_le h.1
  rw [show (n : Int) - 1 = ((n - 1 : Nat) : Int) by omega, iand_nat _ _ (by omega) (by omega)]
  unfold popc
  have := pcF_less 24 n (by omega) (by omega)
  simp only [Int.toNat_natCast]
  omega
theorem popc_pos {s : Int} (h : validS s = true) (h0 : s ≠ 0) : 0 < popc s := by
  have := popc_less h h0
  have := (popc_le (a := iand .i64 s (s - 1))).1
  omega
@[simp] theorem popc_zero : popc 0 = 0 := by decide
end Go.Pu
