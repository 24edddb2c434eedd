/-
  SETS OF EVENTS: lists and sets, all parts of a set. No program is named here.
-/
import Derived.Test.YtdeoicedbphgoaaGreatDoorPuN
set_option linter.unusedSectionVars false
set_option linter.unusedVariables false
set_option linter.unusedSimpArgs false
namespace Go.Pu
open Go.Sy
variable [Drw]
theorem or_add {a b : Int} (ha : validS a = true) (hb : validS b = true) (h : ∀ i, bit a i = true → bit b i = false) : ior .i64 a b = a + b := by
  have ha' := validS_iff.1 ha
  have hb' := validS_iff.1 hb
  have h0 : bv a &&& bv b = 0#64 := by
    refine BitVec.eq_of_getLsbD_eq fun i hi => ?_
    rw [BitVec.getLsbD_and, BitVec.getLsbD_zero]
    cases hab : (bv a).getLsbD i with
    | false => rfl
    | true => rw [show (bv b).getLsbD i = false from h i hab]; rfl
  have e := BitVec.add_eq_or_of_and_eq_zero (bv a) (bv b) h0
  rw [ior_eq, ← e, ← BitVec.ofInt_add]
  exact toInt_bv (by simp only [rng, inK]; omega)
theorem or_one {s : Int} (hs : validS s = true) {i : Nat} (hi : i < 24) (hb : bit s i = false) : ior .i64 s (one i) = s + one i :=
  or_add hs (one_valid hi) fun j hj => by
    rw [one_bit hi]
    by_cases hij : i = j
    · subst hij; rw [hb] at hj; cases hj
    · simp [hij]
/-! the set of a list -/
def ofL (s : Int) : List Int → Int × Int
  | [] => (s, 0)
  | i :: r => if (decide (i < 0) || decide (i ≥ 24)) = true then (0, 3) else if hasB s i = true then (0, 6) else ofL (ior .i64 s (ishl 1 i)) r
def ofP (l : List Int) : Int × Int := if 24 < l.length then (0, 4) else ofL 0 l
def listP (s : Int) : List Int × Int := if validS s = true then (elemsS s, 0) else ([], 3)

/-! all parts of a set, as the program finds them: after a part 'x' of 's' comes '(x - s) & s' -/
theorem neg_and {y s : Int} (h1 : 1 ≤ y) (h2 : y ≤ 16777216) : iand .i64 (-y) s = iandNot .i64 s (y - 1) := by
  have e : bv (-y) = ~~~ bv (y - 1) := by
    apply BitVec.eq_of_toNat_eq
    rw [BitVec.toNat_not, BitVec.toNat_ofInt, BitVec.toNat_ofInt]
    omega
  rw [iand_eq, iandNot_eq, e, BitVec.and_comm]
theorem split_and {s : Int} (hs : validS s = true) (t : Int) : iand .i64 s t + iandNot .i64 s t = s := by
  rw [← or_add (valid_iand hs) (valid_iandNot hs) fun i hi => by
    rw [bit_iand, Bool.and_eq_true] at hi
    rw [bit_iandNot', hi.2]; simp]
  refine valid_ext (valid_ior (valid_iand hs) (valid_iandNot hs)) hs fun i _ => ?_
  rw [bit_ior, bit_iand, bit_iandNot']
  cases bit s i <;> cases bit t i <;> rfl
theorem iand_comm' (a b : Int) : iand .i64 a b = iand .i64 b a := by rw [iand_eq, iand_eq, BitVec.and_comm]
def nextX (s x : Int) : Int := iand .i64 (x - s) s
theorem nextX_end {s : Int} : nextX s s = 0 := by
  unfold nextX
  rw [Int.sub_self]
  exact (eq_zero_iff (by simp)).2 fun i _ => by simp
/-- the parts of 's' that are less than the next one are those that are not above this one -/
theorem nextX_spec {s x : Int} (hs : validS s = true) (hx : validS x = true) (hp : Part x s) (hne : x ≠ s) :
    validS (nextX s x) = true ∧ Part (nextX s x) s ∧ x < nextX s x ∧ ∀ t, validS t = true → Part t s → (t < nextX s x ↔ t ≤ x) := by
  have hs' := validS_iff.1 hs
  have hx' := validS_iff.1 hx
  -- what is left of s
  have hcmp : ∀ t, validS t = true → Part t s → s - t = iandNot .i64 s t ∧ 0 ≤ s - t := fun t ht hpt => by
    have h1 := split_and hs t
    have h2 : iand .i64 s t = t := by rw [iand_comm']; exact (iand_part ht).2 hpt
    rw [h2] at h1
    have h3 := validS_iff.1 (valid_iandNot (y := t) hs)
    omega
  have hy := hcmp x hx hp
  have hy1 : 1 ≤ s - x := by omega
  have e1 : nextX s x = iandNot .i64 s ((s - x) - 1) := by
    rw [← neg_and hy1 (by omega)]
    unfold nextX
    rw [show x - s = -(s - x) by omega]
  have hz := split_and hs (s - x - 1)
  have hzr := validS_iff.1 (valid_iand (y := s - x - 1) hs)
  have hv : validS (nextX s x) = true := by rw [e1]; exact valid_iandNot hs
  have hpn : Part (nextX s x) s := fun i hi => by
    rw [e1, bit_iandNot', Bool.and_eq_true] at hi; exact hi.1
  -- the greatest part below what is left
  have hsub : ∀ u, validS u = true → Part u s → u < s - x → u ≤ iand .i64 s (s - x - 1) := fun u hu hpu hlt => by
    have hvy : validS (s - x) = true := by rw [hy.1]; exact valid_iandNot hs
    have hpy : Part (s - x) s := fun i hi => by
      rw [hy.1, bit_iandNot', Bool.and_eq_true] at hi; exact hi.1
    have e2 := (iand_part hvy).2 hpy
    have e3 := (iand_part hu).2 hpu
    have hu' := validS_iff.1 hu
    have hvy' := validS_iff.1 hvy
    generalize s - x = y at *
    obtain ⟨s, rfl⟩ := Int.eq_ofNat_of_zero_le hs'.1
    obtain ⟨y, rfl⟩ := Int.eq_ofNat_of_zero_le hy.2
    obtain ⟨u, rfl⟩ := Int.eq_ofNat_of_zero_le hu'.1
    rw [iand_nat y s (by omega) (by omega)] at e2
    rw [iand_nat u s (by omega) (by omega)] at e3
    rw [iand_comm', show (y : Int) - 1 = ((y - 1 : Nat) : Int) by omega, iand_nat (y - 1) s (by omega) (by omega)]
    have := sub_next 24 u y s (by omega) (by omega) (by omega) (by omega)
    omega
  have hzlt : iand .i64 s (s - x - 1) < s - x := by
    have h1 : iand .i64 s (s - x - 1) ≤ s - x - 1 := by
      obtain ⟨s, rfl⟩ := Int.eq_ofNat_of_zero_le hs'.1
      obtain ⟨x, rfl⟩ := Int.eq_ofNat_of_zero_le hx'.1
      rw [show (s : Int) - x - 1 = ((s - x - 1 : Nat) : Int) by omega, iand_nat s (s - x - 1) (by omega) (by omega)]
      have : s &&& (s - x - 1) ≤ s - x - 1 := Nat.and_le_right
      omega
    omega
  refine ⟨hv, hpn, by omega, fun t ht hpt => ?_⟩
  have ht1 := hcmp t ht hpt
  have ht2 : validS (s - t) = true := by rw [ht1.1]; exact valid_iandNot hs
  have ht3 : Part (s - t) s := fun i hi => by
    rw [ht1.1, bit_iandNot', Bool.and_eq_true] at hi; exact hi.1
  constructor
  · intro hlt
    by_cases h : x < t
    · have := hsub (s - t) ht2 ht3 (by omega)
      omega
    · omega
  · intro hle
    omega

theorem nodup_len {α : Type} [DecidableEq α] : ∀ {a b : List α}, a.Nodup → (∀ x ∈ a, x ∈ b) → a.length ≤ b.length
  | [], b, _, _ => Nat.zero_le _
  | x :: a, b, hd, h => by
    have hd' := List.nodup_cons.1 hd
    have hx : x ∈ b := h x (.head _)
    have ih := nodup_len (a := a) (b := b.erase x) hd'.2 fun y hy => (List.mem_erase_of_ne (fun e => hd'.1 (by rw [← e]; exact hy))).2 (h y (.tail _ hy))
    rw [List.length_erase_of_mem hx] at ih
    have := List.length_pos_of_mem hx
    simp only [List.length_cons]
    omega
theorem nodup_len_eq {α : Type} [DecidableEq α] {a b : List α} (ha : a.Nodup) (hb : b.Nodup) (h : ∀ x, x ∈ a ↔ x ∈ b) : a.length = b.length :=
  Nat.le_antisymm (nodup_len ha fun x hx => (h x).1 hx) (nodup_len hb fun x hx => (h x).2 hx)
/-! all parts of a set, as the reference finds them -/
def dblL (out : List Int) : List Int → List Int
  | [] => out
  | i :: r => dblL (out ++ out.map fun a => ior .i64 a (ishl 1 i)) r
theorem dblL_append : ∀ (a b out : List Int), dblL out (a ++ b) = dblL (dblL out a) b
  | [], b, out => rfl
  | i :: a, b, out => by rw [List.cons_append, dblL, dblL, dblL_append a b]
theorem dblL_length : ∀ (r out : List Int), (dblL out r).length = out.length * 2 ^ r.length
  | [], out => by simp [dblL]
  | i :: r, out => by
    rw [dblL, dblL_length r, List.length_append, List.length_map, List.length_cons, Nat.pow_succ, ← Nat.two_mul, Nat.mul_comm 2, Nat.mul_assoc, Nat.mul_comm 2]
theorem dbl_spec {s : Int} (hs : validS s = true) : ∀ k, k ≤ 24 → (∀ t, t ∈ dblL [0] (elemsN s k) ↔ validS t = true ∧ Part t s ∧ ∀ i, k ≤ i → bit t i = false) ∧ (dblL [0] (elemsN s k)).Nodup
  | 0, _ => by
    have e : dblL [0] (elemsN s 0) = [0] := rfl
    rw [e]
    refine ⟨fun t => ?_, by simp⟩
    rw [List.mem_singleton]
    constructor
    · rintro rfl
      exact ⟨valid0, bit0 s, fun i _ => by simp⟩
    · rintro ⟨h1, _, h3⟩
      exact (eq_zero_iff (validS_rng h1)).2 fun i _ => h3 i (Nat.zero_le _)
  | k + 1, hk => by
    obtain ⟨ih1, ih2⟩ := dbl_spec hs k (by omega)
    rw [elemsN_succ, dblL_append]
    generalize dblL [0] (elemsN s k) = D at ih1 ih2
    cases hb : bit s k with
    | false =>
      have e : dblL D (if false = true then [(k : Int)] else []) = D := rfl
      rw [e]
      refine ⟨fun t => (ih1 t).trans ⟨fun ⟨h1, h2, h3⟩ => ⟨h1, h2, fun i hi => h3 i (by omega)⟩, fun ⟨h1, h2, h3⟩ => ⟨h1, h2, fun i hi => ?_⟩⟩, ih2⟩
      by_cases hik : i = k
      · subst hik
        cases ht : bit t i with
        | false => rfl
        | true => rw [h2 i ht] at hb; cases hb
      · exact h3 i (by omega)
    | true =>
      have e : dblL D (if true = true then [(k : Int)] else []) = D ++ D.map fun a => ior .i64 a (Go.Pu.one k) := rfl
      rw [e]
      have hlt : k < 24 := by omega
      have hmem : ∀ t, (t ∈ D ++ D.map fun a => ior .i64 a (Go.Pu.one k)) ↔ validS t = true ∧ Part t s ∧ ∀ i, k + 1 ≤ i → bit t i = false := fun t => by
        rw [List.mem_append, List.mem_map]
        constructor
        · rintro (h | ⟨a, ha, rfl⟩)
          · obtain ⟨h1, h2, h3⟩ := (ih1 t).1 h
            exact ⟨h1, h2, fun i hi => h3 i (by omega)⟩
          · obtain ⟨h1, h2, h3⟩ := (ih1 a).1 ha
            refine ⟨valid_ior h1 (one_valid hlt), fun i hi => ?_, fun i hi => ?_⟩
            · rw [bit_ior, one_bit hlt, Bool.or_eq_true] at hi
              rcases hi with hi | hi
              · exact h2 i hi
              · have : k = i := by simpa using hi
                subst this; exact hb
            · rw [bit_ior, one_bit hlt, h3 i (by omega)]
              simp; omega
        · rintro ⟨h1, h2, h3⟩
          cases ht : bit t k with
          | false =>
            left
            refine (ih1 t).2 ⟨h1, h2, fun i hi => ?_⟩
            by_cases hik : i = k
            · subst hik; exact ht
            · exact h3 i (by omega)
          | true =>
            right
            refine ⟨iandNot .i64 t (Go.Pu.one k), (ih1 _).2 ⟨valid_iandNot h1, fun i hi => ?_, fun i hi => ?_⟩, ?_⟩
            · rw [bit_iandNot', Bool.and_eq_true] at hi; exact h2 i hi.1
            · rw [bit_iandNot', one_bit hlt]
              by_cases hik : k = i
              · subst hik; simp
              · rw [h3 i (by omega)]; rfl
            · refine valid_ext (valid_ior (valid_iandNot h1) (one_valid hlt)) h1 fun i _ => ?_
              rw [bit_ior, bit_iandNot', one_bit hlt]
              by_cases hik : k = i
              · subst hik; simp [ht]
              · simp [hik]
      refine ⟨hmem, List.nodup_append.2 ⟨ih2, ?_, ?_⟩⟩
      · refine List.Pairwise.map _ (fun a b hab => hab) (?_ : D.Pairwise fun a b => ior .i64 a (Go.Pu.one k) ≠ ior .i64 b (Go.Pu.one k))
        refine List.Pairwise.imp_of_mem (fun {a b} ha hb hne he => hne ?_) ih2
        obtain ⟨h1, _, h3⟩ := (ih1 a).1 ha
        obtain ⟨h1', _, h3'⟩ := (ih1 b).1 hb
        refine valid_ext h1 h1' fun i _ => ?_
        have := congrArg (fun x => bit x i) he
        simp only [bit_ior, one_bit hlt] at this
        by_cases hik : k = i
        · subst hik; rw [h3 k (Nat.le_refl _), h3' k (Nat.le_refl _)]
        · simpa [hik] using this
      · intro a ha b hb' he
        obtain ⟨c, hc, rfl⟩ := List.mem_map.1 hb'
        have h3 := ((ih1 a).1 ha).2.2 k (Nat.le_refl _)
        rw [he, bit_ior, one_bit hlt] at h3
        simp at h3
def partsL (s : Int) : List Int := sortS (dblL [0] (elemsS s))
def partsP (s : Int) : List Int × Int := if validS s = true then if 10 < cntS s then ([], 4) else (partsL s, 0) else ([], 3)
theorem partsL_spec {s : Int} (hs : validS s = true) : Asc (partsL s) ∧ ∀ t, t ∈ partsL s ↔ validS t = true ∧ Part t s := by
  have h1 := (dbl_spec hs 24 (Nat.le_refl _)).1
  have hv : ∀ x ∈ dblL [0] (elemsS s), validS x = true := fun x hx => ((h1 x).1 hx).1
  refine ⟨(sortS_spec hv).1, fun t => ?_⟩
  rw [partsL, (sortS_spec hv).2, show dblL [0] (elemsS s) = dblL [0] (elemsN s 24) from rfl, h1 t]
  exact ⟨fun h => ⟨h.1, h.2.1⟩, fun h => ⟨h.1, h.2, fun i hi => validS_bit h.1 hi⟩⟩
theorem elemsS_length (s : Int) (hs : validS s = true) : ((elemsS s).length : Int) = popc s := by
  rw [popc_sum hs, sumS, ← sum_one]
  simp [elemsS, elemsN]
theorem asc_nodup {l : List Int} (h : Asc l) : l.Nodup := List.Pairwise.imp (fun {a b} hab e => by subst e; rw [cmpS_neg] at hab; omega) h
theorem partsL_length {s : Int} (hs : validS s = true) : (partsL s).length = 2 ^ (elemsS s).length := by
  have h1 := dbl_spec hs 24 (Nat.le_refl _)
  have h2 := partsL_spec hs
  rw [nodup_len_eq (b := dblL [0] (elemsS s)) (asc_nodup h2.1) h1.2 fun t => ?_, dblL_length]
  · simp
  · rw [h2.2 t, show dblL [0] (elemsS s) = dblL [0] (elemsN s 24) from rfl, h1.1 t]
    exact ⟨fun h => ⟨h.1, h.2, fun i hi => validS_bit h.1 hi⟩, fun h => ⟨h.1, h.2.1⟩⟩
/-- a list of all parts, sorted -/
theorem parts_eq {s : Int} (hs : validS s = true) {L : List Int} (hm : ∀ t, validS t = true → (t ∈ L ↔ Part t s)) (hv : ∀ t ∈ L, validS t = true) (hp : L.Pairwise fun a b => a < b) : sortL cmpS L = partsL s := by
  have h2 := partsL_spec hs
  have hperm := sortL_perm L
  have hmem : ∀ x, x ∈ sortL cmpS L ↔ x ∈ L := fun x => hperm.mem_iff
  have hnd : (sortL cmpS L).Nodup := hperm.nodup_iff.2 (hp.imp fun {a b} hab e => by omega)
  have hasc : Asc (sortL cmpS L) := by
    have h3 := (sortL_sorted L).and hnd
    refine List.Pairwise.imp_of_mem (fun {a b} ha hb hab => ?_) h3
    obtain ⟨h4, h5⟩ := hab
    have h6 : cmpS a b ≠ 0 := fun e => h5 (cmpS_eq (hv a ((hmem a).1 ha)) (hv b ((hmem b).1 hb)) e)
    omega
  refine hasc.unique h2.1 fun x => ?_
  rw [hmem, h2.2]
  exact ⟨fun hx => ⟨hv x hx, (hm x (hv x hx)).1 hx⟩, fun hx => (hm x hx.1).2 hx.2⟩

/-! the next set with as many elements -/
def lowS (s : Int) : Int := iand .i64 s (-s)
theorem lowS_spec {s : Int} (hs : validS s = true) (h0 : s ≠ 0) : validS (lowS s) = true ∧ 1 ≤ lowS s := by
  have hs' := validS_iff.1 hs
  have e : lowS s = iandNot .i64 s (s - 1) := by
    rw [lowS, iand_comm', neg_and (by omega) (by omega)]
  have hv : validS (lowS s) = true := by rw [e]; exact valid_iandNot hs
  have hv' := validS_iff.1 hv
  refine ⟨hv, ?_⟩
  have h1 := split_and hs (s - 1)
  rw [← e] at h1
  have h2 : iand .i64 s (s - 1) ≤ s - 1 := by
    obtain ⟨n, rfl⟩ := Int.eq_ofNat_of_zero_le hs'.1
    rw [show (n : Int) - 1 = ((n - 1 : Nat) : Int) by omega, iand_nat n (n - 1) (by omega) (by omega)]
    have : n &&& (n - 1) ≤ n - 1 := Nat.and_le_right
    omega
  omega
def nextG (s : Int) : Int := ior .i64 (s + lowS s) (ishr ((ixor .i64 s (s + lowS s)).tdiv (lowS s)) 2)
def nextP (s : Int) : Int × Int := if validS s = true then if s = 0 then (0, 20) else if validS (nextG s) = true then (nextG s, 0) else (0, 20) else (0, 3)
theorem ixor_nat (a b : Nat) (ha : a < 4611686018427387904) (hb : b < 4611686018427387904) : ixor .i64 (a : Int) (b : Int) = ((a ^^^ b : Nat) : Int) := by
  have hx : a ^^^ b < 2 ^ 62 := Nat.xor_lt_two_pow (by omega) (by omega)
  refine rng_ext (by simp) (by simp only [rng, inK]; omega) fun i _ => ?_
  rw [bit_ixor, bit_nat (by omega), bit_nat (by omega), bit_nat (by omega), Nat.testBit_xor]
theorem next_rng {s : Int} (hs : validS s = true) (h0 : s ≠ 0) : 0 ≤ ixor .i64 s (s + lowS s) ∧ ixor .i64 s (s + lowS s) < 33554432 ∧ 0 ≤ (ixor .i64 s (s + lowS s)).tdiv (lowS s) ∧ (ixor .i64 s (s + lowS s)).tdiv (lowS s) < 33554432 := by
  have hs' := validS_iff.1 hs
  obtain ⟨l1, l2⟩ := lowS_spec hs h0
  have l1' := validS_iff.1 l1
  generalize lowS s = l at *
  obtain ⟨a, rfl⟩ := Int.eq_ofNat_of_zero_le hs'.1
  obtain ⟨b, rfl⟩ := Int.eq_ofNat_of_zero_le l1'.1
  rw [show (a : Int) + (b : Int) = ((a + b : Nat) : Int) by omega, ixor_nat a (a + b) (by omega) (by omega)]
  have hx : a ^^^ (a + b) < 2 ^ 25 := Nat.xor_lt_two_pow (by omega) (by omega)
  generalize a ^^^ (a + b) = x at hx
  have hd : (x : Int).tdiv (b : Int) = ((x / b : Nat) : Int) := by
    rw [Int.tdiv_eq_ediv_of_nonneg (by omega)]; rfl
  have hq := Nat.div_le_self x b
  rw [hd]
  generalize x / b = q at hq
  omega
end Go.Pu
