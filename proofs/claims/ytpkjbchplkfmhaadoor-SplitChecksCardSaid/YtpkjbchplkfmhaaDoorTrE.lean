/-
  TREES: texts: how the program and the reference read them, and that both read the same; writing and reading back. No program is named here.
-/
import Derived.Test.YtpkjbchplkfmhaaDoorTrD
import Derived.Lib.ItoaNum
import Derived.Lib.Atoi
set_option linter.unusedSectionVars false
set_option linter.unusedVariables false
set_option linter.unusedSimpArgs false
namespace Go.Pu
open Go.Sy
variable [Drw]
/-! numerals -/
def isDg (a : UInt8) : Bool := decide (48 ≤ a.toNat) && decide (a.toNat ≤ 57)
def nDg : List UInt8 → Nat
  | [] => 0
  | a :: r => if isDg a = true then nDg r + 1 else 0
def dgA (a : UInt8) : Nat := a.toNat - 48
def dgS (acc : Nat) (a : UInt8) : Nat := 10 * acc + dgA a
def valD (acc : Nat) (l : List UInt8) : Nat := l.foldl dgS acc
theorem valD_nil (acc : Nat) : valD acc [] = acc := rfl
theorem valD_cons (acc : Nat) (a : UInt8) (r : List UInt8) : valD acc (a :: r) = valD (10 * acc + (a.toNat - 48)) r := by
  simp only [valD, List.foldl_cons, dgS, dgA]
theorem nDg_le : ∀ l : List UInt8, nDg l ≤ l.length
  | [] => Nat.le_refl _
  | a :: r => by rw [nDg]; have := nDg_le r; split <;> simp <;> omega
theorem nDg_dig : ∀ (l : List UInt8) (i : Nat), i < nDg l → isDg (l.getD i 0) = true
  | [], i, h => by simp [nDg] at h
  | a :: r, i, h => by
    rw [nDg] at h
    split at h
    · rename_i ha
      cases i with
      | zero => simpa using ha
      | succ i => simpa using nDg_dig r i (by omega)
    · omega
theorem nDg_end : ∀ (l : List UInt8), nDg l < l.length → isDg (l.getD (nDg l) 0) = false
  | [], h => by simp [nDg] at h
  | a :: r, h => by
    by_cases ha : isDg a = true
    · rw [nDg, if_pos ha] at h ⊢
      simpa using nDg_end r (by simpa using h)
    · rw [nDg, if_neg ha]; simpa using ha
theorem nDg_of {l : List UInt8} : ∀ {k : Nat}, k ≤ l.length → (∀ i, i < k → isDg (l.getD i 0) = true) → (k < l.length → isDg (l.getD k 0) = false) → nDg l = k := by
  induction l with
  | nil => intro k hk _ _; simp at hk; subst hk; rfl
  | cons a r ih =>
    intro k hk h1 h2
    cases k with
    | zero =>
      have := h2 (by simp)
      rw [nDg, if_neg (by simpa using this)]
    | succ k =>
      have h0 := h1 0 (by omega)
      rw [nDg, if_pos (by simpa using h0), ih (by simpa using hk) (fun i hi => by simpa using h1 (i + 1) (by omega)) fun h => by simpa using h2 (by simpa using h)]
theorem valD_dec : ∀ (l : List UInt8) (acc : Nat), (∀ a ∈ l, isDg a = true) → Lib.decFrom acc l = some (valD acc l)
  | [], acc, _ => rfl
  | a :: r, acc, h => by
    have ha := h a (.head _)
    simp only [isDg, Bool.and_eq_true, decide_eq_true_eq] at ha
    rw [Lib.decFrom, Lib.digitVal, if_pos ha, valD_cons, Nat.mul_comm]
    exact valD_dec r _ fun x hx => h x (.tail _ hx)
theorem valD_append : ∀ (a b : List UInt8) (acc : Nat), valD acc (a ++ b) = valD (valD acc a) b
  | [], b, acc => rfl
  | x :: a, b, acc => by rw [List.cons_append, valD_cons, valD_cons, valD_append a b]
theorem valD_lt : ∀ (l : List UInt8) (acc k : Nat), (∀ a ∈ l, isDg a = true) → acc < 10 ^ k → valD acc l < 10 ^ (k + l.length)
  | [], acc, k, _, h => by simpa [valD_nil] using h
  | a :: r, acc, k, h, hacc => by
    have ha := h a (.head _)
    simp only [isDg, Bool.and_eq_true, decide_eq_true_eq] at ha
    rw [valD_cons, List.length_cons, show k + (r.length + 1) = (k + 1) + r.length by omega]
    refine valD_lt r _ (k + 1) (fun x hx => h x (.tail _ hx)) ?_
    rw [Nat.pow_succ]; omega
theorem valD_ge : ∀ (l : List UInt8) (acc : Nat), acc ≤ valD acc l
  | [], acc => Nat.le_refl _
  | a :: r, acc => by rw [valD_cons]; have := valD_ge r (10 * acc + (a.toNat - 48)); omega
theorem take_dig (l : List UInt8) : ∀ a ∈ l.take (nDg l), isDg a = true := by
  intro a ha
  obtain ⟨i, hi, rfl⟩ := List.getElem_of_mem ha
  have hl := nDg_le l
  have hi' : i < nDg l := by simp at hi; omega
  have := nDg_dig l i hi'
  rw [List.getD_eq_getElem?_getD, List.getElem?_eq_getElem (by omega)] at this
  simpa using this
theorem atoi_take {l : List UInt8} (h : nDg l ≠ 0) : Lib.atoi (l.take (nDg l)) = some (valD 0 (l.take (nDg l)) : Int) := by
  have hd := take_dig l
  have hl := nDg_le l
  cases ht : l.take (nDg l) with
  | nil => have := congrArg List.length ht; simp at this; rcases this with h1 | h1 <;> simp [h1, nDg] at h
  | cons b r =>
    rw [ht] at hd
    have hb := hd b (.head _)
    simp only [isDg, Bool.and_eq_true, decide_eq_true_eq] at hb
    have h1 : (b == 45) = false := by rw [beq_eq_false_iff_ne]; rintro rfl; simp at hb
    have h2 : (b == 43) = false := by rw [beq_eq_false_iff_ne]; rintro rfl; simp at hb
    rw [Lib.atoi, h1, h2]
    simp only [Bool.false_eq_true, if_false]
    rw [Lib.decNat, List.isEmpty_cons]
    simp only [Bool.false_eq_true, if_false]
    rw [valD_dec _ 0 hd]; rfl
/-! the program's reader: what is left, and whether it is bad -/
abbrev PS := List UInt8 × Bool
def signP (c : UInt8) (x : PS) : PS := if x.2 = true ∨ x.1 = [] ∨ x.1.getD 0 0 ≠ c then (x.1, true) else (x.1.drop 1, false)
def badN (most : Nat) (x : PS) : Bool := x.2 || (nDg x.1 == 0) || decide (most < nDg x.1) || (decide (1 < nDg x.1) && (x.1.getD 0 0 == 48))
def numCP (most : Nat) (x : PS) : Int × PS := if badN most x = true then (0, (x.1, true)) else (valD 0 (x.1.take (nDg x.1)), (x.1.drop (nDg x.1), false))
def nodeCP : Nat → PS → Tr × PS
  | 0, x => (.no, (x.1, true))
  | f + 1, x => if x.2 = true ∨ x.1 = [] then (.no, (x.1, true))
    else if x.1.getD 0 0 = 91 then
      let n := numCP 2 (signP 91 x)
      let a := nodeCP f (signP 32 n.2)
      let b := nodeCP f (signP 32 a.2)
      (Tr.two n.1 a.1 b.1, signP 93 b.2)
    else if x.1.getD 0 0 = 45 then
      let n := numCP 18 (signP 45 x)
      (Tr.lf (-n.1), (n.2.1, n.2.2 || (n.1 == 0)))
    else
      let n := numCP 18 x
      (Tr.lf n.1, n.2)
/-! the reference's: the tree, and how many bytes it has (0: none) -/
def negB (l : List UInt8) : Bool := decide (0 < l.length) && (l.getD 0 0 == 45)
def negK (l : List UInt8) : Nat := if negB l = true then 1 else 0
def badR (most : Nat) (l : List UInt8) : Bool := (nDg (l.drop (negK l)) == 0) || decide (most < nDg (l.drop (negK l))) || (((l.drop (negK l)).getD 0 0 == 48) && (decide (1 < nDg (l.drop (negK l))) || negB l))
def numRP (most : Nat) (l : List UInt8) : Int × Nat :=
  if badR most l = true then (0, 0) else ((if negB l = true then -1 else 1) * (valD 0 ((l.drop (negK l)).take (nDg (l.drop (negK l)))) : Nat), negK l + nDg (l.drop (negK l)))
/-- is the byte at a place this one? -/
def atB (l : List UInt8) (i : Nat) (c : UInt8) : Bool := decide (i < l.length) && (l.getD i 0 == c)
def readRP : Nat → List UInt8 → Tr × Nat
  | 0, l => (.no, 0)
  | f + 1, l => if l = [] then (.no, 0)
    else if l.getD 0 0 ≠ 91 then (Tr.lf (numRP 18 l).1, (numRP 18 l).2)
    else
      let n := numRP 2 (l.drop 1)
      if n.2 = 0 ∨ n.1 < 0 then (.no, 0)
      else if atB l (n.2 + 1) 32 = false then (.no, 0)
      else
        let a := readRP f (l.drop (n.2 + 1 + 1))
        if a.2 = 0 then (.no, 0)
        else if atB l (n.2 + 1 + (1 + a.2)) 32 = false then (.no, 0)
        else
          let b := readRP f (l.drop (n.2 + 1 + (1 + a.2) + 1))
          if b.2 = 0 then (.no, 0)
          else if atB l (n.2 + 1 + (1 + a.2) + (1 + b.2)) 93 = false then (.no, 0)
          else (Tr.two n.1 a.1 b.1, n.2 + 1 + (1 + a.2) + (1 + b.2) + 1)
theorem readRP_le : ∀ (f : Nat) (l : List UInt8), (readRP f l).2 ≤ l.length
  | 0, l => Nat.zero_le _
  | f + 1, l => by
    rw [readRP]
    split
    · exact Nat.zero_le _
    split
    · simp only [numRP]
      split
      · exact Nat.zero_le _
      · have h1 := nDg_le (l.drop (negK l))
        have h2 : negK l ≤ l.length := by
          unfold negK negB
          split
          · rename_i h; rw [Bool.and_eq_true, decide_eq_true_iff] at h; exact h.1
          · exact Nat.zero_le _
        simp only [List.length_drop] at h1 ⊢
        omega
    · simp only
      split
      · exact Nat.zero_le _
      split
      · exact Nat.zero_le _
      split
      · exact Nat.zero_le _
      split
      · exact Nat.zero_le _
      split
      · exact Nat.zero_le _
      split
      · exact Nat.zero_le _
      · rename_i h
        simp only [atB, Bool.and_eq_false_iff, decide_eq_false_iff_not] at h
        show _ ≤ _
        simp only
        omega
theorem signP_bad (c : UInt8) (l : List UInt8) : signP c (l, true) = (l, true) := by simp [signP]
theorem signP_ok (c : UInt8) (l : List UInt8) : signP c (l, false) = if atB l 0 c = true then (l.drop 1, false) else (l, true) := by
  unfold signP atB
  cases l with
  | nil => simp
  | cons a r => by_cases h : a = c <;> simp [h]
theorem numCP_bad (m : Nat) (l : List UInt8) : numCP m (l, true) = (0, (l, true)) := by simp [numCP, badN]
theorem nodeCP_bad : ∀ (f : Nat) (l : List UInt8), nodeCP f (l, true) = (.no, (l, true))
  | 0, l => rfl
  | f + 1, l => by rw [nodeCP]; simp
theorem valD_zero {l : List UInt8} (h0 : nDg l ≠ 0) (h1 : ¬ l.getD 0 0 = 48) : valD 0 (l.take (nDg l)) ≠ 0 := by
  cases l with
  | nil => simp [nDg] at h0
  | cons a r =>
    have ha : isDg a = true := by
      cases h : isDg a with
      | true => rfl
      | false => rw [nDg, if_neg (by rw [h]; decide)] at h0; exact absurd rfl h0
    rw [nDg, if_pos ha, List.take_succ_cons, valD_cons]
    simp only [isDg, Bool.and_eq_true, decide_eq_true_eq] at ha
    have h2 : a.toNat ≠ 48 := fun e => h1 (by simp; exact UInt8.toNat_inj.1 e)
    have := valD_ge (r.take (nDg r)) (10 * 0 + (a.toNat - 48))
    omega
/-- a number: both read the same -/
theorem num_same (l : List UInt8) (h : negB l = false) (m : Nat) : numCP m (l, false) = if (numRP m l).2 = 0 then (0, (l, true)) else ((numRP m l).1, (l.drop (numRP m l).2, false)) := by
  unfold numCP numRP
  have hk : negK l = 0 := by simp [negK, h]
  have hb : badR m l = badN m (l, false) := by
    unfold badR badN
    rw [hk, h]
    simp only [List.drop_zero, Bool.false_or, Bool.or_false]
    rw [Bool.and_comm (decide (1 < nDg l))]
  rw [hb]
  by_cases hx : badN m (l, false) = true
  · simp [hx]
  · rw [if_neg hx, if_neg hx]
    have h0 : nDg l ≠ 0 := fun e => hx (by simp [badN, e])
    simp only [hk, List.drop_zero, h, Bool.false_eq_true, if_false, Int.one_mul, Nat.zero_add, if_neg h0]
theorem neg_same (l : List UInt8) (h : negB l = true) : ((numCP 18 (l.drop 1, false)).2.2 || ((numCP 18 (l.drop 1, false)).1 == 0)) = decide ((numRP 18 l).2 = 0) := by
  have hk : negK l = 1 := by simp [negK, h]
  have hR : badR 18 l = ((nDg (l.drop 1) == 0) || decide (18 < nDg (l.drop 1)) || ((l.drop 1).getD 0 0 == 48)) := by
    unfold badR; rw [hk, h, Bool.or_true, Bool.and_true]
  have hN : badN 18 (l.drop 1, false) = ((nDg (l.drop 1) == 0) || decide (18 < nDg (l.drop 1)) || (decide (1 < nDg (l.drop 1)) && ((l.drop 1).getD 0 0 == 48))) := by
    unfold badN; rw [Bool.false_or]
  unfold numCP numRP
  rw [hR, hN, hk, h]
  clear hR hN hk h
  generalize l.drop 1 = r
  by_cases h0 : nDg r = 0
  · simp [h0]
  by_cases h1 : 18 < nDg r
  · simp [h1]
  have e0 : (nDg r == 0) = false := by simpa using h0
  rw [e0, decide_eq_false h1]
  cases h2 : (r.getD 0 0 == 48) with
  | true =>
    by_cases h3 : 1 < nDg r
    · simp [h3]
    · have e1 : nDg r = 1 := by omega
      have hv : valD 0 (r.take 1) = 0 := by
        cases r with
        | nil => rfl
        | cons a q => simp at h2; subst h2; rfl
      rw [e1, hv]; rfl
  | false =>
    have hv := valD_zero h0 (by simpa using h2)
    simp [hv]
theorem signP_sb {c : UInt8} {x : PS} (h : x.2 = true) : (signP c x).2 = true := by unfold signP; rw [if_pos (.inl h)]
theorem nodeCP_sb {f : Nat} {x : PS} (h : x.2 = true) : (nodeCP f x).2.2 = true := by
  cases f with
  | zero => rfl
  | succ f => rw [nodeCP, if_pos (.inl h)]
theorem atB_drop (l : List UInt8) (i : Nat) (c : UInt8) : atB (l.drop i) 0 c = atB l i c := by
  unfold atB
  have h1 : decide (0 < (l.drop i).length) = decide (i < l.length) := by
    rw [Bool.eq_iff_iff, decide_eq_true_iff, decide_eq_true_iff, List.length_drop]; omega
  have h2 : (l.drop i).getD 0 0 = l.getD i 0 := by
    rw [List.getD_eq_getElem?_getD, List.getD_eq_getElem?_getD, List.getElem?_drop, Nat.add_zero]
  rw [h1, h2]
theorem numRP_pos {l : List UInt8} (h : negB l = false) (m : Nat) : ¬ (numRP m l).1 < 0 := by
  unfold numRP
  split
  · exact Int.lt_irrefl 0
  · rw [h]; simp only [Bool.false_eq_true, if_false]; omega
theorem nDg_neg {l : List UInt8} (h : negB l = true) : nDg l = 0 := by
  cases l with
  | nil => rfl
  | cons a r =>
    have : a = 45 := by simpa [negB] using h
    subst this
    rfl
theorem numRP_neg {l : List UInt8} (h : negB l = true) (m : Nat) : (numRP m l).2 = 0 ∨ (numRP m l).1 < 0 := by
  unfold numRP
  split
  · exact .inl rfl
  · rename_i hb
    right
    have hk : negK l = 1 := by simp [negK, h]
    rw [hk]
    have hR : ¬ ((nDg (l.drop 1) == 0) || decide (m < nDg (l.drop 1)) || ((l.drop 1).getD 0 0 == 48)) = true := by
      unfold badR at hb; rwa [hk, h, Bool.or_true, Bool.and_true] at hb
    generalize l.drop 1 = r at hR
    have h0 : nDg r ≠ 0 := fun e => hR (by simp [e])
    have h1 : ¬ r.getD 0 0 = 48 := fun e => hR (by rw [beq_iff_eq.2 e, Bool.or_true])
    have := valD_zero h0 h1
    simp only
    omega
/-- a tree: both read the same -/
theorem read_same : ∀ (f : Nat) (l : List UInt8), ((readRP f l).2 = 0 → (nodeCP f (l, false)).2.2 = true) ∧ ((readRP f l).2 ≠ 0 → nodeCP f (l, false) = ((readRP f l).1, (l.drop (readRP f l).2, false)))
  | 0, l => ⟨fun _ => rfl, fun h => absurd rfl h⟩
  | f + 1, l => by
    have ih := read_same f
    rw [readRP, nodeCP]
    by_cases h0 : l = []
    · subst h0; simp
    rw [if_neg h0, if_neg (show ¬ ((l, false).2 = true ∨ (l, false).1 = []) from fun h => h.elim (fun h => by cases h) h0)]
    by_cases h1 : l.getD 0 0 = 91
    · have e1 : signP 91 (l, false) = (l.drop 1, false) := by
        rw [signP_ok, if_pos]
        unfold atB
        rw [h1, decide_eq_true (List.length_pos_iff.2 h0)]; rfl
      rw [if_neg (fun h => h h1), if_pos (show (l, false).1.getD 0 0 = 91 from h1)]
      dsimp only
      rw [e1]
      cases hn : negB (l.drop 1) with
      | true =>
        have hb : (numCP 2 (l.drop 1, false)).2.2 = true := by
          unfold numCP; rw [if_pos]; unfold badN; rw [nDg_neg hn]; rfl
        rw [if_pos (numRP_neg hn 2)]
        exact ⟨fun _ => signP_sb (nodeCP_sb (signP_sb (nodeCP_sb (signP_sb hb)))), fun h => absurd rfl h⟩
      | false =>
        have hs := num_same (l.drop 1) hn 2
        have hp := numRP_pos hn 2
        generalize numRP 2 (l.drop 1) = N at *
        by_cases hk : N.2 = 0
        · rw [if_pos hk] at hs
          rw [hs, if_pos (.inl hk)]
          exact ⟨fun _ => signP_sb (nodeCP_sb (signP_sb (nodeCP_sb (signP_sb rfl)))), fun h => absurd rfl h⟩
        rw [if_neg hk] at hs
        rw [hs, if_neg (by omega)]
        dsimp only
        have d1 : (l.drop 1).drop N.2 = l.drop (N.2 + 1) := by rw [List.drop_drop]; congr 1; omega
        rw [d1, signP_ok, atB_drop]
        cases hA : atB l (N.2 + 1) 32 with
        | false =>
          rw [if_neg (show ¬ (false = true) by decide), if_pos (show (false = false) from rfl)]
          exact ⟨fun _ => signP_sb (nodeCP_sb (signP_sb (nodeCP_sb rfl))), fun h => absurd rfl h⟩
        | true =>
        rw [if_pos (show (true = true) from rfl), if_neg (show ¬ (true = false) by decide)]
        have d2 : (l.drop (N.2 + 1)).drop 1 = l.drop (N.2 + 1 + 1) := by rw [List.drop_drop]
        rw [d2]
        obtain ⟨a1, a2⟩ := ih (l.drop (N.2 + 1 + 1))
        generalize readRP f (l.drop (N.2 + 1 + 1)) = A at *
        by_cases ha : A.2 = 0
        · rw [if_pos ha]
          exact ⟨fun _ => signP_sb (nodeCP_sb (signP_sb (a1 ha))), fun h => absurd rfl h⟩
        rw [if_neg ha, a2 ha]
        dsimp only
        have d3 : (l.drop (N.2 + 1 + 1)).drop A.2 = l.drop (N.2 + 1 + (1 + A.2)) := by rw [List.drop_drop]; congr 1; omega
        rw [d3, signP_ok, atB_drop]
        cases hB : atB l (N.2 + 1 + (1 + A.2)) 32 with
        | false =>
          rw [if_neg (show ¬ (false = true) by decide), if_pos (show (false = false) from rfl)]
          exact ⟨fun _ => signP_sb (nodeCP_sb rfl), fun h => absurd rfl h⟩
        | true =>
        rw [if_pos (show (true = true) from rfl), if_neg (show ¬ (true = false) by decide)]
        have d4 : (l.drop (N.2 + 1 + (1 + A.2))).drop 1 = l.drop (N.2 + 1 + (1 + A.2) + 1) := by rw [List.drop_drop]
        rw [d4]
        obtain ⟨b1, b2⟩ := ih (l.drop (N.2 + 1 + (1 + A.2) + 1))
        generalize readRP f (l.drop (N.2 + 1 + (1 + A.2) + 1)) = B at *
        by_cases hb : B.2 = 0
        · rw [if_pos hb]
          exact ⟨fun _ => signP_sb (b1 hb), fun h => absurd rfl h⟩
        rw [if_neg hb, b2 hb]
        dsimp only
        have d5 : (l.drop (N.2 + 1 + (1 + A.2) + 1)).drop B.2 = l.drop (N.2 + 1 + (1 + A.2) + (1 + B.2)) := by rw [List.drop_drop]; congr 1; omega
        rw [d5, signP_ok, atB_drop]
        cases hC : atB l (N.2 + 1 + (1 + A.2) + (1 + B.2)) 93 with
        | false =>
          rw [if_neg (show ¬ (false = true) by decide), if_pos (show (false = false) from rfl)]
          exact ⟨fun _ => rfl, fun h => absurd rfl h⟩
        | true =>
        rw [if_pos (show (true = true) from rfl), if_neg (show ¬ (true = false) by decide)]
        have d6 : (l.drop (N.2 + 1 + (1 + A.2) + (1 + B.2))).drop 1 = l.drop (N.2 + 1 + (1 + A.2) + (1 + B.2) + 1) := by rw [List.drop_drop]
        rw [d6]
        exact ⟨fun h => absurd h (by simp), fun _ => rfl⟩
    · rw [if_pos h1, if_neg (show ¬ (l, false).1.getD 0 0 = 91 from h1)]
      dsimp only
      by_cases h2 : l.getD 0 0 = 45
      · have hn : negB l = true := by
          unfold negB; rw [h2, decide_eq_true (List.length_pos_iff.2 h0)]; rfl
        have e1 : signP 45 (l, false) = (l.drop 1, false) := by
          rw [signP_ok, if_pos]
          unfold atB
          rw [h2, decide_eq_true (List.length_pos_iff.2 h0)]; rfl
        have hs := neg_same l hn
        rw [if_pos h2, e1]
        refine ⟨fun h => ?_, fun h => ?_⟩
        · rw [decide_eq_true h] at hs; exact hs
        · rw [decide_eq_false h] at hs
          rw [hs]
          have hk : negK l = 1 := by simp [negK, hn]
          unfold numRP at h ⊢
          rw [hk, hn] at *
          by_cases hb : badR 18 l = true
          · rw [if_pos hb] at h; exact absurd rfl h
          · rw [if_neg hb]
            have hc : ¬ badN 18 (l.drop 1, false) = true := fun e => by
              rw [numCP, if_pos e] at hs; cases hs
            rw [numCP, if_neg hc]
            simp only [if_true, List.drop_drop]
            congr 2
            omega
      · have hn : negB l = false := by
          unfold negB
          rw [beq_eq_false_iff_ne.2 h2, Bool.and_false]
        have hs := num_same l hn 18
        rw [if_neg h2, hs]
        refine ⟨fun h => ?_, fun h => ?_⟩
        · rw [if_pos h]
        · rw [if_neg h]
end Go.Pu
