/-
  SORTED LISTS OF SETS: the library's way and the specification's come to the same. No program is named here.
-/
import Derived.Test.YtdhlhgomaaiggaaPuE
import Derived.Test.YtdhlhgomaaiggaaSyT
set_option linter.unusedVariables false
namespace Go.Pu
open Go.Sy Go.Sort Go.Lib Go.Proofs

theorem cmpS_neg (a b : Int) : cmpS a b < 0 ↔ cntS a < cntS b ∨ (cntS a = cntS b ∧ cutS a < cutS b) := by
  unfold cmpS cmpI
  repeat' split
  all_goals omega
theorem cmpS_zero (a b : Int) : cmpS a b = 0 ↔ cntS a = cntS b ∧ cutS a = cutS b := by
  unfold cmpS cmpI
  repeat' split
  all_goals omega
theorem cmpS_swo : SWO (ltOf cmpS) where
  irrefl x := by simp [ltOf, cmpS_neg]
  trans x y z h1 h2 := by simp only [ltOf, decide_eq_true_eq, cmpS_neg] at *; omega
  ntrans x y z h1 h2 := by simp only [ltOf, decide_eq_false_iff_not, cmpS_neg] at *; omega
theorem cmpS_total (a b : Int) : cmpS a b = 0 ∨ cmpS a b < 0 ∨ cmpS b a < 0 := by
  rw [cmpS_zero, cmpS_neg, cmpS_neg]; omega
theorem cmpS_eq {a b : Int} (ha : validS a = true) (hb : validS b = true) (h : cmpS a b = 0) : a = b := by
  rw [cmpS_zero, cutS_of ha, cutS_of hb] at h; exact h.2

/-- as the code sorts -/
def sortedL (l : List Int) : List Int := Lib.compact (sortL cmpS l)

/-- strictly ascending -/
def Asc (l : List Int) : Prop := l.Pairwise fun a b => cmpS a b < 0
theorem Asc.unique {l l' : List Int} (h : Asc l) (h' : Asc l') (hm : ∀ x, x ∈ l ↔ x ∈ l') : l = l' := by
  induction l generalizing l' with
  | nil =>
    cases l' with
    | nil => rfl
    | cons y l' => exact absurd ((hm y).2 (.head _)) (by simp)
  | cons x l ih =>
    cases l' with
    | nil => exact absurd ((hm x).1 (.head _)) (by simp)
    | cons y l' =>
      have h1 := List.pairwise_cons.1 h
      have h2 := List.pairwise_cons.1 h'
      have irr : ∀ z, ¬ cmpS z z < 0 := fun z => by simp [cmpS_neg]
      have asy : ∀ a b, cmpS a b < 0 → ¬ cmpS b a < 0 := fun a b => by simp only [cmpS_neg]; omega
      have exy : x = y := by
        rcases List.mem_cons.1 ((hm x).1 (.head _)) with e | e
        · exact e
        · rcases List.mem_cons.1 ((hm y).2 (.head _)) with e' | e'
          · exact e'.symm
          · exact absurd (h1.1 y e') (asy _ _ (h2.1 x e))
      subst exy
      rw [ih h1.2 h2.2 fun z => ?_]
      constructor
      · intro hz
        rcases List.mem_cons.1 ((hm z).1 (.tail _ hz)) with e | e
        · subst e; exact absurd (h1.1 z hz) (irr z)
        · exact e
      · intro hz
        rcases List.mem_cons.1 ((hm z).2 (.tail _ hz)) with e | e
        · subst e; exact absurd (h2.1 z hz) (irr z)
        · exact e

theorem keeps_append (xs ys : List Int) {j : Nat} (hj : j < xs.length) : keeps (xs ++ ys).toArray j = keeps xs.toArray j := by
  unfold keeps
  have g : ∀ i, i < xs.length → (xs ++ ys).toArray[i]! = xs.toArray[i]! := fun i hi => by
    rw [getElem!_pos _ i (by simp; omega), getElem!_pos _ i (by simpa using hi)]
    simp [List.getElem_append_left hi]
  rw [g j hj, g (j - 1) (by omega)]
theorem compactUpTo_append (xs ys : List Int) : ∀ m, m ≤ xs.length → compactUpTo (xs ++ ys).toArray m = compactUpTo xs.toArray m
  | 0, _ => rfl
  | m + 1, hm => by
    rw [compactUpTo_succ, compactUpTo_succ, compactUpTo_append xs ys m (by omega), keeps_append xs ys (by omega)]
    have : (xs ++ ys).toArray[m]! = xs.toArray[m]! := by
      rw [getElem!_pos _ m (by simp; omega), getElem!_pos _ m (by simp; omega)]
      simp [List.getElem_append_left (show m < xs.length by omega)]
    rw [this]
theorem compact_snoc (xs : List Int) (x : Int) : Lib.compact (xs ++ [x]) = Lib.compact xs ++ if xs.getLast? = some x then [] else [x] := by
  unfold Lib.compact
  rw [List.length_append, List.length_singleton, compactUpTo_succ, compactUpTo_append _ _ _ (Nat.le_refl _)]
  congr 1
  have h1 : (xs ++ [x]).toArray[xs.length]! = x := by rw [getElem!_pos _ _ (by simp)]; simp
  rw [h1]
  unfold keeps
  rw [h1]
  rcases List.eq_nil_or_concat xs with rfl | ⟨ys, y, rfl⟩
  · simp
  · have h2 : (ys.concat y ++ [x]).toArray[(ys.concat y).length - 1]! = y := by
      rw [getElem!_pos _ _ (by simp)]
      simp
    rw [h2]
    by_cases e : x = y <;> simp [e, Ne.symm]

theorem compact_asc (xs : List Int) (h : xs.Pairwise fun a b => cmpS a b ≤ 0) (hv : ∀ x ∈ xs, validS x = true) : Asc (Lib.compact xs) ∧ (∀ x, x ∈ Lib.compact xs ↔ x ∈ xs) := by
  induction hn : xs.length generalizing xs with
  | zero =>
    have : xs = [] := List.length_eq_zero_iff.1 hn
    subst this
    simp [Lib.compact, compactUpTo, Asc]
  | succ n ih =>
    rcases List.eq_nil_or_concat xs with rfl | ⟨ys, y, rfl⟩
    · simp at hn
    · rw [List.concat_eq_append] at *
      rw [List.pairwise_append] at h
      obtain ⟨h1, _, h3⟩ := h
      obtain ⟨i1, i2⟩ := ih ys h1 (fun x hx => hv x (by simp [hx])) (by simpa using hn)
      rw [compact_snoc]
      by_cases e : ys.getLast? = some y
      · rw [if_pos e, List.append_nil]
        refine ⟨i1, fun x => ?_⟩
        rw [i2, List.mem_append, List.mem_singleton]
        have hm : y ∈ ys := List.mem_of_getLast? e
        constructor
        · exact .inl
        · rintro (h | rfl)
          · exact h
          · exact hm
      · rw [if_neg e]
        refine ⟨?_, fun x => by simp [i2]⟩
        unfold Asc
        rw [List.pairwise_append]
        refine ⟨i1, by simp, fun a ha b hb => ?_⟩
        rw [List.mem_singleton] at hb
        subst hb
        have ham := (i2 a).1 ha
        have hle := h3 a ham b (by simp)
        have hne : cmpS a b ≠ 0 := by
          intro h0
          have hab : a = b := cmpS_eq (hv a (by simp [ham])) (hv b (by simp)) h0
          subst hab
          -- every element behind it in ys is the same
          apply e
          obtain ⟨p, q, rfl⟩ := List.append_of_mem ham
          rcases List.eq_nil_or_concat q with rfl | ⟨q', z, rfl⟩
          · simp
          · rw [List.concat_eq_append] at *
            have hz : z ∈ p ++ a :: (q' ++ [z]) := by simp
            have h4 : cmpS a z ≤ 0 := by
              rw [List.pairwise_append] at h1
              exact (List.pairwise_cons.1 h1.2.1).1 z (by simp)
            have h5 : cmpS z a ≤ 0 := h3 z hz a (by simp)
            have : z = a := cmpS_eq (hv z (by simp)) (hv a (by simp)) (by
              rcases cmpS_total z a with h | h | h
              · exact h
              · have := (cmpS_neg z a).1 h
                have h4' : ¬ cmpS z a < 0 := by
                  intro h'
                  have : ¬ (cmpS a z = 0) := fun e0 => by rw [cmpS_zero] at e0; rw [cmpS_neg] at h'; omega
                  have h6 : cmpS a z < 0 := by omega
                  rw [cmpS_neg] at h6 h'
                  omega
                exact absurd h h4'
              · have h6 : ¬ cmpS z a < 0 := by intro h'; rw [cmpS_neg] at h h'; omega
                omega)
            subst this
            rw [show p ++ z :: (q' ++ [z]) = (p ++ z :: q') ++ [z] by simp, List.getLast?_append]
            simp
        omega

theorem sortL_perm (l : List Int) : (sortL cmpS l).Perm l := List.mergeSort_perm _ _
theorem sortL_sorted (l : List Int) : (sortL cmpS l).Pairwise fun a b => cmpS a b ≤ 0 := by
  have h := List.pairwise_mergeSort (le := fun x y => !decide (cmpS y x < 0)) (fun a b c h1 h2 => by
    simp only [Bool.not_eq_true', decide_eq_false_iff_not, cmpS_neg] at *; omega) (fun a b => by
    simp only [Bool.or_eq_true, Bool.not_eq_true', decide_eq_false_iff_not, cmpS_neg]; omega) l
  refine h.imp fun {a b} hab => ?_
  simp only [Bool.not_eq_true', decide_eq_false_iff_not] at hab
  rcases cmpS_total a b with e | e | e
  · omega
  · omega
  · exact absurd e hab
theorem sortedL_spec {l : List Int} (hv : ∀ x ∈ l, validS x = true) : Asc (sortedL l) ∧ ∀ x, x ∈ sortedL l ↔ x ∈ l := by
  have h := compact_asc (sortL cmpS l) (sortL_sorted l) fun x hx => hv x ((sortL_perm l).mem_iff.1 hx)
  exact ⟨h.1, fun x => (h.2 x).trans (sortL_perm l).mem_iff⟩
theorem sortedL_valid {l : List Int} (hv : ∀ x ∈ l, validS x = true) : ∀ x ∈ sortedL l, validS x = true := fun x hx => hv x (((sortedL_spec hv).2 x).1 hx)
theorem compact_length (l : List Int) : (Lib.compact l).length ≤ l.length := by
  have := List.length_filter_le (keeps l.toArray) (List.range l.length)
  simpa [Lib.compact, compactUpTo] using this
theorem sortedL_length (l : List Int) : (sortedL l).length ≤ l.length := Nat.le_trans (compact_length _) (Nat.le_of_eq (sortL_perm l).length_eq)

/-! the specification's way -/
theorem mergeS_spec : ∀ (a b : List Int), Asc a → Asc b → (∀ x ∈ a, validS x = true) → (∀ x ∈ b, validS x = true) → Asc (mergeS a b) ∧ ∀ x, x ∈ mergeS a b ↔ x ∈ a ∨ x ∈ b
  | [], b, _, hb, _, _ => ⟨by simpa [mergeS] using hb, by simp [mergeS]⟩
  | x :: a, [], ha, _, _, _ => ⟨by simpa [mergeS] using ha, by simp [mergeS]⟩
  | x :: a, y :: b, ha, hb, va, vb => by
    have pa := List.pairwise_cons.1 ha
    have pb := List.pairwise_cons.1 hb
    have tr : ∀ p q r, cmpS p q < 0 → cmpS q r < 0 → cmpS p r < 0 := fun p q r => by simp only [cmpS_neg]; omega
    rw [mergeS]
    split
    · rename_i h0
      have hxy : x = y := cmpS_eq (va x (by simp)) (vb y (by simp)) h0
      subst hxy
      obtain ⟨i1, i2⟩ := mergeS_spec a b pa.2 pb.2 (fun z hz => va z (by simp [hz])) (fun z hz => vb z (by simp [hz]))
      refine ⟨List.pairwise_cons.2 ⟨fun z hz => ?_, i1⟩, fun z => ?_⟩
      · rcases (i2 z).1 hz with h | h
        · exact pa.1 z h
        · exact pb.1 z h
      · simp only [List.mem_cons, i2]
        constructor
        · rintro (h | h | h) <;> simp [h]
        · rintro ((h | h) | (h | h)) <;> simp [h]
    · rename_i h0
      split
      · rename_i h1
        have hlt : cmpS x y < 0 := by omega
        obtain ⟨i1, i2⟩ := mergeS_spec a (y :: b) pa.2 hb (fun z hz => va z (by simp [hz])) vb
        refine ⟨List.pairwise_cons.2 ⟨fun z hz => ?_, i1⟩, fun z => ?_⟩
        · rcases (i2 z).1 hz with h | h
          · exact pa.1 z h
          · rcases List.mem_cons.1 h with e | h
            · subst e; exact hlt
            · exact tr _ _ _ hlt (pb.1 z h)
        · simp only [List.mem_cons, i2]
          constructor
          · rintro (h | h | h | h) <;> simp [h]
          · rintro ((h | h) | (h | h)) <;> simp [h]
      · rename_i h1
        have hlt : cmpS y x < 0 := by
          rcases cmpS_total x y with e | e | e
          · exact absurd e h0
          · omega
          · exact e
        obtain ⟨i1, i2⟩ := mergeS_spec (x :: a) b ha pb.2 va (fun z hz => vb z (by simp [hz]))
        refine ⟨List.pairwise_cons.2 ⟨fun z hz => ?_, i1⟩, fun z => ?_⟩
        · rcases (i2 z).1 hz with h | h
          · rcases List.mem_cons.1 h with e | h
            · subst e; exact hlt
            · exact tr _ _ _ hlt (pa.1 z h)
          · exact pb.1 z h
        · simp only [List.mem_cons, i2]
          constructor
          · rintro (h | (h | h) | h) <;> simp [h]
          · rintro ((h | h) | (h | h)) <;> simp [h]
  termination_by a b => a.length + b.length
theorem sortF_spec : ∀ (n : Nat) (l : List Int), l.length ≤ n → (∀ x ∈ l, validS x = true) → Asc (sortF n l) ∧ ∀ x, x ∈ sortF n l ↔ x ∈ l
  | 0, l, hl, _ => by
    have : l = [] := List.length_eq_zero_iff.1 (by omega)
    subst this; simp [sortF, Asc]
  | n + 1, l, hl, hv => by
    simp only [sortF]
    split
    · rename_i h2
      match l, h2 with
      | [], _ => simp [Asc]
      | [x], _ => simp [Asc]
    · obtain ⟨a1, a2⟩ := sortF_spec n (l.take (l.length / 2)) (by simp; omega) fun x hx => hv x (List.mem_of_mem_take hx)
      obtain ⟨b1, b2⟩ := sortF_spec n (l.drop (l.length / 2)) (by simp; omega) fun x hx => hv x (List.mem_of_mem_drop hx)
      obtain ⟨m1, m2⟩ := mergeS_spec _ _ a1 b1 (fun x hx => hv x (List.mem_of_mem_take ((a2 x).1 hx))) (fun x hx => hv x (List.mem_of_mem_drop ((b2 x).1 hx)))
      refine ⟨m1, fun x => ?_⟩
      rw [m2, a2, b2, ← List.mem_append, List.take_append_drop]
theorem sortS_spec {l : List Int} (hv : ∀ x ∈ l, validS x = true) : Asc (sortS l) ∧ ∀ x, x ∈ sortS l ↔ x ∈ l := sortF_spec l.length l (Nat.le_refl _) hv
/-- both ways come to the same -/
theorem sortedL_eq {l : List Int} (hv : ∀ x ∈ l, validS x = true) : sortedL l = sortS l :=
  Asc.unique (sortedL_spec hv).1 (sortS_spec hv).1 fun x => ((sortedL_spec hv).2 x).trans ((sortS_spec hv).2 x).symm

/-! minimal sets -/
/-- the code's minimal sets, behind those found -/
def minL (out : List Int) : List Int → List Int
  | [] => out
  | s :: r => minL (if out.any (fun t => subS t s) then out else out ++ [s]) r
def minS (l : List Int) : List Int := minL [] (sortedL l)
theorem minL_length : ∀ (r out : List Int), (minL out r).length ≤ out.length + r.length
  | [], out => by simp [minL]
  | s :: r, out => by
    rw [minL]
    split
    · have := minL_length r out
      simp only [List.length_cons]; omega
    · have := minL_length r (out ++ [s])
      simp only [List.length_append, List.length_cons, List.length_nil] at this ⊢
      omega
theorem minS_length (l : List Int) : (minS l).length ≤ l.length := by
  have h1 := minL_length (sortedL l) []
  have h2 := sortedL_length l
  simp only [minS, List.length_nil, Nat.zero_add] at *
  omega
theorem part_partB {a b : Int} (ha : validS a = true) : partB a b = true ↔ a ≠ b ∧ Part a b := by
  simp [partB, iand_part ha]
theorem minL_least : ∀ (r out : List Int), Asc (out ++ r) → (∀ x ∈ out ++ r, validS x = true) → minL out r = leastL out r
  | [], out, _, _ => rfl
  | s :: r, out, ha, hv => by
    have key : out.any (fun t => subS t s) = !(out.all fun x => !partB x s) := by
      rw [Bool.eq_iff_iff]
      simp only [List.any_eq_true, Bool.not_eq_true', List.all_eq_false]
      constructor
      · rintro ⟨t, ht, h⟩
        refine ⟨t, ht, ?_⟩
        have hvt := hv t (by simp [ht])
        rw [Bool.not_eq_false, part_partB hvt]
        refine ⟨?_, (subS_iff hvt).1 h⟩
        rintro rfl
        unfold Asc at ha
        rw [List.pairwise_append] at ha
        have := ha.2.2 t ht t (by simp)
        simp [cmpS_neg] at this
      · rintro ⟨t, ht, h⟩
        have hvt := hv t (by simp [ht])
        rw [Bool.not_eq_false, part_partB hvt] at h
        exact ⟨t, ht, (subS_iff hvt).2 h.2⟩
    rw [minL, leastL, key]
    cases hc : out.all fun x => !partB x s with
    | true =>
      simp only [Bool.not_true, Bool.false_eq_true, if_false, if_true]
      exact minL_least r (out ++ [s]) (by simpa using ha) (by simpa using hv)
    | false =>
      simp only [Bool.not_false, if_true, Bool.false_eq_true, if_false]
      refine minL_least r out ?_ fun x hx => hv x ?_
      · exact ha.sublist (by simp)
      · rcases List.mem_append.1 hx with h | h
        · simp [h]
        · simp [h]
theorem minS_eq {l : List Int} (hv : ∀ x ∈ l, validS x = true) : minS l = leastS l := by
  unfold minS leastS
  rw [sortedL_eq hv]
  have h := sortS_spec hv
  exact minL_least _ [] (by simpa using h.1) (by simpa using fun x hx => hv x ((h.2 x).1 hx))
end Go.Pu
