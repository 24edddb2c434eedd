/-
  PRODUCTS; THE DOCUMENT'S EXAMPLES OF FAMILIES. No program is named here.
-/
import Derived.Test.YtdhlhgomaaiggaaPuF
set_option linter.unusedVariables false
set_option linter.unusedSimpArgs false
namespace Go.Pu
open Go.Sy Go.Sort Go.Lib Go.Proofs

/-- each new one behind those that are there -/
def addAll (out : List Int) : List Int → List Int
  | [] => out
  | u :: us => addAll (if u ∈ out then out else out ++ [u]) us
theorem addAll_append : ∀ (us vs out : List Int), addAll out (us ++ vs) = addAll (addAll out us) vs
  | [], vs, out => rfl
  | u :: us, vs, out => by simp only [List.cons_append, addAll]; rw [addAll_append us vs]
theorem addAll_mem : ∀ (us out : List Int) (x : Int), x ∈ addAll out us ↔ x ∈ out ∨ x ∈ us
  | [], out, x => by simp [addAll]
  | u :: us, out, x => by
    rw [addAll, addAll_mem us]
    by_cases h : u ∈ out
    · rw [if_pos h, List.mem_cons]
      constructor
      · rintro (a | a) <;> simp [a]
      · rintro (a | rfl | a) <;> simp [*]
    · rw [if_neg h]; simp [or_assoc]
theorem addAll_length : ∀ (us out : List Int), (addAll out us).length ≤ out.length + us.length
  | [], out => by simp [addAll]
  | u :: us, out => by
    rw [addAll]
    by_cases h : u ∈ out
    · rw [if_pos h]
      have := addAll_length us out
      simp only [List.length_cons]; omega
    · rw [if_neg h]
      have := addAll_length us (out ++ [u])
      simp only [List.length_append, List.length_cons, List.length_nil] at this ⊢
      omega
theorem unionsL_length (a b : List Int) : (unionsL a b).length = a.length * b.length := by
  unfold unionsL
  induction a with
  | nil => simp
  | cons x a ih => simp [List.flatMap_cons, ih, Nat.add_mul, Nat.add_comm]
theorem unionsL_valid {a b : List Int} (ha : ∀ x ∈ a, validS x = true) (hb : ∀ x ∈ b, validS x = true) : ∀ x ∈ unionsL a b, validS x = true := by
  intro x hx
  unfold unionsL at hx
  simp only [List.mem_flatMap, List.mem_map] at hx
  obtain ⟨y, hy, z, hz, rfl⟩ := hx
  exact valid_ior (ha y hy) (hb z hz)
theorem minL_sub : ∀ (r out : List Int) (x : Int), x ∈ minL out r → x ∈ out ∨ x ∈ r
  | [], out, x, h => .inl h
  | s :: r, out, x, h => by
    rw [minL] at h
    rcases minL_sub r _ x h with h | h
    · split at h
      · exact .inl h
      · rcases List.mem_append.1 h with h | h
        · exact .inl h
        · simp at h; subst h; exact .inr (.head _)
    · exact .inr (.tail _ h)
theorem minS_sub {l : List Int} (hv : ∀ x ∈ l, validS x = true) {x : Int} (h : x ∈ minS l) : x ∈ l := by
  rcases minL_sub _ _ x h with h | h
  · simp at h
  · exact ((sortedL_spec hv).2 x).1 h
theorem minS_valid {l : List Int} (hv : ∀ x ∈ l, validS x = true) : ∀ x ∈ minS l, validS x = true := fun x hx => hv x (minS_sub hv hx)
/-- the unions as the code collects them -/
def unionsC (a b : List Int) : List Int := addAll [] (unionsL (minS a) (minS b))
theorem unionsC_valid {a b : List Int} (ha : ∀ x ∈ a, validS x = true) (hb : ∀ x ∈ b, validS x = true) : ∀ x ∈ unionsC a b, validS x = true := fun x hx =>
  unionsL_valid (minS_valid ha) (minS_valid hb) x (by simpa [unionsC, addAll_mem] using hx)

theorem mergeS_nil (b : List Int) : mergeS [] b = b := by simp [mergeS]
theorem mergeS_nil' (a : List Int) : mergeS a [] = a := by cases a <;> simp [mergeS]
theorem mergeS_cons (x y : Int) (a b : List Int) : mergeS (x :: a) (y :: b) = if cmpS x y = 0 then x :: mergeS a b else if cmpS x y ≤ 0 then x :: mergeS a (y :: b) else y :: mergeS (x :: a) b := by rw [mergeS]

theorem ex1 : minS [3, 1, 6] = [1, 6] := by
  rw [minS_eq (by decide)]
  have h1 : cmpS 3 1 = 1 := by decide +kernel
  have h2 : cmpS 1 6 = -1 := by decide +kernel
  have h3 : cmpS 3 6 = -1 := by decide +kernel
  have e : sortS [3, 1, 6] = [1, 3, 6] := by
    simp only [sortS, sortF, List.length_cons, List.length_nil]
    simp [sortF, mergeS_cons, mergeS_nil, mergeS_nil', h1, h2, h3]
  unfold leastS
  rw [e]
  decide +kernel
theorem ex2 : minS [1, 2] = [1, 2] := by
  rw [minS_eq (by decide)]
  have h1 : cmpS 1 2 = -1 := by decide +kernel
  have e : sortS [1, 2] = [1, 2] := by
    simp only [sortS, sortF, List.length_cons, List.length_nil]
    simp [sortF, mergeS_cons, mergeS_nil, mergeS_nil', h1]
  unfold leastS
  rw [e]
  decide +kernel
theorem ex3 : minS [1, 4] = [1, 4] := by
  rw [minS_eq (by decide)]
  have h1 : cmpS 1 4 = -1 := by decide +kernel
  have e : sortS [1, 4] = [1, 4] := by
    simp only [sortS, sortF, List.length_cons, List.length_nil]
    simp [sortF, mergeS_cons, mergeS_nil, mergeS_nil', h1]
  unfold leastS
  rw [e]
  decide +kernel
theorem ex4 : unionsC [1, 2] [1, 4] = [1, 5, 3, 6] := by
  unfold unionsC
  rw [ex2, ex3]
  decide +kernel
theorem ex5 : minS [1, 5, 3, 6] = [1, 6] := by
  rw [minS_eq (by decide)]
  have h1 : cmpS 1 5 = -1 := by decide +kernel
  have h2 : cmpS 3 6 = -1 := by decide +kernel
  have h3 : cmpS 1 3 = -1 := by decide +kernel
  have h4 : cmpS 5 3 = 1 := by decide +kernel
  have h5 : cmpS 5 6 = -1 := by decide +kernel
  have e : sortS [1, 5, 3, 6] = [1, 3, 5, 6] := by
    simp only [sortS, sortF, List.length_cons, List.length_nil]
    simp [sortF, mergeS_cons, mergeS_nil, mergeS_nil', h1, h2, h3, h4, h5]
  unfold leastS
  rw [e]
  decide +kernel
theorem ex6 : restrL [3, 4] 1 0 = [2, 4] ∧ restrE [3, 4] 1 0 = 0 := by decide +kernel
theorem ex7 : minS [2, 4] = [2, 4] := by
  rw [minS_eq (by decide)]
  have h1 : cmpS 2 4 = -1 := by decide +kernel
  have e : sortS [2, 4] = [2, 4] := by
    simp only [sortS, sortF, List.length_cons, List.length_nil]
    simp [sortF, mergeS_cons, mergeS_nil, mergeS_nil', h1]
  unfold leastS
  rw [e]
  decide +kernel
end Go.Pu
