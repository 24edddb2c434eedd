/-
  FAMILIES OF SETS: what the specification's functions and the code's compute. No program is named here.
-/
import Derived.Test.YtdhlhgomaaiggaaPuD
set_option linter.unusedVariables false
namespace Go.Pu
open Go.Sy

def partB (a b : Int) : Bool := decide (a ≠ b) && decide (iand .i64 a b = a)
/-- the specification's minimal sets, behind those found -/
def leastL (out : List Int) : List Int → List Int
  | [] => out
  | s :: r => leastL (if out.all (fun x => !partB x s) then out ++ [s] else out) r
def leastS (l : List Int) : List Int := leastL [] (sortS l)
theorem leastL_length : ∀ (r out : List Int), (leastL out r).length ≤ out.length + r.length
  | [], out => by simp [leastL]
  | s :: r, out => by
    rw [leastL]
    split
    · have := leastL_length r (out ++ [s])
      simp only [List.length_append, List.length_cons, List.length_nil] at this ⊢
      omega
    · have := leastL_length r out
      simp only [List.length_cons]
      omega
theorem leastS_length (l : List Int) : (leastS l).length ≤ l.length := by
  have := leastL_length (sortS l) []
  have := sortS_length l
  simp only [leastS, List.length_nil, Nat.zero_add] at *
  omega
/-- the specification's first error of two lists -/
def bothE (a b : List Int) : Int := if listE a = 0 then listE b else listE a
theorem listsE_two (a b : List Int) : listsE [a, b] = bothE a b := by
  simp only [listsE, bothE]
  split
  · split
    · simp_all
    · rfl
  · rfl
theorem listsE_one (a : List Int) : listsE [a] = listE a := by
  simp only [listsE]; split <;> simp_all
theorem listE_len {l : List Int} (h : listE l = 0) : l.length ≤ 1024 := by
  unfold listE at h
  split at h
  · cases h
  · omega
theorem listE_valid {l : List Int} (h : listE l = 0) : ∀ x ∈ l, validS x = true := by
  unfold listE at h
  split at h
  · cases h
  · split at h
    · rename_i h2; exact List.all_eq_true.1 h2
    · cases h
/-- what is left of a list with some events failed and some working -/
def restrL (l : List Int) (f w : Int) : List Int := (l.filter fun x => decide (iand .i64 x w = 0)).map fun x => iandNot .i64 x f
def restrE (l : List Int) (f w : Int) : Int := if listE l = 0 then if validS f && validS w then if iand .i64 f w = 0 then 0 else 2 else 3 else listE l
def unionsL (a b : List Int) : List Int := a.flatMap fun x => b.map fun y => ior .i64 x y
def limE (l : List Int) : Int := if 1024 < l.length then 4 else 0
def limL (l : List Int) : List Int := if 1024 < l.length then [] else l
def orL (s : Int) : List Int → Int
  | [] => s
  | x :: l => orL (ior .i64 s x) l
end Go.Pu
