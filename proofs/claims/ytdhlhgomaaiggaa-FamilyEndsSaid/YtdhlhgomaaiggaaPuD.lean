/-
  THE ORDER OF SETS, AND SORTING. No program is named here.
-/
import Derived.Test.YtdhlhgomaaiggaaPuC
set_option linter.unusedVariables false
namespace Go.Pu
open Go.Sy

def cntS (a : Int) : Int := popc (cutS a)
def cmpS (a b : Int) : Int := if cmpI (cntS a) (cntS b) = 0 then cmpI (cutS a) (cutS b) else cmpI (cntS a) (cntS b)
/-- two sorted lists merged, each element once -/
def mergeS : List Int → List Int → List Int
  | [], b => b
  | a, [] => a
  | x :: a, y :: b => if cmpS x y = 0 then x :: mergeS a b else if cmpS x y ≤ 0 then x :: mergeS a (y :: b) else y :: mergeS (x :: a) b
  termination_by a b => a.length + b.length
def sortF : Nat → List Int → List Int
  | 0, l => l
  | n + 1, l => if l.length < 2 then l else mergeS (sortF n (l.take (l.length / 2))) (sortF n (l.drop (l.length / 2)))
def sortS (l : List Int) : List Int := sortF l.length l
theorem mergeS_length : ∀ (a b : List Int), (mergeS a b).length ≤ a.length + b.length
  | [], b => by simp [mergeS]
  | x :: a, [] => by simp [mergeS]
  | x :: a, y :: b => by
    rw [mergeS]
    split
    · have := mergeS_length a b; simp; omega
    · split
      · have := mergeS_length a (y :: b); simp at this ⊢; omega
      · have := mergeS_length (x :: a) b; simp at this ⊢; omega
  termination_by a b => a.length + b.length
theorem sortF_length : ∀ (n : Nat) (l : List Int), (sortF n l).length ≤ l.length
  | 0, l => Nat.le_refl _
  | n + 1, l => by
    simp only [sortF]
    split
    · exact Nat.le_refl _
    · have h1 := mergeS_length (sortF n (l.take (l.length / 2))) (sortF n (l.drop (l.length / 2)))
      have h2 := sortF_length n (l.take (l.length / 2))
      have h3 := sortF_length n (l.drop (l.length / 2))
      simp only [List.length_take, List.length_drop] at h2 h3
      omega
theorem sortS_length (l : List Int) : (sortS l).length ≤ l.length := sortF_length _ l
theorem sortS_short {l : List Int} (h : l.length < 2) : sortS l = l := by
  unfold sortS
  cases hl : l.length with
  | zero => rfl
  | succ n => rw [sortF, if_pos h]
theorem sortF_more : ∀ (n m : Nat) (l : List Int), l.length ≤ n → l.length ≤ m → sortF n l = sortF m l
  | 0, 0, l, _, _ => rfl
  | 0, m + 1, l, h, _ => by
    have : l = [] := List.length_eq_zero_iff.1 (by omega)
    subst this; simp [sortF]
  | n + 1, 0, l, _, h => by
    have : l = [] := List.length_eq_zero_iff.1 (by omega)
    subst this; simp [sortF]
  | n + 1, m + 1, l, h1, h2 => by
    simp only [sortF]
    split
    · rfl
    · rw [sortF_more n m _ (by simp; omega) (by simp; omega), sortF_more n m (l.drop (l.length / 2)) (by simp; omega) (by simp; omega)]
theorem sortS_long {l : List Int} (h : 2 ≤ l.length) : sortS l = mergeS (sortS (l.take (l.length / 2))) (sortS (l.drop (l.length / 2))) := by
  unfold sortS
  rw [show l.length = (l.length - 1) + 1 by omega, sortF, if_neg (by omega), show (l.length - 1) + 1 = l.length by omega]
  rw [sortF_more (l.length - 1) (l.take (l.length / 2)).length _ (by simp; omega) (Nat.le_refl _), sortF_more (l.length - 1) (l.drop (l.length / 2)).length _ (by simp; omega) (Nat.le_refl _)]
end Go.Pu
