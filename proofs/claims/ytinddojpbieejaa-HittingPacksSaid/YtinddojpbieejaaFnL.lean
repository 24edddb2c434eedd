/-
  The law FamilyMeets returns true; no condition.
-/
import Derived.Test.YtinddojpbieejaaFnK
set_option linter.unusedVariables false
set_option linter.unusedSimpArgs false
namespace Go.Proofs.Ytinddojpbieejaa
open Go.Sy Go.Pu

def T15 : Fns := T14
theorem T15_ok : FnsOk Try.prog T15 := T14_ok


theorem covers_eq (l : List Int) (s : Int) : (decide (listE l = 0) && validS s && l.any (fun t => subS t s)) = (decide (listE l = 0) && validS s && l.any (fun t => decide (iand .i64 t s = t))) := by
  by_cases h : listE l = 0
  · have hv := listE_valid h
    congr 1
    rw [Bool.eq_iff_iff, List.any_eq_true, List.any_eq_true]
    constructor
    · rintro ⟨t, ht, hs⟩
      exact ⟨t, ht, by rw [decide_eq_true_iff, iand_part (hv t ht)]; exact (subS_iff (hv t ht)).1 hs⟩
    · rintro ⟨t, ht, hs⟩
      rw [decide_eq_true_iff, iand_part (hv t ht)] at hs
      exact ⟨t, ht, (subS_iff (hv t ht)).2 hs⟩
  · simp [h]
theorem restr_eq (l : List Int) (f w : Int) : (if restrE l f w = 0 then minS (restrL l f w) else []) = if restrE l f w = 0 then leastS (restrL l f w) else [] := by
  split
  · rename_i h
    refine minS_eq fun x hx => ?_
    unfold restrL at hx
    rw [List.mem_map] at hx
    obtain ⟨y, hy, rfl⟩ := hx
    have h0 : listE l = 0 := by
      unfold restrE at h
      split at h
      · assumption
      · contradiction
    exact valid_iandNot (listE_valid h0 y (List.mem_filter.1 hy).1)
  · rfl

end Go.Proofs.Ytinddojpbieejaa
