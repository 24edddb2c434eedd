/-
  The laws FamilyJoins, FamilyCovers, FamilyRestricts and FamilyLattice return true; no condition.
-/
import Derived.Test.YtinddojpbieejaaFnM
set_option linter.unusedVariables false
set_option linter.unusedSimpArgs false
namespace Go.Proofs.Ytinddojpbieejaa
open Go.Sy Go.Pu

def okB (l : List Int) : Bool := decide (l.length ≤ 30) && decide (listE l = 0)
theorem okB_iff {l : List Int} : okB l = true ↔ l.length ≤ 30 ∧ listE l = 0 := by simp [okB]
def T18 : Fns := (20, fVI (fun v c => sB (decide (numV v ≠ 0) && decide (numV v = c))) fun v c => isErr 38 v) ::
  T17
theorem T18_ok : FnsOk Try.prog T18 := .cons (T17_ok) Try.func20 rfl rfl (fVI_ok fun v c h => is_does v c h)


theorem lim_small {l : List Int} (h : l.length ≤ 1024) : limL l = l ∧ limE l = 0 := by
  have : ¬ 1024 < l.length := by omega
  simp [limL, limE, this]
theorem prod_small {a b : List Int} (h : a.length * b.length ≤ 1024) : limL (minS (unionsC a b)) = minS (unionsC a b) ∧ limE (minS (unionsC a b)) = 0 :=
  lim_small (Nat.le_trans (minS_length _) (Nat.le_trans (unionsC_length a b) h))
theorem plus_small {a b : List Int} (h : a.length + b.length ≤ 1024) : limL (minS (a ++ b)) = minS (a ++ b) ∧ limE (minS (a ++ b)) = 0 :=
  lim_small (Nat.le_trans (minS_length _) (by simpa using h))

end Go.Proofs.Ytinddojpbieejaa
