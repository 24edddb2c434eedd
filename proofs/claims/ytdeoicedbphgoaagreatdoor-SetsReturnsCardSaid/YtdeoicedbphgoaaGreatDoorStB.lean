/-
  sets.Of, sets.List and the reference's.
-/
import Derived.Test.YtdeoicedbphgoaaGreatDoorFnP
import Derived.Test.YtdeoicedbphgoaaGreatDoorPuS
set_option linter.unusedSectionVars false
set_option linter.unusedVariables false
set_option linter.unusedSimpArgs false
namespace Go.Proofs.YtdeoicedbphgoaaGreatDoor
open Go.Sy Go.Pu
variable [Drw]

theorem of_does (l : List Int) : DoesF Tryz.prog 55 [.c (ints l)] [] (.tup [iV (ofP l).1, eV (ofP l).2]) [] := by
  refine DoesF.body _ Tryz.func55 rfl rfl rfl rfl ?_
  refine KW.goIf lay_ok T24_ok 100 rfl (by simp) rfl trivial (fun h => ?_) fun h => ?_
  · have h1 : 24 < l.length := by simp at h; omega
    refine KW.goRet lay_ok T24_ok 100 rfl rfl ?_ (by simp) trivial
    rw [ofP, if_pos h1]; rfl
  have h1 : ¬ 24 < l.length := by simp at h; omega
  rw [ofP, if_neg h1]
  refine KW.goLpR lay_ok T24_ok 100 rfl (I := fun q : Nat × Int => ⟨Tryz.f55.ntmps, [(4, sI q.2), (11, .e (lV l)), (12, sI l.length), (13, sI q.1)], []⟩)
    (R := fun q => q.1 ≤ l.length ∧ validS q.2 = true ∧ ofL q.2 (l.drop q.1) = ofL 0 l) (m := fun q => l.length - q.1) (0, 0) [] rfl rfl ⟨rfl, rfl, rfl, rfl, trivial⟩ (by simp) ⟨Nat.zero_le _, by decide, rfl⟩ trivial ?_
  rintro ⟨q, s⟩ ⟨g1, g2, g3⟩
  simp only at g1 g2 g3
  refine KW.goIf lay_ok T24_ok 100 rfl (by simp) rfl trivial (fun h => ?_) fun h => ?_
  · have hq : q < l.length := by simpa using h
    have hg : l.getD (Int.toNat (q : Int)) 0 = l[q] := by simp [List.getD_eq_getElem?_getD, hq]
    rw [List.drop_eq_getElem_cons hq, ofL] at g3
    generalize l[q] = i at hg g3
    refine KW.goIf lay_ok T24_ok 100 rfl (by simp [hq]) rfl trivial (fun h => ?_) fun h => ?_
    · simp only [hg] at h
      have h2 : (decide (i < 0) || decide (i ≥ 24)) = true := h
      rw [if_pos h2] at g3
      refine KW.goOutR lay_ok T24_ok 100 rfl (by simp) ?_
      refine KW.goRet lay_ok T24_ok 100 rfl rfl ?_ (by simp) trivial
      rw [← g3]; rfl
    simp only [hg] at h
    have h2 : (decide (i < 0) || decide (i ≥ 24)) = false := h
    rw [if_neg (by rw [h2]; decide)] at g3
    have hi : 0 ≤ i ∧ i < 24 := by simp at h2; omega
    refine KW.goIf lay_ok T24_ok 100 rfl (by simp) rfl trivial (fun h => ?_) fun h => ?_
    · simp only [hg] at h
      rw [if_pos h] at g3
      refine KW.goOutR lay_ok T24_ok 100 rfl (by simp) ?_
      refine KW.goRet lay_ok T24_ok 100 rfl rfl ?_ (by simp) trivial
      rw [← g3]; rfl
    simp only [hg] at h
    rw [if_neg (by rw [h]; decide)] at g3
    obtain ⟨n, rfl⟩ := Int.eq_ofNat_of_zero_le hi.1
    have hn : n < 24 := by omega
    have hone : ishl 1 (n : Int) = Go.Pu.one n := rfl
    have hv := valid_ior g2 (one_valid hn)
    have hov := validS_iff.1 (one_valid hn)
    refine KW.goToR lay_ok T24_ok 100 rfl (q + 1, ior .i64 s (ishl 1 (n : Int))) [] rfl rfl ⟨?_, rfl, rfl, rfl, trivial⟩ (by simp only [hg, hone]; simp [inK, bitsI]; omega) ⟨⟨by simp only; omega, hv, g3⟩, by simp only; omega⟩ trivial
    simp only [hg]; rfl
  · have hq : q = l.length := by simp at h; omega
    rw [hq, List.drop_length, ofL] at g3
    refine KW.goOut lay_ok T24_ok 100 rfl (by simp) ?_
    refine KW.goRet lay_ok T24_ok 100 rfl rfl ?_ (by simp) trivial
    rw [← g3]; rfl
theorem list_does (s : Int) : DoesF Tryz.prog 54 [iV s] [] (.tup [lV (listP s).1, eV (listP s).2]) [] := by
  refine DoesF.body _ Tryz.func54 rfl rfl rfl rfl ?_
  refine KW.goIf lay_ok T24_ok 100 rfl (by simp) rfl trivial (fun h => ?_) fun h => ?_
  · have h1 : ¬ validS s = true := by simpa using h
    rw [listP, if_neg h1]
    refine KW.go lay_ok T24_ok 100 rfl (by simp) ?_
    refine KW.conv 2 (ints []) rfl ⟨rfl, rfl⟩ ?_
    exact KW.fin [] rfl rfl rfl trivial
  have h1 : validS s = true := by simpa using h
  rw [listP, if_pos h1]
  refine KW.go lay_ok T24_ok 100 rfl (by simp) ?_
  refine KW.nilO 4 4 3 (ints []) rfl rfl rfl ?_
  refine KW.lp (I := fun q : Nat => ⟨Tryz.f54.ntmps, [(0, sI s), (4, .e (.r 4)), (10, sI q)], [(4, .own 3 (ints (elemsN s q)))]⟩)
    (R := fun q => q ≤ 24) (m := fun q => 24 - q) 0 (by simp) [(4, 4)] ⟨rfl, rfl, ⟨rfl, rfl, rfl, trivial⟩, ⟨rfl, trivial⟩⟩ ?_
  rintro q hq0
  have hlen := elemsN_length s q
  refine KW.goIf lay_ok T24_ok 100 rfl (by simp) rfl trivial (fun h => ?_) fun h => ?_
  · have hq : q < 24 := by simp at h; omega
    refine KW.goIf lay_ok T24_ok 100 rfl (by simp) rfl trivial (fun h1 => ?_) fun h1 => ?_
    · have hb : bit s q = true := by rw [← hasB_nat s hq]; exact h1
      refine KW.goToR lay_ok T24_ok 100 rfl (q + 1) [(4, 19)] rfl rfl ⟨rfl, rfl, rfl, trivial⟩ (by simp [inK] <;> omega) ⟨by omega, by omega⟩ ⟨own_cat _ ?_, trivial⟩
      rw [elemsN_succ, hb]; rfl
    · have hb : bit s q = false := by rw [← hasB_nat s hq]; exact h1
      refine KW.goToR lay_ok T24_ok 100 rfl (q + 1) [(4, 4)] rfl rfl ⟨rfl, rfl, rfl, trivial⟩ (by simp [inK] <;> omega) ⟨by omega, by omega⟩ ⟨own_cat1 _ ?_, trivial⟩
      rw [elemsN_succ, hb]; simp
  · have hq : q = 24 := by simp at h; omega
    subst hq
    refine KW.goOut lay_ok T24_ok 100 rfl (by simp) ?_
    refine KW.go lay_ok T24_ok 100 rfl (by simp) ?_
    refine KW.frz 4 [2] rfl rfl rfl ?_
    exact KW.fin [] rfl rfl rfl trivial
def S0 : Fns := (55, fL (fun l => .tup [iV (ofP l).1, eV (ofP l).2]) fun _ => True) ::
  (54, fI (fun s => .tup [lV (listP s).1, eV (listP s).2]) fun _ => True) ::
  T24
theorem S0_ok : FnsOk Tryz.prog S0 := .cons (.cons (T24_ok) Tryz.func54 rfl rfl (fI_ok fun s _ => list_does s)) Tryz.func55 rfl rfl (fL_ok fun l _ => of_does l)


end Go.Proofs.YtdeoicedbphgoaaGreatDoor
