/-
  family.sorted and family.minimal compute their Lean functions; valid sets, lists of at most 2 to the power 40 elements.
-/
import Derived.Test.YtinddojpbieejaaFnH
import Derived.Test.YtinddojpbieejaaPuA
set_option linter.unusedVariables false
set_option linter.unusedSimpArgs false
namespace Go.Proofs.Ytinddojpbieejaa
open Go.Sy Go.Pu

theorem sorted_does (l : List Int) (hv : ∀ x ∈ l, validS x = true) (hb : l.length ≤ 1099511627776) : DoesF Try.prog 53 [.c (ints l)] [] (.e (.c (ints (sortedL l)))) [] := by
  refine DoesF.body _ Try.func53 rfl rfl rfl rfl ?_
  refine KW.go lay_ok T11_ok 100 rfl (by simp) ?_
  refine KW.callO0 (clone_does l hb) (enters Try.func56 rfl rfl) [] (.inl rfl) rfl rfl rfl rfl rfl trivial ⟨⟨_, _, rfl, trivial, .conv (CVEq.refl _)⟩, trivial⟩ rfl (.inl rfl) ?_
  refine KW.go lay_ok T11_ok 100 rfl (by simp) ?_
  refine KW.callK0 (sortFunc_does (ks := fun _ => 0) (caps := fun _ _ => .lit undef) laySort laySort0 rfl rfl cmpS_swo (V := fun x => validS x = true) (fun x y => cmpS_eq) cmpS_total (enters Try.func75 rfl rfl) compare_does 3 l hv (by omega))
    (enters Try.func74 rfl rfl) [(0, 5)] [(0, 5)] [] (.inl rfl) rfl rfl rfl rfl rfl trivial
    ⟨⟨_, _, rfl, trivial, (show Mt _ _ _ (EV.ren [(0, 5)] (.r 0)) (.r 0) from .same)⟩, ⟨_, _, rfl, trivial, .conv (CVEq.refl _)⟩, trivial⟩ rfl ⟨rfl, trivial⟩ rfl ⟨.inr ⟨rfl, .inl rfl⟩, trivial⟩ rfl rfl (.inl rfl) ?_
  refine KW.go lay_ok T11_ok 100 rfl (by simp) ?_
  refine KW.call0 (compact_does layCompact rfl 3 (sortL cmpS l)) (enters Try.func76 rfl rfl) [(0, 5)] [(0, 9)] [] (.inl rfl) rfl rfl rfl rfl rfl trivial
    ⟨⟨_, _, rfl, trivial, (show Mt _ _ _ (EV.ren [(0, 5)] (.r 0)) (.r 0) from .same)⟩, trivial⟩ rfl ⟨rfl, trivial⟩ rfl ⟨.inl rfl, trivial⟩ rfl rfl (.inl rfl) ?_
  exact KW.goRetO lay_ok T11_ok 100 rfl 9 2 rfl rfl rfl rfl (by simp)

theorem minimalC_does (t s : Int) : DoesF Try.prog 68 [iV t, .pe 1 1 (fun _ q => .lit (.int .i64 s)) 0 0] [] (sB (subS t s)) [] := by
  refine DoesF.body _ Try.func68 rfl rfl rfl rfl ?_
  exact KW.goRet lay_ok T11_ok 100 rfl rfl rfl (by simp) trivial

theorem minimal_does (l : List Int) (hv : ∀ x ∈ l, validS x = true) (hb : l.length ≤ 1099511627776) : DoesF Try.prog 43 [.c (ints l)] [] (.e (.c (ints (minS l)))) [] := by
  have T_ok : FnsOk Try.prog ((53, fL (fun l => .e (.c (ints (sortedL l)))) fun l => (∀ x ∈ l, validS x = true) ∧ l.length ≤ 1099511627776) :: T11) := .cons T11_ok Try.func53 rfl rfl (fL_ok fun l h => sorted_does l h.1 h.2)
  refine DoesF.body _ Try.func43 rfl rfl rfl rfl ?_
  have hSl := sortedL_length l
  have hm := minL_length (sortedL l) []
  refine KW.go lay_ok T_ok 100 rfl (by simpa using ⟨hv, hb⟩) ?_
  simp only [unI_ints]
  generalize hS : sortedL l = S at hSl hm
  refine KW.nilO 3 3 3 (ints []) rfl rfl rfl ?_
  refine KW.lp (I := fun q : List Int × Nat => ⟨Try.f43.ntmps, [(3, .e (.r 3)), (7, .e (.c (ints S))), (8, sI S.length), (9, sI q.2)], [(3, .own 3 (ints q.1))]⟩)
    (R := fun q => q.2 ≤ S.length ∧ minL q.1 (S.drop q.2) = minS l ∧ q.1.length ≤ q.2) (m := fun q => S.length - q.2) ([], 0) ⟨by simp, by simp [minS, hS], by simp⟩ [(3, 3)] ⟨rfl, rfl, ⟨rfl, rfl, rfl, rfl, trivial⟩, ⟨rfl, trivial⟩⟩ ?_
  rintro ⟨out, q⟩ ⟨h1, h2, h3⟩
  simp only at h1 h2 h3
  refine KW.goIf lay_ok T_ok 100 rfl (by simp) rfl trivial (fun h => ?_) fun h => ?_
  · have hq : q < S.length := by simpa using h
    have hg : S.getD (Int.toNat (q : Int)) 0 = S[q] := by simp [List.getD_eq_getElem?_getD, hq]
    have hd : S.drop q = S[q] :: S.drop (q + 1) := List.drop_eq_getElem_cons hq
    rw [hd, minL] at h2
    refine KW.go lay_ok T_ok 100 rfl (by simp; omega) ?_
    refine KW.callV0 (containsFunc_does (m := 1) (ks := fun _ => 1) (caps := fun _ _ => .lit (.int .i64 S[q])) (p := fun t => subS t S[q]) out ⟨enters Try.func68 rfl rfl, fun x _ => minimalC_does x S[q]⟩) (enters Try.func48 rfl rfl) [3, 5] (.inl rfl) rfl rfl rfl rfl rfl trivial
      ⟨⟨_, _, rfl, trivial, .lend rfl rfl (CVEq.refl _) rfl rfl⟩, ⟨_, _, rfl, trivial, .lfn rfl ?_⟩, trivial⟩ rfl (.inr trivial) ?_
    · intro j hj
      obtain rfl : j = 0 := by omega
      refine ⟨5, _, _, _, rfl, rfl, rfl, rfl, fun q' hq' => ?_⟩
      obtain rfl : q' = 0 := by omega
      show some (EV.c (.lit (.int .i64 (S.getD (Int.toNat (q : Int)) 0)))) = _
      rw [hg]
    · refine KW.goIf lay_ok T_ok 100 rfl (by simp) rfl trivial (fun h => ?_) fun h => ?_
      · have hc : (out.any fun t => subS t S[q]) = false := by simpa using h
        rw [hc] at h2
        refine KW.goToR lay_ok T_ok 100 rfl (out ++ [S[q]], q + 1) [(3, 20)] rfl rfl ⟨rfl, rfl, rfl, rfl, trivial⟩ (by simp [inK] <;> omega) ⟨⟨by simp only; omega, by simpa using h2, by simp; omega⟩, by simp only; omega⟩ ⟨own_cat _ ?_, trivial⟩
        rw [hg]
      · have hc : (out.any fun t => subS t S[q]) = true := by simpa using h
        rw [hc] at h2
        refine KW.goToR lay_ok T_ok 100 rfl (out, q + 1) [(3, 3)] rfl rfl ⟨rfl, rfl, rfl, rfl, trivial⟩ (by simp [inK] <;> omega) ⟨⟨by simp only; omega, by simpa using h2, by simp only; omega⟩, by simp only; omega⟩ ⟨rfl, trivial⟩
  · have hq : q = S.length := by simp at h; omega
    refine KW.goOut lay_ok T_ok 100 rfl (by simp) ?_
    refine KW.goRetO lay_ok T_ok 100 rfl 3 2 rfl rfl rfl ?_ (by simp <;> omega)
    rw [hq, List.drop_length, minL] at h2
    rw [h2]
end Go.Proofs.Ytinddojpbieejaa
