/-
  The specification of sorting computes its Lean function; lists of at most 2 to the power 40 elements.
-/
import Derived.Test.YtinddojpbieejaaFnE
set_option linter.unusedVariables false
set_option linter.unusedSimpArgs false
namespace Go.Proofs.Ytinddojpbieejaa
open Go.Sy Go.Pu

theorem rsort_does : ∀ (n : Nat) (l : List Int), l.length ≤ n → l.length ≤ 1099511627776 → DoesF Try.prog 65 [.c (ints l)] [] (.e (.c (ints (sortS l)))) [] := by
  intro n
  induction n with
  | zero =>
    intro l hn hb
    refine DoesF.body _ Try.func65 rfl rfl rfl rfl ?_
    refine KW.len 0 rfl rfl fun hla => ?_
    refine KW.goIf lay_ok T10_ok 100 rfl (by simp) rfl trivial (fun h => ?_) fun h => by simp at h; omega
    refine KW.goRetO lay_ok T10_ok 100 rfl 12 2 rfl rfl rfl ?_ (by simp <;> omega)
    rw [catV_ints, sortS_short (by omega)]; rfl
  | succ n ih =>
    intro l hn hb
    have T_ok : FnsOk Try.prog ((65, fL (fun l => .e (.c (ints (sortS l)))) fun l' => l'.length ≤ n ∧ l'.length ≤ 1099511627776) :: T10) := .cons T10_ok Try.func65 rfl rfl (fL_ok fun l h => ih l h.1 h.2)
    refine DoesF.body _ Try.func65 rfl rfl rfl rfl ?_
    refine KW.len 0 rfl rfl fun hla => ?_
    refine KW.goIf lay_ok T_ok 100 rfl (by simp) rfl trivial (fun h => ?_) fun h => ?_
    · refine KW.goRetO lay_ok T_ok 100 rfl 12 2 rfl rfl rfl ?_ (by simp <;> omega)
      rw [catV_ints, sortS_short (by simp at h; omega)]; rfl
    · have h2 : 2 ≤ l.length := by simp at h; omega
      have e2 : ((l.length : Int).tdiv 2) = ((l.length / 2 : Nat) : Int) := by rw [Int.tdiv_eq_ediv_of_nonneg (by omega)]; omega
      have A1 := isI_drop l (l.length / 2) 0 (by omega)
      have A2 := isI_drop l (l.length - l.length / 2) (l.length / 2) (by omega)
      have hs := sortS_long h2
      generalize ha : sortS (l.take (l.length / 2)) = a at hs
      generalize hbb : sortS (l.drop (l.length / 2)) = b at hs
      have hlen := sortS_length l
      have hla' := sortS_length (l.take (l.length / 2))
      have hlb' := sortS_length (l.drop (l.length / 2))
      rw [ha] at hla'
      rw [hbb] at hlb'
      simp only [List.length_take, List.length_drop] at hla' hlb'
      refine KW.goD lay_ok T_ok rfl 100 rfl rfl rfl (by simp) ?_ ?_
      · rw [e2]
        simp only [Int.toNat_natCast, Int.toNat_zero, Nat.sub_zero, Int.ofNat_toNat] 
        rw [A1.2, A2.2]
        simp only [Nat.add_zero] at A1 ⊢
        simp [-List.getD_eq_getElem?_getD, A1.1, A2.1, inK]
        omega
      · have e3 : unI (.sl (((l.length : Int).tdiv 2).toNat - Int.toNat 0) 1 fun e q => .lit (.int .i64 (l.getD (e + Int.toNat 0) 0))) = l.take (l.length / 2) := by
          rw [e2]; simp only [Int.toNat_natCast, Int.toNat_zero, Nat.sub_zero]; rw [A1.2]; rfl
        have e4 : unI (.sl ((l.length : Int).toNat - ((l.length : Int).tdiv 2).toNat) 1 fun e q => .lit (.int .i64 (l.getD (e + ((l.length : Int).tdiv 2).toNat) 0))) = l.drop (l.length / 2) := by
          rw [e2]; simp only [Int.toNat_natCast]; rw [A2.2, List.take_of_length_le (by simp)]
        refine KW.go lay_ok T_ok 100 rfl (by simp) ?_
        refine KW.nilO 5 5 3 (ints []) rfl rfl rfl ?_
        refine KW.lp (I := fun q : List Int × List Int × List Int => ⟨Try.f65.ntmps, [(3, .e (.c (ints q.1))), (4, .e (.c (ints q.2.1))), (5, .e (.r 5))], [(5, .own 3 (ints q.2.2))]⟩)
          (R := fun q => q.2.2 ++ mergeS q.1 q.2.1 = mergeS a b ∧ q.2.2.length + q.1.length + q.2.1.length ≤ l.length) (m := fun q => q.1.length + q.2.1.length) (a, b, []) ⟨by simp, by simp; omega⟩ [(5, 5)] ⟨rfl, rfl, ⟨?_, ?_, rfl, trivial⟩, ⟨rfl, trivial⟩⟩ ?_
        · rw [← ha, ← e3]; rfl
        · rw [← hbb, ← e4]; rfl
        · rintro ⟨xs, ys, out⟩ ⟨g1, g2⟩
          simp only at g1 g2
          have fin : (xs = [] ∨ ys = []) → out ++ xs ++ ys = mergeS a b := by
            rintro (rfl | rfl)
            · rw [← g1]; simp [mergeS]
            · rw [← g1]; cases xs <;> simp [mergeS]
          refine KW.goIf lay_ok T_ok 100 rfl (by simp) rfl trivial (fun h => ?_) fun h => ?_
          · simp at h
            obtain ⟨x, xs, rfl⟩ := List.exists_cons_of_length_pos (l := xs) (by omega)
            obtain ⟨y, ys, rfl⟩ := List.exists_cons_of_length_pos (l := ys) (by omega)
            simp only [List.length_cons] at g2
            refine KW.goD lay_ok T_ok rfl 100 rfl rfl rfl (by simp) (by simp) ?_
            refine KW.goIf lay_ok T_ok 100 rfl (by simp) rfl trivial (fun h => ?_) fun h => ?_
            · have h1 : cmpS x y ≤ 0 := of_decide_eq_true h
              refine KW.goIf lay_ok T_ok 100 rfl (by simp <;> omega) rfl trivial (fun h' => ?_) fun h' => ?_
              · have h3 : 0 ≤ cmpS x y := of_decide_eq_true h'
                refine KW.goToR lay_ok T_ok 100 rfl (xs, ys, out ++ [x]) [(5, 47)] rfl rfl ⟨rfl, rfl, rfl, trivial⟩ (by simp <;> omega) ⟨⟨?_, ?_⟩, ?_⟩ ⟨own_cat _ rfl, trivial⟩
                · rw [← g1, mergeS, if_pos (by omega)]; simp
                · simp; omega
                · simp; omega
              · have h3 : ¬ 0 ≤ cmpS x y := of_decide_eq_false h'
                refine KW.goToR lay_ok T_ok 100 rfl (xs, y :: ys, out ++ [x]) [(5, 47)] rfl rfl ⟨rfl, rfl, rfl, trivial⟩ (by simp <;> omega) ⟨⟨?_, ?_⟩, ?_⟩ ⟨own_cat _ rfl, trivial⟩
                · rw [← g1, mergeS, if_neg (by omega), if_pos h1]; simp
                · simp; omega
                · simp
            · have h1 : ¬ cmpS x y ≤ 0 := of_decide_eq_false h
              refine KW.goIf lay_ok T_ok 100 rfl (by simp <;> omega) rfl trivial (fun h' => ?_) fun h' => ?_
              · have h3 : 0 ≤ cmpS x y := of_decide_eq_true h'
                refine KW.goToR lay_ok T_ok 100 rfl (x :: xs, ys, out ++ [y]) [(5, 55)] rfl rfl ⟨rfl, rfl, rfl, trivial⟩ (by simp <;> omega) ⟨⟨?_, ?_⟩, ?_⟩ ⟨own_cat _ rfl, trivial⟩
                · rw [← g1, mergeS, if_neg (by omega), if_neg h1]; simp
                · simp; omega
                · simp
              · have h3 : ¬ 0 ≤ cmpS x y := of_decide_eq_false h'
                omega
          · refine KW.goOut lay_ok T_ok 100 rfl (by simp) ?_
            refine KW.goRetO lay_ok T_ok 100 rfl 65 2 rfl rfl rfl ?_ (by simp <;> omega)
            rw [catV_ints, catV_ints, fin, hs]
            simp at h
            rcases xs with _ | ⟨x, xs⟩
            · exact .inl rfl
            · exact .inr (h (by simp))

def T11 : Fns := (65, fL (fun l => .e (.c (ints (sortS l)))) fun l => l.length ≤ 1099511627776) ::
  T10
theorem T11_ok : FnsOk Try.prog T11 := .cons (T10_ok) Try.func65 rfl rfl (fL_ok fun l h => rsort_does l.length l (Nat.le_refl _) h)


end Go.Proofs.Ytinddojpbieejaa
