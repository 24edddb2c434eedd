/-
  FnH, FnI, FnJ, FnK, one text.
-/
import Derived.Test.YtjaanpbahlbmoaaDoorFnD
import Derived.Test.YtjaanpbahlbmoaaDoorSyT
import Derived.Test.YtjaanpbahlbmoaaDoorShelf
import Derived.Test.YtjaanpbahlbmoaaDoorPuA
set_option linter.unusedSectionVars false
set_option linter.unusedVariables false
set_option linter.unusedSimpArgs false
/-
  slices.Clone, slices.Equal and slices.Grow compute what they say; lists of at most 2 to the power 40 elements.
-/
namespace Go.Proofs.YtjaanpbahlbmoaaDoor
open Go.Sy Go.Pu
variable [Drw]

theorem clone_does (xs : List Int) (hb : xs.length ≤ 1099511627776) : DoesF Tryd.prog 92 [.c (ints xs)] [] (.e (.r 0)) [(0, .own 3 (ints xs))] := by
  refine DoesF.body _ Tryd.func92 rfl rfl rfl rfl ?_
  refine KW.go lay_ok T11_ok 100 rfl (by simp) ?_
  refine KW.eqNil (neg := false) lay_ok rfl rfl rfl rfl rfl rfl rfl rfl trivial fun b hb0 => ?_
  refine KW.goIf lay_ok T11_ok 100 rfl (by simp) rfl trivial (fun h => ?_) fun h => ?_
  · have : xs = [] := ints_nil_of (hb0 h)
    subst this
    refine KW.go lay_ok T11_ok 100 rfl (by simp) ?_
    refine KW.nilO 2 2 3 (ints []) rfl rfl rfl ?_
    exact KW.fin [(0, 2)] rfl rfl rfl ⟨rfl, trivial⟩
  · refine KW.goRetR lay_ok T11_ok 100 rfl [(0, 7)] rfl rfl rfl (by simp <;> omega) ⟨?_, trivial⟩
    exact own_cat (a := []) _ rfl

theorem equal_does (a b : List Int) : DoesF Tryd.prog 81 [.c (ints a), .c (ints b)] [] (sB (decide (a = b))) [] := by
  refine DoesF.body _ Tryd.func81 rfl rfl rfl rfl ?_
  refine KW.len 0 rfl rfl fun hla => ?_
  refine KW.goIf lay_ok T11_ok 100 rfl (by simp) rfl trivial (fun h => ?_) fun h => ?_
  · refine KW.goRet lay_ok T11_ok 100 rfl rfl ?_ (by simp) trivial
    have hne : a ≠ b := fun e => by subst e; simp at h
    rw [decide_eq_false hne]; rfl
  · have hl : a.length = b.length := by simp at h; omega
    refine KW.goLp lay_ok T11_ok 100 rfl (I := fun q : Nat => ⟨Tryd.f81.ntmps, [(0, .e (.c (ints a))), (1, .e (.c (ints b))), (12, sI a.length), (13, sI q)], []⟩) (R := fun q => q ≤ a.length ∧ a.take q = b.take q) (m := fun q => a.length - q) 0 rfl ⟨rfl, rfl, rfl, rfl, trivial⟩ (by simp) ⟨by simp, by simp⟩ trivial ?_
    rintro q ⟨h1, h2⟩
    refine KW.goIf lay_ok T11_ok 100 rfl (by simp) rfl trivial (fun h => ?_) fun h => ?_
    · have hq : q < a.length := by simpa using h
      have hq' : q < b.length := by omega
      refine KW.goD lay_ok T11_ok rfl 100 rfl rfl rfl (by simp) (by simp; omega) ?_
      refine KW.goIf lay_ok T11_ok 100 rfl (by simp) rfl trivial (fun h => ?_) fun h => ?_
      · refine KW.goOutR lay_ok T11_ok 100 rfl (by simp) ?_
        refine KW.goRet lay_ok T11_ok 100 rfl rfl ?_ (by simp) trivial
        have hne : a ≠ b := fun e => by subst e; simp at h
        rw [decide_eq_false hne]; rfl
      · refine KW.goTo lay_ok T11_ok 100 rfl (q + 1) rfl ⟨rfl, rfl, rfl, rfl, trivial⟩ (by simp [inK]; omega) ⟨⟨by omega, ?_⟩, by omega⟩ trivial
        have e : a[q] = b[q] := by simpa [List.getD_eq_getElem?_getD, hq, hq'] using h
        rw [List.take_succ_eq_append_getElem hq, List.take_succ_eq_append_getElem hq', h2, e]
    · have hq : q = a.length := by simp at h; omega
      refine KW.goOut lay_ok T11_ok 100 rfl (by simp) ?_
      refine KW.goRet lay_ok T11_ok 100 rfl rfl ?_ (by simp) trivial
      have e : a = b := by
        rw [hq, List.take_length] at h2
        rw [h2, hl, List.take_length]
      rw [decide_eq_true e]; rfl

end Go.Proofs.YtjaanpbahlbmoaaDoor

/-
  family.sorted and family.minimal compute their Lean functions; valid sets, lists of at most 2 to the power 40 elements.
-/
namespace Go.Proofs.YtjaanpbahlbmoaaDoor
open Go.Sy Go.Pu
variable [Drw]

theorem sorted_does (l : List Int) (hv : ∀ x ∈ l, validS x = true) (hb : l.length ≤ 1099511627776) : DoesF Tryd.prog 72 [.c (ints l)] [] (.e (.c (ints (sortedL l)))) [] := by
  refine DoesF.body _ Tryd.func72 rfl rfl rfl rfl ?_
  refine KW.go lay_ok T11_ok 100 rfl (by simp) ?_
  refine KW.callO0 (clone_does l hb) (enters Tryd.func92 rfl rfl) [] (.inl rfl) rfl rfl rfl rfl rfl trivial ⟨⟨_, _, rfl, trivial, .conv (CVEq.refl _)⟩, trivial⟩ rfl (.inl rfl) ?_
  refine KW.go lay_ok T11_ok 100 rfl (by simp) ?_
  refine KW.callK0 (sortFunc_does (ks := fun _ => 0) (caps := fun _ _ => .lit undef) laySort laySort0 rfl rfl cmpS_swo (V := fun x => validS x = true) (fun x y => cmpS_eq) cmpS_total (enters Tryd.func18 rfl rfl) (@compare_does drwOn) 3 l hv (by omega))
    (enters Tryd.func63 rfl rfl) [(0, 5)] [(0, 5)] [] (.inl rfl) rfl rfl rfl rfl rfl trivial
    ⟨⟨_, _, rfl, trivial, (show Mt _ _ _ (EV.ren [(0, 5)] (.r 0)) (.r 0) from .same)⟩, ⟨_, _, rfl, trivial, .conv (CVEq.refl _)⟩, trivial⟩ rfl ⟨rfl, trivial⟩ rfl ⟨.inr ⟨rfl, .inl rfl⟩, trivial⟩ rfl rfl (.inl rfl) ?_
  refine KW.go lay_ok T11_ok 100 rfl (by simp) ?_
  refine KW.call0 (compact_does layCompact rfl 3 (sortL cmpS l)) (enters Tryd.func93 rfl rfl) [(0, 5)] [(0, 9)] [] (.inl rfl) rfl rfl rfl rfl rfl trivial
    ⟨⟨_, _, rfl, trivial, (show Mt _ _ _ (EV.ren [(0, 5)] (.r 0)) (.r 0) from .same)⟩, trivial⟩ rfl ⟨rfl, trivial⟩ rfl ⟨.inl rfl, trivial⟩ rfl rfl (.inl rfl) ?_
  exact KW.goRetO lay_ok T11_ok 100 rfl 9 2 rfl rfl rfl rfl (by simp)

theorem minimalC_does (t s : Int) : DoesF Tryd.prog 94 [iV t, .pe 1 1 (fun _ q => .lit (.int .i64 s)) 0 0] [] (sB (subS t s)) [] := by
  refine DoesF.body _ Tryd.func94 rfl rfl rfl rfl ?_
  exact KW.goRet lay_ok T11_ok 100 rfl rfl rfl (by simp) trivial

theorem minimal_does (l : List Int) (hv : ∀ x ∈ l, validS x = true) (hb : l.length ≤ 1099511627776) : DoesF Tryd.prog 73 [.c (ints l)] [] (.e (.c (ints (minS l)))) [] := by
  have T_ok : FnsOk Tryd.prog ((72, fL (fun l => .e (.c (ints (sortedL l)))) fun l => (∀ x ∈ l, validS x = true) ∧ l.length ≤ 1099511627776) :: T11) := .cons T11_ok Tryd.func72 rfl rfl (fL_ok fun l h => sorted_does l h.1 h.2)
  refine DoesF.body _ Tryd.func73 rfl rfl rfl rfl ?_
  have hSl := sortedL_length l
  have hm := minL_length (sortedL l) []
  refine KW.go lay_ok T_ok 100 rfl (by simpa using ⟨hv, hb⟩) ?_
  simp only [unI_ints]
  generalize hS : sortedL l = S at hSl hm
  refine KW.nilO 3 3 3 (ints []) rfl rfl rfl ?_
  refine KW.lp (I := fun q : List Int × Nat => ⟨Tryd.f73.ntmps, [(3, .e (.r 3)), (7, .e (.c (ints S))), (8, sI S.length), (9, sI q.2)], [(3, .own 3 (ints q.1))]⟩)
    (R := fun q => q.2 ≤ S.length ∧ minL q.1 (S.drop q.2) = minS l ∧ q.1.length ≤ q.2) (m := fun q => S.length - q.2) ([], 0) ⟨by simp, by simp [minS, hS], by simp⟩ [(3, 3)] ⟨rfl, rfl, ⟨rfl, rfl, rfl, rfl, trivial⟩, ⟨rfl, trivial⟩⟩ ?_
  rintro ⟨out, q⟩ ⟨h1, h2, h3⟩
  simp only at h1 h2 h3
  refine KW.goIf lay_ok T_ok 100 rfl (by simp) rfl trivial (fun h => ?_) fun h => ?_
  · have hq : q < S.length := by simpa using h
    have hg : S.getD (Int.toNat (q : Int)) 0 = S[q] := by simp [List.getD_eq_getElem?_getD, hq]
    have hd : S.drop q = S[q] :: S.drop (q + 1) := List.drop_eq_getElem_cons hq
    rw [hd, minL] at h2
    refine KW.go lay_ok T_ok 100 rfl (by simp; omega) ?_
    refine KW.callV0 (containsFunc_does (m := 1) (ks := fun _ => 1) (caps := fun _ _ => .lit (.int .i64 S[q])) (p := fun t => subS t S[q]) out ⟨enters Tryd.func94 rfl rfl, fun x _ => minimalC_does x S[q]⟩) (enters Tryd.func74 rfl rfl) [3, 5] (.inl rfl) rfl rfl rfl rfl rfl trivial
      ⟨⟨_, _, rfl, trivial, .lend rfl rfl (CVEq.refl _) rfl rfl⟩, ⟨_, _, rfl, trivial, .lfn rfl ?_⟩, trivial⟩ rfl (.inr trivial) ?_
    · intro j hj
      obtain rfl : j = 0 := by omega
      refine ⟨5, _, _, _, rfl, rfl, rfl, rfl, fun q' hq' => ?_⟩
      obtain rfl : q' = 0 := by omega
      show some (EV.c (.lit (.int .i64 (S.getD (Int.toNat (q : Int)) 0)))) = _
      rw [hg]
    · refine KW.goIf lay_ok T_ok 100 rfl (by simp) rfl trivial (fun h => ?_) fun h => ?_
      · have hc : (out.any fun t => subS t S[q]) = false := by simpa using h
        rw [hc] at h2
        refine KW.goToR lay_ok T_ok 100 rfl (out ++ [S[q]], q + 1) [(3, 20)] rfl rfl ⟨rfl, rfl, rfl, rfl, trivial⟩ (by simp [inK] <;> omega) ⟨⟨by simp only; omega, by simpa using h2, by simp; omega⟩, by simp only; omega⟩ ⟨own_cat _ ?_, trivial⟩
        rw [hg]
      · have hc : (out.any fun t => subS t S[q]) = true := by simpa using h
        rw [hc] at h2
        refine KW.goToR lay_ok T_ok 100 rfl (out, q + 1) [(3, 3)] rfl rfl ⟨rfl, rfl, rfl, rfl, trivial⟩ (by simp [inK] <;> omega) ⟨⟨by simp only; omega, by simpa using h2, by simp only; omega⟩, by simp only; omega⟩ ⟨rfl, trivial⟩
  · have hq : q = S.length := by simp at h; omega
    refine KW.goOut lay_ok T_ok 100 rfl (by simp) ?_
    refine KW.goRetO lay_ok T_ok 100 rfl 3 2 rfl rfl rfl ?_ (by simp <;> omega)
    rw [hq, List.drop_length, minL] at h2
    rw [h2]
end Go.Proofs.YtjaanpbahlbmoaaDoor

/-
  family.Minimal, Meets, Restrict and the specification of minimal sets compute their Lean functions.
-/
namespace Go.Proofs.YtjaanpbahlbmoaaDoor
open Go.Sy Go.Pu
variable [Drw]


theorem sized_does (l : List Int) : DoesF Tryd.prog 91 [lV l] [] (.tup [lV (limL l), eV (limE l)]) [] := by
  refine DoesF.body _ Tryd.func91 rfl rfl rfl rfl ?_
  refine KW.goIf lay_ok T11_ok 100 rfl (by simp) rfl trivial (fun h => ?_) fun h => ?_
  · have hl : 1024 < l.length := by simp at h; omega
    refine KW.go lay_ok T11_ok 100 rfl (by simp) ?_
    refine KW.conv 2 (ints []) rfl ⟨rfl, rfl⟩ ?_
    refine KW.fin [] rfl rfl ?_ trivial
    simp [SV.ren, renL, EV.ren, limL, limE, hl, errV]
  · have hl : ¬ 1024 < l.length := by simp at h; omega
    refine KW.goRet lay_ok T11_ok 100 rfl rfl ?_ (by simp) trivial
    simp [SV.ren, renL, EV.ren, limL, limE, hl, errV]

def T12 : Fns := (73, fL (fun l => .e (lV (minS l))) fun l => (∀ x ∈ l, validS x = true) ∧ l.length ≤ 1099511627776) ::
  (91, fL (fun l => .tup [lV (limL l), eV (limE l)]) fun l => True) ::
  (81, fLL (fun a b => sB (decide (a = b))) fun _ _ => True) ::
  (72, fL (fun l => .e (lV (sortedL l))) fun l => (∀ x ∈ l, validS x = true) ∧ l.length ≤ 1099511627776) ::
  T11
theorem T12_ok : FnsOk Tryd.prog T12 := .cons (.cons (.cons (.cons (T11_ok) Tryd.func72 rfl rfl (fL_ok fun l h => sorted_does l h.1 h.2)) Tryd.func81 rfl rfl (fLL_ok fun a b _ => equal_does a b)) Tryd.func91 rfl rfl (fL_ok fun l _ => sized_does l)) Tryd.func73 rfl rfl (fL_ok fun l h => minimal_does l h.1 h.2)


theorem minimalX_does (l : List Int) : DoesF Tryd.prog 46 [lV l] [] (.tup [lV (if listE l = 0 then minS l else []), eV (listE l)]) [] := by
  refine DoesF.body _ Tryd.func46 rfl rfl rfl rfl ?_
  refine KW.goIf lay_ok T12_ok 100 rfl (by simp) rfl trivial (fun h => ?_) fun h => ?_
  · refine KW.go lay_ok T12_ok 100 rfl (by simp) ?_
    refine KW.conv 2 (ints []) rfl ⟨rfl, rfl⟩ ?_
    refine KW.fin [] rfl rfl ?_ trivial
    simp [listsE_one] at h
    simp [SV.ren, renL, EV.ren, listsE_one, h]
  · simp [listsE_one] at h
    have h1 := listE_len h
    have h2 := listE_valid h
    refine KW.goRet lay_ok T12_ok 100 rfl rfl ?_ (by simpa using ⟨h2, by omega⟩) trivial
    simp [SV.ren, renL, EV.ren, h, errV]

theorem restrict_does (l : List Int) (f w : Int) : DoesF Tryd.prog 70 [lV l, iV f, iV w] [] (.tup [lV (if restrE l f w = 0 then minS (restrL l f w) else []), eV (restrE l f w)]) [] := by
  refine DoesF.body _ Tryd.func70 rfl rfl rfl rfl ?_
  have nil : ∀ {k e A Q}, lk A.sl 6 = some (.e (.c (.lit (.slice none 0 0)))) → KW Tryd.prog k e ⟨A.n, (6, .e (.c (ints []))) :: A.sl, A.rs⟩ Q → KW Tryd.prog k e A Q := fun hl hk => KW.conv 6 (ints []) hl ⟨rfl, rfl⟩ hk
  refine KW.goIf lay_ok T12_ok 100 rfl (by simp) rfl trivial (fun h => ?_) fun h => ?_
  · refine KW.go lay_ok T12_ok 100 rfl (by simp) (nil rfl ?_)
    refine KW.fin [] rfl rfl ?_ trivial
    simp [listsE_one] at h
    simp [SV.ren, renL, EV.ren, listsE_one, restrE, h]
  · simp [listsE_one] at h
    refine KW.goIf lay_ok T12_ok 100 rfl (by simp) rfl trivial (fun h1 => ?_) fun h1 => ?_
    · refine KW.go lay_ok T12_ok 100 rfl (by simp) (nil rfl ?_)
      refine KW.fin [] rfl rfl ?_ trivial
      have hv : ¬ (validS f = true ∧ validS w = true) := by
        intro hv; simp [hv.1, hv.2] at h1
      simp [SV.ren, renL, EV.ren, restrE, h, hv, errV]
    · have hv : validS f = true ∧ validS w = true := by
        cases hf : validS f <;> cases hw : validS w <;> simp [hf, hw] at h1 ⊢
      refine KW.goIf lay_ok T12_ok 100 rfl (by simp) rfl trivial (fun h2 => ?_) fun h2 => ?_
      · refine KW.go lay_ok T12_ok 100 rfl (by simp) (nil rfl ?_)
        refine KW.fin [] rfl rfl ?_ trivial
        simp at h2
        simp [SV.ren, renL, EV.ren, restrE, h, hv, h2, errV]
      · simp at h2
        have hE : restrE l f w = 0 := by simp [restrE, h, hv, h2]
        have hlen := listE_len h
        have hval := listE_valid h
        refine KW.go lay_ok T12_ok 100 rfl (by simp) ?_
        refine KW.nilO 9 9 3 (ints []) rfl rfl rfl ?_
        refine KW.lp (I := fun q : Nat => ⟨Tryd.f70.ntmps, [(1, sI f), (2, sI w), (9, .e (.r 9)), (34, .e (lV l)), (35, sI l.length), (36, sI q)], [(9, .own 3 (ints (restrL (l.take q) f w)))]⟩)
          (R := fun q => q ≤ l.length) (m := fun q => l.length - q) 0 (by simp) [(9, 9)] ⟨rfl, rfl, ⟨rfl, rfl, rfl, rfl, rfl, rfl, trivial⟩, ⟨rfl, trivial⟩⟩ ?_
        rintro q hq0
        have hrl : (restrL (l.take q) f w).length ≤ 1024 := by
          unfold restrL
          rw [List.length_map]
          exact Nat.le_trans (List.length_filter_le _ _) (by simp; omega)
        refine KW.goIf lay_ok T12_ok 100 rfl (by simp) rfl trivial (fun h3 => ?_) fun h3 => ?_
        · have hq : q < l.length := by simpa using h3
          have hg : l.getD (Int.toNat (q : Int)) 0 = l[q] := by simp [List.getD_eq_getElem?_getD, hq]
          have ht : restrL (l.take (q + 1)) f w = restrL (l.take q) f w ++ if iand .i64 l[q] w = 0 then [iandNot .i64 l[q] f] else [] := by
            rw [List.take_succ_eq_append_getElem hq]
            unfold restrL
            rw [List.filter_append, List.map_append]
            by_cases hc : iand .i64 l[q] w = 0 <;> simp [hc]
          refine KW.goIf lay_ok T12_ok 100 rfl (by simp <;> omega) rfl trivial (fun h4 => ?_) fun h4 => ?_
          · simp only [hg, beq_iff_eq] at h4
            refine KW.goToR lay_ok T12_ok 100 rfl (q + 1) [(9, 49)] rfl rfl ⟨rfl, rfl, rfl, rfl, rfl, rfl, trivial⟩ (by simp [inK] <;> omega) ⟨by omega, by omega⟩ ⟨own_cat _ ?_, trivial⟩
            rw [ht, if_pos h4, hg]
          · have h4' : ¬ iand .i64 l[q] w = 0 := by rw [← hg]; simpa using h4
            refine KW.goToR lay_ok T12_ok 100 rfl (q + 1) [(9, 9)] rfl rfl ⟨rfl, rfl, rfl, rfl, rfl, rfl, trivial⟩ (by simp [inK] <;> omega) ⟨by omega, by omega⟩ ⟨own_cat1 _ ?_, trivial⟩
            rw [ht, if_neg h4', List.append_nil]
        · have hq : q = l.length := by simp at h3; omega
          have hall : restrL (l.take q) f w = restrL l f w := by rw [hq, List.take_length]
          refine KW.goOut lay_ok T12_ok 100 rfl (by simp) ?_
          refine KW.go lay_ok T12_ok 100 rfl (by simp) ?_
          refine KW.frz 9 [51] rfl rfl rfl ?_
          refine KW.goRet lay_ok T12_ok 100 rfl rfl ?_ ?_ trivial
          · rw [hE]
            simp [SV.ren, renL, EV.ren, errV, hall, unI_ints]
          · simp only [unI_ints, hall, isI_ints, true_and, and_true]
            refine ⟨fun x hx => ?_, by rw [← hall]; omega⟩
            unfold restrL at hx
            rw [List.mem_map] at hx
            obtain ⟨y, hy, rfl⟩ := hx
            exact valid_iandNot (hval y (List.mem_filter.1 hy).1)

theorem least_does (l : List Int) (hb : l.length ≤ 1099511627776) : DoesF Tryd.prog 78 [lV l] [] (.e (lV (leastS l))) [] := by
  refine DoesF.body _ Tryd.func78 rfl rfl rfl rfl ?_
  have T_ok : FnsOk Tryd.prog ((79, fII (fun a b => sB (partB a b)) fun _ _ => True) :: T12) := .cons T12_ok Tryd.func79 rfl rfl (fII_ok fun a b _ => part_does a b)
  have hSl := sortS_length l
  refine KW.go lay_ok T_ok 100 rfl (by simpa using hb) ?_
  simp only [unI_ints]
  generalize hS : sortS l = S at hSl
  refine KW.nilO 3 3 3 (ints []) rfl rfl rfl ?_
  refine KW.lp (I := fun q : List Int × Nat => ⟨Tryd.f78.ntmps, [(3, .e (.r 3)), (10, .e (.c (ints S))), (11, sI S.length), (12, sI q.2)], [(3, .own 3 (ints q.1))]⟩)
    (R := fun q => q.2 ≤ S.length ∧ leastL q.1 (S.drop q.2) = leastS l ∧ q.1.length ≤ q.2) (m := fun q => S.length - q.2) ([], 0) ⟨by simp, by simp [leastS, hS], by simp⟩ [(3, 3)] ⟨rfl, rfl, ⟨rfl, rfl, rfl, rfl, trivial⟩, ⟨rfl, trivial⟩⟩ ?_
  rintro ⟨out, q⟩ ⟨h1, h2, h3⟩
  simp only at h1 h2 h3
  refine KW.goIf lay_ok T_ok 100 rfl (by simp) rfl trivial (fun h => ?_) fun h => ?_
  · have hq : q < S.length := by simpa using h
    have hg : S.getD (Int.toNat (q : Int)) 0 = S[q] := by simp [List.getD_eq_getElem?_getD, hq]
    have hd : S.drop q = S[q] :: S.drop (q + 1) := List.drop_eq_getElem_cons hq
    rw [hd, leastL] at h2
    refine KW.goLpR lay_ok T_ok 100 rfl (I := fun p : Nat => ⟨Tryd.f78.ntmps, [(3, .e (.r 3)), (5, sI S[q]), (6, sB ((out.take p).all fun x => !partB x S[q])), (10, .e (.c (ints S))), (11, sI S.length), (12, sI q), (16, .e (.r 3)), (17, sI out.length), (18, sI p)], [(3, .own 3 (ints out))]⟩)
      (R := fun p => p ≤ out.length) (m := fun p => out.length - p) 0 [(3, 3)] rfl rfl ⟨rfl, by rw [← hg]; rfl, rfl, rfl, rfl, rfl, rfl, rfl, rfl, trivial⟩ (by simp; omega) (by simp) ⟨rfl, trivial⟩ ?_
    rintro p hp0
    refine KW.goIf lay_ok T_ok 100 rfl (by simp) rfl trivial (fun h => ?_) fun h => ?_
    · have hp : p < out.length := by simpa using h
      have hgp : out.getD (Int.toNat (p : Int)) 0 = out[p] := by simp [List.getD_eq_getElem?_getD, hp]
      refine KW.goToR lay_ok T_ok 100 rfl (p + 1) [(3, 3)] rfl rfl ⟨rfl, rfl, ?_, rfl, rfl, rfl, rfl, rfl, rfl, trivial⟩ (by simp [inK] <;> omega) ⟨by omega, by omega⟩ ⟨rfl, trivial⟩
      rw [List.take_succ_eq_append_getElem hp, List.all_append, ← hgp]
      simp only [List.all_cons, List.all_nil, Bool.and_true]
      rfl
    · have hp : p = out.length := by simp at h; omega
      refine KW.goOut lay_ok T_ok 100 rfl (by simp) ?_
      refine KW.goIf lay_ok T_ok 100 rfl (by simp) rfl trivial (fun h => ?_) fun h => ?_
      · rw [hp, List.take_length] at h
        rw [h] at h2
        refine KW.goToR lay_ok T_ok 100 rfl (out ++ [S[q]], q + 1) [(3, 34)] rfl rfl ⟨rfl, rfl, rfl, rfl, trivial⟩ (by simp [inK] <;> omega) ⟨⟨by simp only; omega, by simpa using h2, by simp; omega⟩, by simp only; omega⟩ ⟨own_cat _ rfl, trivial⟩
      · rw [hp, List.take_length] at h
        rw [h] at h2
        refine KW.goToR lay_ok T_ok 100 rfl (out, q + 1) [(3, 3)] rfl rfl ⟨rfl, rfl, rfl, rfl, trivial⟩ (by simp [inK] <;> omega) ⟨⟨by simp only; omega, by simpa using h2, by simp only; omega⟩, by simp only; omega⟩ ⟨rfl, trivial⟩
  · have hq : q = S.length := by simp at h; omega
    refine KW.goOut lay_ok T_ok 100 rfl (by simp) ?_
    refine KW.goRetO lay_ok T_ok 100 rfl 3 2 rfl rfl rfl ?_ (by simp <;> omega)
    rw [hq, List.drop_length, leastL] at h2
    rw [h2]
end Go.Proofs.YtjaanpbahlbmoaaDoor

/-
  family.Product, the specification of Restrict, few and awake of the law compute their Lean functions.
-/
namespace Go.Proofs.YtjaanpbahlbmoaaDoor
open Go.Sy Go.Pu
variable [Drw]

def T13 : Fns := (78, fL (fun l => .e (lV (leastS l))) fun l => l.length ≤ 1099511627776) ::
  (46, fL (fun l => .tup [lV (if listE l = 0 then minS l else []), eV (listE l)]) fun _ => True) ::
  (70, fLII (fun l f w => .tup [lV (if restrE l f w = 0 then minS (restrL l f w) else []), eV (restrE l f w)]) fun _ _ _ => True) ::
  T12
theorem T13_ok : FnsOk Tryd.prog T13 := .cons (.cons (.cons (T12_ok) Tryd.func70 rfl rfl (fLII_ok fun l f w _ => restrict_does l f w)) Tryd.func46 rfl rfl (fL_ok fun l _ => minimalX_does l)) Tryd.func78 rfl rfl (fL_ok fun l h => least_does l h)


theorem few_does (ls : List (List Int)) : DoesF Tryd.prog 43 [.c (intss ls)] [] (sB (ls.all fun a => !fewB a)) [] := by
  refine DoesF.body _ Tryd.func43 rfl rfl rfl rfl ?_
  refine KW.len 0 rfl rfl fun hla => ?_
  refine KW.goLp lay_ok T13_ok 100 rfl (I := fun q : Nat => ⟨Tryd.f43.ntmps, [(5, .e (.c (intss ls))), (6, sI ls.length), (7, sI q)], []⟩) (R := fun q => q ≤ ls.length ∧ (ls.take q).all (fun a => !fewB a) = true) (m := fun q => ls.length - q) 0 rfl ⟨rfl, rfl, rfl, trivial⟩ (by simp) ⟨by simp, by simp⟩ trivial ?_
  rintro q ⟨h1, h2⟩
  refine KW.goIf lay_ok T13_ok 100 rfl (by simp) rfl trivial (fun h => ?_) fun h => ?_
  · have hq : q < ls.length := by simpa using h
    have hg : ls.getD (Int.toNat (q : Int)) [] = ls[q] := by simp [List.getD_eq_getElem?_getD, hq]
    have hb : ∀ a : List Int, fewB a = (decide ((60 : Int) < a.length) && decide ((a.length : Int) ≤ 1024) || decide ((1200 : Int) < a.length)) := by
      intro a
      unfold fewB
      rw [Bool.eq_iff_iff]
      simp only [Bool.or_eq_true, Bool.and_eq_true, decide_eq_true_eq]
      omega
    refine KW.goIf lay_ok T13_ok 100 rfl (by simp; omega) rfl trivial (fun h => ?_) fun h => ?_
    · refine KW.goOutR lay_ok T13_ok 100 rfl (by simp) ?_
      refine KW.goRet lay_ok T13_ok 100 rfl rfl ?_ (by simp) trivial
      have hf : fewB ls[q] = true := by rw [hb, ← hg]; exact h
      have : ls.all (fun a => !fewB a) = false := by
        rw [List.all_eq_false]
        exact ⟨ls[q], List.getElem_mem hq, by simp [hf]⟩
      rw [this]; rfl
    · refine KW.goTo lay_ok T13_ok 100 rfl (q + 1) rfl ⟨rfl, rfl, rfl, trivial⟩ (by simp [inK]; omega) ⟨⟨by omega, ?_⟩, by omega⟩ trivial
      have hf : fewB ls[q] = false := by rw [hb, ← hg]; exact h
      rw [List.take_succ_eq_append_getElem hq, List.all_append, h2]
      simp [hf]
  · have hq : q = ls.length := by simp at h; omega
    refine KW.goOut lay_ok T13_ok 100 rfl (by simp) ?_
    refine KW.goRet lay_ok T13_ok 100 rfl rfl ?_ (by simp) trivial
    rw [hq, List.take_length] at h2
    rw [h2]; rfl

theorem product_does (a b : List Int) : DoesF Tryd.prog 69 [lV a, lV b] [] (.tup [lV (if bothE a b = 0 then limL (minS (unionsC a b)) else []), eV (if bothE a b = 0 then limE (minS (unionsC a b)) else bothE a b)]) [] := by
  refine DoesF.body _ Tryd.func69 rfl rfl rfl rfl ?_
  refine KW.goIf lay_ok T13_ok 100 rfl (by simp) rfl trivial (fun h => ?_) fun h => ?_
  · refine KW.go lay_ok T13_ok 100 rfl (by simp) ?_
    refine KW.conv 4 (ints []) rfl ⟨rfl, rfl⟩ ?_
    refine KW.fin [] rfl rfl ?_ trivial
    simp [listsE_two] at h
    simp [SV.ren, renL, EV.ren, listsE_two, h]
  · simp [listsE_two] at h
    have h1 : listE a = 0 := by unfold bothE at h; split at h <;> simp_all
    have h2 : listE b = 0 := by unfold bothE at h; split at h <;> simp_all
    have la := listE_len h1
    have lb := listE_len h2
    have va := listE_valid h1
    have vb := listE_valid h2
    have hma := minS_length a
    have hmb := minS_length b
    refine KW.go lay_ok T13_ok 100 rfl (by simpa using ⟨⟨va, by omega⟩, vb, by omega⟩) ?_
    simp only [unI_ints]
    generalize hA : minS a = MA at hma
    generalize hB : minS b = MB at hmb
    refine KW.makeMap rfl rfl rfl rfl rfl ?_
    refine KW.go lay_ok T13_ok 100 rfl (by simp) ?_
    refine KW.nilO 8 8 3 (ints []) rfl rfl rfl ?_
    refine KW.lp (I := fun q : Nat => ⟨Tryd.f69.ntmps, [(1, .e (lV MB)), (7, .e (.r 25)), (8, .e (.r 8)), (26, .e (lV MA)), (27, sI MA.length), (28, sI q)], [(8, .own 3 (ints (addAll [] (unionsL (MA.take q) MB)))), (25, .mset (addAll [] (unionsL (MA.take q) MB)).reverse)]⟩)
      (R := fun q => q ≤ MA.length) (m := fun q => MA.length - q) 0 (by simp) [(8, 8), (25, 25)] ⟨rfl, rfl, ⟨rfl, rfl, rfl, rfl, rfl, rfl, trivial⟩, ⟨rfl, rfl, trivial⟩⟩ ?_
    rintro q hq0
    have hUl : (addAll [] (unionsL (MA.take q) MB)).length ≤ 1048576 := by
      have := addAll_length (unionsL (MA.take q) MB) []
      rw [unionsL_length] at this
      have h3 : (MA.take q).length * MB.length ≤ 1024 * 1024 := Nat.mul_le_mul (by simp; omega) (by omega)
      simp only [List.length_nil, Nat.zero_add] at this
      omega
    refine KW.goIf lay_ok T13_ok 100 rfl (by simp) rfl trivial (fun h3 => ?_) fun h3 => ?_
    · have hq : q < MA.length := by simpa using h3
      have hg : MA.getD (Int.toNat (q : Int)) 0 = MA[q] := by simp [List.getD_eq_getElem?_getD, hq]
      have hsucc : unionsL (MA.take (q + 1)) MB = unionsL (MA.take q) MB ++ MB.map fun y => ior .i64 MA[q] y := by
        unfold unionsL
        rw [List.take_succ_eq_append_getElem hq, List.flatMap_append, List.flatMap_singleton]
      generalize hU : addAll [] (unionsL (MA.take q) MB) = U at hUl
      refine KW.goLpR lay_ok T13_ok 100 rfl (I := fun p : Nat => ⟨Tryd.f69.ntmps, [(1, .e (lV MB)), (7, .e (.r 25)), (8, .e (.r 8)), (10, sI MA[q]), (26, .e (lV MA)), (27, sI MA.length), (28, sI q), (32, .e (lV MB)), (33, sI MB.length), (34, sI p)], [(8, .own 3 (ints (addAll U ((MB.take p).map fun y => ior .i64 MA[q] y)))), (25, .mset (addAll U ((MB.take p).map fun y => ior .i64 MA[q] y)).reverse)]⟩)
        (R := fun p => p ≤ MB.length) (m := fun p => MB.length - p) 0 [(8, 8), (25, 25)] rfl rfl ⟨rfl, rfl, rfl, by rw [← hg]; rfl, rfl, rfl, rfl, rfl, rfl, rfl, trivial⟩ (by simp; omega) (by simp) ⟨rfl, rfl, trivial⟩ ?_
      rintro p hp0
      have hVl : (addAll U ((MB.take p).map fun y => ior .i64 MA[q] y)).length ≤ 2097152 := by
        have := addAll_length ((MB.take p).map fun y => ior .i64 MA[q] y) U
        simp only [List.length_map, List.length_take] at this
        omega
      refine KW.goIf lay_ok T13_ok 100 rfl (by simp) rfl trivial (fun h4 => ?_) fun h4 => ?_
      · have hp : p < MB.length := by simpa using h4
        have hgp : MB.getD (Int.toNat (p : Int)) 0 = MB[p] := by simp [List.getD_eq_getElem?_getD, hp]
        have hps : addAll U ((MB.take (p + 1)).map fun y => ior .i64 MA[q] y) = addAll (addAll U ((MB.take p).map fun y => ior .i64 MA[q] y)) [ior .i64 MA[q] MB[p]] := by
          rw [List.take_succ_eq_append_getElem hp, List.map_append, addAll_append]; rfl
        generalize addAll U ((MB.take p).map fun y => ior .i64 MA[q] y) = V at hVl hps
        refine KW.go lay_ok T13_ok 100 rfl (by simp; omega) ?_
        refine KW.look lay_ok rfl rfl rfl rfl rfl rfl rfl rfl trivial trivial ?_
        rw [hgp]
        refine KW.goIf lay_ok T13_ok 100 rfl (by simp) rfl trivial (fun h5 => ?_) fun h5 => ?_
        · have hnot : ¬ ior .i64 MA[q] MB[p] ∈ V := by simpa using h5
          refine KW.go lay_ok T13_ok 100 rfl (by simp) ?_
          refine KW.mapPut lay_ok rfl rfl rfl rfl rfl rfl rfl trivial trivial ?_
          refine KW.goToR lay_ok T13_ok 100 rfl (p + 1) [(8, 50), (25, 25)] rfl rfl ⟨rfl, rfl, rfl, rfl, rfl, rfl, rfl, rfl, rfl, rfl, trivial⟩ (by simp [inK] <;> omega) ⟨by omega, by omega⟩ ⟨own_cat _ ?_, ?_, trivial⟩
          · rw [hps, addAll, addAll, if_neg hnot]
          · rw [hps, addAll, addAll, if_neg hnot, List.reverse_append]; rfl
        · have hin : ior .i64 MA[q] MB[p] ∈ V := by simpa using h5
          refine KW.goToR lay_ok T13_ok 100 rfl (p + 1) [(8, 8), (25, 25)] rfl rfl ⟨rfl, rfl, rfl, rfl, rfl, rfl, rfl, rfl, rfl, rfl, trivial⟩ (by simp [inK] <;> omega) ⟨by omega, by omega⟩ ⟨own_cat1 _ ?_, ?_, trivial⟩
          · rw [hps, addAll, addAll, if_pos hin]
          · rw [hps, addAll, addAll, if_pos hin]; rfl
      · have hp : p = MB.length := by simp at h4; omega
        have hfin : addAll U ((MB.take p).map fun y => ior .i64 MA[q] y) = addAll [] (unionsL (MA.take (q + 1)) MB) := by
          rw [hp, List.take_length, ← hU, hsucc, addAll_append]
        refine KW.goOut lay_ok T13_ok 100 rfl (by simp) ?_
        refine KW.goToR lay_ok T13_ok 100 rfl (q + 1) [(8, 8), (25, 25)] rfl rfl ⟨rfl, rfl, rfl, rfl, rfl, rfl, trivial⟩ (by simp [inK] <;> omega) ⟨by omega, by omega⟩ ⟨own_cat1 _ hfin, ?_, trivial⟩
        rw [← hfin]; rfl
    · have hq : q = MA.length := by simp at h3; omega
      have hU : addAll [] (unionsL (MA.take q) MB) = unionsC a b := by rw [hq, List.take_length]; unfold unionsC; rw [hA, hB]
      refine KW.goOut lay_ok T13_ok 100 rfl (by simp) ?_
      refine KW.go lay_ok T13_ok 100 rfl (by simp) ?_
      refine KW.frz 8 [53] rfl rfl rfl ?_
      refine KW.goRet lay_ok T13_ok 100 rfl rfl ?_ ?_ trivial
      · simp [SV.ren, renL, EV.ren, hU, h, unI_ints]
      · simp only [unI_ints, isI_ints, true_and, and_true]
        rw [hU]
        exact ⟨unionsC_valid va vb, by rw [← hU]; omega⟩

def T14 : Fns := (69, fLL (fun a b => .tup [lV (if bothE a b = 0 then limL (minS (unionsC a b)) else []), eV (if bothE a b = 0 then limE (minS (unionsC a b)) else bothE a b)]) fun _ _ => True) ::
  (43, fLs (fun ls => sB (ls.all fun a => !fewB a)) fun _ => True) ::
  T13
theorem T14_ok : FnsOk Tryd.prog T14 := .cons (.cons (T13_ok) Tryd.func43 rfl rfl (fLs_ok fun ls _ => few_does ls)) Tryd.func69 rfl rfl (fLL_ok fun a b _ => product_does a b)


theorem awake_does : DoesF Tryd.prog 44 [] [] (sB true) [] := by
  refine DoesF.body _ Tryd.func44 rfl rfl rfl rfl ?_
  have e1 : listE [3, 1, 6] = 0 := by decide
  have e2 : bothE [1, 2] [1, 4] = 0 := by decide
  have e3 := ex6
  refine KW.go lay_ok T14_ok 100 rfl (by simp) ?_
  refine KW.frz1 8 rfl rfl rfl ?_
  refine KW.go lay_ok T14_ok 100 rfl (by simp) ?_
  refine KW.frz1 13 rfl rfl rfl ?_
  refine KW.frz1 14 rfl rfl rfl ?_
  refine KW.go lay_ok T14_ok 100 rfl (by simp) ?_
  refine KW.frz1 19 rfl rfl rfl ?_
  refine KW.go lay_ok T14_ok 100 rfl (by simp) ?_
  simp only [unI_ints, e1, e2, e3.1, e3.2, ex1, ex4, ex5, ex7, if_true]
  refine KW.guardT rfl rfl (by simp [ex1, ex4, ex5, ex7, limE]) ?_
  refine KW.go lay_ok T14_ok 100 rfl (by simp) ?_
  refine KW.guardT rfl rfl (by simp [limE, limL]) ?_
  refine KW.go lay_ok T14_ok 100 rfl (by simp) ?_
  refine KW.guardT rfl rfl (by simp [limE, limL]) ?_
  refine KW.goRet lay_ok T14_ok 100 rfl rfl ?_ (by simp) trivial
  simp [SV.ren, EV.ren, limE, limL]
end Go.Proofs.YtjaanpbahlbmoaaDoor
