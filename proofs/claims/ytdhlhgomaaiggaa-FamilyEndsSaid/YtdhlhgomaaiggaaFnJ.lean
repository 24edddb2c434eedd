/-
  family.Minimal, Meets, Restrict and the specification of minimal sets compute their Lean functions.
-/
import Derived.Test.YtdhlhgomaaiggaaFnI
import Derived.Test.YtdhlhgomaaiggaaSyV
set_option linter.unusedVariables false
set_option linter.unusedSimpArgs false
namespace Go.Proofs.Ytdhlhgomaaiggaa
open Go.Sy Go.Pu

abbrev eV (n : Int) : EV := .c (.lit (errV 47 n))
abbrev lV (l : List Int) : EV := .c (ints l)

theorem sized_does (l : List Int) : DoesF Try.prog 44 [lV l] [] (.tup [lV (limL l), eV (limE l)]) [] := by
  refine DoesF.body _ Try.func44 rfl rfl rfl rfl ?_
  refine KW.goIf lay_ok T11_ok 100 rfl (by simp) rfl trivial (fun h => ?_) fun h => ?_
  · have hl : 1024 < l.length := by simp at h; omega
    refine KW.go lay_ok T11_ok 100 rfl (by simp) ?_
    refine KW.conv 2 (ints []) rfl ⟨rfl, rfl⟩ ?_
    refine KW.fin [] rfl rfl ?_ trivial
    simp [SV.ren, renL, EV.ren, limL, limE, hl, errV]
  · have hl : ¬ 1024 < l.length := by simp at h; omega
    refine KW.goRet lay_ok T11_ok 100 rfl rfl ?_ (by simp) trivial
    simp [SV.ren, renL, EV.ren, limL, limE, hl, errV]

def T12 : Fns := (40, fL (fun l => .e (lV (minS l))) fun l => (∀ x ∈ l, validS x = true) ∧ l.length ≤ 1099511627776) :: (44, fL (fun l => .tup [lV (limL l), eV (limE l)]) fun l => True) :: (46, fLL (fun a b => sB (decide (a = b))) fun _ _ => True) ::
  (49, fL (fun l => .e (lV (sortedL l))) fun l => (∀ x ∈ l, validS x = true) ∧ l.length ≤ 1099511627776) :: T11
theorem T12_ok : FnsOk Try.prog T12 := .cons (.cons (.cons (.cons T11_ok Try.func49 rfl rfl (fL_ok fun l h => sorted_does l h.1 h.2)) Try.func46 rfl rfl (fLL_ok fun a b _ => equal_does a b))
  Try.func44 rfl rfl (fL_ok fun l _ => sized_does l)) Try.func40 rfl rfl (fL_ok fun l h => minimal_does l h.1 h.2)

theorem minimalX_does (l : List Int) : DoesF Try.prog 24 [lV l] [] (.tup [lV (if listE l = 0 then minS l else []), eV (listE l)]) [] := by
  refine DoesF.body _ Try.func24 rfl rfl rfl rfl ?_
  refine KW.goIf lay_ok T12_ok 100 rfl (by simp) rfl trivial (fun h => ?_) fun h => ?_
  · refine KW.go lay_ok T12_ok 100 rfl (by simp) ?_
    refine KW.conv 2 (ints []) rfl ⟨rfl, rfl⟩ ?_
    refine KW.fin [] rfl rfl ?_ trivial
    simp [listsE_one] at h
    simp [SV.ren, renL, EV.ren, listsE_one, h]
  · simp [listsE_one] at h
    have h1 := listE_len h
    have h2 := listE_valid h
    refine KW.goRet lay_ok T12_ok 100 rfl rfl ?_ (by simpa using ⟨h2, by omega⟩) trivial
    simp [SV.ren, renL, EV.ren, h, errV]

theorem meetsC_does (t s : Int) : DoesF Try.prog 39 [iV t, .pe 1 1 (fun _ q => .lit (.int .i64 s)) 0 0] [] (sB (decide (iand .i64 t s = 0))) [] := by
  refine DoesF.body _ Try.func39 rfl rfl rfl rfl ?_
  refine KW.goRet lay_ok T12_ok 100 rfl rfl ?_ (by simp) trivial
  simp only [SV.ren, EV.ren]
  congr 5

theorem meets_does (l : List Int) (s : Int) : DoesF Try.prog 12 [lV l, iV s] [] (.tup [bV (decide (listE l = 0) && validS s && !l.any (fun t => decide (iand .i64 t s = 0))), eV (if listE l = 0 then if validS s then 0 else 3 else listE l)]) [] := by
  refine DoesF.body _ Try.func12 rfl rfl rfl rfl ?_
  refine KW.goIf lay_ok T12_ok 100 rfl (by simp) rfl trivial (fun h => ?_) fun h => ?_
  · refine KW.goRet lay_ok T12_ok 100 rfl rfl ?_ (by simp) trivial
    simp [listsE_one] at h
    simp [SV.ren, renL, EV.ren, h, listsE_one]
  · simp [listsE_one] at h
    refine KW.goIf lay_ok T12_ok 100 rfl (by simp) rfl trivial (fun h' => ?_) fun h' => ?_
    · refine KW.goRet lay_ok T12_ok 100 rfl rfl ?_ (by simp) trivial
      simp at h'
      simp [SV.ren, renL, EV.ren, h, h', errV]
    · simp at h'
      refine KW.go lay_ok T12_ok 100 rfl (by simp) ?_
      refine KW.callV0 (containsFunc_does (m := 1) (ks := fun _ => 1) (caps := fun _ _ => .lit (.int .i64 s)) (p := fun t => decide (iand .i64 t s = 0)) l ⟨enters Try.func39 rfl rfl, fun x _ => meetsC_does x s⟩) (enters Try.func36 rfl rfl) [3] (.inl rfl) rfl rfl rfl rfl rfl trivial
        ⟨⟨_, _, rfl, trivial, .conv (CVEq.refl _)⟩, ⟨_, _, rfl, trivial, .lfn rfl ?_⟩, trivial⟩ rfl (.inr trivial) ?_
      · intro j hj
        obtain rfl : j = 0 := by omega
        refine ⟨3, _, _, _, rfl, rfl, rfl, rfl, fun q hq => ?_⟩
        obtain rfl : q = 0 := by omega
        rfl
      · refine KW.goRet lay_ok T12_ok 100 rfl rfl ?_ (by simp) trivial
        simp [SV.ren, renL, EV.ren, h, h', errV]

theorem restrict_does (l : List Int) (f w : Int) : DoesF Try.prog 13 [lV l, iV f, iV w] [] (.tup [lV (if restrE l f w = 0 then minS (restrL l f w) else []), eV (restrE l f w)]) [] := by
  refine DoesF.body _ Try.func13 rfl rfl rfl rfl ?_
  have nil : ∀ {k e A Q}, lk A.sl 6 = some (.e (.c (.lit (.slice none 0 0)))) → KW Try.prog k e ⟨A.n, (6, .e (.c (ints []))) :: A.sl, A.rs⟩ Q → KW Try.prog k e A Q := fun hl hk => KW.conv 6 (ints []) hl ⟨rfl, rfl⟩ hk
  refine KW.goIf lay_ok T12_ok 100 rfl (by simp) rfl trivial (fun h => ?_) fun h => ?_
  · refine KW.go lay_ok T12_ok 100 rfl (by simp) (nil rfl ?_)
    refine KW.fin [] rfl rfl ?_ trivial
    simp [listsE_one] at h
    simp [SV.ren, renL, EV.ren, listsE_one, restrE, h]
  · simp [listsE_one] at h
    refine KW.goIf lay_ok T12_ok 100 rfl (by simp) rfl trivial (fun h1 => ?_) fun h1 => ?_
    · refine KW.go lay_ok T12_ok 100 rfl (by simp) (nil rfl ?_)
      refine KW.fin [] rfl rfl ?_ trivial
      have hv : ¬ (validS f = true ∧ validS w = true) := by
        intro hv; simp [hv.1, hv.2] at h1
      simp [SV.ren, renL, EV.ren, restrE, h, hv, errV]
    · have hv : validS f = true ∧ validS w = true := by
        cases hf : validS f <;> cases hw : validS w <;> simp [hf, hw] at h1 ⊢
      refine KW.goIf lay_ok T12_ok 100 rfl (by simp) rfl trivial (fun h2 => ?_) fun h2 => ?_
      · refine KW.go lay_ok T12_ok 100 rfl (by simp) (nil rfl ?_)
        refine KW.fin [] rfl rfl ?_ trivial
        simp at h2
        simp [SV.ren, renL, EV.ren, restrE, h, hv, h2, errV]
      · simp at h2
        have hE : restrE l f w = 0 := by simp [restrE, h, hv, h2]
        have hlen := listE_len h
        have hval := listE_valid h
        refine KW.go lay_ok T12_ok 100 rfl (by simp) ?_
        refine KW.nilO 9 9 3 (ints []) rfl rfl rfl ?_
        refine KW.lp (I := fun q : Nat => ⟨Try.f13.ntmps, [(1, sI f), (2, sI w), (9, .e (.r 9)), (34, .e (lV l)), (35, sI l.length), (36, sI q)], [(9, .own 3 (ints (restrL (l.take q) f w)))]⟩)
          (R := fun q => q ≤ l.length) (m := fun q => l.length - q) 0 (by simp) [(9, 9)] ⟨rfl, rfl, ⟨rfl, rfl, rfl, rfl, rfl, rfl, trivial⟩, ⟨rfl, trivial⟩⟩ ?_
        rintro q hq0
        have hrl : (restrL (l.take q) f w).length ≤ 1024 := by
          unfold restrL
          rw [List.length_map]
          exact Nat.le_trans (List.length_filter_le _ _) (by simp; omega)
        refine KW.goIf lay_ok T12_ok 100 rfl (by simp) rfl trivial (fun h3 => ?_) fun h3 => ?_
        · have hq : q < l.length := by simpa using h3
          have hg : l.getD (Int.toNat (q : Int)) 0 = l[q] := by simp [List.getD_eq_getElem?_getD, hq]
          have ht : restrL (l.take (q + 1)) f w = restrL (l.take q) f w ++ if iand .i64 l[q] w = 0 then [iandNot .i64 l[q] f] else [] := by
            rw [List.take_succ_eq_append_getElem hq]
            unfold restrL
            rw [List.filter_append, List.map_append]
            by_cases hc : iand .i64 l[q] w = 0 <;> simp [hc]
          refine KW.goIf lay_ok T12_ok 100 rfl (by simp <;> omega) rfl trivial (fun h4 => ?_) fun h4 => ?_
          · simp only [hg, beq_iff_eq] at h4
            refine KW.goToR lay_ok T12_ok 100 rfl (q + 1) [(9, 49)] rfl rfl ⟨rfl, rfl, rfl, rfl, rfl, rfl, trivial⟩ (by simp [inK] <;> omega) ⟨by omega, by omega⟩ ⟨own_cat _ ?_, trivial⟩
            rw [ht, if_pos h4, hg]
          · have h4' : ¬ iand .i64 l[q] w = 0 := by rw [← hg]; simpa using h4
            refine KW.goToR lay_ok T12_ok 100 rfl (q + 1) [(9, 9)] rfl rfl ⟨rfl, rfl, rfl, rfl, rfl, rfl, trivial⟩ (by simp [inK] <;> omega) ⟨by omega, by omega⟩ ⟨own_cat1 _ ?_, trivial⟩
            rw [ht, if_neg h4', List.append_nil]
        · have hq : q = l.length := by simp at h3; omega
          have hall : restrL (l.take q) f w = restrL l f w := by rw [hq, List.take_length]
          refine KW.goOut lay_ok T12_ok 100 rfl (by simp) ?_
          refine KW.go lay_ok T12_ok 100 rfl (by simp) ?_
          refine KW.frz 9 [51] rfl rfl rfl ?_
          refine KW.goRet lay_ok T12_ok 100 rfl rfl ?_ ?_ trivial
          · rw [hE]
            simp [SV.ren, renL, EV.ren, errV, hall, unI_ints]
          · simp only [unI_ints, hall, isI_ints, true_and, and_true]
            refine ⟨fun x hx => ?_, by rw [← hall]; omega⟩
            unfold restrL at hx
            rw [List.mem_map] at hx
            obtain ⟨y, hy, rfl⟩ := hx
            exact valid_iandNot (hval y (List.mem_filter.1 hy).1)

theorem least_does (l : List Int) (hb : l.length ≤ 1099511627776) : DoesF Try.prog 43 [lV l] [] (.e (lV (leastS l))) [] := by
  refine DoesF.body _ Try.func43 rfl rfl rfl rfl ?_
  have T_ok : FnsOk Try.prog ((55, fII (fun a b => sB (partB a b)) fun _ _ => True) :: T12) := .cons T12_ok Try.func55 rfl rfl (fII_ok fun a b _ => part_does a b)
  have hSl := sortS_length l
  refine KW.go lay_ok T_ok 100 rfl (by simpa using hb) ?_
  simp only [unI_ints]
  generalize hS : sortS l = S at hSl
  refine KW.nilO 3 3 3 (ints []) rfl rfl rfl ?_
  refine KW.lp (I := fun q : List Int × Nat => ⟨Try.f43.ntmps, [(3, .e (.r 3)), (10, .e (.c (ints S))), (11, sI S.length), (12, sI q.2)], [(3, .own 3 (ints q.1))]⟩)
    (R := fun q => q.2 ≤ S.length ∧ leastL q.1 (S.drop q.2) = leastS l ∧ q.1.length ≤ q.2) (m := fun q => S.length - q.2) ([], 0) ⟨by simp, by simp [leastS, hS], by simp⟩ [(3, 3)] ⟨rfl, rfl, ⟨rfl, rfl, rfl, rfl, trivial⟩, ⟨rfl, trivial⟩⟩ ?_
  rintro ⟨out, q⟩ ⟨h1, h2, h3⟩
  simp only at h1 h2 h3
  refine KW.goIf lay_ok T_ok 100 rfl (by simp) rfl trivial (fun h => ?_) fun h => ?_
  · have hq : q < S.length := by simpa using h
    have hg : S.getD (Int.toNat (q : Int)) 0 = S[q] := by simp [List.getD_eq_getElem?_getD, hq]
    have hd : S.drop q = S[q] :: S.drop (q + 1) := List.drop_eq_getElem_cons hq
    rw [hd, leastL] at h2
    refine KW.goLpR lay_ok T_ok 100 rfl (I := fun p : Nat => ⟨Try.f43.ntmps, [(3, .e (.r 3)), (5, sI S[q]), (6, sB ((out.take p).all fun x => !partB x S[q])), (10, .e (.c (ints S))), (11, sI S.length), (12, sI q), (16, .e (.r 3)), (17, sI out.length), (18, sI p)], [(3, .own 3 (ints out))]⟩)
      (R := fun p => p ≤ out.length) (m := fun p => out.length - p) 0 [(3, 3)] rfl rfl ⟨rfl, by rw [← hg]; rfl, rfl, rfl, rfl, rfl, rfl, rfl, rfl, trivial⟩ (by simp; omega) (by simp) ⟨rfl, trivial⟩ ?_
    rintro p hp0
    refine KW.goIf lay_ok T_ok 100 rfl (by simp) rfl trivial (fun h => ?_) fun h => ?_
    · have hp : p < out.length := by simpa using h
      have hgp : out.getD (Int.toNat (p : Int)) 0 = out[p] := by simp [List.getD_eq_getElem?_getD, hp]
      refine KW.goToR lay_ok T_ok 100 rfl (p + 1) [(3, 3)] rfl rfl ⟨rfl, rfl, ?_, rfl, rfl, rfl, rfl, rfl, rfl, trivial⟩ (by simp [inK] <;> omega) ⟨by omega, by omega⟩ ⟨rfl, trivial⟩
      rw [List.take_succ_eq_append_getElem hp, List.all_append, ← hgp]
      simp only [List.all_cons, List.all_nil, Bool.and_true]
      rfl
    · have hp : p = out.length := by simp at h; omega
      refine KW.goOut lay_ok T_ok 100 rfl (by simp) ?_
      refine KW.goIf lay_ok T_ok 100 rfl (by simp) rfl trivial (fun h => ?_) fun h => ?_
      · rw [hp, List.take_length] at h
        rw [h] at h2
        refine KW.goToR lay_ok T_ok 100 rfl (out ++ [S[q]], q + 1) [(3, 34)] rfl rfl ⟨rfl, rfl, rfl, rfl, trivial⟩ (by simp [inK] <;> omega) ⟨⟨by simp only; omega, by simpa using h2, by simp; omega⟩, by simp only; omega⟩ ⟨own_cat _ rfl, trivial⟩
      · rw [hp, List.take_length] at h
        rw [h] at h2
        refine KW.goToR lay_ok T_ok 100 rfl (out, q + 1) [(3, 3)] rfl rfl ⟨rfl, rfl, rfl, rfl, trivial⟩ (by simp [inK] <;> omega) ⟨⟨by simp only; omega, by simpa using h2, by simp only; omega⟩, by simp only; omega⟩ ⟨rfl, trivial⟩
  · have hq : q = S.length := by simp at h; omega
    refine KW.goOut lay_ok T_ok 100 rfl (by simp) ?_
    refine KW.goRetO lay_ok T_ok 100 rfl 3 2 rfl rfl rfl ?_ (by simp <;> omega)
    rw [hq, List.drop_length, leastL] at h2
    rw [h2]
end Go.Proofs.Ytdhlhgomaaiggaa
