/-
  family.Product, the specification of Restrict, few and awake of the law compute their Lean functions.
-/
import Derived.Test.YtdhlhgomaaiggaaFnJ
import Derived.Test.YtdhlhgomaaiggaaPuG
set_option linter.unusedVariables false
set_option linter.unusedSimpArgs false
namespace Go.Proofs.Ytdhlhgomaaiggaa
open Go.Sy Go.Pu

def T13 : Fns := (43, fL (fun l => .e (lV (leastS l))) fun l => l.length ≤ 1099511627776) :: (48, fL (fun l => .tup [lV (limL l), iV (limE l)]) fun l => True) :: (47, fLL (fun a b => sI (bothE a b)) fun _ _ => True) ::
  (14, fLI (fun l s => .tup [bV (decide (listE l = 0) && validS s && l.any (fun t => decide (iand .i64 t s = t))), iV (if listE l = 0 then if validS s then 0 else 3 else listE l)]) fun _ _ => True) ::
  (15, fLI (fun l s => .tup [bV (decide (listE l = 0) && validS s && !l.any (fun t => decide (iand .i64 t s = 0))), iV (if listE l = 0 then if validS s then 0 else 3 else listE l)]) fun _ _ => True) ::
  (24, fL (fun l => .tup [lV (if listE l = 0 then minS l else []), eV (listE l)]) fun _ => True) ::
  (11, fLI (fun l s => .tup [bV (decide (listE l = 0) && validS s && l.any (fun t => subS t s)), eV (if listE l = 0 then if validS s then 0 else 3 else listE l)]) fun _ _ => True) ::
  (12, fLI (fun l s => .tup [bV (decide (listE l = 0) && validS s && !l.any (fun t => decide (iand .i64 t s = 0))), eV (if listE l = 0 then if validS s then 0 else 3 else listE l)]) fun _ _ => True) ::
  (13, fLII (fun l f w => .tup [lV (if restrE l f w = 0 then minS (restrL l f w) else []), eV (restrE l f w)]) fun _ _ _ => True) :: T12
theorem T13_ok : FnsOk Try.prog T13 := .cons (.cons (.cons (.cons (.cons (.cons (.cons (.cons (.cons T12_ok Try.func13 rfl rfl (fLII_ok fun l f w _ => restrict_does l f w))
  Try.func12 rfl rfl (fLI_ok fun l s _ => meets_does l s)) Try.func11 rfl rfl (fLI_ok fun l s _ => covers_does l s)) Try.func24 rfl rfl (fL_ok fun l _ => minimalX_does l))
  Try.func15 rfl rfl (fLI_ok fun l s _ => rmeets_does l s)) Try.func14 rfl rfl (fLI_ok fun l s _ => rcovers_does l s)) Try.func47 rfl rfl (fLL_ok fun a b _ => both_does a b))
  Try.func48 rfl rfl (fL_ok fun l _ => limited_does l)) Try.func43 rfl rfl (fL_ok fun l h => least_does l h)

theorem rrestrict_does (l : List Int) (f w : Int) : DoesF Try.prog 16 [lV l, iV f, iV w] [] (.tup [lV (if restrE l f w = 0 then leastS (restrL l f w) else []), iV (restrE l f w)]) [] := by
  refine DoesF.body _ Try.func16 rfl rfl rfl rfl ?_
  have nil : ∀ {k e A Q}, lk A.sl 6 = some (.e (.c (.lit (.slice none 0 0)))) → KW Try.prog k e ⟨A.n, (6, .e (.c (ints []))) :: A.sl, A.rs⟩ Q → KW Try.prog k e A Q := fun hl hk => KW.conv 6 (ints []) hl ⟨rfl, rfl⟩ hk
  refine KW.goIf lay_ok T13_ok 100 rfl (by simp) rfl trivial (fun h => ?_) fun h => ?_
  · refine KW.go lay_ok T13_ok 100 rfl (by simp) (nil rfl ?_)
    refine KW.fin [] rfl rfl ?_ trivial
    simp at h
    simp [SV.ren, renL, EV.ren, restrE, h]
  · simp at h
    refine KW.goIf lay_ok T13_ok 100 rfl (by simp) rfl trivial (fun h1 => ?_) fun h1 => ?_
    · refine KW.go lay_ok T13_ok 100 rfl (by simp) (nil rfl ?_)
      refine KW.fin [] rfl rfl ?_ trivial
      have hv : ¬ (validS f = true ∧ validS w = true) := by
        intro hv; simp [hv.1, hv.2] at h1
      simp [SV.ren, renL, EV.ren, restrE, h, hv, errV]
    · have hv : validS f = true ∧ validS w = true := by
        cases hf : validS f <;> cases hw : validS w <;> simp [hf, hw] at h1 ⊢
      refine KW.goIf lay_ok T13_ok 100 rfl (by simp) rfl trivial (fun h2 => ?_) fun h2 => ?_
      · refine KW.go lay_ok T13_ok 100 rfl (by simp) (nil rfl ?_)
        refine KW.fin [] rfl rfl ?_ trivial
        simp at h2
        simp [SV.ren, renL, EV.ren, restrE, h, hv, h2, errV]
      · simp at h2
        have hE : restrE l f w = 0 := by simp [restrE, h, hv, h2]
        have hlen := listE_len h
        refine KW.go lay_ok T13_ok 100 rfl (by simp) ?_
        refine KW.nilO 9 9 3 (ints []) rfl rfl rfl ?_
        refine KW.lp (I := fun q : Nat => ⟨Try.f16.ntmps, [(1, sI f), (2, sI w), (9, .e (.r 9)), (29, .e (lV l)), (30, sI l.length), (31, sI q)], [(9, .own 3 (ints (restrL (l.take q) f w)))]⟩)
          (R := fun q => q ≤ l.length) (m := fun q => l.length - q) 0 (by simp) [(9, 9)] ⟨rfl, rfl, ⟨rfl, rfl, rfl, rfl, rfl, rfl, trivial⟩, ⟨rfl, trivial⟩⟩ ?_
        rintro q hq0
        have hrl : (restrL (l.take q) f w).length ≤ 1024 := by
          unfold restrL
          rw [List.length_map]
          exact Nat.le_trans (List.length_filter_le _ _) (by simp; omega)
        refine KW.goIf lay_ok T13_ok 100 rfl (by simp) rfl trivial (fun h3 => ?_) fun h3 => ?_
        · have hq : q < l.length := by simpa using h3
          have hg : l.getD (Int.toNat (q : Int)) 0 = l[q] := by simp [List.getD_eq_getElem?_getD, hq]
          have ht : restrL (l.take (q + 1)) f w = restrL (l.take q) f w ++ if iand .i64 l[q] w = 0 then [iandNot .i64 l[q] f] else [] := by
            rw [List.take_succ_eq_append_getElem hq]
            unfold restrL
            rw [List.filter_append, List.map_append]
            by_cases hc : iand .i64 l[q] w = 0 <;> simp [hc]
          refine KW.goIf lay_ok T13_ok 100 rfl (by simp <;> omega) rfl trivial (fun h4 => ?_) fun h4 => ?_
          · simp only [hg, beq_iff_eq] at h4
            refine KW.goToR lay_ok T13_ok 100 rfl (q + 1) [(9, 44)] rfl rfl ⟨rfl, rfl, rfl, rfl, rfl, rfl, trivial⟩ (by simp [inK] <;> omega) ⟨by omega, by omega⟩ ⟨own_cat _ ?_, trivial⟩
            rw [ht, if_pos h4, hg]
          · have h4' : ¬ iand .i64 l[q] w = 0 := by rw [← hg]; simpa using h4
            refine KW.goToR lay_ok T13_ok 100 rfl (q + 1) [(9, 9)] rfl rfl ⟨rfl, rfl, rfl, rfl, rfl, rfl, trivial⟩ (by simp [inK] <;> omega) ⟨by omega, by omega⟩ ⟨own_cat1 _ ?_, trivial⟩
            rw [ht, if_neg h4', List.append_nil]
        · have hq : q = l.length := by simp at h3; omega
          have hall : restrL (l.take q) f w = restrL l f w := by rw [hq, List.take_length]
          refine KW.goOut lay_ok T13_ok 100 rfl (by simp) ?_
          refine KW.go lay_ok T13_ok 100 rfl (by simp) ?_
          refine KW.frz 9 [46] rfl rfl rfl ?_
          refine KW.goRet lay_ok T13_ok 100 rfl rfl ?_ ?_ trivial
          · rw [hE]
            simp [SV.ren, renL, EV.ren, errV, hall, unI_ints]
          · simp only [unI_ints, hall, isI_ints, true_and, and_true]
            rw [← hall]; omega

theorem few_does (ls : List (List Int)) : DoesF Try.prog 9 [.c (intss ls)] [] (sB (ls.all fun a => !fewB a)) [] := by
  refine DoesF.body _ Try.func9 rfl rfl rfl rfl ?_
  refine KW.len 0 rfl rfl fun hla => ?_
  refine KW.goLp lay_ok T13_ok 100 rfl (I := fun q : Nat => ⟨Try.f9.ntmps, [(5, .e (.c (intss ls))), (6, sI ls.length), (7, sI q)], []⟩) (R := fun q => q ≤ ls.length ∧ (ls.take q).all (fun a => !fewB a) = true) (m := fun q => ls.length - q) 0 rfl ⟨rfl, rfl, rfl, trivial⟩ (by simp) ⟨by simp, by simp⟩ trivial ?_
  rintro q ⟨h1, h2⟩
  refine KW.goIf lay_ok T13_ok 100 rfl (by simp) rfl trivial (fun h => ?_) fun h => ?_
  · have hq : q < ls.length := by simpa using h
    have hg : ls.getD (Int.toNat (q : Int)) [] = ls[q] := by simp [List.getD_eq_getElem?_getD, hq]
    have hb : ∀ a : List Int, fewB a = (decide ((60 : Int) < a.length) && decide ((a.length : Int) ≤ 1024) || decide ((1200 : Int) < a.length)) := by
      intro a
      unfold fewB
      rw [Bool.eq_iff_iff]
      simp only [Bool.or_eq_true, Bool.and_eq_true, decide_eq_true_eq]
      omega
    refine KW.goIf lay_ok T13_ok 100 rfl (by simp; omega) rfl trivial (fun h => ?_) fun h => ?_
    · refine KW.goOutR lay_ok T13_ok 100 rfl (by simp) ?_
      refine KW.goRet lay_ok T13_ok 100 rfl rfl ?_ (by simp) trivial
      have hf : fewB ls[q] = true := by rw [hb, ← hg]; exact h
      have : ls.all (fun a => !fewB a) = false := by
        rw [List.all_eq_false]
        exact ⟨ls[q], List.getElem_mem hq, by simp [hf]⟩
      rw [this]; rfl
    · refine KW.goTo lay_ok T13_ok 100 rfl (q + 1) rfl ⟨rfl, rfl, rfl, trivial⟩ (by simp [inK]; omega) ⟨⟨by omega, ?_⟩, by omega⟩ trivial
      have hf : fewB ls[q] = false := by rw [hb, ← hg]; exact h
      rw [List.take_succ_eq_append_getElem hq, List.all_append, h2]
      simp [hf]
  · have hq : q = ls.length := by simp at h; omega
    refine KW.goOut lay_ok T13_ok 100 rfl (by simp) ?_
    refine KW.goRet lay_ok T13_ok 100 rfl rfl ?_ (by simp) trivial
    rw [hq, List.take_length] at h2
    rw [h2]; rfl

theorem product_does (a b : List Int) : DoesF Try.prog 23 [lV a, lV b] [] (.tup [lV (if bothE a b = 0 then limL (minS (unionsC a b)) else []), eV (if bothE a b = 0 then limE (minS (unionsC a b)) else bothE a b)]) [] := by
  refine DoesF.body _ Try.func23 rfl rfl rfl rfl ?_
  refine KW.goIf lay_ok T13_ok 100 rfl (by simp) rfl trivial (fun h => ?_) fun h => ?_
  · refine KW.go lay_ok T13_ok 100 rfl (by simp) ?_
    refine KW.conv 4 (ints []) rfl ⟨rfl, rfl⟩ ?_
    refine KW.fin [] rfl rfl ?_ trivial
    simp [listsE_two] at h
    simp [SV.ren, renL, EV.ren, listsE_two, h]
  · simp [listsE_two] at h
    have h1 : listE a = 0 := by unfold bothE at h; split at h <;> simp_all
    have h2 : listE b = 0 := by unfold bothE at h; split at h <;> simp_all
    have la := listE_len h1
    have lb := listE_len h2
    have va := listE_valid h1
    have vb := listE_valid h2
    have hma := minS_length a
    have hmb := minS_length b
    refine KW.go lay_ok T13_ok 100 rfl (by simpa using ⟨⟨va, by omega⟩, vb, by omega⟩) ?_
    simp only [unI_ints]
    generalize hA : minS a = MA at hma
    generalize hB : minS b = MB at hmb
    refine KW.makeMap rfl rfl rfl rfl rfl ?_
    refine KW.go lay_ok T13_ok 100 rfl (by simp) ?_
    refine KW.nilO 8 8 3 (ints []) rfl rfl rfl ?_
    refine KW.lp (I := fun q : Nat => ⟨Try.f23.ntmps, [(1, .e (lV MB)), (7, .e (.r 25)), (8, .e (.r 8)), (26, .e (lV MA)), (27, sI MA.length), (28, sI q)], [(8, .own 3 (ints (addAll [] (unionsL (MA.take q) MB)))), (25, .mset (addAll [] (unionsL (MA.take q) MB)).reverse)]⟩)
      (R := fun q => q ≤ MA.length) (m := fun q => MA.length - q) 0 (by simp) [(8, 8), (25, 25)] ⟨rfl, rfl, ⟨rfl, rfl, rfl, rfl, rfl, rfl, trivial⟩, ⟨rfl, rfl, trivial⟩⟩ ?_
    rintro q hq0
    have hUl : (addAll [] (unionsL (MA.take q) MB)).length ≤ 1048576 := by
      have := addAll_length (unionsL (MA.take q) MB) []
      rw [unionsL_length] at this
      have h3 : (MA.take q).length * MB.length ≤ 1024 * 1024 := Nat.mul_le_mul (by simp; omega) (by omega)
      simp only [List.length_nil, Nat.zero_add] at this
      omega
    refine KW.goIf lay_ok T13_ok 100 rfl (by simp) rfl trivial (fun h3 => ?_) fun h3 => ?_
    · have hq : q < MA.length := by simpa using h3
      have hg : MA.getD (Int.toNat (q : Int)) 0 = MA[q] := by simp [List.getD_eq_getElem?_getD, hq]
      have hsucc : unionsL (MA.take (q + 1)) MB = unionsL (MA.take q) MB ++ MB.map fun y => ior .i64 MA[q] y := by
        unfold unionsL
        rw [List.take_succ_eq_append_getElem hq, List.flatMap_append, List.flatMap_singleton]
      generalize hU : addAll [] (unionsL (MA.take q) MB) = U at hUl
      refine KW.goLpR lay_ok T13_ok 100 rfl (I := fun p : Nat => ⟨Try.f23.ntmps, [(1, .e (lV MB)), (7, .e (.r 25)), (8, .e (.r 8)), (10, sI MA[q]), (26, .e (lV MA)), (27, sI MA.length), (28, sI q), (32, .e (lV MB)), (33, sI MB.length), (34, sI p)], [(8, .own 3 (ints (addAll U ((MB.take p).map fun y => ior .i64 MA[q] y)))), (25, .mset (addAll U ((MB.take p).map fun y => ior .i64 MA[q] y)).reverse)]⟩)
        (R := fun p => p ≤ MB.length) (m := fun p => MB.length - p) 0 [(8, 8), (25, 25)] rfl rfl ⟨rfl, rfl, rfl, by rw [← hg]; rfl, rfl, rfl, rfl, rfl, rfl, rfl, trivial⟩ (by simp; omega) (by simp) ⟨rfl, rfl, trivial⟩ ?_
      rintro p hp0
      have hVl : (addAll U ((MB.take p).map fun y => ior .i64 MA[q] y)).length ≤ 2097152 := by
        have := addAll_length ((MB.take p).map fun y => ior .i64 MA[q] y) U
        simp only [List.length_map, List.length_take] at this
        omega
      refine KW.goIf lay_ok T13_ok 100 rfl (by simp) rfl trivial (fun h4 => ?_) fun h4 => ?_
      · have hp : p < MB.length := by simpa using h4
        have hgp : MB.getD (Int.toNat (p : Int)) 0 = MB[p] := by simp [List.getD_eq_getElem?_getD, hp]
        have hps : addAll U ((MB.take (p + 1)).map fun y => ior .i64 MA[q] y) = addAll (addAll U ((MB.take p).map fun y => ior .i64 MA[q] y)) [ior .i64 MA[q] MB[p]] := by
          rw [List.take_succ_eq_append_getElem hp, List.map_append, addAll_append]; rfl
        generalize addAll U ((MB.take p).map fun y => ior .i64 MA[q] y) = V at hVl hps
        refine KW.go lay_ok T13_ok 100 rfl (by simp; omega) ?_
        refine KW.look lay_ok rfl rfl rfl rfl rfl rfl rfl rfl trivial trivial ?_
        rw [hgp]
        refine KW.goIf lay_ok T13_ok 100 rfl (by simp) rfl trivial (fun h5 => ?_) fun h5 => ?_
        · have hnot : ¬ ior .i64 MA[q] MB[p] ∈ V := by simpa using h5
          refine KW.go lay_ok T13_ok 100 rfl (by simp) ?_
          refine KW.mapPut lay_ok rfl rfl rfl rfl rfl rfl rfl trivial trivial ?_
          refine KW.goToR lay_ok T13_ok 100 rfl (p + 1) [(8, 50), (25, 25)] rfl rfl ⟨rfl, rfl, rfl, rfl, rfl, rfl, rfl, rfl, rfl, rfl, trivial⟩ (by simp [inK] <;> omega) ⟨by omega, by omega⟩ ⟨own_cat _ ?_, ?_, trivial⟩
          · rw [hps, addAll, addAll, if_neg hnot]
          · rw [hps, addAll, addAll, if_neg hnot, List.reverse_append]; rfl
        · have hin : ior .i64 MA[q] MB[p] ∈ V := by simpa using h5
          refine KW.goToR lay_ok T13_ok 100 rfl (p + 1) [(8, 8), (25, 25)] rfl rfl ⟨rfl, rfl, rfl, rfl, rfl, rfl, rfl, rfl, rfl, rfl, trivial⟩ (by simp [inK] <;> omega) ⟨by omega, by omega⟩ ⟨own_cat1 _ ?_, ?_, trivial⟩
          · rw [hps, addAll, addAll, if_pos hin]
          · rw [hps, addAll, addAll, if_pos hin]; rfl
      · have hp : p = MB.length := by simp at h4; omega
        have hfin : addAll U ((MB.take p).map fun y => ior .i64 MA[q] y) = addAll [] (unionsL (MA.take (q + 1)) MB) := by
          rw [hp, List.take_length, ← hU, hsucc, addAll_append]
        refine KW.goOut lay_ok T13_ok 100 rfl (by simp) ?_
        refine KW.goToR lay_ok T13_ok 100 rfl (q + 1) [(8, 8), (25, 25)] rfl rfl ⟨rfl, rfl, rfl, rfl, rfl, rfl, trivial⟩ (by simp [inK] <;> omega) ⟨by omega, by omega⟩ ⟨own_cat1 _ hfin, ?_, trivial⟩
        rw [← hfin]; rfl
    · have hq : q = MA.length := by simp at h3; omega
      have hU : addAll [] (unionsL (MA.take q) MB) = unionsC a b := by rw [hq, List.take_length]; unfold unionsC; rw [hA, hB]
      refine KW.goOut lay_ok T13_ok 100 rfl (by simp) ?_
      refine KW.go lay_ok T13_ok 100 rfl (by simp) ?_
      refine KW.frz 8 [53] rfl rfl rfl ?_
      refine KW.goRet lay_ok T13_ok 100 rfl rfl ?_ ?_ trivial
      · simp [SV.ren, renL, EV.ren, hU, h, unI_ints]
      · simp only [unI_ints, isI_ints, true_and, and_true]
        rw [hU]
        exact ⟨unionsC_valid va vb, by rw [← hU]; omega⟩

def T14 : Fns := (23, fLL (fun a b => .tup [lV (if bothE a b = 0 then limL (minS (unionsC a b)) else []), eV (if bothE a b = 0 then limE (minS (unionsC a b)) else bothE a b)]) fun _ _ => True) ::
  (9, fLs (fun ls => sB (ls.all fun a => !fewB a)) fun _ => True) ::
  (16, fLII (fun l f w => .tup [lV (if restrE l f w = 0 then leastS (restrL l f w) else []), iV (restrE l f w)]) fun _ _ _ => True) :: T13
theorem T14_ok : FnsOk Try.prog T14 := .cons (.cons (.cons T13_ok Try.func16 rfl rfl (fLII_ok fun l f w _ => rrestrict_does l f w)) Try.func9 rfl rfl (fLs_ok fun ls _ => few_does ls))
  Try.func23 rfl rfl (fLL_ok fun a b _ => product_does a b)

theorem awake_does : DoesF Try.prog 10 [] [] (sB true) [] := by
  refine DoesF.body _ Try.func10 rfl rfl rfl rfl ?_
  have e1 : listE [3, 1, 6] = 0 := by decide
  have e2 : bothE [1, 2] [1, 4] = 0 := by decide
  have e3 := ex6
  refine KW.go lay_ok T14_ok 100 rfl (by simp) ?_
  refine KW.frz1 8 rfl rfl rfl ?_
  refine KW.go lay_ok T14_ok 100 rfl (by simp) ?_
  refine KW.frz1 13 rfl rfl rfl ?_
  refine KW.frz1 14 rfl rfl rfl ?_
  refine KW.go lay_ok T14_ok 100 rfl (by simp) ?_
  refine KW.frz1 19 rfl rfl rfl ?_
  refine KW.go lay_ok T14_ok 100 rfl (by simp) ?_
  simp only [unI_ints, e1, e2, e3.1, e3.2, ex1, ex4, ex5, ex7, if_true]
  refine KW.guardT rfl rfl (by simp [ex1, ex4, ex5, ex7, limE]) ?_
  refine KW.go lay_ok T14_ok 100 rfl (by simp) ?_
  refine KW.guardT rfl rfl (by simp [limE, limL]) ?_
  refine KW.go lay_ok T14_ok 100 rfl (by simp) ?_
  refine KW.guardT rfl rfl (by simp [limE, limL]) ?_
  refine KW.goRet lay_ok T14_ok 100 rfl rfl ?_ (by simp) trivial
  simp [SV.ren, EV.ren, limE, limL]
end Go.Proofs.Ytdhlhgomaaiggaa
