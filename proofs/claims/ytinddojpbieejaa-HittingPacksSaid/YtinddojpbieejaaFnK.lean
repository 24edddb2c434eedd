/-
  family.Product, the specification of Restrict, few and awake of the law compute their Lean functions.
-/
import Derived.Test.YtinddojpbieejaaFnJ
import Derived.Test.YtinddojpbieejaaPuA
set_option linter.unusedVariables false
set_option linter.unusedSimpArgs false
namespace Go.Proofs.Ytinddojpbieejaa
open Go.Sy Go.Pu

def T13 : Fns := (38, fL (fun l => .e (lV (leastS l))) fun l => l.length ≤ 1099511627776) ::
  (67, fL (fun l => .tup [lV (limL l), iV (limE l)]) fun l => True) ::
  (41, fLL (fun a b => sI (bothE a b)) fun _ _ => True) ::
  (61, fLI (fun l s => .tup [bV (decide (listE l = 0) && validS s && !l.any (fun t => decide (iand .i64 t s = 0))), iV (if listE l = 0 then if validS s then 0 else 3 else listE l)]) fun _ _ => True) ::
  (21, fL (fun l => .tup [lV (if listE l = 0 then minS l else []), eV (listE l)]) fun _ => True) ::
  (26, fLI (fun l s => .tup [bV (decide (listE l = 0) && validS s && l.any (fun t => subS t s)), eV (if listE l = 0 then if validS s then 0 else 3 else listE l)]) fun _ _ => True) ::
  (25, fLI (fun l s => .tup [bV (decide (listE l = 0) && validS s && !l.any (fun t => decide (iand .i64 t s = 0))), eV (if listE l = 0 then if validS s then 0 else 3 else listE l)]) fun _ _ => True) ::
  T12
theorem T13_ok : FnsOk Try.prog T13 := .cons (.cons (.cons (.cons (.cons (.cons (.cons (T12_ok) Try.func25 rfl rfl (fLI_ok fun l s _ => meets_does l s)) Try.func26 rfl rfl (fLI_ok fun l s _ => covers_does l s)) Try.func21 rfl rfl (fL_ok fun l _ => minimalX_does l)) Try.func61 rfl rfl (fLI_ok fun l s _ => rmeets_does l s)) Try.func41 rfl rfl (fLL_ok fun a b _ => both_does a b)) Try.func67 rfl rfl (fL_ok fun l _ => limited_does l)) Try.func38 rfl rfl (fL_ok fun l h => least_does l h)


theorem product_does (a b : List Int) : DoesF Try.prog 35 [lV a, lV b] [] (.tup [lV (if bothE a b = 0 then limL (minS (unionsC a b)) else []), eV (if bothE a b = 0 then limE (minS (unionsC a b)) else bothE a b)]) [] := by
  refine DoesF.body _ Try.func35 rfl rfl rfl rfl ?_
  refine KW.goIf lay_ok T13_ok 100 rfl (by simp) rfl trivial (fun h => ?_) fun h => ?_
  · refine KW.go lay_ok T13_ok 100 rfl (by simp) ?_
    refine KW.conv 4 (ints []) rfl ⟨rfl, rfl⟩ ?_
    refine KW.fin [] rfl rfl ?_ trivial
    simp [listsE_two] at h
    simp [SV.ren, renL, EV.ren, listsE_two, h]
  · simp [listsE_two] at h
    have h1 : listE a = 0 := by unfold bothE at h; split at h <;> simp_all
    have h2 : listE b = 0 := by unfold bothE at h; split at h <;> simp_all
    have la := listE_len h1
    have lb := listE_len h2
    have va := listE_valid h1
    have vb := listE_valid h2
    have hma := minS_length a
    have hmb := minS_length b
    refine KW.go lay_ok T13_ok 100 rfl (by simpa using ⟨⟨va, by omega⟩, vb, by omega⟩) ?_
    simp only [unI_ints]
    generalize hA : minS a = MA at hma
    generalize hB : minS b = MB at hmb
    refine KW.makeMap rfl rfl rfl rfl rfl ?_
    refine KW.go lay_ok T13_ok 100 rfl (by simp) ?_
    refine KW.nilO 8 8 3 (ints []) rfl rfl rfl ?_
    refine KW.lp (I := fun q : Nat => ⟨Try.f35.ntmps, [(1, .e (lV MB)), (7, .e (.r 25)), (8, .e (.r 8)), (26, .e (lV MA)), (27, sI MA.length), (28, sI q)], [(8, .own 3 (ints (addAll [] (unionsL (MA.take q) MB)))), (25, .mset (addAll [] (unionsL (MA.take q) MB)).reverse)]⟩)
      (R := fun q => q ≤ MA.length) (m := fun q => MA.length - q) 0 (by simp) [(8, 8), (25, 25)] ⟨rfl, rfl, ⟨rfl, rfl, rfl, rfl, rfl, rfl, trivial⟩, ⟨rfl, rfl, trivial⟩⟩ ?_
    rintro q hq0
    have hUl : (addAll [] (unionsL (MA.take q) MB)).length ≤ 1048576 := by
      have := addAll_length (unionsL (MA.take q) MB) []
      rw [unionsL_length] at this
      have h3 : (MA.take q).length * MB.length ≤ 1024 * 1024 := Nat.mul_le_mul (by simp; omega) (by omega)
      simp only [List.length_nil, Nat.zero_add] at this
      omega
    refine KW.goIf lay_ok T13_ok 100 rfl (by simp) rfl trivial (fun h3 => ?_) fun h3 => ?_
    · have hq : q < MA.length := by simpa using h3
      have hg : MA.getD (Int.toNat (q : Int)) 0 = MA[q] := by simp [List.getD_eq_getElem?_getD, hq]
      have hsucc : unionsL (MA.take (q + 1)) MB = unionsL (MA.take q) MB ++ MB.map fun y => ior .i64 MA[q] y := by
        unfold unionsL
        rw [List.take_succ_eq_append_getElem hq, List.flatMap_append, List.flatMap_singleton]
      generalize hU : addAll [] (unionsL (MA.take q) MB) = U at hUl
      refine KW.goLpR lay_ok T13_ok 100 rfl (I := fun p : Nat => ⟨Try.f35.ntmps, [(1, .e (lV MB)), (7, .e (.r 25)), (8, .e (.r 8)), (10, sI MA[q]), (26, .e (lV MA)), (27, sI MA.length), (28, sI q), (32, .e (lV MB)), (33, sI MB.length), (34, sI p)], [(8, .own 3 (ints (addAll U ((MB.take p).map fun y => ior .i64 MA[q] y)))), (25, .mset (addAll U ((MB.take p).map fun y => ior .i64 MA[q] y)).reverse)]⟩)
        (R := fun p => p ≤ MB.length) (m := fun p => MB.length - p) 0 [(8, 8), (25, 25)] rfl rfl ⟨rfl, rfl, rfl, by rw [← hg]; rfl, rfl, rfl, rfl, rfl, rfl, rfl, trivial⟩ (by simp; omega) (by simp) ⟨rfl, rfl, trivial⟩ ?_
      rintro p hp0
      have hVl : (addAll U ((MB.take p).map fun y => ior .i64 MA[q] y)).length ≤ 2097152 := by
        have := addAll_length ((MB.take p).map fun y => ior .i64 MA[q] y) U
        simp only [List.length_map, List.length_take] at this
        omega
      refine KW.goIf lay_ok T13_ok 100 rfl (by simp) rfl trivial (fun h4 => ?_) fun h4 => ?_
      · have hp : p < MB.length := by simpa using h4
        have hgp : MB.getD (Int.toNat (p : Int)) 0 = MB[p] := by simp [List.getD_eq_getElem?_getD, hp]
        have hps : addAll U ((MB.take (p + 1)).map fun y => ior .i64 MA[q] y) = addAll (addAll U ((MB.take p).map fun y => ior .i64 MA[q] y)) [ior .i64 MA[q] MB[p]] := by
          rw [List.take_succ_eq_append_getElem hp, List.map_append, addAll_append]; rfl
        generalize addAll U ((MB.take p).map fun y => ior .i64 MA[q] y) = V at hVl hps
        refine KW.go lay_ok T13_ok 100 rfl (by simp; omega) ?_
        refine KW.look lay_ok rfl rfl rfl rfl rfl rfl rfl rfl trivial trivial ?_
        rw [hgp]
        refine KW.goIf lay_ok T13_ok 100 rfl (by simp) rfl trivial (fun h5 => ?_) fun h5 => ?_
        · have hnot : ¬ ior .i64 MA[q] MB[p] ∈ V := by simpa using h5
          refine KW.go lay_ok T13_ok 100 rfl (by simp) ?_
          refine KW.mapPut lay_ok rfl rfl rfl rfl rfl rfl rfl trivial trivial ?_
          refine KW.goToR lay_ok T13_ok 100 rfl (p + 1) [(8, 50), (25, 25)] rfl rfl ⟨rfl, rfl, rfl, rfl, rfl, rfl, rfl, rfl, rfl, rfl, trivial⟩ (by simp [inK] <;> omega) ⟨by omega, by omega⟩ ⟨own_cat _ ?_, ?_, trivial⟩
          · rw [hps, addAll, addAll, if_neg hnot]
          · rw [hps, addAll, addAll, if_neg hnot, List.reverse_append]; rfl
        · have hin : ior .i64 MA[q] MB[p] ∈ V := by simpa using h5
          refine KW.goToR lay_ok T13_ok 100 rfl (p + 1) [(8, 8), (25, 25)] rfl rfl ⟨rfl, rfl, rfl, rfl, rfl, rfl, rfl, rfl, rfl, rfl, trivial⟩ (by simp [inK] <;> omega) ⟨by omega, by omega⟩ ⟨own_cat1 _ ?_, ?_, trivial⟩
          · rw [hps, addAll, addAll, if_pos hin]
          · rw [hps, addAll, addAll, if_pos hin]; rfl
      · have hp : p = MB.length := by simp at h4; omega
        have hfin : addAll U ((MB.take p).map fun y => ior .i64 MA[q] y) = addAll [] (unionsL (MA.take (q + 1)) MB) := by
          rw [hp, List.take_length, ← hU, hsucc, addAll_append]
        refine KW.goOut lay_ok T13_ok 100 rfl (by simp) ?_
        refine KW.goToR lay_ok T13_ok 100 rfl (q + 1) [(8, 8), (25, 25)] rfl rfl ⟨rfl, rfl, rfl, rfl, rfl, rfl, trivial⟩ (by simp [inK] <;> omega) ⟨by omega, by omega⟩ ⟨own_cat1 _ hfin, ?_, trivial⟩
        rw [← hfin]; rfl
    · have hq : q = MA.length := by simp at h3; omega
      have hU : addAll [] (unionsL (MA.take q) MB) = unionsC a b := by rw [hq, List.take_length]; unfold unionsC; rw [hA, hB]
      refine KW.goOut lay_ok T13_ok 100 rfl (by simp) ?_
      refine KW.go lay_ok T13_ok 100 rfl (by simp) ?_
      refine KW.frz 8 [53] rfl rfl rfl ?_
      refine KW.goRet lay_ok T13_ok 100 rfl rfl ?_ ?_ trivial
      · simp [SV.ren, renL, EV.ren, hU, h, unI_ints]
      · simp only [unI_ints, isI_ints, true_and, and_true]
        rw [hU]
        exact ⟨unionsC_valid va vb, by rw [← hU]; omega⟩

def T14 : Fns := (35, fLL (fun a b => .tup [lV (if bothE a b = 0 then limL (minS (unionsC a b)) else []), eV (if bothE a b = 0 then limE (minS (unionsC a b)) else bothE a b)]) fun _ _ => True) ::
  T13
theorem T14_ok : FnsOk Try.prog T14 := .cons (T13_ok) Try.func35 rfl rfl (fLL_ok fun a b _ => product_does a b)


end Go.Proofs.Ytinddojpbieejaa
