/-
  slices.Concat, family.Plus, Same, Support and the specification's Plus, Product, Same compute their Lean functions.
-/
import Derived.Test.YtinddojpbieejaaFnL
import Derived.Test.YtinddojpbieejaaPuH
set_option linter.unusedVariables false
set_option linter.unusedSimpArgs false
namespace Go.Proofs.Ytinddojpbieejaa
open Go.Sy Go.Pu

def T16 : Fns := T15
theorem T16_ok : FnsOk Try.prog T16 := T15_ok


theorem same_does (a b : List Int) : DoesF Try.prog 36 [lV a, lV b] [] (.tup [bV (decide (bothE a b = 0) && decide (minS a = minS b)), eV (bothE a b)]) [] := by
  refine DoesF.body _ Try.func36 rfl rfl rfl rfl ?_
  refine KW.goIf lay_ok T16_ok 100 rfl (by simp) rfl trivial (fun h => ?_) fun h => ?_
  · refine KW.goRet lay_ok T16_ok 100 rfl rfl ?_ (by simp) trivial
    simp [listsE_two] at h
    simp [SV.ren, renL, EV.ren, listsE_two, h]
  · simp [listsE_two] at h
    have h1 : listE a = 0 := by unfold bothE at h; split at h <;> simp_all
    have h2 : listE b = 0 := by unfold bothE at h; split at h <;> simp_all
    have la := listE_len h1
    have lb := listE_len h2
    have va := listE_valid h1
    have vb := listE_valid h2
    refine KW.goRet lay_ok T16_ok 100 rfl rfl ?_ (by simpa using ⟨⟨va, by omega⟩, vb, by omega⟩) trivial
    simp [SV.ren, renL, EV.ren, h, errV]

theorem support_does (l : List Int) : DoesF Try.prog 54 [lV l] [] (.tup [iV (if listE l = 0 then orL 0 l else 0), eV (listE l)]) [] := by
  refine DoesF.body _ Try.func54 rfl rfl rfl rfl ?_
  refine KW.len 0 rfl rfl fun hla => ?_
  refine KW.goIf lay_ok T16_ok 100 rfl (by simp) rfl trivial (fun h => ?_) fun h => ?_
  · refine KW.goRet lay_ok T16_ok 100 rfl rfl ?_ (by simp) trivial
    simp [listsE_one] at h
    simp [SV.ren, renL, EV.ren, listsE_one, h]
  · simp [listsE_one] at h
    refine KW.goLp lay_ok T16_ok 100 rfl (I := fun q : Int × Nat => ⟨Try.f54.ntmps, [(5, sI q.1), (14, .e (lV l)), (15, sI l.length), (16, sI q.2)], []⟩) (R := fun q => q.2 ≤ l.length ∧ orL q.1 (l.drop q.2) = orL 0 l) (m := fun q => l.length - q.2) (0, 0) rfl ⟨rfl, rfl, rfl, rfl, trivial⟩ (by simp) ⟨by simp, by simp⟩ trivial ?_
    rintro ⟨s, q⟩ ⟨h1, h2⟩
    simp only at h1 h2
    refine KW.goIf lay_ok T16_ok 100 rfl (by simp) rfl trivial (fun h3 => ?_) fun h3 => ?_
    · have hq : q < l.length := by simpa using h3
      have hg : l.getD (Int.toNat (q : Int)) 0 = l[q] := by simp [List.getD_eq_getElem?_getD, hq]
      have hd : l.drop q = l[q] :: l.drop (q + 1) := List.drop_eq_getElem_cons hq
      rw [hd, orL] at h2
      refine KW.goTo lay_ok T16_ok 100 rfl (ior .i64 s l[q], q + 1) rfl ⟨by rw [← hg]; rfl, rfl, rfl, rfl, trivial⟩ (by simp [inK]; omega) ⟨⟨by simp only; omega, h2⟩, by simp only; omega⟩ trivial
    · have hq : q = l.length := by simp at h3; omega
      refine KW.goOut lay_ok T16_ok 100 rfl (by simp) ?_
      refine KW.goRet lay_ok T16_ok 100 rfl rfl ?_ (by simp) trivial
      rw [hq, List.drop_length, orL] at h2
      simp [SV.ren, renL, EV.ren, h, h2, errV]

theorem rproduct_does (a b : List Int) : DoesF Try.prog 39 [lV a, lV b] [] (.tup [lV (if bothE a b = 0 then limL (leastS (unionsL a b)) else []), iV (if bothE a b = 0 then limE (leastS (unionsL a b)) else bothE a b)]) [] := by
  refine DoesF.body _ Try.func39 rfl rfl rfl rfl ?_
  refine KW.goIf lay_ok T16_ok 100 rfl (by simp) rfl trivial (fun h => ?_) fun h => ?_
  · refine KW.go lay_ok T16_ok 100 rfl (by simp) ?_
    refine KW.conv 4 (ints []) rfl ⟨rfl, rfl⟩ ?_
    refine KW.fin [] rfl rfl ?_ trivial
    simp at h
    simp [SV.ren, renL, EV.ren, h]
  · simp at h
    have h1 : listE a = 0 := by unfold bothE at h; split at h <;> simp_all
    have h2 : listE b = 0 := by unfold bothE at h; split at h <;> simp_all
    have la := listE_len h1
    have lb := listE_len h2
    refine KW.go lay_ok T16_ok 100 rfl (by simp) ?_
    refine KW.nilO 7 7 3 (ints []) rfl rfl rfl ?_
    refine KW.lp (I := fun q : Nat => ⟨Try.f39.ntmps, [(1, .e (lV b)), (7, .e (.r 7)), (18, .e (lV a)), (19, sI a.length), (20, sI q)], [(7, .own 3 (ints (unionsL (a.take q) b)))]⟩)
      (R := fun q => q ≤ a.length) (m := fun q => a.length - q) 0 (by simp) [(7, 7)] ⟨rfl, rfl, ⟨rfl, rfl, rfl, rfl, rfl, trivial⟩, ⟨rfl, trivial⟩⟩ ?_
    rintro q hq0
    have hUl : (unionsL (a.take q) b).length ≤ 1048576 := by
      rw [unionsL_length]
      have : (a.take q).length * b.length ≤ 1024 * 1024 := Nat.mul_le_mul (by simp; omega) (by omega)
      omega
    refine KW.goIf lay_ok T16_ok 100 rfl (by simp) rfl trivial (fun h3 => ?_) fun h3 => ?_
    · have hq : q < a.length := by simpa using h3
      have hg : a.getD (Int.toNat (q : Int)) 0 = a[q] := by simp [List.getD_eq_getElem?_getD, hq]
      have hsucc : unionsL (a.take (q + 1)) b = unionsL (a.take q) b ++ b.map fun y => ior .i64 a[q] y := by
        unfold unionsL
        rw [List.take_succ_eq_append_getElem hq, List.flatMap_append, List.flatMap_singleton]
      generalize hU : unionsL (a.take q) b = U at hUl hsucc
      refine KW.goLpR lay_ok T16_ok 100 rfl (I := fun p : Nat => ⟨Try.f39.ntmps, [(1, .e (lV b)), (7, .e (.r 7)), (9, sI a[q]), (18, .e (lV a)), (19, sI a.length), (20, sI q), (24, .e (lV b)), (25, sI b.length), (26, sI p)], [(7, .own 3 (ints (U ++ (b.take p).map fun y => ior .i64 a[q] y)))]⟩)
        (R := fun p => p ≤ b.length) (m := fun p => b.length - p) 0 [(7, 7)] rfl rfl ⟨rfl, rfl, by rw [← hg]; rfl, rfl, rfl, rfl, rfl, rfl, rfl, trivial⟩ (by simp; omega) (by simp) ⟨own_cat1 _ (by simp), trivial⟩ ?_
      rintro p hp0
      refine KW.goIf lay_ok T16_ok 100 rfl (by simp) rfl trivial (fun h4 => ?_) fun h4 => ?_
      · have hp : p < b.length := by simpa using h4
        have hgp : b.getD (Int.toNat (p : Int)) 0 = b[p] := by simp [List.getD_eq_getElem?_getD, hp]
        have hps : U ++ (b.take (p + 1)).map (fun y => ior .i64 a[q] y) = (U ++ (b.take p).map fun y => ior .i64 a[q] y) ++ [ior .i64 a[q] b[p]] := by
          rw [List.take_succ_eq_append_getElem hp, List.map_append, List.append_assoc]; rfl
        have hVl : (U ++ (b.take p).map fun y => ior .i64 a[q] y).length ≤ 2097152 := by
          simp only [List.length_append, List.length_map, List.length_take]; omega
        generalize U ++ (b.take p).map (fun y => ior .i64 a[q] y) = V at hVl hps
        refine KW.goToR lay_ok T16_ok 100 rfl (p + 1) [(7, 35)] rfl rfl ⟨rfl, rfl, rfl, rfl, rfl, rfl, rfl, rfl, rfl, trivial⟩ (by simp [inK] <;> omega) ⟨by omega, by omega⟩ ⟨own_cat _ ?_, trivial⟩
        rw [hps, hgp]
      · have hp : p = b.length := by simp at h4; omega
        refine KW.goOut lay_ok T16_ok 100 rfl (by simp) ?_
        refine KW.goToR lay_ok T16_ok 100 rfl (q + 1) [(7, 7)] rfl rfl ⟨rfl, rfl, rfl, rfl, rfl, trivial⟩ (by simp [inK] <;> omega) ⟨by omega, by omega⟩ ⟨own_cat1 _ ?_, trivial⟩
        rw [hp, List.take_length, hsucc]
    · have hq : q = a.length := by simp at h3; omega
      have hU : unionsL (a.take q) b = unionsL a b := by rw [hq, List.take_length]
      refine KW.goOut lay_ok T16_ok 100 rfl (by simp) ?_
      refine KW.go lay_ok T16_ok 100 rfl (by simp) ?_
      refine KW.frz 7 [38] rfl rfl rfl ?_
      refine KW.goRet lay_ok T16_ok 100 rfl rfl ?_ ?_ trivial
      · simp [SV.ren, renL, EV.ren, hU, h, unI_ints]
      · simp only [unI_ints, isI_ints, true_and, and_true]
        omega

def T17 : Fns := (36, fLL (fun a b => .tup [bV (decide (bothE a b = 0) && decide (minS a = minS b)), eV (bothE a b)]) fun _ _ => True) ::
  (54, fL (fun l => .tup [iV (if listE l = 0 then orL 0 l else 0), eV (listE l)]) fun _ => True) ::
  (39, fLL (fun a b => .tup [lV (if bothE a b = 0 then limL (leastS (unionsL a b)) else []), iV (if bothE a b = 0 then limE (leastS (unionsL a b)) else bothE a b)]) fun _ _ => True) ::
  T16
theorem T17_ok : FnsOk Try.prog T17 := .cons (.cons (.cons (T16_ok) Try.func39 rfl rfl (fLL_ok fun a b _ => rproduct_does a b)) Try.func54 rfl rfl (fL_ok fun a _ => support_does a)) Try.func36 rfl rfl (fLL_ok fun a b _ => same_does a b)


end Go.Proofs.Ytinddojpbieejaa
