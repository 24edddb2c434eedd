/-
  FnL, FnM, FnN, FnO, one text.
-/
import Derived.Test.YtdeoicedbphgoaaGreatDoorFnH
import Derived.Test.YtdeoicedbphgoaaGreatDoorPuH
set_option linter.unusedSectionVars false
set_option linter.unusedVariables false
set_option linter.unusedSimpArgs false
/-
  The law FamilyMeets returns true; no condition.
-/
namespace Go.Proofs.YtdeoicedbphgoaaGreatDoor
open Go.Sy Go.Pu
variable [Drw]

def T15 : Fns := T14
theorem T15_ok : FnsOk Tryz.prog T15 := T14_ok


theorem covers_eq (l : List Int) (s : Int) : (decide (listE l = 0) && validS s && l.any (fun t => subS t s)) = (decide (listE l = 0) && validS s && l.any (fun t => decide (iand .i64 t s = t))) := by
  by_cases h : listE l = 0
  · have hv := listE_valid h
    congr 1
    rw [Bool.eq_iff_iff, List.any_eq_true, List.any_eq_true]
    constructor
    · rintro ⟨t, ht, hs⟩
      exact ⟨t, ht, by rw [decide_eq_true_iff, iand_part (hv t ht)]; exact (subS_iff (hv t ht)).1 hs⟩
    · rintro ⟨t, ht, hs⟩
      rw [decide_eq_true_iff, iand_part (hv t ht)] at hs
      exact ⟨t, ht, (subS_iff (hv t ht)).2 hs⟩
  · simp [h]
theorem restr_eq (l : List Int) (f w : Int) : (if restrE l f w = 0 then minS (restrL l f w) else []) = if restrE l f w = 0 then leastS (restrL l f w) else [] := by
  split
  · rename_i h
    refine minS_eq fun x hx => ?_
    unfold restrL at hx
    rw [List.mem_map] at hx
    obtain ⟨y, hy, rfl⟩ := hx
    have h0 : listE l = 0 := by
      unfold restrE at h
      split at h
      · assumption
      · contradiction
    exact valid_iandNot (listE_valid h0 y (List.mem_filter.1 hy).1)
  · rfl

end Go.Proofs.YtdeoicedbphgoaaGreatDoor

/-
  slices.Concat, family.Plus, Same, Support and the specification's Plus, Product, Same compute their Lean functions.
-/
namespace Go.Proofs.YtdeoicedbphgoaaGreatDoor
open Go.Sy Go.Pu
variable [Drw]

theorem concat_does (ls : List (List Int)) (hb : ls.flatten.length ≤ 1099511627776) : DoesF Tryz.prog 260 [.c (intss ls)] [] (.e (lV ls.flatten)) [] := by
  have hsucc : ∀ q (hq : q < ls.length), (ls.take (q + 1)).flatten = (ls.take q).flatten ++ ls[q] := fun q hq => by
    rw [List.take_succ_eq_append_getElem hq, List.flatten_append]; simp
  have hle : ∀ q, (ls.take q).flatten.length ≤ ls.flatten.length := fun q => by
    conv => rhs; rw [← List.take_append_drop q ls, List.flatten_append, List.length_append]
    omega
  refine DoesF.body _ Tryz.func260 rfl rfl rfl rfl ?_
  refine KW.len 0 rfl rfl fun hla => ?_
  refine KW.goLp lay_ok T15_ok 100 rfl (I := fun q : Nat => ⟨Tryz.f260.ntmps, [(0, .e (.c (intss ls))), (3, sI ((ls.take q).flatten.length : Nat)), (9, .e (.c (intss ls))), (10, sI ls.length), (11, sI q)], []⟩) (R := fun q => q ≤ ls.length) (m := fun q => ls.length - q) 0 rfl ⟨rfl, rfl, rfl, rfl, rfl, trivial⟩ (by simp) (by simp) trivial ?_
  rintro q hq0
  refine KW.goIf lay_ok T15_ok 100 rfl (by simp) rfl trivial (fun h => ?_) fun h => ?_
  · have hq : q < ls.length := by simpa using h
    have hg : ls.getD (Int.toNat (q : Int)) [] = ls[q] := by simp [List.getD_eq_getElem?_getD, hq]
    have h1 := hle (q + 1)
    have h2 : ((ls.take (q + 1)).flatten.length : Int) = ((ls.take q).flatten.length : Nat) + ((ls.getD (Int.toNat (q : Int)) []).length : Nat) := by rw [hg, hsucc q hq, List.length_append]; omega
    have h3 : ((ls.take q).flatten.length : Int) + ((ls.getD (Int.toNat (q : Int)) []).length : Int) ≤ 1099511627776 := by rw [← h2]; omega
    refine KW.goIf lay_ok T15_ok 100 rfl (by simp only [inK, true_and, and_true]; omega) rfl trivial (fun h => ?_) fun h => ?_
    · have := of_decide_eq_true h
      omega
    · refine KW.goTo lay_ok T15_ok 100 rfl (q + 1) rfl ⟨rfl, ?_, rfl, rfl, rfl, trivial⟩ (by simp [inK] <;> omega) ⟨by omega, by omega⟩ trivial
      rw [h2]; rfl
  · have hq : q = ls.length := by simp at h; omega
    have hall : (ls.take q).flatten = ls.flatten := by rw [hq, List.take_length]
    rw [hall]
    refine KW.goOut lay_ok T15_ok 100 rfl (by simp) ?_
    refine KW.go lay_ok T15_ok 100 rfl (by simp) ?_
    refine KW.callO0 (grow_does ls.flatten.length hb) (enters Tryz.func279 rfl rfl) [] (.inl rfl) rfl rfl rfl rfl rfl trivial ⟨⟨_, _, rfl, trivial, .conv (CVEq.refl _)⟩, ⟨_, _, rfl, trivial, .conv (CVEq.refl _)⟩, trivial⟩ rfl (.inl rfl) ?_
    refine KW.goLpR lay_ok T15_ok 100 rfl (I := fun q : Nat => ⟨Tryz.f260.ntmps, [(6, .e (.r 24)), (25, .e (.c (intss ls))), (26, sI ls.length), (27, sI q)], [(24, .own 3 (ints (ls.take q).flatten))]⟩) (R := fun q => q ≤ ls.length) (m := fun q => ls.length - q) 0 [(24, 24)] rfl rfl ⟨rfl, rfl, rfl, rfl, trivial⟩ (by simp) (by simp) ⟨rfl, trivial⟩ ?_
    rintro q hq0
    refine KW.goIf lay_ok T15_ok 100 rfl (by simp) rfl trivial (fun h => ?_) fun h => ?_
    · have hq : q < ls.length := by simpa using h
      have hg : ls.getD (Int.toNat (q : Int)) [] = ls[q] := by simp [List.getD_eq_getElem?_getD, hq]
      have h1 := hle (q + 1)
      have h2 : (ls.take (q + 1)).flatten.length = (ls.take q).flatten.length + (ls.getD (Int.toNat (q : Int)) []).length := by rw [hg, hsucc q hq, List.length_append]
      refine KW.goToR lay_ok T15_ok 100 rfl (q + 1) [(24, 33)] rfl rfl ⟨rfl, rfl, rfl, rfl, trivial⟩ (by simp only [inK, true_and, and_true]; omega) ⟨by omega, by omega⟩ ⟨own_cat _ ?_, trivial⟩
      rw [hg, hsucc q hq]
    · have hq : q = ls.length := by simp at h; omega
      refine KW.goOut lay_ok T15_ok 100 rfl (by simp) ?_
      refine KW.goRetO lay_ok T15_ok 100 rfl 24 2 rfl rfl rfl ?_ (by simp <;> omega)
      rw [hq, List.take_length]

def T16 : Fns := (260, fLs (fun ls => .e (lV ls.flatten)) fun ls => ls.flatten.length ≤ 1099511627776) ::
  T15
theorem T16_ok : FnsOk Tryz.prog T16 := .cons (T15_ok) Tryz.func260 rfl rfl (fLs_ok fun ls h => concat_does ls h)


theorem plus_does (a b : List Int) : DoesF Tryz.prog 232 [lV a, lV b] [] (.tup [lV (if bothE a b = 0 then limL (minS (a ++ b)) else []), eV (if bothE a b = 0 then limE (minS (a ++ b)) else bothE a b)]) [] := by
  refine DoesF.body _ Tryz.func232 rfl rfl rfl rfl ?_
  refine KW.goIf lay_ok T16_ok 100 rfl (by simp) rfl trivial (fun h => ?_) fun h => ?_
  · refine KW.go lay_ok T16_ok 100 rfl (by simp) ?_
    refine KW.conv 4 (ints []) rfl ⟨rfl, rfl⟩ ?_
    refine KW.fin [] rfl rfl ?_ trivial
    simp [listsE_two] at h
    simp [SV.ren, renL, EV.ren, listsE_two, h]
  · simp [listsE_two] at h
    have h1 : listE a = 0 := by unfold bothE at h; split at h <;> simp_all
    have h2 : listE b = 0 := by unfold bothE at h; split at h <;> simp_all
    have la := listE_len h1
    have lb := listE_len h2
    have va := listE_valid h1
    have vb := listE_valid h2
    refine KW.go lay_ok T16_ok 100 rfl (by simp) ?_
    refine KW.frz1 16 rfl rfl rfl ?_
    refine KW.goRet lay_ok T16_ok 100 rfl rfl ?_ ?_ trivial
    · simp [SV.ren, renL, EV.ren, h, unI_ints]
    · simp only [List.map_cons, List.map_nil, Nat.zero_mul, Nat.one_mul, fill2, unII_rows2, unI_ints, isII_r2, isI_ints, true_and, and_true]
      simp only [List.flatten_cons, List.flatten_nil, List.append_nil, List.length_append]
      refine ⟨by omega, fun x hx => ?_, by omega⟩
      rcases List.mem_append.1 hx with hx | hx
      · exact va x hx
      · exact vb x hx

theorem rplus_does (a b : List Int) : DoesF Tryz.prog 211 [lV a, lV b] [] (.tup [lV (if bothE a b = 0 then limL (leastS (a ++ b)) else []), iV (if bothE a b = 0 then limE (leastS (a ++ b)) else bothE a b)]) [] := by
  refine DoesF.body _ Tryz.func211 rfl rfl rfl rfl ?_
  refine KW.goIf lay_ok T16_ok 100 rfl (by simp) rfl trivial (fun h => ?_) fun h => ?_
  · refine KW.go lay_ok T16_ok 100 rfl (by simp) ?_
    refine KW.conv 4 (ints []) rfl ⟨rfl, rfl⟩ ?_
    refine KW.fin [] rfl rfl ?_ trivial
    simp at h
    simp [SV.ren, renL, EV.ren, h]
  · simp at h
    have h1 : listE a = 0 := by unfold bothE at h; split at h <;> simp_all
    have h2 : listE b = 0 := by unfold bothE at h; split at h <;> simp_all
    have la := listE_len h1
    have lb := listE_len h2
    have hcat : catV (catV (ints []) (ints a)) (ints b) = ints (a ++ b) := by rw [catV_ints, catV_ints]; rfl
    refine KW.go lay_ok T16_ok 100 rfl (by simp; omega) ?_
    refine KW.frz1 17 rfl rfl rfl ?_
    refine KW.goRet lay_ok T16_ok 100 rfl rfl ?_ ?_ trivial
    · rw [hcat]
      simp [SV.ren, renL, EV.ren, h, unI_ints]
    · rw [hcat]
      simp [unI_ints]
      omega

theorem rproduct_does (a b : List Int) : DoesF Tryz.prog 164 [lV a, lV b] [] (.tup [lV (if bothE a b = 0 then limL (leastS (unionsL a b)) else []), iV (if bothE a b = 0 then limE (leastS (unionsL a b)) else bothE a b)]) [] := by
  refine DoesF.body _ Tryz.func164 rfl rfl rfl rfl ?_
  refine KW.goIf lay_ok T16_ok 100 rfl (by simp) rfl trivial (fun h => ?_) fun h => ?_
  · refine KW.go lay_ok T16_ok 100 rfl (by simp) ?_
    refine KW.conv 4 (ints []) rfl ⟨rfl, rfl⟩ ?_
    refine KW.fin [] rfl rfl ?_ trivial
    simp at h
    simp [SV.ren, renL, EV.ren, h]
  · simp at h
    have h1 : listE a = 0 := by unfold bothE at h; split at h <;> simp_all
    have h2 : listE b = 0 := by unfold bothE at h; split at h <;> simp_all
    have la := listE_len h1
    have lb := listE_len h2
    refine KW.go lay_ok T16_ok 100 rfl (by simp) ?_
    refine KW.nilO 7 7 3 (ints []) rfl rfl rfl ?_
    refine KW.lp (I := fun q : Nat => ⟨Tryz.f164.ntmps, [(1, .e (lV b)), (7, .e (.r 7)), (18, .e (lV a)), (19, sI a.length), (20, sI q)], [(7, .own 3 (ints (unionsL (a.take q) b)))]⟩)
      (R := fun q => q ≤ a.length) (m := fun q => a.length - q) 0 (by simp) [(7, 7)] ⟨rfl, rfl, ⟨rfl, rfl, rfl, rfl, rfl, trivial⟩, ⟨rfl, trivial⟩⟩ ?_
    rintro q hq0
    have hUl : (unionsL (a.take q) b).length ≤ 1048576 := by
      rw [unionsL_length]
      have : (a.take q).length * b.length ≤ 1024 * 1024 := Nat.mul_le_mul (by simp; omega) (by omega)
      omega
    refine KW.goIf lay_ok T16_ok 100 rfl (by simp) rfl trivial (fun h3 => ?_) fun h3 => ?_
    · have hq : q < a.length := by simpa using h3
      have hg : a.getD (Int.toNat (q : Int)) 0 = a[q] := by simp [List.getD_eq_getElem?_getD, hq]
      have hsucc : unionsL (a.take (q + 1)) b = unionsL (a.take q) b ++ b.map fun y => ior .i64 a[q] y := by
        unfold unionsL
        rw [List.take_succ_eq_append_getElem hq, List.flatMap_append, List.flatMap_singleton]
      generalize hU : unionsL (a.take q) b = U at hUl hsucc
      refine KW.goLpR lay_ok T16_ok 100 rfl (I := fun p : Nat => ⟨Tryz.f164.ntmps, [(1, .e (lV b)), (7, .e (.r 7)), (9, sI a[q]), (18, .e (lV a)), (19, sI a.length), (20, sI q), (24, .e (lV b)), (25, sI b.length), (26, sI p)], [(7, .own 3 (ints (U ++ (b.take p).map fun y => ior .i64 a[q] y)))]⟩)
        (R := fun p => p ≤ b.length) (m := fun p => b.length - p) 0 [(7, 7)] rfl rfl ⟨rfl, rfl, by rw [← hg]; rfl, rfl, rfl, rfl, rfl, rfl, rfl, trivial⟩ (by simp; omega) (by simp) ⟨own_cat1 _ (by simp), trivial⟩ ?_
      rintro p hp0
      refine KW.goIf lay_ok T16_ok 100 rfl (by simp) rfl trivial (fun h4 => ?_) fun h4 => ?_
      · have hp : p < b.length := by simpa using h4
        have hgp : b.getD (Int.toNat (p : Int)) 0 = b[p] := by simp [List.getD_eq_getElem?_getD, hp]
        have hps : U ++ (b.take (p + 1)).map (fun y => ior .i64 a[q] y) = (U ++ (b.take p).map fun y => ior .i64 a[q] y) ++ [ior .i64 a[q] b[p]] := by
          rw [List.take_succ_eq_append_getElem hp, List.map_append, List.append_assoc]; rfl
        have hVl : (U ++ (b.take p).map fun y => ior .i64 a[q] y).length ≤ 2097152 := by
          simp only [List.length_append, List.length_map, List.length_take]; omega
        generalize U ++ (b.take p).map (fun y => ior .i64 a[q] y) = V at hVl hps
        refine KW.goToR lay_ok T16_ok 100 rfl (p + 1) [(7, 35)] rfl rfl ⟨rfl, rfl, rfl, rfl, rfl, rfl, rfl, rfl, rfl, trivial⟩ (by simp [inK] <;> omega) ⟨by omega, by omega⟩ ⟨own_cat _ ?_, trivial⟩
        rw [hps, hgp]
      · have hp : p = b.length := by simp at h4; omega
        refine KW.goOut lay_ok T16_ok 100 rfl (by simp) ?_
        refine KW.goToR lay_ok T16_ok 100 rfl (q + 1) [(7, 7)] rfl rfl ⟨rfl, rfl, rfl, rfl, rfl, trivial⟩ (by simp [inK] <;> omega) ⟨by omega, by omega⟩ ⟨own_cat1 _ ?_, trivial⟩
        rw [hp, List.take_length, hsucc]
    · have hq : q = a.length := by simp at h3; omega
      have hU : unionsL (a.take q) b = unionsL a b := by rw [hq, List.take_length]
      refine KW.goOut lay_ok T16_ok 100 rfl (by simp) ?_
      refine KW.go lay_ok T16_ok 100 rfl (by simp) ?_
      refine KW.frz 7 [38] rfl rfl rfl ?_
      refine KW.goRet lay_ok T16_ok 100 rfl rfl ?_ ?_ trivial
      · simp [SV.ren, renL, EV.ren, hU, h, unI_ints]
      · simp only [unI_ints, isI_ints, true_and, and_true]
        omega

def T17 : Fns := (232, fLL (fun a b => .tup [lV (if bothE a b = 0 then limL (minS (a ++ b)) else []), eV (if bothE a b = 0 then limE (minS (a ++ b)) else bothE a b)]) fun _ _ => True) ::
  (211, fLL (fun a b => .tup [lV (if bothE a b = 0 then limL (leastS (a ++ b)) else []), iV (if bothE a b = 0 then limE (leastS (a ++ b)) else bothE a b)]) fun _ _ => True) ::
  (164, fLL (fun a b => .tup [lV (if bothE a b = 0 then limL (leastS (unionsL a b)) else []), iV (if bothE a b = 0 then limE (leastS (unionsL a b)) else bothE a b)]) fun _ _ => True) ::
  T16
theorem T17_ok : FnsOk Tryz.prog T17 := .cons (.cons (.cons (T16_ok) Tryz.func164 rfl rfl (fLL_ok fun a b _ => rproduct_does a b)) Tryz.func211 rfl rfl (fLL_ok fun a b _ => rplus_does a b)) Tryz.func232 rfl rfl (fLL_ok fun a b _ => plus_does a b)


end Go.Proofs.YtdeoicedbphgoaaGreatDoor

/-
  The laws FamilyJoins, FamilyCovers, FamilyRestricts and FamilyLattice return true; no condition.
-/
namespace Go.Proofs.YtdeoicedbphgoaaGreatDoor
open Go.Sy Go.Pu
variable [Drw]

def okB (l : List Int) : Bool := decide (l.length ≤ 30) && decide (listE l = 0)
theorem okB_iff {l : List Int} : okB l = true ↔ l.length ≤ 30 ∧ listE l = 0 := by simp [okB]
def T18 : Fns := (25, fVI (fun v c => sB (decide (numV v ≠ 0) && decide (numV v = c))) fun v c => isErr 47 v) ::
  T17
theorem T18_ok : FnsOk Tryz.prog T18 := .cons (T17_ok) Tryz.func25 rfl rfl (fVI_ok fun v c h => is_does v c h)


theorem lim_small {l : List Int} (h : l.length ≤ 1024) : limL l = l ∧ limE l = 0 := by
  have : ¬ 1024 < l.length := by omega
  simp [limL, limE, this]
theorem prod_small {a b : List Int} (h : a.length * b.length ≤ 1024) : limL (minS (unionsC a b)) = minS (unionsC a b) ∧ limE (minS (unionsC a b)) = 0 :=
  lim_small (Nat.le_trans (minS_length _) (Nat.le_trans (unionsC_length a b) h))
theorem plus_small {a b : List Int} (h : a.length + b.length ≤ 1024) : limL (minS (a ++ b)) = minS (a ++ b) ∧ limE (minS (a ++ b)) = 0 :=
  lim_small (Nat.le_trans (minS_length _) (by simpa using h))

end Go.Proofs.YtdeoicedbphgoaaGreatDoor

/-
  family.Maximal, Check and Sizes compute their Lean functions; the law FamilyEnds returns true; no condition.
-/
namespace Go.Proofs.YtdeoicedbphgoaaGreatDoor
open Go.Sy Go.Pu
variable [Drw]

theorem check_does (l : List Int) : DoesF Tryz.prog 32 [lV l] [] (.e (eV (checkE l))) [] := by
  refine DoesF.body _ Tryz.func32 rfl rfl rfl rfl ?_
  refine KW.goIf lay_ok T18_ok 100 rfl (by simp) rfl trivial (fun h => ?_) fun h => ?_
  · refine KW.goRet lay_ok T18_ok 100 rfl rfl ?_ (by simp) trivial
    simp [listsE_one] at h
    simp [SV.ren, EV.ren, listsE_one, checkE, h]
  · simp [listsE_one] at h
    have hlen := listE_len h
    have hv : Val l := listE_valid h
    refine KW.goIf lay_ok T18_ok 100 rfl (by simpa using ⟨hv, by omega⟩) rfl trivial (fun h1 => ?_) fun h1 => ?_
    · refine KW.goRet lay_ok T18_ok 100 rfl rfl ?_ (by simp) trivial
      have : ¬ l = sortedL l := by simpa using h1
      simp [SV.ren, EV.ren, checkE, h, this, errV]
    · have hs : l = sortedL l := by simpa using h1
      refine KW.goIf lay_ok T18_ok 100 rfl (by simpa using ⟨hv, by omega⟩) rfl trivial (fun h2 => ?_) fun h2 => ?_
      · refine KW.goRet lay_ok T18_ok 100 rfl rfl ?_ (by simp) trivial
        have : ¬ (minS l).length = l.length := by simp at h2; omega
        simp [SV.ren, EV.ren, checkE, h, ← hs, this, errV]
      · refine KW.goRet lay_ok T18_ok 100 rfl rfl ?_ (by simp) trivial
        have : (minS l).length = l.length := by simp at h2; omega
        simp [SV.ren, EV.ren, checkE, h, ← hs, this, errV]

def T19 : Fns := (32, fL (fun l => .e (eV (checkE l))) fun _ => True) ::
  T18
theorem T19_ok : FnsOk Tryz.prog T19 := .cons (T18_ok) Tryz.func32 rfl rfl (fL_ok fun l _ => check_does l)


end Go.Proofs.YtdeoicedbphgoaaGreatDoor
