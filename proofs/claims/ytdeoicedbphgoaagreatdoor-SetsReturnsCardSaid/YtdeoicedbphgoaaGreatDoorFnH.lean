/-
  FnH, FnI, FnJ, FnK, one text.
-/
import Derived.Test.YtdeoicedbphgoaaGreatDoorFnD
import Derived.Test.YtdeoicedbphgoaaGreatDoorSyT
import Derived.Test.YtdeoicedbphgoaaGreatDoorShelf
import Derived.Test.YtdeoicedbphgoaaGreatDoorPuA
set_option linter.unusedSectionVars false
set_option linter.unusedVariables false
set_option linter.unusedSimpArgs false
/-
  slices.Clone, slices.Equal and slices.Grow compute what they say; lists of at most 2 to the power 40 elements.
-/
namespace Go.Proofs.YtdeoicedbphgoaaGreatDoor
open Go.Sy Go.Pu
variable [Drw]

theorem clone_does (xs : List Int) (hb : xs.length ≤ 1099511627776) : DoesF Tryz.prog 151 [.c (ints xs)] [] (.e (.r 0)) [(0, .own 3 (ints xs))] := by
  refine DoesF.body _ Tryz.func151 rfl rfl rfl rfl ?_
  refine KW.go lay_ok T11_ok 100 rfl (by simp) ?_
  refine KW.eqNil (neg := false) lay_ok rfl rfl rfl rfl rfl rfl rfl rfl trivial fun b hb0 => ?_
  refine KW.goIf lay_ok T11_ok 100 rfl (by simp) rfl trivial (fun h => ?_) fun h => ?_
  · have : xs = [] := ints_nil_of (hb0 h)
    subst this
    refine KW.go lay_ok T11_ok 100 rfl (by simp) ?_
    refine KW.nilO 2 2 3 (ints []) rfl rfl rfl ?_
    exact KW.fin [(0, 2)] rfl rfl rfl ⟨rfl, trivial⟩
  · refine KW.goRetR lay_ok T11_ok 100 rfl [(0, 7)] rfl rfl rfl (by simp <;> omega) ⟨?_, trivial⟩
    exact own_cat (a := []) _ rfl

theorem equal_does (a b : List Int) : DoesF Tryz.prog 89 [.c (ints a), .c (ints b)] [] (sB (decide (a = b))) [] := by
  refine DoesF.body _ Tryz.func89 rfl rfl rfl rfl ?_
  refine KW.len 0 rfl rfl fun hla => ?_
  refine KW.goIf lay_ok T11_ok 100 rfl (by simp) rfl trivial (fun h => ?_) fun h => ?_
  · refine KW.goRet lay_ok T11_ok 100 rfl rfl ?_ (by simp) trivial
    have hne : a ≠ b := fun e => by subst e; simp at h
    rw [decide_eq_false hne]; rfl
  · have hl : a.length = b.length := by simp at h; omega
    refine KW.goLp lay_ok T11_ok 100 rfl (I := fun q : Nat => ⟨Tryz.f89.ntmps, [(0, .e (.c (ints a))), (1, .e (.c (ints b))), (12, sI a.length), (13, sI q)], []⟩) (R := fun q => q ≤ a.length ∧ a.take q = b.take q) (m := fun q => a.length - q) 0 rfl ⟨rfl, rfl, rfl, rfl, trivial⟩ (by simp) ⟨by simp, by simp⟩ trivial ?_
    rintro q ⟨h1, h2⟩
    refine KW.goIf lay_ok T11_ok 100 rfl (by simp) rfl trivial (fun h => ?_) fun h => ?_
    · have hq : q < a.length := by simpa using h
      have hq' : q < b.length := by omega
      refine KW.goD lay_ok T11_ok rfl 100 rfl rfl rfl (by simp) (by simp; omega) ?_
      refine KW.goIf lay_ok T11_ok 100 rfl (by simp) rfl trivial (fun h => ?_) fun h => ?_
      · refine KW.goOutR lay_ok T11_ok 100 rfl (by simp) ?_
        refine KW.goRet lay_ok T11_ok 100 rfl rfl ?_ (by simp) trivial
        have hne : a ≠ b := fun e => by subst e; simp at h
        rw [decide_eq_false hne]; rfl
      · refine KW.goTo lay_ok T11_ok 100 rfl (q + 1) rfl ⟨rfl, rfl, rfl, rfl, trivial⟩ (by simp [inK]; omega) ⟨⟨by omega, ?_⟩, by omega⟩ trivial
        have e : a[q] = b[q] := by simpa [List.getD_eq_getElem?_getD, hq, hq'] using h
        rw [List.take_succ_eq_append_getElem hq, List.take_succ_eq_append_getElem hq', h2, e]
    · have hq : q = a.length := by simp at h; omega
      refine KW.goOut lay_ok T11_ok 100 rfl (by simp) ?_
      refine KW.goRet lay_ok T11_ok 100 rfl rfl ?_ (by simp) trivial
      have e : a = b := by
        rw [hq, List.take_length] at h2
        rw [h2, hl, List.take_length]
      rw [decide_eq_true e]; rfl

def layGrow_ren : Go.Shelf.Ren := ⟨fun | 4 => 279 | n => n, fun | 22 => 25 | 25 => 3 | 3 => 3 | 4 => 4 | 9 => 9 | 20 => 20 | 0 => 0 | n => n, fun | n => n⟩
theorem layGrow : Go.Proofs.Lays8.n4 Tryz.prog layGrow_ren := {
  mixed := by kernel_rfl
  f4 := ⟨Tryz.f279.name, by decide, Tryz.func279.trans (congrArg some (by kernel_rfl))⟩
  t0 := Tryz.underlying0
  a0 := Tryz.isAgg0
  z0 := Tryz.sizeOf0
  v0 := Tryz.zeroValue0
  t3 := Tryz.underlying3
  a3 := Tryz.isAgg3
  z3 := Tryz.sizeOf3
  v3 := Tryz.zeroValue3
  t4 := Tryz.underlying4
  a4 := Tryz.isAgg4
  z4 := Tryz.sizeOf4
  v4 := Tryz.zeroValue4
  t9 := Tryz.underlying9
  a9 := Tryz.isAgg9
  z9 := Tryz.sizeOf9
  v9 := Tryz.zeroValue9
  t20 := Tryz.underlying20
  a20 := Tryz.isAgg20
  z20 := Tryz.sizeOf20
  v20 := Tryz.zeroValue20
  t22 := Tryz.underlying25
  a22 := Tryz.isAgg25
  z22 := Tryz.sizeOf25
  v22 := Tryz.zeroValue25 }
theorem grow_does (n : Nat) (hn : n ≤ 1099511627776) : DoesF Tryz.prog 279 [.c (.lit (.slice none 0 0)), iV n] [] (.e (.r 0)) [(0, .own 3 (ints []))] := by
  have hrow : (Tryz.prog.info? 3).map (fun i => (i.zero, i.size, i.bytes)) = some (some (.int .i64 0), 1, 8) := by kernel_rfl
  obtain ⟨i0, hi, hz0, hz1, hz2⟩ := info_parts hrow
  exact grow_nil_does layGrow rfl rfl hi hz0 hz1 hz2 rfl n hn
end Go.Proofs.YtdeoicedbphgoaaGreatDoor

/-
  family.sorted and family.minimal compute their Lean functions; valid sets, lists of at most 2 to the power 40 elements.
-/
namespace Go.Proofs.YtdeoicedbphgoaaGreatDoor
open Go.Sy Go.Pu
variable [Drw]

theorem sorted_does (l : List Int) (hv : ∀ x ∈ l, validS x = true) (hb : l.length ≤ 1099511627776) : DoesF Tryz.prog 90 [.c (ints l)] [] (.e (.c (ints (sortedL l)))) [] := by
  refine DoesF.body _ Tryz.func90 rfl rfl rfl rfl ?_
  refine KW.go lay_ok T11_ok 100 rfl (by simp) ?_
  refine KW.callO0 (clone_does l hb) (enters Tryz.func151 rfl rfl) [] (.inl rfl) rfl rfl rfl rfl rfl trivial ⟨⟨_, _, rfl, trivial, .conv (CVEq.refl _)⟩, trivial⟩ rfl (.inl rfl) ?_
  refine KW.go lay_ok T11_ok 100 rfl (by simp) ?_
  refine KW.callK0 (sortFunc_does (ks := fun _ => 0) (caps := fun _ _ => .lit undef) laySort laySort0 rfl rfl cmpS_swo (V := fun x => validS x = true) (fun x y => cmpS_eq) cmpS_total (enters Tryz.func47 rfl rfl) (@compare_does drwOn) 3 l hv (by omega))
    (enters Tryz.func167 rfl rfl) [(0, 5)] [(0, 5)] [] (.inl rfl) rfl rfl rfl rfl rfl trivial
    ⟨⟨_, _, rfl, trivial, (show Mt _ _ _ (EV.ren [(0, 5)] (.r 0)) (.r 0) from .same)⟩, ⟨_, _, rfl, trivial, .conv (CVEq.refl _)⟩, trivial⟩ rfl ⟨rfl, trivial⟩ rfl ⟨.inr ⟨rfl, .inl rfl⟩, trivial⟩ rfl rfl (.inl rfl) ?_
  refine KW.go lay_ok T11_ok 100 rfl (by simp) ?_
  refine KW.call0 (compact_does layCompact rfl 3 (sortL cmpS l)) (enters Tryz.func168 rfl rfl) [(0, 5)] [(0, 9)] [] (.inl rfl) rfl rfl rfl rfl rfl trivial
    ⟨⟨_, _, rfl, trivial, (show Mt _ _ _ (EV.ren [(0, 5)] (.r 0)) (.r 0) from .same)⟩, trivial⟩ rfl ⟨rfl, trivial⟩ rfl ⟨.inl rfl, trivial⟩ rfl rfl (.inl rfl) ?_
  exact KW.goRetO lay_ok T11_ok 100 rfl 9 2 rfl rfl rfl rfl (by simp)

theorem minimalC_does (t s : Int) : DoesF Tryz.prog 169 [iV t, .pe 1 1 (fun _ q => .lit (.int .i64 s)) 0 0] [] (sB (subS t s)) [] := by
  refine DoesF.body _ Tryz.func169 rfl rfl rfl rfl ?_
  exact KW.goRet lay_ok T11_ok 100 rfl rfl rfl (by simp) trivial

theorem minimal_does (l : List Int) (hv : ∀ x ∈ l, validS x = true) (hb : l.length ≤ 1099511627776) : DoesF Tryz.prog 91 [.c (ints l)] [] (.e (.c (ints (minS l)))) [] := by
  have T_ok : FnsOk Tryz.prog ((90, fL (fun l => .e (.c (ints (sortedL l)))) fun l => (∀ x ∈ l, validS x = true) ∧ l.length ≤ 1099511627776) :: T11) := .cons T11_ok Tryz.func90 rfl rfl (fL_ok fun l h => sorted_does l h.1 h.2)
  refine DoesF.body _ Tryz.func91 rfl rfl rfl rfl ?_
  have hSl := sortedL_length l
  have hm := minL_length (sortedL l) []
  refine KW.go lay_ok T_ok 100 rfl (by simpa using ⟨hv, hb⟩) ?_
  simp only [unI_ints]
  generalize hS : sortedL l = S at hSl hm
  refine KW.nilO 3 3 3 (ints []) rfl rfl rfl ?_
  refine KW.lp (I := fun q : List Int × Nat => ⟨Tryz.f91.ntmps, [(3, .e (.r 3)), (7, .e (.c (ints S))), (8, sI S.length), (9, sI q.2)], [(3, .own 3 (ints q.1))]⟩)
    (R := fun q => q.2 ≤ S.length ∧ minL q.1 (S.drop q.2) = minS l ∧ q.1.length ≤ q.2) (m := fun q => S.length - q.2) ([], 0) ⟨by simp, by simp [minS, hS], by simp⟩ [(3, 3)] ⟨rfl, rfl, ⟨rfl, rfl, rfl, rfl, trivial⟩, ⟨rfl, trivial⟩⟩ ?_
  rintro ⟨out, q⟩ ⟨h1, h2, h3⟩
  simp only at h1 h2 h3
  refine KW.goIf lay_ok T_ok 100 rfl (by simp) rfl trivial (fun h => ?_) fun h => ?_
  · have hq : q < S.length := by simpa using h
    have hg : S.getD (Int.toNat (q : Int)) 0 = S[q] := by simp [List.getD_eq_getElem?_getD, hq]
    have hd : S.drop q = S[q] :: S.drop (q + 1) := List.drop_eq_getElem_cons hq
    rw [hd, minL] at h2
    refine KW.go lay_ok T_ok 100 rfl (by simp; omega) ?_
    refine KW.callV0 (containsFunc_does (m := 1) (ks := fun _ => 1) (caps := fun _ _ => .lit (.int .i64 S[q])) (p := fun t => subS t S[q]) out ⟨enters Tryz.func169 rfl rfl, fun x _ => minimalC_does x S[q]⟩) (enters Tryz.func71 rfl rfl) [3, 5] (.inl rfl) rfl rfl rfl rfl rfl trivial
      ⟨⟨_, _, rfl, trivial, .lend rfl rfl (CVEq.refl _) rfl rfl⟩, ⟨_, _, rfl, trivial, .lfn rfl ?_⟩, trivial⟩ rfl (.inr trivial) ?_
    · intro j hj
      obtain rfl : j = 0 := by omega
      refine ⟨5, _, _, _, rfl, rfl, rfl, rfl, fun q' hq' => ?_⟩
      obtain rfl : q' = 0 := by omega
      show some (EV.c (.lit (.int .i64 (S.getD (Int.toNat (q : Int)) 0)))) = _
      rw [hg]
    · refine KW.goIf lay_ok T_ok 100 rfl (by simp) rfl trivial (fun h => ?_) fun h => ?_
      · have hc : (out.any fun t => subS t S[q]) = false := by simpa using h
        rw [hc] at h2
        refine KW.goToR lay_ok T_ok 100 rfl (out ++ [S[q]], q + 1) [(3, 20)] rfl rfl ⟨rfl, rfl, rfl, rfl, trivial⟩ (by simp [inK] <;> omega) ⟨⟨by simp only; omega, by simpa using h2, by simp; omega⟩, by simp only; omega⟩ ⟨own_cat _ ?_, trivial⟩
        rw [hg]
      · have hc : (out.any fun t => subS t S[q]) = true := by simpa using h
        rw [hc] at h2
        refine KW.goToR lay_ok T_ok 100 rfl (out, q + 1) [(3, 3)] rfl rfl ⟨rfl, rfl, rfl, rfl, trivial⟩ (by simp [inK] <;> omega) ⟨⟨by simp only; omega, by simpa using h2, by simp only; omega⟩, by simp only; omega⟩ ⟨rfl, trivial⟩
  · have hq : q = S.length := by simp at h; omega
    refine KW.goOut lay_ok T_ok 100 rfl (by simp) ?_
    refine KW.goRetO lay_ok T_ok 100 rfl 3 2 rfl rfl rfl ?_ (by simp <;> omega)
    rw [hq, List.drop_length, minL] at h2
    rw [h2]
end Go.Proofs.YtdeoicedbphgoaaGreatDoor

/-
  family.Minimal, Meets, Restrict and the specification of minimal sets compute their Lean functions.
-/
namespace Go.Proofs.YtdeoicedbphgoaaGreatDoor
open Go.Sy Go.Pu
variable [Drw]


theorem sized_does (l : List Int) : DoesF Tryz.prog 207 [lV l] [] (.tup [lV (limL l), eV (limE l)]) [] := by
  refine DoesF.body _ Tryz.func207 rfl rfl rfl rfl ?_
  refine KW.goIf lay_ok T11_ok 100 rfl (by simp) rfl trivial (fun h => ?_) fun h => ?_
  · have hl : 1024 < l.length := by simp at h; omega
    refine KW.go lay_ok T11_ok 100 rfl (by simp) ?_
    refine KW.conv 2 (ints []) rfl ⟨rfl, rfl⟩ ?_
    refine KW.fin [] rfl rfl ?_ trivial
    simp [SV.ren, renL, EV.ren, limL, limE, hl, errV]
  · have hl : ¬ 1024 < l.length := by simp at h; omega
    refine KW.goRet lay_ok T11_ok 100 rfl rfl ?_ (by simp) trivial
    simp [SV.ren, renL, EV.ren, limL, limE, hl, errV]

def T12 : Fns := (91, fL (fun l => .e (lV (minS l))) fun l => (∀ x ∈ l, validS x = true) ∧ l.length ≤ 1099511627776) ::
  (207, fL (fun l => .tup [lV (limL l), eV (limE l)]) fun l => True) ::
  (89, fLL (fun a b => sB (decide (a = b))) fun _ _ => True) ::
  (90, fL (fun l => .e (lV (sortedL l))) fun l => (∀ x ∈ l, validS x = true) ∧ l.length ≤ 1099511627776) ::
  T11
theorem T12_ok : FnsOk Tryz.prog T12 := .cons (.cons (.cons (.cons (T11_ok) Tryz.func90 rfl rfl (fL_ok fun l h => sorted_does l h.1 h.2)) Tryz.func89 rfl rfl (fLL_ok fun a b _ => equal_does a b)) Tryz.func207 rfl rfl (fL_ok fun l _ => sized_does l)) Tryz.func91 rfl rfl (fL_ok fun l h => minimal_does l h.1 h.2)


theorem minimalX_does (l : List Int) : DoesF Tryz.prog 152 [lV l] [] (.tup [lV (if listE l = 0 then minS l else []), eV (listE l)]) [] := by
  refine DoesF.body _ Tryz.func152 rfl rfl rfl rfl ?_
  refine KW.goIf lay_ok T12_ok 100 rfl (by simp) rfl trivial (fun h => ?_) fun h => ?_
  · refine KW.go lay_ok T12_ok 100 rfl (by simp) ?_
    refine KW.conv 2 (ints []) rfl ⟨rfl, rfl⟩ ?_
    refine KW.fin [] rfl rfl ?_ trivial
    simp [listsE_one] at h
    simp [SV.ren, renL, EV.ren, listsE_one, h]
  · simp [listsE_one] at h
    have h1 := listE_len h
    have h2 := listE_valid h
    refine KW.goRet lay_ok T12_ok 100 rfl rfl ?_ (by simpa using ⟨h2, by omega⟩) trivial
    simp [SV.ren, renL, EV.ren, h, errV]

theorem least_does (l : List Int) (hb : l.length ≤ 1099511627776) : DoesF Tryz.prog 163 [lV l] [] (.e (lV (leastS l))) [] := by
  refine DoesF.body _ Tryz.func163 rfl rfl rfl rfl ?_
  have T_ok : FnsOk Tryz.prog ((213, fII (fun a b => sB (partB a b)) fun _ _ => True) :: T12) := .cons T12_ok Tryz.func213 rfl rfl (fII_ok fun a b _ => part_does a b)
  have hSl := sortS_length l
  refine KW.go lay_ok T_ok 100 rfl (by simpa using hb) ?_
  simp only [unI_ints]
  generalize hS : sortS l = S at hSl
  refine KW.nilO 3 3 3 (ints []) rfl rfl rfl ?_
  refine KW.lp (I := fun q : List Int × Nat => ⟨Tryz.f163.ntmps, [(3, .e (.r 3)), (10, .e (.c (ints S))), (11, sI S.length), (12, sI q.2)], [(3, .own 3 (ints q.1))]⟩)
    (R := fun q => q.2 ≤ S.length ∧ leastL q.1 (S.drop q.2) = leastS l ∧ q.1.length ≤ q.2) (m := fun q => S.length - q.2) ([], 0) ⟨by simp, by simp [leastS, hS], by simp⟩ [(3, 3)] ⟨rfl, rfl, ⟨rfl, rfl, rfl, rfl, trivial⟩, ⟨rfl, trivial⟩⟩ ?_
  rintro ⟨out, q⟩ ⟨h1, h2, h3⟩
  simp only at h1 h2 h3
  refine KW.goIf lay_ok T_ok 100 rfl (by simp) rfl trivial (fun h => ?_) fun h => ?_
  · have hq : q < S.length := by simpa using h
    have hg : S.getD (Int.toNat (q : Int)) 0 = S[q] := by simp [List.getD_eq_getElem?_getD, hq]
    have hd : S.drop q = S[q] :: S.drop (q + 1) := List.drop_eq_getElem_cons hq
    rw [hd, leastL] at h2
    refine KW.goLpR lay_ok T_ok 100 rfl (I := fun p : Nat => ⟨Tryz.f163.ntmps, [(3, .e (.r 3)), (5, sI S[q]), (6, sB ((out.take p).all fun x => !partB x S[q])), (10, .e (.c (ints S))), (11, sI S.length), (12, sI q), (16, .e (.r 3)), (17, sI out.length), (18, sI p)], [(3, .own 3 (ints out))]⟩)
      (R := fun p => p ≤ out.length) (m := fun p => out.length - p) 0 [(3, 3)] rfl rfl ⟨rfl, by rw [← hg]; rfl, rfl, rfl, rfl, rfl, rfl, rfl, rfl, trivial⟩ (by simp; omega) (by simp) ⟨rfl, trivial⟩ ?_
    rintro p hp0
    refine KW.goIf lay_ok T_ok 100 rfl (by simp) rfl trivial (fun h => ?_) fun h => ?_
    · have hp : p < out.length := by simpa using h
      have hgp : out.getD (Int.toNat (p : Int)) 0 = out[p] := by simp [List.getD_eq_getElem?_getD, hp]
      refine KW.goToR lay_ok T_ok 100 rfl (p + 1) [(3, 3)] rfl rfl ⟨rfl, rfl, ?_, rfl, rfl, rfl, rfl, rfl, rfl, trivial⟩ (by simp [inK] <;> omega) ⟨by omega, by omega⟩ ⟨rfl, trivial⟩
      rw [List.take_succ_eq_append_getElem hp, List.all_append, ← hgp]
      simp only [List.all_cons, List.all_nil, Bool.and_true]
      rfl
    · have hp : p = out.length := by simp at h; omega
      refine KW.goOut lay_ok T_ok 100 rfl (by simp) ?_
      refine KW.goIf lay_ok T_ok 100 rfl (by simp) rfl trivial (fun h => ?_) fun h => ?_
      · rw [hp, List.take_length] at h
        rw [h] at h2
        refine KW.goToR lay_ok T_ok 100 rfl (out ++ [S[q]], q + 1) [(3, 34)] rfl rfl ⟨rfl, rfl, rfl, rfl, trivial⟩ (by simp [inK] <;> omega) ⟨⟨by simp only; omega, by simpa using h2, by simp; omega⟩, by simp only; omega⟩ ⟨own_cat _ rfl, trivial⟩
      · rw [hp, List.take_length] at h
        rw [h] at h2
        refine KW.goToR lay_ok T_ok 100 rfl (out, q + 1) [(3, 3)] rfl rfl ⟨rfl, rfl, rfl, rfl, trivial⟩ (by simp [inK] <;> omega) ⟨⟨by simp only; omega, by simpa using h2, by simp only; omega⟩, by simp only; omega⟩ ⟨rfl, trivial⟩
  · have hq : q = S.length := by simp at h; omega
    refine KW.goOut lay_ok T_ok 100 rfl (by simp) ?_
    refine KW.goRetO lay_ok T_ok 100 rfl 3 2 rfl rfl rfl ?_ (by simp <;> omega)
    rw [hq, List.drop_length, leastL] at h2
    rw [h2]
end Go.Proofs.YtdeoicedbphgoaaGreatDoor

/-
  family.Product, the specification of Restrict, few and awake of the law compute their Lean functions.
-/
namespace Go.Proofs.YtdeoicedbphgoaaGreatDoor
open Go.Sy Go.Pu
variable [Drw]

def T13 : Fns := (163, fL (fun l => .e (lV (leastS l))) fun l => l.length ≤ 1099511627776) ::
  (215, fL (fun l => .tup [lV (limL l), iV (limE l)]) fun l => True) ::
  (214, fLL (fun a b => sI (bothE a b)) fun _ _ => True) ::
  (152, fL (fun l => .tup [lV (if listE l = 0 then minS l else []), eV (listE l)]) fun _ => True) ::
  (28, fLI (fun l s => .tup [bV (decide (listE l = 0) && validS s && l.any (fun t => subS t s)), eV (if listE l = 0 then if validS s then 0 else 3 else listE l)]) fun _ _ => True) ::
  T12
theorem T13_ok : FnsOk Tryz.prog T13 := .cons (.cons (.cons (.cons (.cons (T12_ok) Tryz.func28 rfl rfl (fLI_ok fun l s _ => covers_does l s)) Tryz.func152 rfl rfl (fL_ok fun l _ => minimalX_does l)) Tryz.func214 rfl rfl (fLL_ok fun a b _ => both_does a b)) Tryz.func215 rfl rfl (fL_ok fun l _ => limited_does l)) Tryz.func163 rfl rfl (fL_ok fun l h => least_does l h)


theorem product_does (a b : List Int) : DoesF Tryz.prog 153 [lV a, lV b] [] (.tup [lV (if bothE a b = 0 then limL (minS (unionsC a b)) else []), eV (if bothE a b = 0 then limE (minS (unionsC a b)) else bothE a b)]) [] := by
  refine DoesF.body _ Tryz.func153 rfl rfl rfl rfl ?_
  refine KW.goIf lay_ok T13_ok 100 rfl (by simp) rfl trivial (fun h => ?_) fun h => ?_
  · refine KW.go lay_ok T13_ok 100 rfl (by simp) ?_
    refine KW.conv 4 (ints []) rfl ⟨rfl, rfl⟩ ?_
    refine KW.fin [] rfl rfl ?_ trivial
    simp [listsE_two] at h
    simp [SV.ren, renL, EV.ren, listsE_two, h]
  · simp [listsE_two] at h
    have h1 : listE a = 0 := by unfold bothE at h; split at h <;> simp_all
    have h2 : listE b = 0 := by unfold bothE at h; split at h <;> simp_all
    have la := listE_len h1
    have lb := listE_len h2
    have va := listE_valid h1
    have vb := listE_valid h2
    have hma := minS_length a
    have hmb := minS_length b
    refine KW.go lay_ok T13_ok 100 rfl (by simpa using ⟨⟨va, by omega⟩, vb, by omega⟩) ?_
    simp only [unI_ints]
    generalize hA : minS a = MA at hma
    generalize hB : minS b = MB at hmb
    refine KW.makeMap rfl rfl rfl rfl rfl ?_
    refine KW.go lay_ok T13_ok 100 rfl (by simp) ?_
    refine KW.nilO 8 8 3 (ints []) rfl rfl rfl ?_
    refine KW.lp (I := fun q : Nat => ⟨Tryz.f153.ntmps, [(1, .e (lV MB)), (7, .e (.r 25)), (8, .e (.r 8)), (26, .e (lV MA)), (27, sI MA.length), (28, sI q)], [(8, .own 3 (ints (addAll [] (unionsL (MA.take q) MB)))), (25, .mset (addAll [] (unionsL (MA.take q) MB)).reverse)]⟩)
      (R := fun q => q ≤ MA.length) (m := fun q => MA.length - q) 0 (by simp) [(8, 8), (25, 25)] ⟨rfl, rfl, ⟨rfl, rfl, rfl, rfl, rfl, rfl, trivial⟩, ⟨rfl, rfl, trivial⟩⟩ ?_
    rintro q hq0
    have hUl : (addAll [] (unionsL (MA.take q) MB)).length ≤ 1048576 := by
      have := addAll_length (unionsL (MA.take q) MB) []
      rw [unionsL_length] at this
      have h3 : (MA.take q).length * MB.length ≤ 1024 * 1024 := Nat.mul_le_mul (by simp; omega) (by omega)
      simp only [List.length_nil, Nat.zero_add] at this
      omega
    refine KW.goIf lay_ok T13_ok 100 rfl (by simp) rfl trivial (fun h3 => ?_) fun h3 => ?_
    · have hq : q < MA.length := by simpa using h3
      have hg : MA.getD (Int.toNat (q : Int)) 0 = MA[q] := by simp [List.getD_eq_getElem?_getD, hq]
      have hsucc : unionsL (MA.take (q + 1)) MB = unionsL (MA.take q) MB ++ MB.map fun y => ior .i64 MA[q] y := by
        unfold unionsL
        rw [List.take_succ_eq_append_getElem hq, List.flatMap_append, List.flatMap_singleton]
      generalize hU : addAll [] (unionsL (MA.take q) MB) = U at hUl
      refine KW.goLpR lay_ok T13_ok 100 rfl (I := fun p : Nat => ⟨Tryz.f153.ntmps, [(1, .e (lV MB)), (7, .e (.r 25)), (8, .e (.r 8)), (10, sI MA[q]), (26, .e (lV MA)), (27, sI MA.length), (28, sI q), (32, .e (lV MB)), (33, sI MB.length), (34, sI p)], [(8, .own 3 (ints (addAll U ((MB.take p).map fun y => ior .i64 MA[q] y)))), (25, .mset (addAll U ((MB.take p).map fun y => ior .i64 MA[q] y)).reverse)]⟩)
        (R := fun p => p ≤ MB.length) (m := fun p => MB.length - p) 0 [(8, 8), (25, 25)] rfl rfl ⟨rfl, rfl, rfl, by rw [← hg]; rfl, rfl, rfl, rfl, rfl, rfl, rfl, trivial⟩ (by simp; omega) (by simp) ⟨rfl, rfl, trivial⟩ ?_
      rintro p hp0
      have hVl : (addAll U ((MB.take p).map fun y => ior .i64 MA[q] y)).length ≤ 2097152 := by
        have := addAll_length ((MB.take p).map fun y => ior .i64 MA[q] y) U
        simp only [List.length_map, List.length_take] at this
        omega
      refine KW.goIf lay_ok T13_ok 100 rfl (by simp) rfl trivial (fun h4 => ?_) fun h4 => ?_
      · have hp : p < MB.length := by simpa using h4
        have hgp : MB.getD (Int.toNat (p : Int)) 0 = MB[p] := by simp [List.getD_eq_getElem?_getD, hp]
        have hps : addAll U ((MB.take (p + 1)).map fun y => ior .i64 MA[q] y) = addAll (addAll U ((MB.take p).map fun y => ior .i64 MA[q] y)) [ior .i64 MA[q] MB[p]] := by
          rw [List.take_succ_eq_append_getElem hp, List.map_append, addAll_append]; rfl
        generalize addAll U ((MB.take p).map fun y => ior .i64 MA[q] y) = V at hVl hps
        refine KW.go lay_ok T13_ok 100 rfl (by simp; omega) ?_
        refine KW.look lay_ok rfl rfl rfl rfl rfl rfl rfl rfl trivial trivial ?_
        rw [hgp]
        refine KW.goIf lay_ok T13_ok 100 rfl (by simp) rfl trivial (fun h5 => ?_) fun h5 => ?_
        · have hnot : ¬ ior .i64 MA[q] MB[p] ∈ V := by simpa using h5
          refine KW.go lay_ok T13_ok 100 rfl (by simp) ?_
          refine KW.mapPut lay_ok rfl rfl rfl rfl rfl rfl rfl trivial trivial ?_
          refine KW.goToR lay_ok T13_ok 100 rfl (p + 1) [(8, 50), (25, 25)] rfl rfl ⟨rfl, rfl, rfl, rfl, rfl, rfl, rfl, rfl, rfl, rfl, trivial⟩ (by simp [inK] <;> omega) ⟨by omega, by omega⟩ ⟨own_cat _ ?_, ?_, trivial⟩
          · rw [hps, addAll, addAll, if_neg hnot]
          · rw [hps, addAll, addAll, if_neg hnot, List.reverse_append]; rfl
        · have hin : ior .i64 MA[q] MB[p] ∈ V := by simpa using h5
          refine KW.goToR lay_ok T13_ok 100 rfl (p + 1) [(8, 8), (25, 25)] rfl rfl ⟨rfl, rfl, rfl, rfl, rfl, rfl, rfl, rfl, rfl, rfl, trivial⟩ (by simp [inK] <;> omega) ⟨by omega, by omega⟩ ⟨own_cat1 _ ?_, ?_, trivial⟩
          · rw [hps, addAll, addAll, if_pos hin]
          · rw [hps, addAll, addAll, if_pos hin]; rfl
      · have hp : p = MB.length := by simp at h4; omega
        have hfin : addAll U ((MB.take p).map fun y => ior .i64 MA[q] y) = addAll [] (unionsL (MA.take (q + 1)) MB) := by
          rw [hp, List.take_length, ← hU, hsucc, addAll_append]
        refine KW.goOut lay_ok T13_ok 100 rfl (by simp) ?_
        refine KW.goToR lay_ok T13_ok 100 rfl (q + 1) [(8, 8), (25, 25)] rfl rfl ⟨rfl, rfl, rfl, rfl, rfl, rfl, trivial⟩ (by simp [inK] <;> omega) ⟨by omega, by omega⟩ ⟨own_cat1 _ hfin, ?_, trivial⟩
        rw [← hfin]; rfl
    · have hq : q = MA.length := by simp at h3; omega
      have hU : addAll [] (unionsL (MA.take q) MB) = unionsC a b := by rw [hq, List.take_length]; unfold unionsC; rw [hA, hB]
      refine KW.goOut lay_ok T13_ok 100 rfl (by simp) ?_
      refine KW.go lay_ok T13_ok 100 rfl (by simp) ?_
      refine KW.frz 8 [53] rfl rfl rfl ?_
      refine KW.goRet lay_ok T13_ok 100 rfl rfl ?_ ?_ trivial
      · simp [SV.ren, renL, EV.ren, hU, h, unI_ints]
      · simp only [unI_ints, isI_ints, true_and, and_true]
        rw [hU]
        exact ⟨unionsC_valid va vb, by rw [← hU]; omega⟩

def T14 : Fns := (153, fLL (fun a b => .tup [lV (if bothE a b = 0 then limL (minS (unionsC a b)) else []), eV (if bothE a b = 0 then limE (minS (unionsC a b)) else bothE a b)]) fun _ _ => True) ::
  T13
theorem T14_ok : FnsOk Tryz.prog T14 := .cons (T13_ok) Tryz.func153 rfl rfl (fLL_ok fun a b _ => product_does a b)


end Go.Proofs.YtdeoicedbphgoaaGreatDoor
