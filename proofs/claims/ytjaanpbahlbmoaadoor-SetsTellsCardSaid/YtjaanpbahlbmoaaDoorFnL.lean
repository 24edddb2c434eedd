/-
  FnL, FnM, FnN, FnO, one text.
-/
import Derived.Test.YtjaanpbahlbmoaaDoorFnH
import Derived.Test.YtjaanpbahlbmoaaDoorPuH
set_option linter.unusedSectionVars false
set_option linter.unusedVariables false
set_option linter.unusedSimpArgs false
/-
  The law FamilyMeets returns true; no condition.
-/
namespace Go.Proofs.YtjaanpbahlbmoaaDoor
open Go.Sy Go.Pu
variable [Drw]

def T15 : Fns := (44, f0 (sB true) True) ::
  T14
theorem T15_ok : FnsOk Tryd.prog T15 := .cons (T14_ok) Tryd.func44 rfl rfl (f0_ok fun _ => awake_does)


theorem covers_eq (l : List Int) (s : Int) : (decide (listE l = 0) && validS s && l.any (fun t => subS t s)) = (decide (listE l = 0) && validS s && l.any (fun t => decide (iand .i64 t s = t))) := by
  by_cases h : listE l = 0
  · have hv := listE_valid h
    congr 1
    rw [Bool.eq_iff_iff, List.any_eq_true, List.any_eq_true]
    constructor
    · rintro ⟨t, ht, hs⟩
      exact ⟨t, ht, by rw [decide_eq_true_iff, iand_part (hv t ht)]; exact (subS_iff (hv t ht)).1 hs⟩
    · rintro ⟨t, ht, hs⟩
      rw [decide_eq_true_iff, iand_part (hv t ht)] at hs
      exact ⟨t, ht, (subS_iff (hv t ht)).2 hs⟩
  · simp [h]
theorem restr_eq (l : List Int) (f w : Int) : (if restrE l f w = 0 then minS (restrL l f w) else []) = if restrE l f w = 0 then leastS (restrL l f w) else [] := by
  split
  · rename_i h
    refine minS_eq fun x hx => ?_
    unfold restrL at hx
    rw [List.mem_map] at hx
    obtain ⟨y, hy, rfl⟩ := hx
    have h0 : listE l = 0 := by
      unfold restrE at h
      split at h
      · assumption
      · contradiction
    exact valid_iandNot (listE_valid h0 y (List.mem_filter.1 hy).1)
  · rfl

end Go.Proofs.YtjaanpbahlbmoaaDoor

/-
  slices.Concat, family.Plus, Same, Support and the specification's Plus, Product, Same compute their Lean functions.
-/
namespace Go.Proofs.YtjaanpbahlbmoaaDoor
open Go.Sy Go.Pu
variable [Drw]

def T16 : Fns := T15
theorem T16_ok : FnsOk Tryd.prog T16 := T15_ok


theorem support_does (l : List Int) : DoesF Tryd.prog 48 [lV l] [] (.tup [iV (if listE l = 0 then orL 0 l else 0), eV (listE l)]) [] := by
  refine DoesF.body _ Tryd.func48 rfl rfl rfl rfl ?_
  refine KW.len 0 rfl rfl fun hla => ?_
  refine KW.goIf lay_ok T16_ok 100 rfl (by simp) rfl trivial (fun h => ?_) fun h => ?_
  · refine KW.goRet lay_ok T16_ok 100 rfl rfl ?_ (by simp) trivial
    simp [listsE_one] at h
    simp [SV.ren, renL, EV.ren, listsE_one, h]
  · simp [listsE_one] at h
    refine KW.goLp lay_ok T16_ok 100 rfl (I := fun q : Int × Nat => ⟨Tryd.f48.ntmps, [(5, sI q.1), (14, .e (lV l)), (15, sI l.length), (16, sI q.2)], []⟩) (R := fun q => q.2 ≤ l.length ∧ orL q.1 (l.drop q.2) = orL 0 l) (m := fun q => l.length - q.2) (0, 0) rfl ⟨rfl, rfl, rfl, rfl, trivial⟩ (by simp) ⟨by simp, by simp⟩ trivial ?_
    rintro ⟨s, q⟩ ⟨h1, h2⟩
    simp only at h1 h2
    refine KW.goIf lay_ok T16_ok 100 rfl (by simp) rfl trivial (fun h3 => ?_) fun h3 => ?_
    · have hq : q < l.length := by simpa using h3
      have hg : l.getD (Int.toNat (q : Int)) 0 = l[q] := by simp [List.getD_eq_getElem?_getD, hq]
      have hd : l.drop q = l[q] :: l.drop (q + 1) := List.drop_eq_getElem_cons hq
      rw [hd, orL] at h2
      refine KW.goTo lay_ok T16_ok 100 rfl (ior .i64 s l[q], q + 1) rfl ⟨by rw [← hg]; rfl, rfl, rfl, rfl, trivial⟩ (by simp [inK]; omega) ⟨⟨by simp only; omega, h2⟩, by simp only; omega⟩ trivial
    · have hq : q = l.length := by simp at h3; omega
      refine KW.goOut lay_ok T16_ok 100 rfl (by simp) ?_
      refine KW.goRet lay_ok T16_ok 100 rfl rfl ?_ (by simp) trivial
      rw [hq, List.drop_length, orL] at h2
      simp [SV.ren, renL, EV.ren, h, h2, errV]

def T17 : Fns := (48, fL (fun l => .tup [iV (if listE l = 0 then orL 0 l else 0), eV (listE l)]) fun _ => True) ::
  T16
theorem T17_ok : FnsOk Tryd.prog T17 := .cons (T16_ok) Tryd.func48 rfl rfl (fL_ok fun a _ => support_does a)


end Go.Proofs.YtjaanpbahlbmoaaDoor

/-
  The laws FamilyJoins, FamilyCovers, FamilyRestricts and FamilyLattice return true; no condition.
-/
namespace Go.Proofs.YtjaanpbahlbmoaaDoor
open Go.Sy Go.Pu
variable [Drw]

def okB (l : List Int) : Bool := decide (l.length ≤ 30) && decide (listE l = 0)
theorem okB_iff {l : List Int} : okB l = true ↔ l.length ≤ 30 ∧ listE l = 0 := by simp [okB]
def T18 : Fns := (22, fVI (fun v c => sB (decide (numV v ≠ 0) && decide (numV v = c))) fun v c => isErr 42 v) ::
  T17
theorem T18_ok : FnsOk Tryd.prog T18 := .cons (T17_ok) Tryd.func22 rfl rfl (fVI_ok fun v c h => is_does v c h)


theorem lim_small {l : List Int} (h : l.length ≤ 1024) : limL l = l ∧ limE l = 0 := by
  have : ¬ 1024 < l.length := by omega
  simp [limL, limE, this]
theorem prod_small {a b : List Int} (h : a.length * b.length ≤ 1024) : limL (minS (unionsC a b)) = minS (unionsC a b) ∧ limE (minS (unionsC a b)) = 0 :=
  lim_small (Nat.le_trans (minS_length _) (Nat.le_trans (unionsC_length a b) h))
theorem plus_small {a b : List Int} (h : a.length + b.length ≤ 1024) : limL (minS (a ++ b)) = minS (a ++ b) ∧ limE (minS (a ++ b)) = 0 :=
  lim_small (Nat.le_trans (minS_length _) (by simpa using h))

end Go.Proofs.YtjaanpbahlbmoaaDoor

/-
  family.Maximal, Check and Sizes compute their Lean functions; the law FamilyEnds returns true; no condition.
-/
namespace Go.Proofs.YtjaanpbahlbmoaaDoor
open Go.Sy Go.Pu
variable [Drw]

theorem maximalC_does (t x : Int) : DoesF Tryd.prog 75 [iV t, .pe 1 1 (fun _ q => .lit (.int .i64 x)) 0 0] [] (sB (subS x t)) [] := by
  refine DoesF.body _ Tryd.func75 rfl rfl rfl rfl ?_
  exact KW.goRet lay_ok T18_ok 100 rfl rfl rfl (by simp) trivial

theorem maximal_does (l : List Int) : DoesF Tryd.prog 47 [lV l] [] (.tup [lV (if listE l = 0 then maxS l else []), eV (listE l)]) [] := by
  refine DoesF.body _ Tryd.func47 rfl rfl rfl rfl ?_
  refine KW.goIf lay_ok T18_ok 100 rfl (by simp) rfl trivial (fun h => ?_) fun h => ?_
  · refine KW.go lay_ok T18_ok 100 rfl (by simp) ?_
    refine KW.conv 2 (ints []) rfl ⟨rfl, rfl⟩ ?_
    refine KW.fin [] rfl rfl ?_ trivial
    simp [listsE_one] at h
    simp [SV.ren, renL, EV.ren, listsE_one, h]
  · simp [listsE_one] at h
    have hlen := listE_len h
    have hv : Val l := listE_valid h
    have hSl := sortedL_length l
    refine KW.go lay_ok T18_ok 100 rfl (by simpa using ⟨hv, by omega⟩) ?_
    simp only [unI_ints]
    have hmx : maxS l = maxL (sortedL l) := rfl
    generalize hS : sortedL l = S at hSl hmx
    refine KW.nilO 5 5 3 (ints []) rfl rfl rfl ?_
    refine KW.lp (I := fun q : List Int × Nat => ⟨Tryd.f47.ntmps, [(5, .e (.r 5)), (6, .e (lV S)), (17, .e (lV S)), (18, sI S.length), (19, sI q.2)], [(5, .own 3 (ints q.1))]⟩)
      (R := fun q => q.2 ≤ S.length ∧ q.1 ++ maxL (S.drop q.2) = maxL S ∧ q.1.length ≤ q.2) (m := fun q => S.length - q.2) ([], 0) ⟨by simp, by simp, by simp⟩ [(5, 5)] ⟨rfl, rfl, ⟨rfl, rfl, rfl, rfl, rfl, trivial⟩, ⟨rfl, trivial⟩⟩ ?_
    rintro ⟨out, q⟩ ⟨h1, h2, h3⟩
    simp only at h1 h2 h3
    refine KW.goIf lay_ok T18_ok 100 rfl (by simp) rfl trivial (fun h4 => ?_) fun h4 => ?_
    · have hq : q < S.length := by simpa using h4
      have hg : S.getD (Int.toNat (q : Int)) 0 = S[q] := by simp [List.getD_eq_getElem?_getD, hq]
      have hd : S.drop q = S[q] :: S.drop (q + 1) := List.drop_eq_getElem_cons hq
      have e1 : ((q : Int) + 1).toNat = q + 1 := by omega
      have hdr := isI_drop S (S.length - (q + 1)) (q + 1) (by omega)
      have hdr2 : unI (.sl (S.length - (q + 1)) 1 fun e _ => .lit (.int .i64 (S.getD (e + (q + 1)) 0))) = S.drop (q + 1) := by rw [hdr.2, List.take_of_length_le (by simp)]
      rw [hd, maxL] at h2
      refine KW.go lay_ok T18_ok 100 rfl (by simp [inK]; omega) ?_
      refine KW.callV0 (containsFunc_does (m := 1) (ks := fun _ => 1) (caps := fun _ _ => .lit (.int .i64 S[q])) (p := fun t => subS S[q] t) (S.drop (q + 1)) ⟨enters Tryd.func75 rfl rfl, fun x _ => maximalC_does x S[q]⟩) (enters Tryd.func74 rfl rfl) [8] (.inl rfl) rfl rfl rfl rfl rfl trivial
        ⟨⟨_, _, rfl, trivial, .conv ?_⟩, ⟨_, _, rfl, trivial, .lfn rfl ?_⟩, trivial⟩ rfl (.inr trivial) ?_
      · show CVEq (.sl ((S.length : Int).toNat - ((q : Int) + 1).toNat) 1 fun e _ => .lit (.int .i64 (S.getD (e + ((q : Int) + 1).toNat) 0))) _
        rw [e1, Int.toNat_natCast, ← hdr2]
        exact hdr.1
      · intro j hj
        obtain rfl : j = 0 := by omega
        refine ⟨8, _, _, _, rfl, rfl, rfl, rfl, fun q' hq' => ?_⟩
        obtain rfl : q' = 0 := by omega
        show some (EV.c (.lit (.int .i64 (S.getD (Int.toNat (q : Int)) 0)))) = _
        rw [hg]
      · refine KW.goIf lay_ok T18_ok 100 rfl (by simp) rfl trivial (fun h5 => ?_) fun h5 => ?_
        · have hc : ((S.drop (q + 1)).any fun t => subS S[q] t) = false := by simpa using h5
          rw [hc] at h2
          refine KW.goToR lay_ok T18_ok 100 rfl (out ++ [S[q]], q + 1) [(5, 34)] rfl rfl ⟨rfl, rfl, rfl, rfl, rfl, trivial⟩ (by simp [inK] <;> omega) ⟨⟨by simp only; omega, by simpa using h2, by simp; omega⟩, by simp only; omega⟩ ⟨own_cat _ ?_, trivial⟩
          rw [hg]
        · have hc : ((S.drop (q + 1)).any fun t => subS S[q] t) = true := by simpa using h5
          rw [hc] at h2
          refine KW.goToR lay_ok T18_ok 100 rfl (out, q + 1) [(5, 5)] rfl rfl ⟨rfl, rfl, rfl, rfl, rfl, trivial⟩ (by simp [inK] <;> omega) ⟨⟨by simp only; omega, by simpa using h2, by simp only; omega⟩, by simp only; omega⟩ ⟨rfl, trivial⟩
    · have hq : q = S.length := by simp at h4; omega
      refine KW.goOut lay_ok T18_ok 100 rfl (by simp) ?_
      refine KW.go lay_ok T18_ok 100 rfl (by simp) ?_
      refine KW.frz 5 [2] rfl rfl rfl ?_
      refine KW.fin [] rfl rfl ?_ trivial
      rw [hq, List.drop_length, maxL, List.append_nil] at h2
      simp [SV.ren, renL, EV.ren, h, h2, hmx, errV]

theorem check_does (l : List Int) : DoesF Tryd.prog 57 [lV l] [] (.e (eV (checkE l))) [] := by
  refine DoesF.body _ Tryd.func57 rfl rfl rfl rfl ?_
  refine KW.goIf lay_ok T18_ok 100 rfl (by simp) rfl trivial (fun h => ?_) fun h => ?_
  · refine KW.goRet lay_ok T18_ok 100 rfl rfl ?_ (by simp) trivial
    simp [listsE_one] at h
    simp [SV.ren, EV.ren, listsE_one, checkE, h]
  · simp [listsE_one] at h
    have hlen := listE_len h
    have hv : Val l := listE_valid h
    refine KW.goIf lay_ok T18_ok 100 rfl (by simpa using ⟨hv, by omega⟩) rfl trivial (fun h1 => ?_) fun h1 => ?_
    · refine KW.goRet lay_ok T18_ok 100 rfl rfl ?_ (by simp) trivial
      have : ¬ l = sortedL l := by simpa using h1
      simp [SV.ren, EV.ren, checkE, h, this, errV]
    · have hs : l = sortedL l := by simpa using h1
      refine KW.goIf lay_ok T18_ok 100 rfl (by simpa using ⟨hv, by omega⟩) rfl trivial (fun h2 => ?_) fun h2 => ?_
      · refine KW.goRet lay_ok T18_ok 100 rfl rfl ?_ (by simp) trivial
        have : ¬ (minS l).length = l.length := by simp at h2; omega
        simp [SV.ren, EV.ren, checkE, h, ← hs, this, errV]
      · refine KW.goRet lay_ok T18_ok 100 rfl rfl ?_ (by simp) trivial
        have : (minS l).length = l.length := by simp at h2; omega
        simp [SV.ren, EV.ren, checkE, h, ← hs, this, errV]

theorem sizes_does (l : List Int) : DoesF Tryd.prog 49 [lV l] [] (.tup [lV (if listE l = 0 then sizeL [] (sortedL l) else []), eV (listE l)]) [] := by
  refine DoesF.body _ Tryd.func49 rfl rfl rfl rfl ?_
  refine KW.goIf lay_ok T18_ok 100 rfl (by simp) rfl trivial (fun h => ?_) fun h => ?_
  · refine KW.go lay_ok T18_ok 100 rfl (by simp) ?_
    refine KW.conv 2 (ints []) rfl ⟨rfl, rfl⟩ ?_
    refine KW.fin [] rfl rfl ?_ trivial
    simp [listsE_one] at h
    simp [SV.ren, renL, EV.ren, listsE_one, h]
  · simp [listsE_one] at h
    have hlen := listE_len h
    have hv : Val l := listE_valid h
    have hSl := sortedL_length l
    refine KW.go lay_ok T18_ok 100 rfl (by simpa using ⟨hv, by omega⟩) ?_
    simp only [unI_ints]
    generalize hS : sortedL l = S at hSl
    refine KW.nilO 5 5 3 (ints []) rfl rfl rfl ?_
    refine KW.lp (I := fun q : List Int × Nat => ⟨Tryd.f49.ntmps, [(5, .e (.r 5)), (16, .e (lV S)), (17, sI S.length), (18, sI q.2)], [(5, .own 3 (ints q.1))]⟩)
      (R := fun q => q.2 ≤ S.length ∧ sizeL q.1 (S.drop q.2) = sizeL [] S ∧ SzOk q.1 q.2) (m := fun q => S.length - q.2) ([], 0) ⟨by simp, by simp, by simp [SzOk]⟩ [(5, 5)] ⟨rfl, rfl, ⟨rfl, rfl, rfl, rfl, trivial⟩, ⟨rfl, trivial⟩⟩ ?_
    rintro ⟨out, q⟩ ⟨h1, h2, h3⟩
    simp only at h1 h2 h3
    refine KW.goIf lay_ok T18_ok 100 rfl (by simp) rfl trivial (fun h4 => ?_) fun h4 => ?_
    · have hq : q < S.length := by simpa using h4
      have hg : S.getD (Int.toNat (q : Int)) 0 = S[q] := by simp [List.getD_eq_getElem?_getD, hq]
      have hd : S.drop q = S[q] :: S.drop (q + 1) := List.drop_eq_getElem_cons hq
      have hc := cntS_le S[q]
      have hpl := padL_length (cntS S[q]).toNat out
      have hol := h3.1
      rw [hd, sizeL] at h2
      have hstep := h3.step (n := (cntS S[q]).toNat) (by omega)
      refine KW.goLpR lay_ok T18_ok 100 rfl (I := fun j : Nat => ⟨Tryd.f49.ntmps, [(5, .e (.r 5)), (8, sI (cntS S[q])), (16, .e (lV S)), (17, sI S.length), (18, sI q)], [(5, .own 3 (ints (out ++ List.replicate j 0)))]⟩)
        (R := fun j => j ≤ (cntS S[q]).toNat + 1 - out.length) (m := fun j => (cntS S[q]).toNat + 1 - out.length - j) 0 [(5, 5)] rfl rfl ⟨rfl, by rw [← hg]; rfl, rfl, rfl, rfl, trivial⟩ (by simp; omega) (by omega) ⟨own_cat1 _ (by simp), trivial⟩ ?_
      rintro j hj
      have hjl : (out ++ List.replicate j (0 : Int)).length = out.length + j := by simp
      refine KW.goIf lay_ok T18_ok 100 rfl (by simp) rfl trivial (fun h5 => ?_) fun h5 => ?_
      · have h5' : ((out ++ List.replicate j (0 : Int)).length : Int) ≤ cntS S[q] := of_decide_eq_true h5
        refine KW.goToR lay_ok T18_ok 100 rfl (j + 1) [(5, 30)] rfl rfl ⟨rfl, rfl, rfl, rfl, rfl, trivial⟩ (by simp [inK] <;> omega) ⟨by omega, by omega⟩ ⟨own_cat _ ?_, trivial⟩
        rw [List.append_assoc, List.replicate_succ']
      · have h5' : ¬ ((out ++ List.replicate j (0 : Int)).length : Int) ≤ cntS S[q] := of_decide_eq_false h5
        have hj' : j = (cntS S[q]).toNat + 1 - out.length := by omega
        have hpad : out ++ List.replicate j 0 = padL (cntS S[q]).toNat out := by rw [hj']; rfl
        rw [hpad]
        have hget : ∀ x ∈ padL (cntS S[q]).toNat out, 0 ≤ x ∧ x ≤ (q : Int) := by
          intro x hx
          unfold padL at hx
          rcases List.mem_append.1 hx with hx | hx
          · exact h3.2 x hx
          · have := List.eq_of_mem_replicate hx
            omega
        have hgv : 0 ≤ (padL (cntS S[q]).toNat out).getD (cntS S[q]).toNat 0 ∧ (padL (cntS S[q]).toNat out).getD (cntS S[q]).toNat 0 ≤ (q : Int) := by
          refine hget _ ?_
          rw [List.getD_eq_getElem?_getD, List.getElem?_eq_getElem hpl.1]; exact List.getElem_mem _
        refine KW.goOut lay_ok T18_ok 100 rfl (by simp) ?_
        refine KW.go lay_ok T18_ok 100 rfl (by simp only [inK, true_and, and_true]; omega) ?_
        refine KW.updI 5 rfl ?_
        exact KW.to (bumpL (cntS S[q]).toNat (padL (cntS S[q]).toNat out), q + 1) ⟨⟨by simp only; omega, h2, hstep⟩, by simp only; omega⟩ [(5, 5)] ⟨rfl, rfl, ⟨rfl, rfl, rfl, rfl, trivial⟩, ⟨rfl, trivial⟩⟩
    · have hq : q = S.length := by simp at h4; omega
      refine KW.goOut lay_ok T18_ok 100 rfl (by simp) ?_
      refine KW.go lay_ok T18_ok 100 rfl (by simp) ?_
      refine KW.frz 5 [2] rfl rfl rfl ?_
      refine KW.fin [] rfl rfl ?_ trivial
      rw [hq, List.drop_length, sizeL] at h2
      simp [SV.ren, renL, EV.ren, h, h2, errV]

def T19 : Fns := (47, fL (fun l => .tup [lV (if listE l = 0 then maxS l else []), eV (listE l)]) fun _ => True) ::
  (57, fL (fun l => .e (eV (checkE l))) fun _ => True) ::
  (49, fL (fun l => .tup [lV (if listE l = 0 then sizeL [] (sortedL l) else []), eV (listE l)]) fun _ => True) ::
  T18
theorem T19_ok : FnsOk Tryd.prog T19 := .cons (.cons (.cons (T18_ok) Tryd.func49 rfl rfl (fL_ok fun l _ => sizes_does l)) Tryd.func57 rfl rfl (fL_ok fun l _ => check_does l)) Tryd.func47 rfl rfl (fL_ok fun l _ => maximal_does l)


end Go.Proofs.YtjaanpbahlbmoaaDoor
