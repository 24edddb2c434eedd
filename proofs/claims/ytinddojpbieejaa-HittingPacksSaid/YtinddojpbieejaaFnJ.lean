/-
  family.Minimal, Meets, Restrict and the specification of minimal sets compute their Lean functions.
-/
import Derived.Test.YtinddojpbieejaaFnI
import Derived.Test.YtinddojpbieejaaSyV
set_option linter.unusedVariables false
set_option linter.unusedSimpArgs false
namespace Go.Proofs.Ytinddojpbieejaa
open Go.Sy Go.Pu

abbrev eV (n : Int) : EV := .c (.lit (errV 38 n))
abbrev lV (l : List Int) : EV := .c (ints l)

theorem sized_does (l : List Int) : DoesF Try.prog 63 [lV l] [] (.tup [lV (limL l), eV (limE l)]) [] := by
  refine DoesF.body _ Try.func63 rfl rfl rfl rfl ?_
  refine KW.goIf lay_ok T11_ok 100 rfl (by simp) rfl trivial (fun h => ?_) fun h => ?_
  · have hl : 1024 < l.length := by simp at h; omega
    refine KW.go lay_ok T11_ok 100 rfl (by simp) ?_
    refine KW.conv 2 (ints []) rfl ⟨rfl, rfl⟩ ?_
    refine KW.fin [] rfl rfl ?_ trivial
    simp [SV.ren, renL, EV.ren, limL, limE, hl, errV]
  · have hl : ¬ 1024 < l.length := by simp at h; omega
    refine KW.goRet lay_ok T11_ok 100 rfl rfl ?_ (by simp) trivial
    simp [SV.ren, renL, EV.ren, limL, limE, hl, errV]

def T12 : Fns := (43, fL (fun l => .e (lV (minS l))) fun l => (∀ x ∈ l, validS x = true) ∧ l.length ≤ 1099511627776) ::
  (63, fL (fun l => .tup [lV (limL l), eV (limE l)]) fun l => True) ::
  (52, fLL (fun a b => sB (decide (a = b))) fun _ _ => True) ::
  (53, fL (fun l => .e (lV (sortedL l))) fun l => (∀ x ∈ l, validS x = true) ∧ l.length ≤ 1099511627776) ::
  T11
theorem T12_ok : FnsOk Try.prog T12 := .cons (.cons (.cons (.cons (T11_ok) Try.func53 rfl rfl (fL_ok fun l h => sorted_does l h.1 h.2)) Try.func52 rfl rfl (fLL_ok fun a b _ => equal_does a b)) Try.func63 rfl rfl (fL_ok fun l _ => sized_does l)) Try.func43 rfl rfl (fL_ok fun l h => minimal_does l h.1 h.2)


theorem minimalX_does (l : List Int) : DoesF Try.prog 21 [lV l] [] (.tup [lV (if listE l = 0 then minS l else []), eV (listE l)]) [] := by
  refine DoesF.body _ Try.func21 rfl rfl rfl rfl ?_
  refine KW.goIf lay_ok T12_ok 100 rfl (by simp) rfl trivial (fun h => ?_) fun h => ?_
  · refine KW.go lay_ok T12_ok 100 rfl (by simp) ?_
    refine KW.conv 2 (ints []) rfl ⟨rfl, rfl⟩ ?_
    refine KW.fin [] rfl rfl ?_ trivial
    simp [listsE_one] at h
    simp [SV.ren, renL, EV.ren, listsE_one, h]
  · simp [listsE_one] at h
    have h1 := listE_len h
    have h2 := listE_valid h
    refine KW.goRet lay_ok T12_ok 100 rfl rfl ?_ (by simpa using ⟨h2, by omega⟩) trivial
    simp [SV.ren, renL, EV.ren, h, errV]

theorem meetsC_does (t s : Int) : DoesF Try.prog 49 [iV t, .pe 1 1 (fun _ q => .lit (.int .i64 s)) 0 0] [] (sB (decide (iand .i64 t s = 0))) [] := by
  refine DoesF.body _ Try.func49 rfl rfl rfl rfl ?_
  refine KW.goRet lay_ok T12_ok 100 rfl rfl ?_ (by simp) trivial
  simp only [SV.ren, EV.ren]
  congr 5

theorem meets_does (l : List Int) (s : Int) : DoesF Try.prog 25 [lV l, iV s] [] (.tup [bV (decide (listE l = 0) && validS s && !l.any (fun t => decide (iand .i64 t s = 0))), eV (if listE l = 0 then if validS s then 0 else 3 else listE l)]) [] := by
  refine DoesF.body _ Try.func25 rfl rfl rfl rfl ?_
  refine KW.goIf lay_ok T12_ok 100 rfl (by simp) rfl trivial (fun h => ?_) fun h => ?_
  · refine KW.goRet lay_ok T12_ok 100 rfl rfl ?_ (by simp) trivial
    simp [listsE_one] at h
    simp [SV.ren, renL, EV.ren, h, listsE_one]
  · simp [listsE_one] at h
    refine KW.goIf lay_ok T12_ok 100 rfl (by simp) rfl trivial (fun h' => ?_) fun h' => ?_
    · refine KW.goRet lay_ok T12_ok 100 rfl rfl ?_ (by simp) trivial
      simp at h'
      simp [SV.ren, renL, EV.ren, h, h', errV]
    · simp at h'
      refine KW.go lay_ok T12_ok 100 rfl (by simp) ?_
      refine KW.callV0 (containsFunc_does (m := 1) (ks := fun _ => 1) (caps := fun _ _ => .lit (.int .i64 s)) (p := fun t => decide (iand .i64 t s = 0)) l ⟨enters Try.func49 rfl rfl, fun x _ => meetsC_does x s⟩) (enters Try.func48 rfl rfl) [3] (.inl rfl) rfl rfl rfl rfl rfl trivial
        ⟨⟨_, _, rfl, trivial, .conv (CVEq.refl _)⟩, ⟨_, _, rfl, trivial, .lfn rfl ?_⟩, trivial⟩ rfl (.inr trivial) ?_
      · intro j hj
        obtain rfl : j = 0 := by omega
        refine ⟨3, _, _, _, rfl, rfl, rfl, rfl, fun q hq => ?_⟩
        obtain rfl : q = 0 := by omega
        rfl
      · refine KW.goRet lay_ok T12_ok 100 rfl rfl ?_ (by simp) trivial
        simp [SV.ren, renL, EV.ren, h, h', errV]

theorem least_does (l : List Int) (hb : l.length ≤ 1099511627776) : DoesF Try.prog 38 [lV l] [] (.e (lV (leastS l))) [] := by
  refine DoesF.body _ Try.func38 rfl rfl rfl rfl ?_
  have T_ok : FnsOk Try.prog ((66, fII (fun a b => sB (partB a b)) fun _ _ => True) :: T12) := .cons T12_ok Try.func66 rfl rfl (fII_ok fun a b _ => part_does a b)
  have hSl := sortS_length l
  refine KW.go lay_ok T_ok 100 rfl (by simpa using hb) ?_
  simp only [unI_ints]
  generalize hS : sortS l = S at hSl
  refine KW.nilO 3 3 3 (ints []) rfl rfl rfl ?_
  refine KW.lp (I := fun q : List Int × Nat => ⟨Try.f38.ntmps, [(3, .e (.r 3)), (10, .e (.c (ints S))), (11, sI S.length), (12, sI q.2)], [(3, .own 3 (ints q.1))]⟩)
    (R := fun q => q.2 ≤ S.length ∧ leastL q.1 (S.drop q.2) = leastS l ∧ q.1.length ≤ q.2) (m := fun q => S.length - q.2) ([], 0) ⟨by simp, by simp [leastS, hS], by simp⟩ [(3, 3)] ⟨rfl, rfl, ⟨rfl, rfl, rfl, rfl, trivial⟩, ⟨rfl, trivial⟩⟩ ?_
  rintro ⟨out, q⟩ ⟨h1, h2, h3⟩
  simp only at h1 h2 h3
  refine KW.goIf lay_ok T_ok 100 rfl (by simp) rfl trivial (fun h => ?_) fun h => ?_
  · have hq : q < S.length := by simpa using h
    have hg : S.getD (Int.toNat (q : Int)) 0 = S[q] := by simp [List.getD_eq_getElem?_getD, hq]
    have hd : S.drop q = S[q] :: S.drop (q + 1) := List.drop_eq_getElem_cons hq
    rw [hd, leastL] at h2
    refine KW.goLpR lay_ok T_ok 100 rfl (I := fun p : Nat => ⟨Try.f38.ntmps, [(3, .e (.r 3)), (5, sI S[q]), (6, sB ((out.take p).all fun x => !partB x S[q])), (10, .e (.c (ints S))), (11, sI S.length), (12, sI q), (16, .e (.r 3)), (17, sI out.length), (18, sI p)], [(3, .own 3 (ints out))]⟩)
      (R := fun p => p ≤ out.length) (m := fun p => out.length - p) 0 [(3, 3)] rfl rfl ⟨rfl, by rw [← hg]; rfl, rfl, rfl, rfl, rfl, rfl, rfl, rfl, trivial⟩ (by simp; omega) (by simp) ⟨rfl, trivial⟩ ?_
    rintro p hp0
    refine KW.goIf lay_ok T_ok 100 rfl (by simp) rfl trivial (fun h => ?_) fun h => ?_
    · have hp : p < out.length := by simpa using h
      have hgp : out.getD (Int.toNat (p : Int)) 0 = out[p] := by simp [List.getD_eq_getElem?_getD, hp]
      refine KW.goToR lay_ok T_ok 100 rfl (p + 1) [(3, 3)] rfl rfl ⟨rfl, rfl, ?_, rfl, rfl, rfl, rfl, rfl, rfl, trivial⟩ (by simp [inK] <;> omega) ⟨by omega, by omega⟩ ⟨rfl, trivial⟩
      rw [List.take_succ_eq_append_getElem hp, List.all_append, ← hgp]
      simp only [List.all_cons, List.all_nil, Bool.and_true]
      rfl
    · have hp : p = out.length := by simp at h; omega
      refine KW.goOut lay_ok T_ok 100 rfl (by simp) ?_
      refine KW.goIf lay_ok T_ok 100 rfl (by simp) rfl trivial (fun h => ?_) fun h => ?_
      · rw [hp, List.take_length] at h
        rw [h] at h2
        refine KW.goToR lay_ok T_ok 100 rfl (out ++ [S[q]], q + 1) [(3, 34)] rfl rfl ⟨rfl, rfl, rfl, rfl, trivial⟩ (by simp [inK] <;> omega) ⟨⟨by simp only; omega, by simpa using h2, by simp; omega⟩, by simp only; omega⟩ ⟨own_cat _ rfl, trivial⟩
      · rw [hp, List.take_length] at h
        rw [h] at h2
        refine KW.goToR lay_ok T_ok 100 rfl (out, q + 1) [(3, 3)] rfl rfl ⟨rfl, rfl, rfl, rfl, trivial⟩ (by simp [inK] <;> omega) ⟨⟨by simp only; omega, by simpa using h2, by simp only; omega⟩, by simp only; omega⟩ ⟨rfl, trivial⟩
  · have hq : q = S.length := by simp at h; omega
    refine KW.goOut lay_ok T_ok 100 rfl (by simp) ?_
    refine KW.goRetO lay_ok T_ok 100 rfl 3 2 rfl rfl rfl ?_ (by simp <;> omega)
    rw [hq, List.drop_length, leastL] at h2
    rw [h2]
end Go.Proofs.Ytinddojpbieejaa
