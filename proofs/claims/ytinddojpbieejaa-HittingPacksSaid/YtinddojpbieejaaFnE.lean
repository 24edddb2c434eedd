/-
  slices.ContainsFunc and family.Covers compute what their Lean functions say; no condition.
-/
import Derived.Test.YtinddojpbieejaaFnD
set_option linter.unusedVariables false
set_option linter.unusedSimpArgs false
namespace Go.Proofs.Ytinddojpbieejaa
open Go.Sy Go.Pu

/-- a function from int to bool, with what it has captured -/
def Clo (P : Program) (g m : Nat) (ks : Nat → Nat) (caps : Nat → Nat → CV) (p : Int → Bool) (xs : List Int) : Prop :=
  (∀ args w, (callFunc g args).run P w = .ok (.enter g args) w) ∧ ∀ x ∈ xs, DoesF P g (iV x :: capE ks caps m 0) [] (sB (p x)) []

theorem indexFunc_does {g m : Nat} {ks : Nat → Nat} {caps : Nat → Nat → CV} {p : Int → Bool} (xs : List Int) (hc : Clo Try.prog g m ks caps p xs) : ∃ z : Int, (0 ≤ z ↔ xs.any p = true) ∧
    DoesF Try.prog 73 [.c (ints xs), .c (.clo g m ks caps)] [] (sI z) [] := by
  refine ⟨if xs.any p then (xs.findIdx p : Int) else -1, by split <;> simp_all, ?_⟩
  refine DoesF.body _ Try.func73 rfl rfl rfl rfl ?_
  refine KW.len 0 rfl rfl fun hla => ?_
  refine KW.goLp lay_ok T9_ok 100 rfl (I := fun q : Nat => ⟨Try.f73.ntmps, [(0, .e (.c (ints xs))), (1, .e (.c (.clo g m ks caps))), (7, sI xs.length), (8, sI q)], []⟩) (R := fun q => q ≤ xs.length ∧ (xs.take q).any p = false) (m := fun q => xs.length - q) 0 rfl ⟨rfl, rfl, rfl, rfl, trivial⟩ (by simp) ⟨by simp, by simp⟩ trivial ?_
  rintro q ⟨h1, h2⟩
  have h2' : ∀ x ∈ xs.take q, p x = false := by simpa [List.any_eq_false] using h2
  refine KW.goIf lay_ok T9_ok 100 rfl (by simp) rfl trivial (fun h => ?_) fun h => ?_
  · have hq : q < xs.length := by simpa using h
    have hg : xs.getD (Int.toNat (q : Int)) 0 = xs[q] := by simp [List.getD_eq_getElem?_getD, hq]
    refine KW.go lay_ok T9_ok 100 rfl (by simp; omega) ?_
    refine KW.callC [iV xs[q]] (hc.2 xs[q] (List.getElem_mem hq)) hc.1 [] (.inl rfl) rfl rfl rfl rfl rfl trivial ⟨⟨_, _, rfl, trivial, Mt.conv (show CVEq (.lit (.int .i64 (xs.getD (Int.toNat (q : Int)) 0))) _ by rw [hg]; exact CVEq.refl _)⟩, trivial⟩ rfl (.inl rfl) ?_
    refine KW.goIf lay_ok T9_ok 100 rfl (by simp) rfl trivial (fun h => ?_) fun h => ?_
    · refine KW.goOutR lay_ok T9_ok 100 rfl (by simp) ?_
      refine KW.goRet lay_ok T9_ok 100 rfl rfl ?_ (by simp) trivial
      have ha : xs.any p = true := by rw [List.any_eq_true]; exact ⟨xs[q], List.getElem_mem hq, h⟩
      have hi : xs.findIdx p = q := by
        rw [List.findIdx_eq hq]
        refine ⟨h, fun j hj => ?_⟩
        exact h2' _ (List.mem_take_iff_getElem.2 ⟨j, by omega, rfl⟩)
      rw [if_pos ha, hi]; rfl
    · refine KW.goTo lay_ok T9_ok 100 rfl (q + 1) rfl ⟨rfl, rfl, rfl, rfl, trivial⟩ (by simp [inK]; omega) ⟨⟨by omega, ?_⟩, by omega⟩ trivial
      rw [List.take_succ_eq_append_getElem hq, List.any_append, h2]
      simp [h]
  · have hq : q = xs.length := by simp at h; omega
    refine KW.goOut lay_ok T9_ok 100 rfl (by simp) ?_
    refine KW.goRet lay_ok T9_ok 100 rfl rfl ?_ (by simp) trivial
    rw [hq, List.take_length] at h2
    rw [h2]; rfl

theorem containsFunc_does {g m : Nat} {ks : Nat → Nat} {caps : Nat → Nat → CV} {p : Int → Bool} (xs : List Int) (hc : Clo Try.prog g m ks caps p xs) :
    DoesF Try.prog 48 [.c (ints xs), .c (.clo g m ks caps)] [] (sB (xs.any p)) [] := by
  obtain ⟨z, hz, D⟩ := indexFunc_does xs hc
  refine DoesF.body _ Try.func48 rfl rfl rfl rfl ?_
  refine KW.go lay_ok T9_ok 100 rfl (by simp) ?_
  refine KW.callV0 D (enters Try.func73 rfl rfl) [] (.inl rfl) rfl rfl rfl rfl rfl trivial ⟨⟨_, _, rfl, trivial, .conv (CVEq.refl _)⟩, ⟨_, _, rfl, trivial, .conv (CVEq.refl _)⟩, trivial⟩ rfl (.inl rfl) ?_
  refine KW.goRet lay_ok T9_ok 100 rfl rfl ?_ (by simp) trivial
  simp only [SV.ren, EV.ren]
  congr 5
  rw [Bool.eq_iff_iff, decide_eq_true_iff, ← hz]

def T10 : Fns := (42, fLs (fun l => .e (.c (.lit (errV 38 (listsE l))))) fun _ => True) ::
  (37, fL (fun l => sI (listE l)) fun _ => True) ::
  T9
theorem T10_ok : FnsOk Try.prog T10 := .cons (.cons (T9_ok) Try.func37 rfl rfl (fL_ok fun l _ => rerror_does l)) Try.func42 rfl rfl (fLs_ok fun l _ => lists_does l)


theorem coversC_does (t s : Int) : DoesF Try.prog 50 [iV t, .pe 1 1 (fun _ q => .lit (.int .i64 s)) 0 0] [] (sB (subS t s)) [] := by
  refine DoesF.body _ Try.func50 rfl rfl rfl rfl ?_
  exact KW.goRet lay_ok T10_ok 100 rfl rfl rfl (by simp) trivial

theorem covers_does (l : List Int) (s : Int) : DoesF Try.prog 26 [.c (ints l), iV s] [] (.tup [bV (decide (listE l = 0) && validS s && l.any (fun t => subS t s)), .c (.lit (errV 38 (if listE l = 0 then if validS s then 0 else 3 else listE l)))]) [] := by
  refine DoesF.body _ Try.func26 rfl rfl rfl rfl ?_
  refine KW.goIf lay_ok T10_ok 100 rfl (by simp) rfl trivial (fun h => ?_) fun h => ?_
  · refine KW.goRet lay_ok T10_ok 100 rfl rfl ?_ (by simp) trivial
    simp [listsE] at h
    simp [SV.ren, renL, EV.ren, h, listsE]
  · simp [listsE] at h
    refine KW.goIf lay_ok T10_ok 100 rfl (by simp) rfl trivial (fun h' => ?_) fun h' => ?_
    · refine KW.goRet lay_ok T10_ok 100 rfl rfl ?_ (by simp) trivial
      simp at h'
      simp [SV.ren, renL, EV.ren, h, h', errV]
    · simp at h'
      refine KW.go lay_ok T10_ok 100 rfl (by simp) ?_
      refine KW.callV0 (containsFunc_does (m := 1) (ks := fun _ => 1) (caps := fun _ _ => .lit (.int .i64 s)) l ⟨enters Try.func50 rfl rfl, fun x _ => coversC_does x s⟩) (enters Try.func48 rfl rfl) [3] (.inl rfl) rfl rfl rfl rfl rfl trivial
        ⟨⟨_, _, rfl, trivial, .conv (CVEq.refl _)⟩, ⟨_, _, rfl, trivial, .lfn rfl ?_⟩, trivial⟩ rfl (.inr trivial) ?_
      · intro j hj
        obtain rfl : j = 0 := by omega
        refine ⟨3, _, _, _, rfl, rfl, rfl, rfl, fun q hq => ?_⟩
        obtain rfl : q = 0 := by omega
        rfl
      · refine KW.goRet lay_ok T10_ok 100 rfl rfl ?_ (by simp) trivial
        simp [SV.ren, renL, EV.ren, h, h', errV]
end Go.Proofs.Ytinddojpbieejaa
