/-
  FnP, FnQ, FnR, one text.
-/
import Derived.Test.YtjaanpbahlbmoaaDoorFnL
import Derived.Test.YtjaanpbahlbmoaaDoorPuH
import Derived.Test.YtjaanpbahlbmoaaDoorSyT
set_option linter.unusedSectionVars false
set_option linter.unusedVariables false
set_option linter.unusedSimpArgs false
/-
  The elements of sets: Has, Greatest, Elements and the specification's Support compute their Lean functions; no condition.
-/
namespace Go.Proofs.YtjaanpbahlbmoaaDoor
open Go.Sy Go.Pu
variable [Drw]

theorem has_does (s i : Int) : DoesF Tryd.prog 27 [iV s, iV i] [] (sB (hasB s i)) [] := by
  refine DoesF.body _ Tryd.func27 rfl rfl rfl rfl ?_
  refine KW.goRet lay_ok T17_ok 100 rfl rfl rfl ?_ trivial
  simp [bitsI]
  intros; omega
theorem rhas_does (s i : Int) : DoesF Tryd.prog 28 [iV s, iV i] [] (sB (hasB s i)) [] := by
  refine DoesF.body _ Tryd.func28 rfl rfl rfl rfl ?_
  refine KW.goRet lay_ok T17_ok 100 rfl rfl rfl ?_ trivial
  simp [bitsI]
  intros; omega

theorem len_does (x : Int) (h0 : 0 ≤ x) (h1 : x ≤ 18446744073709551615) : DoesF Tryd.prog 65 [.c (.lit (.int .u64 x))] [] (sI (Lib.bitLen x.toNat : Nat)) [] := by
  refine DoesF.ofSame (args := #[.int .u64 x]) rfl (fun o h args w hs => args1 (by exact hs.size) ?_) fun w => Any.bits_Len layLen x w h0 h1
  exact (show RepV o w (.lit (.int .u64 x)) _ from hs.slot 0 (.e (.c (.lit (.int .u64 x)))) rfl).1

def T20 : Fns := (27, fII (fun s i => sB (hasB s i)) fun _ _ => True) ::
  (28, fII (fun s i => sB (hasB s i)) fun _ _ => True) ::
  (65, fU (fun x => sI (Lib.bitLen x.toNat : Nat)) fun x => 0 ≤ x ∧ x ≤ 18446744073709551615) ::
  T17
theorem T20_ok : FnsOk Tryd.prog T20 := .cons (.cons (.cons (T17_ok) Tryd.func65 rfl rfl (fU_ok fun x h => len_does x h.1 h.2)) Tryd.func28 rfl rfl (fII_ok fun s i _ => rhas_does s i)) Tryd.func27 rfl rfl (fII_ok fun s i _ => has_does s i)


def grtS (s : Int) : Int := (Lib.bitLen (cutS s).toNat : Nat) - 1
theorem greatest_does (s : Int) : DoesF Tryd.prog 33 [iV s] [] (sI (grtS s)) [] := by
  have hv := validS_iff.1 (valid_cutS s)
  have hb : Lib.bitLen (cutS s).toNat ≤ 64 := by
    rcases Nat.eq_zero_or_pos (cutS s).toNat with h | h
    · rw [h]; decide
    · exact Lib.bitLen_le _ 64 (Nat.le_refl _) (by simp only [Nat.reducePow]; omega)
  refine DoesF.body _ Tryd.func33 rfl rfl rfl rfl ?_
  refine KW.goRet lay_ok T20_ok 100 rfl rfl rfl ?_ trivial
  simp only [inK, true_and, and_true]
  omega

theorem elements_does (s : Int) : DoesF Tryd.prog 60 [iV s] [] (.e (lV (elemsS s))) [] := by
  refine DoesF.body _ Tryd.func60 rfl rfl rfl rfl ?_
  refine KW.go lay_ok T20_ok 100 rfl (by simp) ?_
  refine KW.nilO 3 3 3 (ints []) rfl rfl rfl ?_
  refine KW.lp (I := fun q : Nat => ⟨Tryd.f60.ntmps, [(0, sI s), (3, .e (.r 3)), (5, sI q)], [(3, .own 3 (ints (elemsN s q)))]⟩)
    (R := fun q => q ≤ 24) (m := fun q => 24 - q) 0 (by simp) [(3, 3)] ⟨rfl, rfl, ⟨rfl, rfl, rfl, trivial⟩, ⟨rfl, trivial⟩⟩ ?_
  rintro q hq0
  have hlen := elemsN_length s q
  refine KW.goIf lay_ok T20_ok 100 rfl (by simp) rfl trivial (fun h => ?_) fun h => ?_
  · have hq : q < 24 := by simp at h; omega
    refine KW.goIf lay_ok T20_ok 100 rfl (by simp) rfl trivial (fun h1 => ?_) fun h1 => ?_
    · have hb : bit s q = true := by rw [← hasB_nat s hq]; exact h1
      refine KW.goToR lay_ok T20_ok 100 rfl (q + 1) [(3, 14)] rfl rfl ⟨rfl, rfl, rfl, trivial⟩ (by simp [inK] <;> omega) ⟨by omega, by omega⟩ ⟨own_cat _ ?_, trivial⟩
      rw [elemsN_succ, hb]; rfl
    · have hb : bit s q = false := by rw [← hasB_nat s hq]; exact h1
      refine KW.goToR lay_ok T20_ok 100 rfl (q + 1) [(3, 3)] rfl rfl ⟨rfl, rfl, rfl, trivial⟩ (by simp [inK] <;> omega) ⟨by omega, by omega⟩ ⟨own_cat1 _ ?_, trivial⟩
      rw [elemsN_succ, hb]; simp
  · have hq : q = 24 := by simp at h; omega
    subst hq
    refine KW.goOut lay_ok T20_ok 100 rfl (by simp) ?_
    exact KW.goRetO lay_ok T20_ok 100 rfl 3 2 rfl rfl rfl rfl (by simp)

def T21 : Fns := (33, fI (fun s => sI (grtS s)) fun _ => True) ::
  (60, fI (fun s => .e (lV (elemsS s))) fun _ => True) ::
  T20
theorem T21_ok : FnsOk Tryd.prog T21 := .cons (.cons (T20_ok) Tryd.func60 rfl rfl (fI_ok fun s _ => elements_does s)) Tryd.func33 rfl rfl (fI_ok fun s _ => greatest_does s)


/-- the last of a list, or -1 -/
def lastD (l : List Int) : Int := l.getLastD (-1)
theorem rgreatest_does (s : Int) : DoesF Tryd.prog 34 [iV s] [] (sI (lastD (elemsS s))) [] := by
  refine DoesF.body _ Tryd.func34 rfl rfl rfl rfl ?_
  have hlen := elemsN_length s 24
  refine KW.goLp lay_ok T21_ok 100 rfl (I := fun q : Nat => ⟨Tryd.f34.ntmps, [(3, sI (lastD ((elemsS s).take q))), (7, .e (lV (elemsS s))), (8, sI (elemsS s).length), (9, sI q)], []⟩) (R := fun q => q ≤ (elemsS s).length) (m := fun q => (elemsS s).length - q) 0 rfl ⟨rfl, rfl, rfl, rfl, trivial⟩ (by simp) (by simp) trivial ?_
  rintro q hq0
  have hl24 : (elemsS s).length ≤ 24 := hlen
  refine KW.goIf lay_ok T21_ok 100 rfl (by simp) rfl trivial (fun h => ?_) fun h => ?_
  · have hq : q < (elemsS s).length := by simpa using h
    have hg : (elemsS s).getD (Int.toNat (q : Int)) 0 = (elemsS s)[q] := by simp [List.getD_eq_getElem?_getD, hq]
    refine KW.goTo lay_ok T21_ok 100 rfl (q + 1) rfl ⟨?_, rfl, rfl, rfl, trivial⟩ (by simp [inK] <;> omega) ⟨by omega, by omega⟩ trivial
    rw [List.take_succ_eq_append_getElem hq, ← hg]
    simp only [lastD, List.getLastD_concat]
    rfl
  · have hq : q = (elemsS s).length := by simp at h; omega
    refine KW.goOut lay_ok T21_ok 100 rfl (by simp) ?_
    refine KW.goRet lay_ok T21_ok 100 rfl rfl ?_ (by simp) trivial
    rw [hq, List.take_length]; rfl

theorem rsupport_does (l : List Int) : DoesF Tryd.prog 54 [lV l] [] (.tup [iV (if listE l = 0 then orL 0 l else 0), iV (listE l)]) [] := by
  refine DoesF.body _ Tryd.func54 rfl rfl rfl rfl ?_
  refine KW.len 0 rfl rfl fun hla => ?_
  refine KW.goIf lay_ok T21_ok 100 rfl (by simp) rfl trivial (fun h => ?_) fun h => ?_
  · refine KW.goRet lay_ok T21_ok 100 rfl rfl ?_ (by simp) trivial
    simp at h
    simp [SV.ren, renL, EV.ren, h]
  · simp at h
    refine KW.goLp lay_ok T21_ok 100 rfl (I := fun q : Int × Nat => ⟨Tryd.f54.ntmps, [(5, sI q.1), (13, .e (lV l)), (14, sI l.length), (15, sI q.2)], []⟩) (R := fun q => q.2 ≤ l.length ∧ orL q.1 (l.drop q.2) = orL 0 l) (m := fun q => l.length - q.2) (0, 0) rfl ⟨rfl, rfl, rfl, rfl, trivial⟩ (by simp) ⟨by simp, by simp⟩ trivial ?_
    rintro ⟨s, q⟩ ⟨h1, h2⟩
    simp only at h1 h2
    refine KW.goIf lay_ok T21_ok 100 rfl (by simp) rfl trivial (fun h3 => ?_) fun h3 => ?_
    · have hq : q < l.length := by simpa using h3
      have hg : l.getD (Int.toNat (q : Int)) 0 = l[q] := by simp [List.getD_eq_getElem?_getD, hq]
      have hd : l.drop q = l[q] :: l.drop (q + 1) := List.drop_eq_getElem_cons hq
      rw [hd, orL] at h2
      refine KW.goTo lay_ok T21_ok 100 rfl (ior .i64 s l[q], q + 1) rfl ⟨by rw [← hg]; rfl, rfl, rfl, rfl, trivial⟩ (by simp [inK]; omega) ⟨⟨by simp only; omega, h2⟩, by simp only; omega⟩ trivial
    · have hq : q = l.length := by simp at h3; omega
      refine KW.goOut lay_ok T21_ok 100 rfl (by simp) ?_
      refine KW.goRet lay_ok T21_ok 100 rfl rfl ?_ (by simp) trivial
      rw [hq, List.drop_length, orL] at h2
      simp [SV.ren, renL, EV.ren, h, h2]

def T22 : Fns := (34, fI (fun s => sI (lastD (elemsS s))) fun _ => True) ::
  (54, fL (fun l => .tup [iV (if listE l = 0 then orL 0 l else 0), iV (listE l)]) fun _ => True) ::
  (22, fVI (fun v c => sB (decide (numV v ≠ 0) && decide (numV v = c))) fun v c => isErr 42 v) ::
  T21
theorem T22_ok : FnsOk Tryd.prog T22 := .cons (.cons (.cons (T21_ok) Tryd.func22 rfl rfl (fVI_ok fun v c h => is_does v c h)) Tryd.func54 rfl rfl (fL_ok fun l _ => rsupport_does l)) Tryd.func34 rfl rfl (fI_ok fun s _ => rgreatest_does s)


end Go.Proofs.YtjaanpbahlbmoaaDoor

/-
  Hitting sets: All, Packing, Minimal and Dual of the code and of the specification compute their Lean functions; no condition.
-/
namespace Go.Proofs.YtjaanpbahlbmoaaDoor
open Go.Sy Go.Pu
variable [Drw]

theorem one_inK {q : Nat} (hq : q < 24) : 0 ≤ ishl 1 (q : Int) ∧ ishl 1 (q : Int) ≤ 16777215 := validS_iff.1 (one_valid hq)

end Go.Proofs.YtjaanpbahlbmoaaDoor

/-
  Hitting sets: the specification's All, Packing and Minimal; no condition.
-/
namespace Go.Proofs.YtjaanpbahlbmoaaDoor
open Go.Sy Go.Pu
variable [Drw]

def T23 : Fns := T22
theorem T23_ok : FnsOk Tryd.prog T23 := T22_ok


def packS (l : List Int) : List Int := packF [] 0 (minS l)
theorem leastHit_elems (l : List Int) (s : Int) : leastHit l s 24 = (elemsS s).all fun i => !meetB l (iandNot .i64 s (ishl 1 i)) := by
  rw [Bool.eq_iff_iff, leastHit, List.all_eq_true, List.all_eq_true]
  constructor
  · intro h x hx
    obtain ⟨i, hi, hb, rfl⟩ := mem_elemsS.1 hx
    have := h i (by simp [hi])
    rw [hb] at this
    exact this
  · intro h i hi
    cases hb : bit s i with
    | false => rfl
    | true => exact h _ (mem_elemsS.2 ⟨i, by simpa using hi, hb, rfl⟩)

def T24 : Fns := T23
theorem T24_ok : FnsOk Tryd.prog T24 := T23_ok


end Go.Proofs.YtjaanpbahlbmoaaDoor
