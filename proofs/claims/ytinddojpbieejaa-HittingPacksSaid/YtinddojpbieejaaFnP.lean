/-
  The elements of sets: Has, Greatest, Elements and the specification's Support compute their Lean functions; no condition.
-/
import Derived.Test.YtinddojpbieejaaFnM
import Derived.Test.YtinddojpbieejaaPuH
import Derived.Test.YtinddojpbieejaaSyW
set_option linter.unusedVariables false
set_option linter.unusedSimpArgs false
namespace Go.Proofs.Ytinddojpbieejaa
open Go.Sy Go.Pu

theorem has_does (s i : Int) : DoesF Try.prog 34 [iV s, iV i] [] (sB (hasB s i)) [] := by
  refine DoesF.body _ Try.func34 rfl rfl rfl rfl ?_
  refine KW.goRet lay_ok T17_ok 100 rfl rfl rfl ?_ trivial
  simp [bitsI]
  intros; omega
theorem rhas_does (s i : Int) : DoesF Try.prog 80 [iV s, iV i] [] (sB (hasB s i)) [] := by
  refine DoesF.body _ Try.func80 rfl rfl rfl rfl ?_
  refine KW.goRet lay_ok T17_ok 100 rfl rfl rfl ?_ trivial
  simp [bitsI]
  intros; omega

theorem len_does (x : Int) (h0 : 0 ≤ x) (h1 : x ≤ 18446744073709551615) : DoesF Try.prog 77 [.c (.lit (.int .u64 x))] [] (sI (Lib.bitLen x.toNat : Nat)) [] := by
  refine DoesF.ofSame (args := #[.int .u64 x]) rfl (fun o h args w hs => args1 (by exact hs.size) ?_) fun w => Any.bits_Len layLen x w h0 h1
  exact (show RepV o w (.lit (.int .u64 x)) _ from hs.slot 0 (.e (.c (.lit (.int .u64 x)))) rfl).1

def T20 : Fns := (34, fII (fun s i => sB (hasB s i)) fun _ _ => True) ::
  (80, fII (fun s i => sB (hasB s i)) fun _ _ => True) ::
  (77, fU (fun x => sI (Lib.bitLen x.toNat : Nat)) fun x => 0 ≤ x ∧ x ≤ 18446744073709551615) ::
  T17
theorem T20_ok : FnsOk Try.prog T20 := .cons (.cons (.cons (T17_ok) Try.func77 rfl rfl (fU_ok fun x h => len_does x h.1 h.2)) Try.func80 rfl rfl (fII_ok fun s i _ => rhas_does s i)) Try.func34 rfl rfl (fII_ok fun s i _ => has_does s i)


def grtS (s : Int) : Int := (Lib.bitLen (cutS s).toNat : Nat) - 1
theorem greatest_does (s : Int) : DoesF Try.prog 55 [iV s] [] (sI (grtS s)) [] := by
  have hv := validS_iff.1 (valid_cutS s)
  have hb : Lib.bitLen (cutS s).toNat ≤ 64 := by
    rcases Nat.eq_zero_or_pos (cutS s).toNat with h | h
    · rw [h]; decide
    · exact Lib.bitLen_le _ 64 (Nat.le_refl _) (by simp only [Nat.reducePow]; omega)
  refine DoesF.body _ Try.func55 rfl rfl rfl rfl ?_
  refine KW.goRet lay_ok T20_ok 100 rfl rfl rfl ?_ trivial
  simp only [inK, true_and, and_true]
  omega

theorem elements_does (s : Int) : DoesF Try.prog 62 [iV s] [] (.e (lV (elemsS s))) [] := by
  refine DoesF.body _ Try.func62 rfl rfl rfl rfl ?_
  refine KW.go lay_ok T20_ok 100 rfl (by simp) ?_
  refine KW.nilO 3 3 3 (ints []) rfl rfl rfl ?_
  refine KW.lp (I := fun q : Nat => ⟨Try.f62.ntmps, [(0, sI s), (3, .e (.r 3)), (5, sI q)], [(3, .own 3 (ints (elemsN s q)))]⟩)
    (R := fun q => q ≤ 24) (m := fun q => 24 - q) 0 (by simp) [(3, 3)] ⟨rfl, rfl, ⟨rfl, rfl, rfl, trivial⟩, ⟨rfl, trivial⟩⟩ ?_
  rintro q hq0
  have hlen := elemsN_length s q
  refine KW.goIf lay_ok T20_ok 100 rfl (by simp) rfl trivial (fun h => ?_) fun h => ?_
  · have hq : q < 24 := by simp at h; omega
    refine KW.goIf lay_ok T20_ok 100 rfl (by simp) rfl trivial (fun h1 => ?_) fun h1 => ?_
    · have hb : bit s q = true := by rw [← hasB_nat s hq]; exact h1
      refine KW.goToR lay_ok T20_ok 100 rfl (q + 1) [(3, 14)] rfl rfl ⟨rfl, rfl, rfl, trivial⟩ (by simp [inK] <;> omega) ⟨by omega, by omega⟩ ⟨own_cat _ ?_, trivial⟩
      rw [elemsN_succ, hb]; rfl
    · have hb : bit s q = false := by rw [← hasB_nat s hq]; exact h1
      refine KW.goToR lay_ok T20_ok 100 rfl (q + 1) [(3, 3)] rfl rfl ⟨rfl, rfl, rfl, trivial⟩ (by simp [inK] <;> omega) ⟨by omega, by omega⟩ ⟨own_cat1 _ ?_, trivial⟩
      rw [elemsN_succ, hb]; simp
  · have hq : q = 24 := by simp at h; omega
    subst hq
    refine KW.goOut lay_ok T20_ok 100 rfl (by simp) ?_
    exact KW.goRetO lay_ok T20_ok 100 rfl 3 2 rfl rfl rfl rfl (by simp)

def T21 : Fns := (55, fI (fun s => sI (grtS s)) fun _ => True) ::
  (62, fI (fun s => .e (lV (elemsS s))) fun _ => True) ::
  T20
theorem T21_ok : FnsOk Try.prog T21 := .cons (.cons (T20_ok) Try.func62 rfl rfl (fI_ok fun s _ => elements_does s)) Try.func55 rfl rfl (fI_ok fun s _ => greatest_does s)


/-- the last of a list, or -1 -/
def lastD (l : List Int) : Int := l.getLastD (-1)
theorem rgreatest_does (s : Int) : DoesF Try.prog 59 [iV s] [] (sI (lastD (elemsS s))) [] := by
  refine DoesF.body _ Try.func59 rfl rfl rfl rfl ?_
  have hlen := elemsN_length s 24
  refine KW.goLp lay_ok T21_ok 100 rfl (I := fun q : Nat => ⟨Try.f59.ntmps, [(3, sI (lastD ((elemsS s).take q))), (7, .e (lV (elemsS s))), (8, sI (elemsS s).length), (9, sI q)], []⟩) (R := fun q => q ≤ (elemsS s).length) (m := fun q => (elemsS s).length - q) 0 rfl ⟨rfl, rfl, rfl, rfl, trivial⟩ (by simp) (by simp) trivial ?_
  rintro q hq0
  have hl24 : (elemsS s).length ≤ 24 := hlen
  refine KW.goIf lay_ok T21_ok 100 rfl (by simp) rfl trivial (fun h => ?_) fun h => ?_
  · have hq : q < (elemsS s).length := by simpa using h
    have hg : (elemsS s).getD (Int.toNat (q : Int)) 0 = (elemsS s)[q] := by simp [List.getD_eq_getElem?_getD, hq]
    refine KW.goTo lay_ok T21_ok 100 rfl (q + 1) rfl ⟨?_, rfl, rfl, rfl, trivial⟩ (by simp [inK] <;> omega) ⟨by omega, by omega⟩ trivial
    rw [List.take_succ_eq_append_getElem hq, ← hg]
    simp only [lastD, List.getLastD_concat]
    rfl
  · have hq : q = (elemsS s).length := by simp at h; omega
    refine KW.goOut lay_ok T21_ok 100 rfl (by simp) ?_
    refine KW.goRet lay_ok T21_ok 100 rfl rfl ?_ (by simp) trivial
    rw [hq, List.take_length]; rfl

theorem rsupport_does (l : List Int) : DoesF Try.prog 58 [lV l] [] (.tup [iV (if listE l = 0 then orL 0 l else 0), iV (listE l)]) [] := by
  refine DoesF.body _ Try.func58 rfl rfl rfl rfl ?_
  refine KW.len 0 rfl rfl fun hla => ?_
  refine KW.goIf lay_ok T21_ok 100 rfl (by simp) rfl trivial (fun h => ?_) fun h => ?_
  · refine KW.goRet lay_ok T21_ok 100 rfl rfl ?_ (by simp) trivial
    simp at h
    simp [SV.ren, renL, EV.ren, h]
  · simp at h
    refine KW.goLp lay_ok T21_ok 100 rfl (I := fun q : Int × Nat => ⟨Try.f58.ntmps, [(5, sI q.1), (13, .e (lV l)), (14, sI l.length), (15, sI q.2)], []⟩) (R := fun q => q.2 ≤ l.length ∧ orL q.1 (l.drop q.2) = orL 0 l) (m := fun q => l.length - q.2) (0, 0) rfl ⟨rfl, rfl, rfl, rfl, trivial⟩ (by simp) ⟨by simp, by simp⟩ trivial ?_
    rintro ⟨s, q⟩ ⟨h1, h2⟩
    simp only at h1 h2
    refine KW.goIf lay_ok T21_ok 100 rfl (by simp) rfl trivial (fun h3 => ?_) fun h3 => ?_
    · have hq : q < l.length := by simpa using h3
      have hg : l.getD (Int.toNat (q : Int)) 0 = l[q] := by simp [List.getD_eq_getElem?_getD, hq]
      have hd : l.drop q = l[q] :: l.drop (q + 1) := List.drop_eq_getElem_cons hq
      rw [hd, orL] at h2
      refine KW.goTo lay_ok T21_ok 100 rfl (ior .i64 s l[q], q + 1) rfl ⟨by rw [← hg]; rfl, rfl, rfl, rfl, trivial⟩ (by simp [inK]; omega) ⟨⟨by simp only; omega, h2⟩, by simp only; omega⟩ trivial
    · have hq : q = l.length := by simp at h3; omega
      refine KW.goOut lay_ok T21_ok 100 rfl (by simp) ?_
      refine KW.goRet lay_ok T21_ok 100 rfl rfl ?_ (by simp) trivial
      rw [hq, List.drop_length, orL] at h2
      simp [SV.ren, renL, EV.ren, h, h2]

def T22 : Fns := (59, fI (fun s => sI (lastD (elemsS s))) fun _ => True) ::
  (58, fL (fun l => .tup [iV (if listE l = 0 then orL 0 l else 0), iV (listE l)]) fun _ => True) ::
  (20, fVI (fun v c => sB (decide (numV v ≠ 0) && decide (numV v = c))) fun v c => isErr 38 v) ::
  T21
theorem T22_ok : FnsOk Try.prog T22 := .cons (.cons (.cons (T21_ok) Try.func20 rfl rfl (fVI_ok fun v c h => is_does v c h)) Try.func58 rfl rfl (fL_ok fun l _ => rsupport_does l)) Try.func59 rfl rfl (fI_ok fun s _ => rgreatest_does s)


end Go.Proofs.Ytinddojpbieejaa
