/-
  FnP, FnQ, FnR, one text.
-/
import Derived.Test.YtpjhpcclbenfbaaFnL
import Derived.Test.YtpjhpcclbenfbaaPuH
import Derived.Test.YtpjhpcclbenfbaaSyT
set_option linter.unusedVariables false
set_option linter.unusedSimpArgs false
/-
  The elements of sets: Has, Greatest, Elements and the specification's Support compute their Lean functions; no condition.
-/
namespace Go.Proofs.Ytpjhpcclbenfbaa
open Go.Sy Go.Pu

theorem has_does (s i : Int) : DoesF Try.prog 93 [iV s, iV i] [] (sB (hasB s i)) [] := by
  refine DoesF.body _ Try.func93 rfl rfl rfl rfl ?_
  refine KW.goRet lay_ok T17_ok 100 rfl rfl rfl ?_ trivial
  simp [bitsI]
  intros; omega
theorem rhas_does (s i : Int) : DoesF Try.prog 119 [iV s, iV i] [] (sB (hasB s i)) [] := by
  refine DoesF.body _ Try.func119 rfl rfl rfl rfl ?_
  refine KW.goRet lay_ok T17_ok 100 rfl rfl rfl ?_ trivial
  simp [bitsI]
  intros; omega

theorem len_does (x : Int) (h0 : 0 ≤ x) (h1 : x ≤ 18446744073709551615) : DoesF Try.prog 103 [.c (.lit (.int .u64 x))] [] (sI (Lib.bitLen x.toNat : Nat)) [] := by
  refine DoesF.ofSame (args := #[.int .u64 x]) rfl (fun o h args w hs => args1 (by exact hs.size) ?_) fun w => Any.bits_Len layLen x w h0 h1
  exact (show RepV o w (.lit (.int .u64 x)) _ from hs.slot 0 (.e (.c (.lit (.int .u64 x)))) rfl).1

def T20 : Fns := (93, fII (fun s i => sB (hasB s i)) fun _ _ => True) ::
  (119, fII (fun s i => sB (hasB s i)) fun _ _ => True) ::
  (103, fU (fun x => sI (Lib.bitLen x.toNat : Nat)) fun x => 0 ≤ x ∧ x ≤ 18446744073709551615) ::
  T17
theorem T20_ok : FnsOk Try.prog T20 := .cons (.cons (.cons (T17_ok) Try.func103 rfl rfl (fU_ok fun x h => len_does x h.1 h.2)) Try.func119 rfl rfl (fII_ok fun s i _ => rhas_does s i)) Try.func93 rfl rfl (fII_ok fun s i _ => has_does s i)


def grtS (s : Int) : Int := (Lib.bitLen (cutS s).toNat : Nat) - 1
theorem elements_does (s : Int) : DoesF Try.prog 85 [iV s] [] (.e (lV (elemsS s))) [] := by
  refine DoesF.body _ Try.func85 rfl rfl rfl rfl ?_
  refine KW.go lay_ok T20_ok 100 rfl (by simp) ?_
  refine KW.nilO 3 3 3 (ints []) rfl rfl rfl ?_
  refine KW.lp (I := fun q : Nat => ⟨Try.f85.ntmps, [(0, sI s), (3, .e (.r 3)), (5, sI q)], [(3, .own 3 (ints (elemsN s q)))]⟩)
    (R := fun q => q ≤ 24) (m := fun q => 24 - q) 0 (by simp) [(3, 3)] ⟨rfl, rfl, ⟨rfl, rfl, rfl, trivial⟩, ⟨rfl, trivial⟩⟩ ?_
  rintro q hq0
  have hlen := elemsN_length s q
  refine KW.goIf lay_ok T20_ok 100 rfl (by simp) rfl trivial (fun h => ?_) fun h => ?_
  · have hq : q < 24 := by simp at h; omega
    refine KW.goIf lay_ok T20_ok 100 rfl (by simp) rfl trivial (fun h1 => ?_) fun h1 => ?_
    · have hb : bit s q = true := by rw [← hasB_nat s hq]; exact h1
      refine KW.goToR lay_ok T20_ok 100 rfl (q + 1) [(3, 14)] rfl rfl ⟨rfl, rfl, rfl, trivial⟩ (by simp [inK] <;> omega) ⟨by omega, by omega⟩ ⟨own_cat _ ?_, trivial⟩
      rw [elemsN_succ, hb]; rfl
    · have hb : bit s q = false := by rw [← hasB_nat s hq]; exact h1
      refine KW.goToR lay_ok T20_ok 100 rfl (q + 1) [(3, 3)] rfl rfl ⟨rfl, rfl, rfl, trivial⟩ (by simp [inK] <;> omega) ⟨by omega, by omega⟩ ⟨own_cat1 _ ?_, trivial⟩
      rw [elemsN_succ, hb]; simp
  · have hq : q = 24 := by simp at h; omega
    subst hq
    refine KW.goOut lay_ok T20_ok 100 rfl (by simp) ?_
    exact KW.goRetO lay_ok T20_ok 100 rfl 3 2 rfl rfl rfl rfl (by simp)

def T21 : Fns := (85, fI (fun s => .e (lV (elemsS s))) fun _ => True) ::
  T20
theorem T21_ok : FnsOk Try.prog T21 := .cons (T20_ok) Try.func85 rfl rfl (fI_ok fun s _ => elements_does s)


/-- the last of a list, or -1 -/
def lastD (l : List Int) : Int := l.getLastD (-1)
def T22 : Fns := (50, fVI (fun v c => sB (decide (numV v ≠ 0) && decide (numV v = c))) fun v c => isErr 66 v) ::
  T21
theorem T22_ok : FnsOk Try.prog T22 := .cons (T21_ok) Try.func50 rfl rfl (fVI_ok fun v c h => is_does v c h)


end Go.Proofs.Ytpjhpcclbenfbaa

/-
  Hitting sets: All, Packing, Minimal and Dual of the code and of the specification compute their Lean functions; no condition.
-/
namespace Go.Proofs.Ytpjhpcclbenfbaa
open Go.Sy Go.Pu

theorem one_inK {q : Nat} (hq : q < 24) : 0 ≤ ishl 1 (q : Int) ∧ ishl 1 (q : Int) ≤ 16777215 := validS_iff.1 (one_valid hq)

theorem all_does (l : List Int) : DoesF Try.prog 52 [lV l] [] (.tup [lV (if hitE l = 0 then hitL l else []), eV (hitE l)]) [] := by
  refine DoesF.body _ Try.func52 rfl rfl rfl rfl ?_
  refine KW.goIf lay_ok T22_ok 100 rfl (by simp) rfl trivial (fun h => ?_) fun h => ?_
  · refine KW.go lay_ok T22_ok 100 rfl (by simp) ?_
    refine KW.conv 2 (ints []) rfl ⟨rfl, rfl⟩ ?_
    refine KW.fin [] rfl rfl ?_ trivial
    simp at h
    simp [SV.ren, renL, EV.ren, hitE, h]
  · simp at h
    have hv : Val l := listE_valid h
    have hml := minS_length l
    have hll := listE_len h
    have hE : hitE l = (allC [0] (minS l)).2 := by simp [hitE, h]
    have hL : hitL l = (allC [0] (minS l)).1 := by simp [hitL, h]
    rw [hE, hL]
    refine KW.go lay_ok T22_ok 100 rfl (by simp) ?_
    refine KW.frz 19 [6] rfl rfl rfl ?_
    simp only [unI_ints, h, if_true]
    generalize minS l = M at hml
    refine KW.lp (I := fun q : List Int × Nat => ⟨Try.f52.ntmps, [(6, .e (lV q.1)), (20, .e (lV M)), (21, sI M.length), (22, sI q.2)], []⟩)
      (R := fun q => q.2 ≤ M.length ∧ Fam q.1 ∧ allC q.1 (M.drop q.2) = allC [0] M) (m := fun q => M.length - q.2) ([0], 0) ⟨by simp, Fam.zero, by simp⟩ [] ⟨rfl, rfl, ⟨rfl, rfl, rfl, rfl, trivial⟩, trivial⟩ ?_
    rintro ⟨out, q⟩ ⟨h1, h2, h3⟩
    simp only at h1 h2 h3
    refine KW.goIf lay_ok T22_ok 100 rfl (by simp) rfl trivial (fun h4 => ?_) fun h4 => ?_
    · have hq : q < M.length := by simpa using h4
      have hg : M.getD (Int.toNat (q : Int)) 0 = M[q] := by simp [List.getD_eq_getElem?_getD, hq]
      have hd : M.drop q = M[q] :: M.drop (q + 1) := List.drop_eq_getElem_cons hq
      rw [hd, allC] at h3
      refine KW.go lay_ok T22_ok 100 rfl (by simp; omega) ?_
      refine KW.nilO 9 9 3 (ints []) rfl rfl rfl ?_
      refine KW.lp (I := fun p : Nat => ⟨Try.f52.ntmps, [(6, .e (lV out)), (8, sI M[q]), (9, .e (.r 9)), (20, .e (lV M)), (21, sI M.length), (22, sI q), (26, sI p)], [(9, .own 3 (ints (singN M[q] p)))]⟩)
        (R := fun p => p ≤ 24) (m := fun p => 24 - p) 0 (by simp) [(9, 9)] ⟨rfl, rfl, ⟨rfl, by rw [← hg]; rfl, rfl, rfl, rfl, rfl, rfl, trivial⟩, ⟨rfl, trivial⟩⟩ ?_
      rintro p hp0
      have hlen := singN_length M[q] p
      refine KW.goIf lay_ok T22_ok 100 rfl (by simp) rfl trivial (fun h5 => ?_) fun h5 => ?_
      · have hp : p < 24 := by simp at h5; omega
        have h1 := one_inK hp
        refine KW.goIf lay_ok T22_ok 100 rfl (by simp) rfl trivial (fun h6 => ?_) fun h6 => ?_
        · have hb : bit M[q] p = true := by rw [← hasB_nat _ hp]; exact h6
          refine KW.goToR lay_ok T22_ok 100 rfl (p + 1) [(9, 36)] rfl rfl ⟨rfl, rfl, rfl, rfl, rfl, rfl, rfl, trivial⟩ (by simp [inK, bitsI] <;> omega) ⟨by omega, by omega⟩ ⟨own_cat _ ?_, trivial⟩
          rw [singN_succ, hb]; rfl
        · have hb : bit M[q] p = false := by rw [← hasB_nat _ hp]; exact h6
          refine KW.goToR lay_ok T22_ok 100 rfl (p + 1) [(9, 9)] rfl rfl ⟨rfl, rfl, rfl, rfl, rfl, rfl, rfl, trivial⟩ (by simp [inK] <;> omega) ⟨by omega, by omega⟩ ⟨own_cat1 _ ?_, trivial⟩
          rw [singN_succ, hb]; simp
      · have hp : p = 24 := by simp at h5; omega
        subst hp
        refine KW.goOut lay_ok T22_ok 100 rfl (by simp) ?_
        refine KW.go lay_ok T22_ok 100 rfl (by simp) ?_
        refine KW.frz 9 [40] rfl rfl rfl ?_
        refine KW.goIf lay_ok T22_ok 100 rfl (by simp) rfl trivial (fun h7 => ?_) fun h7 => ?_
        · have h7' : ¬ stepA out M[q] = 0 := by
            have e : (!isNilB (errV 66 (stepA out M[q]))) = true := by simp only [unI_ints] at h7; exact h7
            simpa using e
          rw [if_neg h7'] at h3
          refine KW.goOutR lay_ok T22_ok 100 rfl (by simp) ?_
          refine KW.go lay_ok T22_ok 100 rfl (by simp) ?_
          refine KW.conv 2 (ints []) rfl ⟨rfl, rfl⟩ ?_
          refine KW.fin [] rfl rfl ?_ trivial
          rw [← h3]
          simp only [unI_ints, SV.ren, renL, EV.ren]
          rw [if_neg h7']
          rfl
        · have h7' : stepA out M[q] = 0 := by
            have e : (!isNilB (errV 66 (stepA out M[q]))) = false := by simp only [unI_ints] at h7; exact h7
            simpa using e
          rw [if_pos h7'] at h3
          refine KW.goTo lay_ok T22_ok 100 rfl (resA out M[q], q + 1) rfl ⟨by simp only [unI_ints]; rfl, rfl, rfl, rfl, trivial⟩ (by simp [inK] <;> omega) ⟨⟨by simp only; omega, (h2.step h7').1, h3⟩, by simp only; omega⟩ trivial
    · have hq : q = M.length := by simp at h4; omega
      refine KW.goOut lay_ok T22_ok 100 rfl (by simp) ?_
      refine KW.goRet lay_ok T22_ok 100 rfl rfl ?_ (by simp) trivial
      rw [hq, List.drop_length, allC] at h3
      rw [← h3]
      simp [SV.ren, renL, EV.ren, errV]
end Go.Proofs.Ytpjhpcclbenfbaa

/-
  Hitting sets: the specification's All, Packing and Minimal; no condition.
-/
namespace Go.Proofs.Ytpjhpcclbenfbaa
open Go.Sy Go.Pu

def T23 : Fns := (52, fL (fun l => .tup [lV (if hitE l = 0 then hitL l else []), eV (hitE l)]) fun _ => True) ::
  T22
theorem T23_ok : FnsOk Try.prog T23 := .cons (T22_ok) Try.func52 rfl rfl (fL_ok fun l _ => all_does l)


def packS (l : List Int) : List Int := packF [] 0 (minS l)
theorem leastHit_elems (l : List Int) (s : Int) : leastHit l s 24 = (elemsS s).all fun i => !meetB l (iandNot .i64 s (ishl 1 i)) := by
  rw [Bool.eq_iff_iff, leastHit, List.all_eq_true, List.all_eq_true]
  constructor
  · intro h x hx
    obtain ⟨i, hi, hb, rfl⟩ := mem_elemsS.1 hx
    have := h i (by simp [hi])
    rw [hb] at this
    exact this
  · intro h i hi
    cases hb : bit s i with
    | false => rfl
    | true => exact h _ (mem_elemsS.2 ⟨i, by simpa using hi, hb, rfl⟩)

def T24 : Fns := T23
theorem T24_ok : FnsOk Try.prog T24 := T23_ok


end Go.Proofs.Ytpjhpcclbenfbaa
