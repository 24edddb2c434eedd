/-
  FnP, FnQ, FnR, one text.
-/
import Derived.Test.YtdeoicedbphgoaaGreatDoorFnL
import Derived.Test.YtdeoicedbphgoaaGreatDoorPuH
import Derived.Test.YtdeoicedbphgoaaGreatDoorSyT
set_option linter.unusedSectionVars false
set_option linter.unusedVariables false
set_option linter.unusedSimpArgs false
/-
  The elements of sets: Has, Greatest, Elements and the specification's Support compute their Lean functions; no condition.
-/
namespace Go.Proofs.YtdeoicedbphgoaaGreatDoor
open Go.Sy Go.Pu
variable [Drw]

theorem has_does (s i : Int) : DoesF Tryz.prog 57 [iV s, iV i] [] (sB (hasB s i)) [] := by
  refine DoesF.body _ Tryz.func57 rfl rfl rfl rfl ?_
  refine KW.goRet lay_ok T17_ok 100 rfl rfl rfl ?_ trivial
  simp [bitsI]
  intros; omega
theorem rhas_does (s i : Int) : DoesF Tryz.prog 192 [iV s, iV i] [] (sB (hasB s i)) [] := by
  refine DoesF.body _ Tryz.func192 rfl rfl rfl rfl ?_
  refine KW.goRet lay_ok T17_ok 100 rfl rfl rfl ?_ trivial
  simp [bitsI]
  intros; omega

theorem len_does (x : Int) (h0 : 0 ≤ x) (h1 : x ≤ 18446744073709551615) : DoesF Tryz.prog 131 [.c (.lit (.int .u64 x))] [] (sI (Lib.bitLen x.toNat : Nat)) [] := by
  refine DoesF.ofSame (args := #[.int .u64 x]) rfl (fun o h args w hs => args1 (by exact hs.size) ?_) fun w => Any.bits_Len layLen x w h0 h1
  exact (show RepV o w (.lit (.int .u64 x)) _ from hs.slot 0 (.e (.c (.lit (.int .u64 x)))) rfl).1

def T20 : Fns := (57, fII (fun s i => sB (hasB s i)) fun _ _ => True) ::
  (192, fII (fun s i => sB (hasB s i)) fun _ _ => True) ::
  (131, fU (fun x => sI (Lib.bitLen x.toNat : Nat)) fun x => 0 ≤ x ∧ x ≤ 18446744073709551615) ::
  T17
theorem T20_ok : FnsOk Tryz.prog T20 := .cons (.cons (.cons (T17_ok) Tryz.func131 rfl rfl (fU_ok fun x h => len_does x h.1 h.2)) Tryz.func192 rfl rfl (fII_ok fun s i _ => rhas_does s i)) Tryz.func57 rfl rfl (fII_ok fun s i _ => has_does s i)


def grtS (s : Int) : Int := (Lib.bitLen (cutS s).toNat : Nat) - 1
theorem greatest_does (s : Int) : DoesF Tryz.prog 59 [iV s] [] (sI (grtS s)) [] := by
  have hv := validS_iff.1 (valid_cutS s)
  have hb : Lib.bitLen (cutS s).toNat ≤ 64 := by
    rcases Nat.eq_zero_or_pos (cutS s).toNat with h | h
    · rw [h]; decide
    · exact Lib.bitLen_le _ 64 (Nat.le_refl _) (by simp only [Nat.reducePow]; omega)
  refine DoesF.body _ Tryz.func59 rfl rfl rfl rfl ?_
  refine KW.goRet lay_ok T20_ok 100 rfl rfl rfl ?_ trivial
  simp only [inK, true_and, and_true]
  omega

theorem elements_does (s : Int) : DoesF Tryz.prog 126 [iV s] [] (.e (lV (elemsS s))) [] := by
  refine DoesF.body _ Tryz.func126 rfl rfl rfl rfl ?_
  refine KW.go lay_ok T20_ok 100 rfl (by simp) ?_
  refine KW.nilO 3 3 3 (ints []) rfl rfl rfl ?_
  refine KW.lp (I := fun q : Nat => ⟨Tryz.f126.ntmps, [(0, sI s), (3, .e (.r 3)), (5, sI q)], [(3, .own 3 (ints (elemsN s q)))]⟩)
    (R := fun q => q ≤ 24) (m := fun q => 24 - q) 0 (by simp) [(3, 3)] ⟨rfl, rfl, ⟨rfl, rfl, rfl, trivial⟩, ⟨rfl, trivial⟩⟩ ?_
  rintro q hq0
  have hlen := elemsN_length s q
  refine KW.goIf lay_ok T20_ok 100 rfl (by simp) rfl trivial (fun h => ?_) fun h => ?_
  · have hq : q < 24 := by simp at h; omega
    refine KW.goIf lay_ok T20_ok 100 rfl (by simp) rfl trivial (fun h1 => ?_) fun h1 => ?_
    · have hb : bit s q = true := by rw [← hasB_nat s hq]; exact h1
      refine KW.goToR lay_ok T20_ok 100 rfl (q + 1) [(3, 14)] rfl rfl ⟨rfl, rfl, rfl, trivial⟩ (by simp [inK] <;> omega) ⟨by omega, by omega⟩ ⟨own_cat _ ?_, trivial⟩
      rw [elemsN_succ, hb]; rfl
    · have hb : bit s q = false := by rw [← hasB_nat s hq]; exact h1
      refine KW.goToR lay_ok T20_ok 100 rfl (q + 1) [(3, 3)] rfl rfl ⟨rfl, rfl, rfl, trivial⟩ (by simp [inK] <;> omega) ⟨by omega, by omega⟩ ⟨own_cat1 _ ?_, trivial⟩
      rw [elemsN_succ, hb]; simp
  · have hq : q = 24 := by simp at h; omega
    subst hq
    refine KW.goOut lay_ok T20_ok 100 rfl (by simp) ?_
    exact KW.goRetO lay_ok T20_ok 100 rfl 3 2 rfl rfl rfl rfl (by simp)

def T21 : Fns := (59, fI (fun s => sI (grtS s)) fun _ => True) ::
  (126, fI (fun s => .e (lV (elemsS s))) fun _ => True) ::
  T20
theorem T21_ok : FnsOk Tryz.prog T21 := .cons (.cons (T20_ok) Tryz.func126 rfl rfl (fI_ok fun s _ => elements_does s)) Tryz.func59 rfl rfl (fI_ok fun s _ => greatest_does s)


/-- the last of a list, or -1 -/
def lastD (l : List Int) : Int := l.getLastD (-1)
def T22 : Fns := (25, fVI (fun v c => sB (decide (numV v ≠ 0) && decide (numV v = c))) fun v c => isErr 47 v) ::
  T21
theorem T22_ok : FnsOk Tryz.prog T22 := .cons (T21_ok) Tryz.func25 rfl rfl (fVI_ok fun v c h => is_does v c h)


end Go.Proofs.YtdeoicedbphgoaaGreatDoor

/-
  Hitting sets: All, Packing, Minimal and Dual of the code and of the specification compute their Lean functions; no condition.
-/
namespace Go.Proofs.YtdeoicedbphgoaaGreatDoor
open Go.Sy Go.Pu
variable [Drw]

theorem one_inK {q : Nat} (hq : q < 24) : 0 ≤ ishl 1 (q : Int) ∧ ishl 1 (q : Int) ≤ 16777215 := validS_iff.1 (one_valid hq)

theorem singles_does (s : Int) : DoesF Tryz.prog 165 [iV s] [] (.e (lV (singS s))) [] := by
  refine DoesF.body _ Tryz.func165 rfl rfl rfl rfl ?_
  have hl24 : (elemsS s).length ≤ 24 := elemsN_length s 24
  refine KW.go lay_ok T22_ok 100 rfl (by simp) ?_
  refine KW.nilO 3 3 3 (ints []) rfl rfl rfl ?_
  refine KW.lp (I := fun q : Nat => ⟨Tryz.f165.ntmps, [(3, .e (.r 3)), (7, .e (lV (elemsS s))), (8, sI (elemsS s).length), (9, sI q)], [(3, .own 3 (ints (((elemsS s).take q).map fun i => ishl 1 i)))]⟩)
    (R := fun q => q ≤ (elemsS s).length) (m := fun q => (elemsS s).length - q) 0 (by simp) [(3, 3)] ⟨rfl, rfl, ⟨rfl, rfl, rfl, rfl, trivial⟩, ⟨rfl, trivial⟩⟩ ?_
  rintro q hq0
  refine KW.goIf lay_ok T22_ok 100 rfl (by simp) rfl trivial (fun h => ?_) fun h => ?_
  · have hq : q < (elemsS s).length := by simpa using h
    have hg : (elemsS s).getD (Int.toNat (q : Int)) 0 = (elemsS s)[q] := by simp [List.getD_eq_getElem?_getD, hq]
    obtain ⟨i, hi, _, hix⟩ := mem_elemsS.1 (List.getElem_mem hq)
    have h1 := one_inK hi
    have h2 : (((elemsS s).take q).map fun i => ishl 1 i).length = q := by simp; omega
    have hge : (elemsS s).getD (Int.toNat (q : Int)) 0 = (i : Int) := hg.trans hix
    refine KW.goToR lay_ok T22_ok 100 rfl (q + 1) [(3, 17)] rfl rfl ⟨rfl, rfl, rfl, rfl, trivial⟩ (by rw [hge]; simp only [inK, bitsI, true_and, and_true, h2]; simp; omega) ⟨by omega, by omega⟩ ⟨own_cat _ ?_, trivial⟩
    rw [List.take_succ_eq_append_getElem hq, List.map_append, hg]; rfl
  · have hq : q = (elemsS s).length := by simp at h; omega
    refine KW.goOut lay_ok T22_ok 100 rfl (by simp) ?_
    refine KW.goRetO lay_ok T22_ok 100 rfl 3 2 rfl rfl rfl ?_ (by simp <;> omega)
    rw [hq, List.take_length, singS_eq]

theorem all_does (l : List Int) : DoesF Tryz.prog 76 [lV l] [] (.tup [lV (if hitE l = 0 then hitL l else []), eV (hitE l)]) [] := by
  refine DoesF.body _ Tryz.func76 rfl rfl rfl rfl ?_
  refine KW.goIf lay_ok T22_ok 100 rfl (by simp) rfl trivial (fun h => ?_) fun h => ?_
  · refine KW.go lay_ok T22_ok 100 rfl (by simp) ?_
    refine KW.conv 2 (ints []) rfl ⟨rfl, rfl⟩ ?_
    refine KW.fin [] rfl rfl ?_ trivial
    simp at h
    simp [SV.ren, renL, EV.ren, hitE, h]
  · simp at h
    have hv : Val l := listE_valid h
    have hml := minS_length l
    have hll := listE_len h
    have hE : hitE l = (allC [0] (minS l)).2 := by simp [hitE, h]
    have hL : hitL l = (allC [0] (minS l)).1 := by simp [hitL, h]
    rw [hE, hL]
    refine KW.go lay_ok T22_ok 100 rfl (by simp) ?_
    refine KW.frz 19 [6] rfl rfl rfl ?_
    simp only [unI_ints, h, if_true]
    generalize minS l = M at hml
    refine KW.lp (I := fun q : List Int × Nat => ⟨Tryz.f76.ntmps, [(6, .e (lV q.1)), (20, .e (lV M)), (21, sI M.length), (22, sI q.2)], []⟩)
      (R := fun q => q.2 ≤ M.length ∧ Fam q.1 ∧ allC q.1 (M.drop q.2) = allC [0] M) (m := fun q => M.length - q.2) ([0], 0) ⟨by simp, Fam.zero, by simp⟩ [] ⟨rfl, rfl, ⟨rfl, rfl, rfl, rfl, trivial⟩, trivial⟩ ?_
    rintro ⟨out, q⟩ ⟨h1, h2, h3⟩
    simp only at h1 h2 h3
    refine KW.goIf lay_ok T22_ok 100 rfl (by simp) rfl trivial (fun h4 => ?_) fun h4 => ?_
    · have hq : q < M.length := by simpa using h4
      have hg : M.getD (Int.toNat (q : Int)) 0 = M[q] := by simp [List.getD_eq_getElem?_getD, hq]
      have hd : M.drop q = M[q] :: M.drop (q + 1) := List.drop_eq_getElem_cons hq
      rw [hd, allC] at h3
      refine KW.go lay_ok T22_ok 100 rfl (by simp; omega) ?_
      refine KW.nilO 9 9 3 (ints []) rfl rfl rfl ?_
      refine KW.lp (I := fun p : Nat => ⟨Tryz.f76.ntmps, [(6, .e (lV out)), (8, sI M[q]), (9, .e (.r 9)), (20, .e (lV M)), (21, sI M.length), (22, sI q), (26, sI p)], [(9, .own 3 (ints (singN M[q] p)))]⟩)
        (R := fun p => p ≤ 24) (m := fun p => 24 - p) 0 (by simp) [(9, 9)] ⟨rfl, rfl, ⟨rfl, by rw [← hg]; rfl, rfl, rfl, rfl, rfl, rfl, trivial⟩, ⟨rfl, trivial⟩⟩ ?_
      rintro p hp0
      have hlen := singN_length M[q] p
      refine KW.goIf lay_ok T22_ok 100 rfl (by simp) rfl trivial (fun h5 => ?_) fun h5 => ?_
      · have hp : p < 24 := by simp at h5; omega
        have h1 := one_inK hp
        refine KW.goIf lay_ok T22_ok 100 rfl (by simp) rfl trivial (fun h6 => ?_) fun h6 => ?_
        · have hb : bit M[q] p = true := by rw [← hasB_nat _ hp]; exact h6
          refine KW.goToR lay_ok T22_ok 100 rfl (p + 1) [(9, 36)] rfl rfl ⟨rfl, rfl, rfl, rfl, rfl, rfl, rfl, trivial⟩ (by simp [inK, bitsI] <;> omega) ⟨by omega, by omega⟩ ⟨own_cat _ ?_, trivial⟩
          rw [singN_succ, hb]; rfl
        · have hb : bit M[q] p = false := by rw [← hasB_nat _ hp]; exact h6
          refine KW.goToR lay_ok T22_ok 100 rfl (p + 1) [(9, 9)] rfl rfl ⟨rfl, rfl, rfl, rfl, rfl, rfl, rfl, trivial⟩ (by simp [inK] <;> omega) ⟨by omega, by omega⟩ ⟨own_cat1 _ ?_, trivial⟩
          rw [singN_succ, hb]; simp
      · have hp : p = 24 := by simp at h5; omega
        subst hp
        refine KW.goOut lay_ok T22_ok 100 rfl (by simp) ?_
        refine KW.go lay_ok T22_ok 100 rfl (by simp) ?_
        refine KW.frz 9 [40] rfl rfl rfl ?_
        refine KW.goIf lay_ok T22_ok 100 rfl (by simp) rfl trivial (fun h7 => ?_) fun h7 => ?_
        · have h7' : ¬ stepA out M[q] = 0 := by
            have e : (!isNilB (errV 47 (stepA out M[q]))) = true := by simp only [unI_ints] at h7; exact h7
            simpa using e
          rw [if_neg h7'] at h3
          refine KW.goOutR lay_ok T22_ok 100 rfl (by simp) ?_
          refine KW.go lay_ok T22_ok 100 rfl (by simp) ?_
          refine KW.conv 2 (ints []) rfl ⟨rfl, rfl⟩ ?_
          refine KW.fin [] rfl rfl ?_ trivial
          rw [← h3]
          simp only [unI_ints, SV.ren, renL, EV.ren]
          rw [if_neg h7']
          rfl
        · have h7' : stepA out M[q] = 0 := by
            have e : (!isNilB (errV 47 (stepA out M[q]))) = false := by simp only [unI_ints] at h7; exact h7
            simpa using e
          rw [if_pos h7'] at h3
          refine KW.goTo lay_ok T22_ok 100 rfl (resA out M[q], q + 1) rfl ⟨by simp only [unI_ints]; rfl, rfl, rfl, rfl, trivial⟩ (by simp [inK] <;> omega) ⟨⟨by simp only; omega, (h2.step h7').1, h3⟩, by simp only; omega⟩ trivial
    · have hq : q = M.length := by simp at h4; omega
      refine KW.goOut lay_ok T22_ok 100 rfl (by simp) ?_
      refine KW.goRet lay_ok T22_ok 100 rfl rfl ?_ (by simp) trivial
      rw [hq, List.drop_length, allC] at h3
      rw [← h3]
      simp [SV.ren, renL, EV.ren, errV]
end Go.Proofs.YtdeoicedbphgoaaGreatDoor

/-
  Hitting sets: the specification's All, Packing and Minimal; no condition.
-/
namespace Go.Proofs.YtdeoicedbphgoaaGreatDoor
open Go.Sy Go.Pu
variable [Drw]

def T23 : Fns := (165, fI (fun s => .e (lV (singS s))) fun _ => True) ::
  (76, fL (fun l => .tup [lV (if hitE l = 0 then hitL l else []), eV (hitE l)]) fun _ => True) ::
  T22
theorem T23_ok : FnsOk Tryz.prog T23 := .cons (.cons (T22_ok) Tryz.func76 rfl rfl (fL_ok fun l _ => all_does l)) Tryz.func165 rfl rfl (fI_ok fun s _ => singles_does s)


theorem rall_does (l : List Int) : DoesF Tryz.prog 86 [lV l] [] (.tup [lV (if hitE l = 0 then hitL l else []), iV (hitE l)]) [] := by
  refine DoesF.body _ Tryz.func86 rfl rfl rfl rfl ?_
  refine KW.goIf lay_ok T23_ok 100 rfl (by simp) rfl trivial (fun h => ?_) fun h => ?_
  · refine KW.go lay_ok T23_ok 100 rfl (by simp) ?_
    refine KW.conv 2 (ints []) rfl ⟨rfl, rfl⟩ ?_
    refine KW.fin [] rfl rfl ?_ trivial
    simp at h
    simp [SV.ren, renL, EV.ren, hitE, h]
  · simp at h
    have hv : Val l := listE_valid h
    have hll := listE_len h
    have hml := minS_length l
    have hE : hitE l = (Pu.allR [0] (leastS l)).2 := by rw [← minS_eq hv, ← all_eq _ Fam.zero]; simp [hitE, h]
    have hL : hitL l = (Pu.allR [0] (leastS l)).1 := by rw [← minS_eq hv, ← all_eq _ Fam.zero]; simp [hitL, h]
    rw [hE, hL]
    rw [minS_eq hv] at hml
    refine KW.go lay_ok T23_ok 100 rfl (by simp; omega) ?_
    refine KW.frz 15 [5] rfl rfl rfl ?_
    simp only [unI_ints]
    generalize leastS l = M at hml
    refine KW.lp (I := fun q : List Int × Nat => ⟨Tryz.f86.ntmps, [(5, .e (lV q.1)), (17, .e (lV M)), (18, sI M.length), (19, sI q.2)], []⟩)
      (R := fun q => q.2 ≤ M.length ∧ Pu.allR q.1 (M.drop q.2) = Pu.allR [0] M) (m := fun q => M.length - q.2) ([0], 0) ⟨by simp, by simp⟩ [] ⟨rfl, rfl, ⟨rfl, rfl, rfl, rfl, trivial⟩, trivial⟩ ?_
    rintro ⟨out, q⟩ ⟨h1, h3⟩
    simp only at h1 h3
    refine KW.goIf lay_ok T23_ok 100 rfl (by simp) rfl trivial (fun h4 => ?_) fun h4 => ?_
    · have hq : q < M.length := by simpa using h4
      have hg : M.getD (Int.toNat (q : Int)) 0 = M[q] := by simp [List.getD_eq_getElem?_getD, hq]
      have hd : M.drop q = M[q] :: M.drop (q + 1) := List.drop_eq_getElem_cons hq
      rw [hd, Pu.allR] at h3
      refine KW.goIf lay_ok T23_ok 100 rfl (by simp; omega) rfl trivial (fun h5 => ?_) fun h5 => ?_
      · simp only [unI_ints, hg] at h5
        have h5' : ¬ stepR out M[q] = 0 := by
          have e : (stepR out M[q] != 0) = true := h5
          simpa using e
        rw [if_neg h5'] at h3
        refine KW.goOutR lay_ok T23_ok 100 rfl (by simp) ?_
        refine KW.go lay_ok T23_ok 100 rfl (by simp) ?_
        refine KW.conv 2 (ints []) rfl ⟨rfl, rfl⟩ ?_
        refine KW.fin [] rfl rfl ?_ trivial
        rw [← h3]
        simp only [unI_ints, hg, SV.ren, renL, EV.ren]
        rw [if_neg h5']
        rfl
      · simp only [unI_ints, hg] at h5
        have h5' : stepR out M[q] = 0 := by
          have e : (stepR out M[q] != 0) = false := h5
          simpa using e
        rw [if_pos h5'] at h3
        refine KW.goTo lay_ok T23_ok 100 rfl (resR out M[q], q + 1) rfl ⟨by simp only [unI_ints, hg]; rfl, rfl, rfl, rfl, trivial⟩ (by simp [inK] <;> omega) ⟨⟨by simp only; omega, h3⟩, by simp only; omega⟩ trivial
    · have hq : q = M.length := by simp at h4; omega
      refine KW.goOut lay_ok T23_ok 100 rfl (by simp) ?_
      refine KW.goRet lay_ok T23_ok 100 rfl rfl ?_ (by simp) trivial
      rw [hq, List.drop_length, Pu.allR] at h3
      rw [← h3]
      simp [SV.ren, renL, EV.ren]

def packS (l : List Int) : List Int := packF [] 0 (minS l)
theorem packing_does (l : List Int) : DoesF Tryz.prog 98 [lV l] [] (.tup [lV (if listE l = 0 then packS l else []), eV (listE l)]) [] := by
  refine DoesF.body _ Tryz.func98 rfl rfl rfl rfl ?_
  refine KW.goIf lay_ok T23_ok 100 rfl (by simp) rfl trivial (fun h => ?_) fun h => ?_
  · refine KW.go lay_ok T23_ok 100 rfl (by simp) ?_
    refine KW.conv 2 (ints []) rfl ⟨rfl, rfl⟩ ?_
    refine KW.fin [] rfl rfl ?_ trivial
    simp at h
    simp [SV.ren, renL, EV.ren, h]
  · simp at h
    have hml := minS_length l
    have hll := listE_len h
    refine KW.go lay_ok T23_ok 100 rfl (by simp) ?_
    refine KW.nilO 6 6 3 (ints []) rfl rfl rfl ?_
    simp only [unI_ints, h, if_true, packS]
    generalize minS l = M at hml
    refine KW.lp (I := fun q : (List Int × Int) × Nat => ⟨Tryz.f98.ntmps, [(6, .e (.r 6)), (7, sI q.1.2), (18, .e (lV M)), (19, sI M.length), (20, sI q.2)], [(6, .own 3 (ints q.1.1))]⟩)
      (R := fun q => q.2 ≤ M.length ∧ q.1.1.length ≤ q.2 ∧ packF q.1.1 q.1.2 (M.drop q.2) = packF [] 0 M) (m := fun q => M.length - q.2) (([], 0), 0) ⟨by simp, by simp, by simp⟩ [(6, 6)] ⟨rfl, rfl, ⟨rfl, rfl, rfl, rfl, rfl, trivial⟩, ⟨rfl, trivial⟩⟩ ?_
    rintro ⟨⟨out, u⟩, q⟩ ⟨h1, h2, h3⟩
    simp only at h1 h2 h3
    refine KW.goIf lay_ok T23_ok 100 rfl (by simp) rfl trivial (fun h4 => ?_) fun h4 => ?_
    · have hq : q < M.length := by simpa using h4
      have hg : M.getD (Int.toNat (q : Int)) 0 = M[q] := by simp [List.getD_eq_getElem?_getD, hq]
      have hd : M.drop q = M[q] :: M.drop (q + 1) := List.drop_eq_getElem_cons hq
      rw [hd, packF] at h3
      refine KW.goIf lay_ok T23_ok 100 rfl (by simp; omega) rfl trivial (fun h5 => ?_) fun h5 => ?_
      · simp only [unI_ints, hg] at h5
        have h5' : iand .i64 M[q] u = 0 := by simpa using h5
        rw [if_pos h5'] at h3
        refine KW.goToR lay_ok T23_ok 100 rfl ((out ++ [M[q]], ior .i64 u M[q]), q + 1) [(6, 31)] rfl rfl ⟨rfl, by simp only [unI_ints, hg]; rfl, rfl, rfl, rfl, trivial⟩ (by simp only [inK, true_and, and_true]; simp; omega) ⟨⟨by simp only; omega, by simp; omega, h3⟩, by simp only; omega⟩ ⟨own_cat _ ?_, trivial⟩
        rw [hg]
      · simp only [unI_ints, hg] at h5
        have h5' : ¬ iand .i64 M[q] u = 0 := by simpa using h5
        rw [if_neg h5'] at h3
        refine KW.goToR lay_ok T23_ok 100 rfl ((out, u), q + 1) [(6, 6)] rfl rfl ⟨rfl, rfl, rfl, rfl, rfl, trivial⟩ (by simp [inK] <;> omega) ⟨⟨by simp only; omega, by simp only; omega, h3⟩, by simp only; omega⟩ ⟨own_cat1 _ rfl, trivial⟩
    · have hq : q = M.length := by simp at h4; omega
      refine KW.goOut lay_ok T23_ok 100 rfl (by simp) ?_
      rw [hq, List.drop_length, packF] at h3
      refine KW.go lay_ok T23_ok 100 rfl (by simp) ?_
      refine KW.frz 6 [2] rfl rfl rfl ?_
      refine KW.fin [] rfl rfl ?_ trivial
      rw [← h3]
      simp [SV.ren, renL, EV.ren, errV]

theorem rpacking_does (l : List Int) : DoesF Tryz.prog 105 [lV l] [] (.tup [lV (if listE l = 0 then packS l else []), iV (listE l)]) [] := by
  refine DoesF.body _ Tryz.func105 rfl rfl rfl rfl ?_
  refine KW.goIf lay_ok T23_ok 100 rfl (by simp) rfl trivial (fun h => ?_) fun h => ?_
  · refine KW.go lay_ok T23_ok 100 rfl (by simp) ?_
    refine KW.conv 2 (ints []) rfl ⟨rfl, rfl⟩ ?_
    refine KW.fin [] rfl rfl ?_ trivial
    simp at h
    simp [SV.ren, renL, EV.ren, h]
  · simp at h
    have hv : Val l := listE_valid h
    have hml := minS_length l
    have hll := listE_len h
    rw [packS, minS_eq hv]
    rw [minS_eq hv] at hml
    refine KW.go lay_ok T23_ok 100 rfl (by simp; omega) ?_
    refine KW.nilO 5 5 3 (ints []) rfl rfl rfl ?_
    simp only [unI_ints, h, if_true]
    generalize leastS l = M at hml
    refine KW.lp (I := fun q : (List Int × Int) × Nat => ⟨Tryz.f105.ntmps, [(5, .e (.r 5)), (6, sI q.1.2), (15, .e (lV M)), (16, sI M.length), (17, sI q.2)], [(5, .own 3 (ints q.1.1))]⟩)
      (R := fun q => q.2 ≤ M.length ∧ q.1.1.length ≤ q.2 ∧ packF q.1.1 q.1.2 (M.drop q.2) = packF [] 0 M) (m := fun q => M.length - q.2) (([], 0), 0) ⟨by simp, by simp, by simp⟩ [(5, 5)] ⟨rfl, rfl, ⟨rfl, rfl, rfl, rfl, rfl, trivial⟩, ⟨rfl, trivial⟩⟩ ?_
    rintro ⟨⟨out, u⟩, q⟩ ⟨h1, h2, h3⟩
    simp only at h1 h2 h3
    refine KW.goIf lay_ok T23_ok 100 rfl (by simp) rfl trivial (fun h4 => ?_) fun h4 => ?_
    · have hq : q < M.length := by simpa using h4
      have hg : M.getD (Int.toNat (q : Int)) 0 = M[q] := by simp [List.getD_eq_getElem?_getD, hq]
      have hd : M.drop q = M[q] :: M.drop (q + 1) := List.drop_eq_getElem_cons hq
      rw [hd, packF] at h3
      refine KW.goIf lay_ok T23_ok 100 rfl (by simp; omega) rfl trivial (fun h5 => ?_) fun h5 => ?_
      · simp only [unI_ints, hg] at h5
        have h5' : iand .i64 M[q] u = 0 := by simpa using h5
        rw [if_pos h5'] at h3
        refine KW.goToR lay_ok T23_ok 100 rfl ((out ++ [M[q]], ior .i64 u M[q]), q + 1) [(5, 28)] rfl rfl ⟨rfl, by simp only [unI_ints, hg]; rfl, rfl, rfl, rfl, trivial⟩ (by simp only [inK, true_and, and_true]; simp; omega) ⟨⟨by simp only; omega, by simp; omega, h3⟩, by simp only; omega⟩ ⟨own_cat _ ?_, trivial⟩
        rw [hg]
      · simp only [unI_ints, hg] at h5
        have h5' : ¬ iand .i64 M[q] u = 0 := by simpa using h5
        rw [if_neg h5'] at h3
        refine KW.goToR lay_ok T23_ok 100 rfl ((out, u), q + 1) [(5, 5)] rfl rfl ⟨rfl, rfl, rfl, rfl, rfl, trivial⟩ (by simp [inK] <;> omega) ⟨⟨by simp only; omega, by simp only; omega, h3⟩, by simp only; omega⟩ ⟨own_cat1 _ rfl, trivial⟩
    · have hq : q = M.length := by simp at h4; omega
      refine KW.goOut lay_ok T23_ok 100 rfl (by simp) ?_
      rw [hq, List.drop_length, packF] at h3
      refine KW.go lay_ok T23_ok 100 rfl (by simp) ?_
      refine KW.frz 5 [2] rfl rfl rfl ?_
      refine KW.fin [] rfl rfl ?_ trivial
      rw [← h3]
      simp [SV.ren, renL, EV.ren]

theorem leastHit_elems (l : List Int) (s : Int) : leastHit l s 24 = (elemsS s).all fun i => !meetB l (iandNot .i64 s (ishl 1 i)) := by
  rw [Bool.eq_iff_iff, leastHit, List.all_eq_true, List.all_eq_true]
  constructor
  · intro h x hx
    obtain ⟨i, hi, hb, rfl⟩ := mem_elemsS.1 hx
    have := h i (by simp [hi])
    rw [hb] at this
    exact this
  · intro h i hi
    cases hb : bit s i with
    | false => rfl
    | true => exact h _ (mem_elemsS.2 ⟨i, by simpa using hi, hb, rfl⟩)

def T24 : Fns := (86, fL (fun l => .tup [lV (if hitE l = 0 then hitL l else []), iV (hitE l)]) fun _ => True) ::
  (98, fL (fun l => .tup [lV (if listE l = 0 then packS l else []), eV (listE l)]) fun _ => True) ::
  (105, fL (fun l => .tup [lV (if listE l = 0 then packS l else []), iV (listE l)]) fun _ => True) ::
  T23
theorem T24_ok : FnsOk Tryz.prog T24 := .cons (.cons (.cons (T23_ok) Tryz.func105 rfl rfl (fL_ok fun l _ => rpacking_does l)) Tryz.func98 rfl rfl (fL_ok fun l _ => packing_does l)) Tryz.func86 rfl rfl (fL_ok fun l _ => rall_does l)


end Go.Proofs.YtdeoicedbphgoaaGreatDoor
