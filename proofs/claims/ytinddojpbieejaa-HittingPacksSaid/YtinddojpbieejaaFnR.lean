/-
  Hitting sets: the specification's All, Packing and Minimal; no condition.
-/
import Derived.Test.YtinddojpbieejaaFnQ
set_option linter.unusedVariables false
set_option linter.unusedSimpArgs false
namespace Go.Proofs.Ytinddojpbieejaa
open Go.Sy Go.Pu

def T23 : Fns := (40, fI (fun s => .e (lV (singS s))) fun _ => True) ::
  (11, fL (fun l => .tup [lV (if hitE l = 0 then hitL l else []), eV (hitE l)]) fun _ => True) ::
  T22
theorem T23_ok : FnsOk Try.prog T23 := .cons (.cons (T22_ok) Try.func11 rfl rfl (fL_ok fun l _ => all_does l)) Try.func40 rfl rfl (fI_ok fun s _ => singles_does s)


theorem rall_does (l : List Int) : DoesF Try.prog 14 [lV l] [] (.tup [lV (if hitE l = 0 then hitL l else []), iV (hitE l)]) [] := by
  refine DoesF.body _ Try.func14 rfl rfl rfl rfl ?_
  refine KW.goIf lay_ok T23_ok 100 rfl (by simp) rfl trivial (fun h => ?_) fun h => ?_
  · refine KW.go lay_ok T23_ok 100 rfl (by simp) ?_
    refine KW.conv 2 (ints []) rfl ⟨rfl, rfl⟩ ?_
    refine KW.fin [] rfl rfl ?_ trivial
    simp at h
    simp [SV.ren, renL, EV.ren, hitE, h]
  · simp at h
    have hv : Val l := listE_valid h
    have hll := listE_len h
    have hml := minS_length l
    have hE : hitE l = (Pu.allR [0] (leastS l)).2 := by rw [← minS_eq hv, ← all_eq _ Fam.zero]; simp [hitE, h]
    have hL : hitL l = (Pu.allR [0] (leastS l)).1 := by rw [← minS_eq hv, ← all_eq _ Fam.zero]; simp [hitL, h]
    rw [hE, hL]
    rw [minS_eq hv] at hml
    refine KW.go lay_ok T23_ok 100 rfl (by simp; omega) ?_
    refine KW.frz 15 [5] rfl rfl rfl ?_
    simp only [unI_ints]
    generalize leastS l = M at hml
    refine KW.lp (I := fun q : List Int × Nat => ⟨Try.f14.ntmps, [(5, .e (lV q.1)), (17, .e (lV M)), (18, sI M.length), (19, sI q.2)], []⟩)
      (R := fun q => q.2 ≤ M.length ∧ Pu.allR q.1 (M.drop q.2) = Pu.allR [0] M) (m := fun q => M.length - q.2) ([0], 0) ⟨by simp, by simp⟩ [] ⟨rfl, rfl, ⟨rfl, rfl, rfl, rfl, trivial⟩, trivial⟩ ?_
    rintro ⟨out, q⟩ ⟨h1, h3⟩
    simp only at h1 h3
    refine KW.goIf lay_ok T23_ok 100 rfl (by simp) rfl trivial (fun h4 => ?_) fun h4 => ?_
    · have hq : q < M.length := by simpa using h4
      have hg : M.getD (Int.toNat (q : Int)) 0 = M[q] := by simp [List.getD_eq_getElem?_getD, hq]
      have hd : M.drop q = M[q] :: M.drop (q + 1) := List.drop_eq_getElem_cons hq
      rw [hd, Pu.allR] at h3
      refine KW.goIf lay_ok T23_ok 100 rfl (by simp; omega) rfl trivial (fun h5 => ?_) fun h5 => ?_
      · simp only [unI_ints, hg] at h5
        have h5' : ¬ stepR out M[q] = 0 := by
          have e : (stepR out M[q] != 0) = true := h5
          simpa using e
        rw [if_neg h5'] at h3
        refine KW.goOutR lay_ok T23_ok 100 rfl (by simp) ?_
        refine KW.go lay_ok T23_ok 100 rfl (by simp) ?_
        refine KW.conv 2 (ints []) rfl ⟨rfl, rfl⟩ ?_
        refine KW.fin [] rfl rfl ?_ trivial
        rw [← h3]
        simp only [unI_ints, hg, SV.ren, renL, EV.ren]
        rw [if_neg h5']
        rfl
      · simp only [unI_ints, hg] at h5
        have h5' : stepR out M[q] = 0 := by
          have e : (stepR out M[q] != 0) = false := h5
          simpa using e
        rw [if_pos h5'] at h3
        refine KW.goTo lay_ok T23_ok 100 rfl (resR out M[q], q + 1) rfl ⟨by simp only [unI_ints, hg]; rfl, rfl, rfl, rfl, trivial⟩ (by simp [inK] <;> omega) ⟨⟨by simp only; omega, h3⟩, by simp only; omega⟩ trivial
    · have hq : q = M.length := by simp at h4; omega
      refine KW.goOut lay_ok T23_ok 100 rfl (by simp) ?_
      refine KW.goRet lay_ok T23_ok 100 rfl rfl ?_ (by simp) trivial
      rw [hq, List.drop_length, Pu.allR] at h3
      rw [← h3]
      simp [SV.ren, renL, EV.ren]

def packS (l : List Int) : List Int := packF [] 0 (minS l)
theorem packing_does (l : List Int) : DoesF Try.prog 12 [lV l] [] (.tup [lV (if listE l = 0 then packS l else []), eV (listE l)]) [] := by
  refine DoesF.body _ Try.func12 rfl rfl rfl rfl ?_
  refine KW.goIf lay_ok T23_ok 100 rfl (by simp) rfl trivial (fun h => ?_) fun h => ?_
  · refine KW.go lay_ok T23_ok 100 rfl (by simp) ?_
    refine KW.conv 2 (ints []) rfl ⟨rfl, rfl⟩ ?_
    refine KW.fin [] rfl rfl ?_ trivial
    simp at h
    simp [SV.ren, renL, EV.ren, h]
  · simp at h
    have hml := minS_length l
    have hll := listE_len h
    refine KW.go lay_ok T23_ok 100 rfl (by simp) ?_
    refine KW.nilO 6 6 3 (ints []) rfl rfl rfl ?_
    simp only [unI_ints, h, if_true, packS]
    generalize minS l = M at hml
    refine KW.lp (I := fun q : (List Int × Int) × Nat => ⟨Try.f12.ntmps, [(6, .e (.r 6)), (7, sI q.1.2), (18, .e (lV M)), (19, sI M.length), (20, sI q.2)], [(6, .own 3 (ints q.1.1))]⟩)
      (R := fun q => q.2 ≤ M.length ∧ q.1.1.length ≤ q.2 ∧ packF q.1.1 q.1.2 (M.drop q.2) = packF [] 0 M) (m := fun q => M.length - q.2) (([], 0), 0) ⟨by simp, by simp, by simp⟩ [(6, 6)] ⟨rfl, rfl, ⟨rfl, rfl, rfl, rfl, rfl, trivial⟩, ⟨rfl, trivial⟩⟩ ?_
    rintro ⟨⟨out, u⟩, q⟩ ⟨h1, h2, h3⟩
    simp only at h1 h2 h3
    refine KW.goIf lay_ok T23_ok 100 rfl (by simp) rfl trivial (fun h4 => ?_) fun h4 => ?_
    · have hq : q < M.length := by simpa using h4
      have hg : M.getD (Int.toNat (q : Int)) 0 = M[q] := by simp [List.getD_eq_getElem?_getD, hq]
      have hd : M.drop q = M[q] :: M.drop (q + 1) := List.drop_eq_getElem_cons hq
      rw [hd, packF] at h3
      refine KW.goIf lay_ok T23_ok 100 rfl (by simp; omega) rfl trivial (fun h5 => ?_) fun h5 => ?_
      · simp only [unI_ints, hg] at h5
        have h5' : iand .i64 M[q] u = 0 := by simpa using h5
        rw [if_pos h5'] at h3
        refine KW.goToR lay_ok T23_ok 100 rfl ((out ++ [M[q]], ior .i64 u M[q]), q + 1) [(6, 31)] rfl rfl ⟨rfl, by simp only [unI_ints, hg]; rfl, rfl, rfl, rfl, trivial⟩ (by simp only [inK, true_and, and_true]; simp; omega) ⟨⟨by simp only; omega, by simp; omega, h3⟩, by simp only; omega⟩ ⟨own_cat _ ?_, trivial⟩
        rw [hg]
      · simp only [unI_ints, hg] at h5
        have h5' : ¬ iand .i64 M[q] u = 0 := by simpa using h5
        rw [if_neg h5'] at h3
        refine KW.goToR lay_ok T23_ok 100 rfl ((out, u), q + 1) [(6, 6)] rfl rfl ⟨rfl, rfl, rfl, rfl, rfl, trivial⟩ (by simp [inK] <;> omega) ⟨⟨by simp only; omega, by simp only; omega, h3⟩, by simp only; omega⟩ ⟨own_cat1 _ rfl, trivial⟩
    · have hq : q = M.length := by simp at h4; omega
      refine KW.goOut lay_ok T23_ok 100 rfl (by simp) ?_
      rw [hq, List.drop_length, packF] at h3
      refine KW.go lay_ok T23_ok 100 rfl (by simp) ?_
      refine KW.frz 6 [2] rfl rfl rfl ?_
      refine KW.fin [] rfl rfl ?_ trivial
      rw [← h3]
      simp [SV.ren, renL, EV.ren, errV]

theorem rpacking_does (l : List Int) : DoesF Try.prog 15 [lV l] [] (.tup [lV (if listE l = 0 then packS l else []), iV (listE l)]) [] := by
  refine DoesF.body _ Try.func15 rfl rfl rfl rfl ?_
  refine KW.goIf lay_ok T23_ok 100 rfl (by simp) rfl trivial (fun h => ?_) fun h => ?_
  · refine KW.go lay_ok T23_ok 100 rfl (by simp) ?_
    refine KW.conv 2 (ints []) rfl ⟨rfl, rfl⟩ ?_
    refine KW.fin [] rfl rfl ?_ trivial
    simp at h
    simp [SV.ren, renL, EV.ren, h]
  · simp at h
    have hv : Val l := listE_valid h
    have hml := minS_length l
    have hll := listE_len h
    rw [packS, minS_eq hv]
    rw [minS_eq hv] at hml
    refine KW.go lay_ok T23_ok 100 rfl (by simp; omega) ?_
    refine KW.nilO 5 5 3 (ints []) rfl rfl rfl ?_
    simp only [unI_ints, h, if_true]
    generalize leastS l = M at hml
    refine KW.lp (I := fun q : (List Int × Int) × Nat => ⟨Try.f15.ntmps, [(5, .e (.r 5)), (6, sI q.1.2), (15, .e (lV M)), (16, sI M.length), (17, sI q.2)], [(5, .own 3 (ints q.1.1))]⟩)
      (R := fun q => q.2 ≤ M.length ∧ q.1.1.length ≤ q.2 ∧ packF q.1.1 q.1.2 (M.drop q.2) = packF [] 0 M) (m := fun q => M.length - q.2) (([], 0), 0) ⟨by simp, by simp, by simp⟩ [(5, 5)] ⟨rfl, rfl, ⟨rfl, rfl, rfl, rfl, rfl, trivial⟩, ⟨rfl, trivial⟩⟩ ?_
    rintro ⟨⟨out, u⟩, q⟩ ⟨h1, h2, h3⟩
    simp only at h1 h2 h3
    refine KW.goIf lay_ok T23_ok 100 rfl (by simp) rfl trivial (fun h4 => ?_) fun h4 => ?_
    · have hq : q < M.length := by simpa using h4
      have hg : M.getD (Int.toNat (q : Int)) 0 = M[q] := by simp [List.getD_eq_getElem?_getD, hq]
      have hd : M.drop q = M[q] :: M.drop (q + 1) := List.drop_eq_getElem_cons hq
      rw [hd, packF] at h3
      refine KW.goIf lay_ok T23_ok 100 rfl (by simp; omega) rfl trivial (fun h5 => ?_) fun h5 => ?_
      · simp only [unI_ints, hg] at h5
        have h5' : iand .i64 M[q] u = 0 := by simpa using h5
        rw [if_pos h5'] at h3
        refine KW.goToR lay_ok T23_ok 100 rfl ((out ++ [M[q]], ior .i64 u M[q]), q + 1) [(5, 28)] rfl rfl ⟨rfl, by simp only [unI_ints, hg]; rfl, rfl, rfl, rfl, trivial⟩ (by simp only [inK, true_and, and_true]; simp; omega) ⟨⟨by simp only; omega, by simp; omega, h3⟩, by simp only; omega⟩ ⟨own_cat _ ?_, trivial⟩
        rw [hg]
      · simp only [unI_ints, hg] at h5
        have h5' : ¬ iand .i64 M[q] u = 0 := by simpa using h5
        rw [if_neg h5'] at h3
        refine KW.goToR lay_ok T23_ok 100 rfl ((out, u), q + 1) [(5, 5)] rfl rfl ⟨rfl, rfl, rfl, rfl, rfl, trivial⟩ (by simp [inK] <;> omega) ⟨⟨by simp only; omega, by simp only; omega, h3⟩, by simp only; omega⟩ ⟨own_cat1 _ rfl, trivial⟩
    · have hq : q = M.length := by simp at h4; omega
      refine KW.goOut lay_ok T23_ok 100 rfl (by simp) ?_
      rw [hq, List.drop_length, packF] at h3
      refine KW.go lay_ok T23_ok 100 rfl (by simp) ?_
      refine KW.frz 5 [2] rfl rfl rfl ?_
      refine KW.fin [] rfl rfl ?_ trivial
      rw [← h3]
      simp [SV.ren, renL, EV.ren]

theorem minimalHit_does (l : List Int) (s : Int) : DoesF Try.prog 28 [lV l, iV s] [] (.tup [bV (minHit l s), eV (meetE l s)]) [] := by
  refine DoesF.body _ Try.func28 rfl rfl rfl rfl ?_
  refine KW.goIf lay_ok T23_ok 100 rfl (by simp) rfl trivial (fun h => ?_) fun h => ?_
  · refine KW.goRet lay_ok T23_ok 100 rfl rfl ?_ (by simp) trivial
    have hb : meetB l s = false := by
      simp only [unI_ints] at h
      cases hb : meetB l s with
      | false => rfl
      | true =>
        have e := (meetE_less (x := 0) hb).1
        have h' : (!isNilB (errV 38 (meetE l s)) || !meetB l s) = true := h
        simp [e, hb] at h'
    simp [SV.ren, EV.ren, renL, minHit, hb, meetE]
  · have hb : meetB l s = true := by
      simp only [unI_ints] at h
      have h' : (!isNilB (errV 38 (meetE l s)) || !meetB l s) = false := h
      simpa using (Bool.or_eq_false_iff.1 h').2
    have he := (meetE_less (x := 0) hb).1
    refine KW.goLp lay_ok T23_ok 100 rfl (I := fun q : Nat => ⟨Try.f28.ntmps, [(0, .e (lV l)), (1, sI s), (24, sI q)], []⟩) (R := fun q => q ≤ 24 ∧ leastHit l s q = true) (m := fun q => 24 - q) 0 rfl ⟨rfl, rfl, rfl, trivial⟩ (by simp) ⟨by simp, by simp [leastHit]⟩ trivial ?_
    rintro q ⟨h1, h2⟩
    refine KW.goIf lay_ok T23_ok 100 rfl (by simp) rfl trivial (fun h => ?_) fun h => ?_
    · have hq : q < 24 := by simp at h; omega
      have h1k := one_inK hq
      refine KW.goIf lay_ok T23_ok 100 rfl (by simp) rfl trivial (fun h => ?_) fun h => ?_
      · have hbit : bit s q = false := by
          have : (!hasB s q) = true := h
          rw [hasB_nat s hq] at this
          simpa using this
        refine KW.goTo lay_ok T23_ok 100 rfl (q + 1) rfl ⟨rfl, rfl, rfl, trivial⟩ (by simp [inK]; omega) ⟨⟨by omega, by rw [leastHit_succ, h2, hbit]; rfl⟩, by omega⟩ trivial
      · have hbit : bit s q = true := by
          have : (!hasB s q) = false := h
          rw [hasB_nat s hq] at this
          simpa using this
        have he2 := (meetE_less (x := Pu.one q) hb).2
        refine KW.goIf lay_ok T23_ok 100 rfl (by simp only [inK, bitsI, true_and, and_true]; simp; omega) rfl trivial (fun h => ?_) fun h => ?_
        · simp only [unI_ints] at h
          have h' : (!isNilB (errV 38 (meetE l (iandNot .i64 s (Pu.one q)))) || meetB l (iandNot .i64 s (Pu.one q))) = true := h
          have hm : meetB l (iandNot .i64 s (Pu.one q)) = true := by simpa [he2] using h'
          refine KW.goOutR lay_ok T23_ok 100 rfl (by simp) ?_
          refine KW.goRet lay_ok T23_ok 100 rfl rfl ?_ (by simp) trivial
          have hf : leastHit l s 24 = false := by
            rw [leastHit, List.all_eq_false]
            exact ⟨q, by simp [hq], by simp [hbit, hm]⟩
          have hmh : minHit l s = false := by simp [minHit, hf]
          rw [hmh, he]
          have he3 : errV 38 (meetE l (iandNot .i64 s (Pu.one q))) = errV 38 0 := by rw [he2]
          simp only [unI_ints, SV.ren, renL, EV.ren]
          exact congrArg (fun v => SV.tup [bV false, .c (.lit v)]) he3
        · simp only [unI_ints] at h
          have h' : (!isNilB (errV 38 (meetE l (iandNot .i64 s (Pu.one q)))) || meetB l (iandNot .i64 s (Pu.one q))) = false := h
          have hm : meetB l (iandNot .i64 s (Pu.one q)) = false := (Bool.or_eq_false_iff.1 h').2
          refine KW.goTo lay_ok T23_ok 100 rfl (q + 1) rfl ⟨rfl, rfl, rfl, trivial⟩ (by simp [inK]; omega) ⟨⟨by omega, by rw [leastHit_succ, h2, hbit, hm]; rfl⟩, by omega⟩ trivial
    · have hq : q = 24 := by simp at h; omega
      refine KW.goOut lay_ok T23_ok 100 rfl (by simp) ?_
      refine KW.goRet lay_ok T23_ok 100 rfl rfl ?_ (by simp) trivial
      rw [hq] at h2
      simp [SV.ren, EV.ren, renL, minHit, hb, h2, he, errV]

theorem leastHit_elems (l : List Int) (s : Int) : leastHit l s 24 = (elemsS s).all fun i => !meetB l (iandNot .i64 s (ishl 1 i)) := by
  rw [Bool.eq_iff_iff, leastHit, List.all_eq_true, List.all_eq_true]
  constructor
  · intro h x hx
    obtain ⟨i, hi, hb, rfl⟩ := mem_elemsS.1 hx
    have := h i (by simp [hi])
    rw [hb] at this
    exact this
  · intro h i hi
    cases hb : bit s i with
    | false => rfl
    | true => exact h _ (mem_elemsS.2 ⟨i, by simpa using hi, hb, rfl⟩)

theorem rminimalHit_does (l : List Int) (s : Int) : DoesF Try.prog 33 [lV l, iV s] [] (.tup [bV (minHit l s), iV (meetE l s)]) [] := by
  refine DoesF.body _ Try.func33 rfl rfl rfl rfl ?_
  have hl24 : (elemsS s).length ≤ 24 := elemsN_length s 24
  refine KW.goIf lay_ok T23_ok 100 rfl (by simp) rfl trivial (fun h => ?_) fun h => ?_
  · refine KW.goRet lay_ok T23_ok 100 rfl rfl ?_ (by simp) trivial
    have hb : meetB l s = false := by
      simp only [unI_ints] at h
      cases hb : meetB l s with
      | false => rfl
      | true =>
        have e := (meetE_less (x := 0) hb).1
        have h' : ((meetE l s != 0) || !meetB l s) = true := h
        simp [e, hb] at h'
    simp [SV.ren, EV.ren, renL, minHit, hb, meetE]
  · have hb : meetB l s = true := by
      simp only [unI_ints] at h
      have h' : ((meetE l s != 0) || !meetB l s) = false := h
      simpa using (Bool.or_eq_false_iff.1 h').2
    have he := (meetE_less (x := 0) hb).1
    refine KW.goLp lay_ok T23_ok 100 rfl (I := fun q : Nat => ⟨Try.f33.ntmps, [(0, .e (lV l)), (1, sI s), (26, .e (lV (elemsS s))), (27, sI (elemsS s).length), (28, sI q)], []⟩) (R := fun q => q ≤ (elemsS s).length ∧ ((elemsS s).take q).all (fun i => !meetB l (iandNot .i64 s (ishl 1 i))) = true) (m := fun q => (elemsS s).length - q) 0 rfl ⟨rfl, rfl, rfl, rfl, rfl, trivial⟩ (by simp) ⟨by simp, by simp⟩ trivial ?_
    rintro q ⟨h1, h2⟩
    refine KW.goIf lay_ok T23_ok 100 rfl (by simp) rfl trivial (fun h => ?_) fun h => ?_
    · have hq : q < (elemsS s).length := by simpa using h
      have hg : (elemsS s).getD (Int.toNat (q : Int)) 0 = (elemsS s)[q] := by simp [List.getD_eq_getElem?_getD, hq]
      obtain ⟨i, hi, hbit, hix⟩ := mem_elemsS.1 (List.getElem_mem hq)
      have h1k := one_inK hi
      have hge : (elemsS s).getD (Int.toNat (q : Int)) 0 = (i : Int) := hg.trans hix
      have hin : 0 ≤ (elemsS s).getD (Int.toNat (q : Int)) 0 ∧ (elemsS s).getD (Int.toNat (q : Int)) 0 < 64 := by rw [hge]; omega
      refine KW.goIf lay_ok T23_ok 100 rfl (by simp only [unI_ints, hge, inK, bitsI, true_and, and_true]; simp; omega) rfl trivial (fun h => ?_) fun h => ?_
      · simp only [unI_ints, hg] at h
        have hm : meetB l (iandNot .i64 s (ishl 1 (elemsS s)[q])) = true := h
        refine KW.goOutR lay_ok T23_ok 100 rfl (by simp) ?_
        refine KW.goRet lay_ok T23_ok 100 rfl rfl ?_ (by simp) trivial
        have hf : leastHit l s 24 = false := by
          rw [leastHit_elems, List.all_eq_false]
          exact ⟨_, List.getElem_mem hq, by simp [hm]⟩
        have hmh : minHit l s = false := by simp [minHit, hf]
        rw [hmh, he]
        rfl
      · simp only [unI_ints, hg] at h
        have hm : meetB l (iandNot .i64 s (ishl 1 (elemsS s)[q])) = false := h
        refine KW.goTo lay_ok T23_ok 100 rfl (q + 1) rfl ⟨rfl, rfl, rfl, rfl, rfl, trivial⟩ (by simp [inK]; omega) ⟨⟨by omega, ?_⟩, by omega⟩ trivial
        rw [List.take_succ_eq_append_getElem hq, List.all_append, h2]
        simp [hm]
    · have hq : q = (elemsS s).length := by simp at h; omega
      refine KW.goOut lay_ok T23_ok 100 rfl (by simp) ?_
      refine KW.goRet lay_ok T23_ok 100 rfl rfl ?_ (by simp) trivial
      rw [hq, List.take_length, ← leastHit_elems] at h2
      simp [SV.ren, EV.ren, renL, minHit, hb, h2, he]

def T24 : Fns := (14, fL (fun l => .tup [lV (if hitE l = 0 then hitL l else []), iV (hitE l)]) fun _ => True) ::
  (12, fL (fun l => .tup [lV (if listE l = 0 then packS l else []), eV (listE l)]) fun _ => True) ::
  (15, fL (fun l => .tup [lV (if listE l = 0 then packS l else []), iV (listE l)]) fun _ => True) ::
  (28, fLI (fun l s => .tup [bV (minHit l s), eV (meetE l s)]) fun _ _ => True) ::
  (33, fLI (fun l s => .tup [bV (minHit l s), iV (meetE l s)]) fun _ _ => True) ::
  T23
theorem T24_ok : FnsOk Try.prog T24 := .cons (.cons (.cons (.cons (.cons (T23_ok) Try.func33 rfl rfl (fLI_ok fun l s _ => rminimalHit_does l s)) Try.func28 rfl rfl (fLI_ok fun l s _ => minimalHit_does l s)) Try.func15 rfl rfl (fL_ok fun l _ => rpacking_does l)) Try.func12 rfl rfl (fL_ok fun l _ => packing_does l)) Try.func14 rfl rfl (fL_ok fun l _ => rall_does l)


end Go.Proofs.Ytinddojpbieejaa
