/-
  Hitting sets: Dual; the laws' own functions; HittingAll, HittingDuality, HittingCovers return true.
-/
import Derived.Test.YtinddojpbieejaaFnU
import Derived.Test.YtinddojpbieejaaFnO
import Derived.Test.YtinddojpbieejaaPuH
set_option linter.unusedVariables false
set_option linter.unusedSimpArgs false
namespace Go.Proofs.Ytinddojpbieejaa
open Go.Sy Go.Pu

def T29 : Fns := (32, fLL (fun l cost => .tup [iV (chR l cost), iV (chT l cost), iV (chE l cost)]) fun l cost => True) ::
  T28
theorem T29_ok : FnsOk Try.prog T29 := .cons (T28_ok) Try.func32 rfl rfl (fLL_ok fun l cost _ => rcheapest_does l cost)


def dualE (a b : List Int) : Int := if bothE a b = 0 then hitE a else bothE a b
def dualB (a b : List Int) : Bool := decide (dualE a b = 0) && decide (hitL a = minS b)
theorem dual_both {a b : List Int} (h : bothE a b = 0) (h' : hitE a = 0) : bothE (hitL a) b = 0 := by
  have hb : listE b = 0 := by unfold bothE at h; split at h <;> simp_all
  have hf := hit_fam h'
  exact bothE_zero hf.len (listE_len hb) hf.val (listE_valid hb)
theorem dual_does (a b : List Int) : DoesF Try.prog 13 [lV a, lV b] [] (.tup [bV (dualB a b), eV (dualE a b)]) [] := by
  refine DoesF.body _ Try.func13 rfl rfl rfl rfl ?_
  refine KW.goIf lay_ok T29_ok 100 rfl (by simp) rfl trivial (fun h => ?_) fun h => ?_
  · have h' : ¬ bothE a b = 0 := by simpa using h
    refine KW.goRet lay_ok T29_ok 100 rfl rfl ?_ (by simp) trivial
    simp [SV.ren, renL, EV.ren, dualB, dualE, h']
  · have h' : bothE a b = 0 := by simpa using h
    refine KW.goIf lay_ok T29_ok 100 rfl (by simp) rfl trivial (fun h => ?_) fun h => ?_
    · have h2 : ¬ hitE a = 0 := by simpa using h
      refine KW.goRet lay_ok T29_ok 100 rfl rfl ?_ (by simp) trivial
      simp [SV.ren, renL, EV.ren, dualB, dualE, h', h2]
    · have h2 : hitE a = 0 := by simpa using h
      refine KW.goRet lay_ok T29_ok 100 rfl rfl ?_ (by simp) trivial
      simp [SV.ren, renL, EV.ren, dualB, dualE, h', h2, dual_both h' h2, (hit_fam h2).min]
theorem rdual_does (a b : List Int) : DoesF Try.prog 16 [lV a, lV b] [] (.tup [bV (dualB a b), iV (dualE a b)]) [] := by
  refine DoesF.body _ Try.func16 rfl rfl rfl rfl ?_
  refine KW.len 1 rfl rfl fun hlb => ?_
  refine KW.goIf lay_ok T29_ok 100 rfl (by simp) rfl trivial (fun h => ?_) fun h => ?_
  · have h' : ¬ bothE a b = 0 := by simpa using h
    refine KW.goRet lay_ok T29_ok 100 rfl rfl ?_ (by simp) trivial
    simp [SV.ren, renL, EV.ren, dualB, dualE, h']
  · have h' : bothE a b = 0 := by simpa using h
    have hb : listE b = 0 := by have h := h'; unfold bothE at h; split at h <;> simp_all
    have hlen := listE_len hb
    refine KW.goIf lay_ok T29_ok 100 rfl (by simp) rfl trivial (fun h => ?_) fun h => ?_
    · have h2 : ¬ hitE a = 0 := by simpa using h
      refine KW.goRet lay_ok T29_ok 100 rfl rfl ?_ (by simp) trivial
      simp [SV.ren, renL, EV.ren, dualB, dualE, h', h2]
    · have h2 : hitE a = 0 := by simpa using h
      refine KW.goRet lay_ok T29_ok 100 rfl rfl ?_ (by simp; omega) trivial
      simp [SV.ren, renL, EV.ren, dualB, dualE, h', h2, minS_eq (listE_valid hb)]

def few7 (l : List Int) : Bool := decide ((l.length : Int) ≤ 10) || (decide ((1024 : Int) < l.length) && decide ((l.length : Int) < 1200))
theorem few7_does (l : List Int) : DoesF Try.prog 9 [lV l] [] (sB (few7 l)) [] := by
  refine DoesF.body _ Try.func9 rfl rfl rfl rfl ?_
  refine KW.len 0 rfl rfl fun hlb => ?_
  exact KW.goRet lay_ok T29_ok 100 rfl rfl rfl (by simp <;> omega) trivial
def ok7 (l : List Int) : Bool := decide ((l.length : Int) ≤ 10) && decide (listE l = 0)
theorem valid7_does (l : List Int) : DoesF Try.prog 19 [lV l] [] (sB (ok7 l)) [] := by
  refine DoesF.body _ Try.func19 rfl rfl rfl rfl ?_
  refine KW.len 0 rfl rfl fun hlb => ?_
  refine KW.goRet lay_ok T29_ok 100 rfl rfl ?_ (by simp) trivial
  simp [SV.ren, EV.ren, ok7]
  rw [Bool.eq_iff_iff]; simp

theorem ch36 : chE [3, 6] [1, 5, 2] = 0 ∧ chR [3, 6] [1, 5, 2] = 5 ∧ chT [3, 6] [1, 5, 2] = 3 := by
  have e1 : srchS (cst [1, 5, 2]) (minS [3, 6]) = 5 := by rw [m36]; decide +kernel
  have e2 : chE [3, 6] [1, 5, 2] = 0 := by
    unfold chE bE
    rw [e1]
    decide +kernel
  unfold chR chT
  rw [e2, e1]
  exact ⟨rfl, rfl, by decide +kernel⟩
theorem awake7_does : DoesF Try.prog 10 [] [] (sB true) [] := by
  refine DoesF.body _ Try.func10 rfl rfl rfl rfl ?_
  refine KW.go lay_ok T29_ok 100 rfl (by simp) ?_
  refine KW.frz1 9 rfl rfl rfl ?_
  refine KW.go lay_ok T29_ok 100 rfl (by simp) ?_
  refine KW.frz1 21 rfl rfl rfl ?_
  refine KW.go lay_ok T29_ok 100 rfl (by simp) ?_
  simp only [unI_ints, hit36.1, hit36.2, ch36.1, ch36.2.1, ch36.2.2, h36a.2.2.2, if_true, packS, pack3612]
  refine KW.guardT rfl rfl (by simp) ?_
  refine KW.go lay_ok T29_ok 100 rfl (by simp) ?_
  refine KW.guardT rfl rfl (by simp) ?_
  refine KW.goRet lay_ok T29_ok 100 rfl rfl ?_ (by simp) trivial
  simp [SV.ren, EV.ren]

def T30 : Fns := (13, fLL (fun a b => .tup [bV (dualB a b), eV (dualE a b)]) fun _ _ => True) ::
  (16, fLL (fun a b => .tup [bV (dualB a b), iV (dualE a b)]) fun _ _ => True) ::
  (9, fL (fun l => sB (few7 l)) fun _ => True) ::
  (19, fL (fun l => sB (ok7 l)) fun _ => True) ::
  (27, fL (fun l => .e (eV (checkE l))) fun _ => True) ::
  (10, f0 (sB true) True) ::
  T29
theorem T30_ok : FnsOk Try.prog T30 := .cons (.cons (.cons (.cons (.cons (.cons (T29_ok) Try.func10 rfl rfl (f0_ok fun _ => awake7_does)) Try.func27 rfl rfl (fL_ok fun l _ => check_does l)) Try.func19 rfl rfl (fL_ok fun l _ => valid7_does l)) Try.func9 rfl rfl (fL_ok fun l _ => few7_does l)) Try.func16 rfl rfl (fLL_ok fun a b _ => rdual_does a b)) Try.func13 rfl rfl (fLL_ok fun a b _ => dual_does a b)


theorem lawHitAll_does (a b : List Int) : DoesF Try.prog 3 [lV a, lV b] [] (sB true) [] := by
  refine DoesF.body _ Try.func3 rfl rfl rfl rfl ?_
  refine KW.goIf lay_ok T30_ok 200 rfl (by simp) rfl trivial (fun h => ?_) fun h => ?_
  · exact KW.goRet lay_ok T30_ok 200 rfl rfl rfl (by simp) trivial
  · refine KW.goRet lay_ok T30_ok 300 rfl rfl ?_ (by simp) trivial
    simp [SV.ren, EV.ren]

theorem lawHitDuality_does (l : List Int) : DoesF Try.prog 4 [lV l] [] (sB true) [] := by
  refine DoesF.body _ Try.func4 rfl rfl rfl rfl ?_
  refine KW.goIf lay_ok T30_ok 200 rfl (by simp) rfl trivial (fun h => ?_) fun h => ?_
  · exact KW.goRet lay_ok T30_ok 200 rfl rfl rfl (by simp) trivial
  · have hok : ok7 l = true := by simpa using h
    have hl : listE l = 0 := by simp [ok7] at hok; exact hok.2
    rcases hit_err hl with he | he
    · refine KW.goIf lay_ok T30_ok 200 rfl (by simp) rfl trivial (fun h => ?_) fun h => ?_
      · refine KW.goRet lay_ok T30_ok 300 rfl rfl ?_ (by simp [he]) trivial
        simp [SV.ren, EV.ren, he]
      · have hf := hit_fam he
        have hla : listE (hitL l) = 0 := listE_zero hf.len hf.val
        have hv : Val l := listE_valid hl
        refine KW.goIf lay_ok T30_ok 200 rfl (by simp) rfl trivial (fun h => ?_) fun h => ?_
        · simp [hl] at h
        · rcases hit_err hla with hd | hd
          · refine KW.goIf lay_ok T30_ok 200 rfl (by simp) rfl trivial (fun h => ?_) fun h => ?_
            · simp [he, hd] at h
            · refine KW.goRet lay_ok T30_ok 300 rfl rfl ?_ (by simp) trivial
              have hb : bothE l (hitL l) = 0 := bothE_zero (listE_len hl) hf.len hv hf.val
              simp [SV.ren, EV.ren, he, hd, hl, dualB, dualE, hb, hf.min, hit_dual he hd]
          · refine KW.goIf lay_ok T30_ok 200 rfl (by simp) rfl trivial (fun h => ?_) fun h => ?_
            · refine KW.goRet lay_ok T30_ok 300 rfl rfl ?_ (by simp [he, hd]) trivial
              simp [SV.ren, EV.ren, he, hd]
            · simp [he, hd] at h
    · refine KW.goIf lay_ok T30_ok 200 rfl (by simp) rfl trivial (fun h => ?_) fun h => ?_
      · refine KW.goRet lay_ok T30_ok 300 rfl rfl ?_ (by simp [he]) trivial
        simp [SV.ren, EV.ren, he]
      · simp [he] at h

theorem lawHitCovers_does (l : List Int) (s : Int) : DoesF Try.prog 6 [lV l, iV s] [] (sB true) [] := by
  refine DoesF.body _ Try.func6 rfl rfl rfl rfl ?_
  refine KW.goIf lay_ok T30_ok 200 rfl (by simp) rfl trivial (fun h => ?_) fun h => ?_
  · exact KW.goRet lay_ok T30_ok 200 rfl rfl rfl (by simp) trivial
  · have hok : ok7 l = true := by simpa using h
    have hl : listE l = 0 := by simp [ok7] at hok; exact hok.2
    have hv : Val l := listE_valid hl
    have vs := valid_cutS s
    rcases hit_err hl with he | he
    · refine KW.goIf lay_ok T30_ok 200 rfl (by simp) rfl trivial (fun h => ?_) fun h => ?_
      · simp [he] at h
      · have hf := hit_fam he
        have hla : listE (hitL l) = 0 := listE_zero hf.len hf.val
        have hmin := fun x (hx : x ∈ hitL l) => hit_min he hx
        have k1 : ((hitL l).any fun t => subS t (cutS s)) = !l.any fun t => decide (iand .i64 t (cutS s) = 0) := by
          rw [Bool.eq_iff_iff, any_cov hf.val, hit_cov he]
          simp only [Bool.not_eq_true', List.any_eq_false, decide_eq_true_eq]
          rfl
        have k2 := (anti_min hf.val)
        rw [hf.min] at k2
        have k3 : checkE (hitL l) = 0 := by simp [checkE, hla, k2.1, hf.min]
        simp only [unI_ints, he, if_true]
        have hflen := hf.len
        refine KW.goIf lay_ok T30_ok 200 rfl ?_ rfl trivial (fun h => ?_) fun h => ?_
        · simp
        · simp [hl, hla, vs, k1, k3] at h
        · generalize hitL l = H at *
          refine KW.goLp lay_ok T30_ok 100 rfl (I := fun q : Nat => ⟨Try.f6.ntmps, [(0, .e (lV l)), (62, .e (lV H)), (63, sI H.length), (64, sI q)], []⟩) (R := fun q => q ≤ H.length) (m := fun q => H.length - q) 0 rfl ⟨rfl, rfl, rfl, rfl, trivial⟩ (by simp) (by simp) trivial ?_
          rintro q h1
          refine KW.goIf lay_ok T30_ok 100 rfl (by simp) rfl trivial (fun h => ?_) fun h => ?_
          · have hq : q < H.length := by simpa using h
            have hg : H.getD (Int.toNat (q : Int)) 0 = H[q] := by simp [List.getD_eq_getElem?_getD, hq]
            have hm := hmin _ (List.getElem_mem hq)
            have hme : meetE l H[q] = 0 := by simp [meetE, hl, hf.val _ (List.getElem_mem hq)]
            refine KW.goIf lay_ok T30_ok 100 rfl (by simp; omega) rfl trivial (fun h => ?_) fun h => ?_
            · simp only [unI_ints, hg] at h
              simp [hm, hme] at h
            · exact KW.goTo lay_ok T30_ok 100 rfl (q + 1) rfl ⟨rfl, rfl, rfl, rfl, trivial⟩ (by simp [inK]; omega) ⟨by omega, by omega⟩ trivial
          · refine KW.goOut lay_ok T30_ok 100 rfl (by simp) ?_
            exact KW.goRet lay_ok T30_ok 100 rfl rfl rfl (by simp) trivial
    · refine KW.goIf lay_ok T30_ok 200 rfl (by simp) rfl trivial (fun h => ?_) fun h => ?_
      · refine KW.goRet lay_ok T30_ok 300 rfl rfl ?_ (by simp [he]) trivial
        simp [SV.ren, EV.ren, he]
      · simp [he] at h
end Go.Proofs.Ytinddojpbieejaa
