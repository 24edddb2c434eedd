/-
  Law SplitCovers: contract.
-/
import Derived.Test.YtpkjbchplkfmhaaDoorTrP
set_option linter.unusedSectionVars false
set_option linter.unusedVariables false
set_option linter.unusedSimpArgs false
attribute [local instance] Go.Sy.drwNo
namespace Go.Proofs.YtpkjbchplkfmhaaDoor
open Go.Sy Go.Pu
/-- how many of some leaves a state lies in -/
def cntL (s : Int) (l : List LeafP) : Nat := (l.filter fun x => leafIn x s).length
theorem cntL_succ (s : Int) {l : List LeafP} {q : Nat} (h : q < l.length) : cntL s (l.take (q + 1)) = cntL s (l.take q) + if leafIn l[q] s = true then 1 else 0 := by
  unfold cntL
  rw [List.take_add_one, List.getElem?_eq_getElem h, List.filter_append, List.length_append]
  cases hb : leafIn l[q] s <;> simp [hb]
set_option maxHeartbeats 1600000 in
theorem lawCovers_does (t : Tr) (vars s0 : Int) : DoesF Tryd.prog 4 [trV t, iV vars, iV s0] [] (sB true) [] := by
  refine DoesF.body _ Tryd.func4 rfl rfl rfl rfl ?_
  refine KW.goIf lay_ok W1_ok 100 rfl (by simp) rfl trivial (fun h => ?_) fun h => ?_
  · exact KW.goRet lay_ok W1_ok 100 rfl rfl rfl (by simp) trivial
  simp only [unTr_cells] at h
  obtain ⟨h1, h2⟩ : fwB t 200 = true ∧ splE t vars = 0 := by simpa using h
  obtain ⟨v0, v1, ok, hc⟩ := splE_ok h2
  have hg := okT_gT v1 ok
  have sv := shl_v v0 v1
  have sm := mask_rng s0 v0 v1
  refine KW.goIf lay_ok W1_ok 100 rfl (by simp) rfl trivial (fun h => ?_) fun h => ?_
  · simp [unTr_cells, h2] at h
  clear h
  have hL : splL t vars = lvs t 0 0 := by rw [splL, if_pos h2]
  have aE : atE t vars (iand .i64 s0 (ishl 1 vars - 1)) = 0 := by rw [atE, if_pos h2, if_neg (by omega)]
  have aV : atV t vars (iand .i64 s0 (ishl 1 vars - 1)) = atT (iand .i64 s0 (ishl 1 vars - 1)) t 0 0 := by rw [atV, if_pos aE]
  simp only [unTr_cells, hL]
  have hap := lvs_apart hg 0 0
  have hlen := lvs_len t 0 0
  have hz := szT_rng t
  have hfil := lvs_filter (iand .i64 s0 (ishl 1 vars - 1)) t hg 0 0
  rw [if_pos (inC_zero _)] at hfil
  have hclean : ∀ x ∈ lvs t 0 0, iand .i64 x.yes x.no = 0 := fun x hx => lvs_clean v1 ok (bit0a 0) (bit0a 0) (by decide) hx
  have honly : ∀ x ∈ lvs t 0 0, leafIn x (iand .i64 s0 (ishl 1 vars - 1)) = true → x = atT (iand .i64 s0 (ishl 1 vars - 1)) t 0 0 := fun x hx h => at_only hg hx h
  generalize hLv : lvs t 0 0 = L at *
  refine KW.go lay_ok W1_ok 100 rfl ?_ ?_
  · simp [inK, bitsI, unTr_cells]
    omega
  simp only [unTr_cells, aE, aV]
  generalize hS : iand .i64 s0 (ishl 1 vars - 1) = S at *
  generalize hX : atT S t 0 0 = X at *
  refine KW.goLpR lay_ok W1_ok 100 rfl (I := fun q : Nat => ⟨Tryd.f4.ntmps, [(2, sI S), (7, .e (lvV L)), (9, .e (.r 9)), (10, .e (eV 0)), (11, sI (cntL S (L.take q))), (50, .e (lvV L)), (51, sI L.length), (52, sI q)],
      [(9, .box 43 [iV X.yes, iV X.no, iV X.reason] none)]⟩)
    (R := fun q => q ≤ L.length) (m := fun q => L.length - q) 0 [(9, 9)] rfl rfl ⟨rfl, rfl, rfl, rfl, rfl, rfl, rfl, rfl, trivial⟩ (by simp) (Nat.zero_le _) (by exact ⟨rfl, trivial⟩) ?_
  rintro q hq0
  have hctop : ∀ k, cntL S (L.take k) ≤ 8192 := fun k => by
    unfold cntL
    have := List.length_filter_le (fun x => leafIn x S) (L.take k)
    simp only [List.length_take] at this
    omega
  refine KW.goIf lay_ok W1_ok 100 rfl (by simp) rfl trivial (fun h => ?_) fun h => ?_
  · have hq : q < L.length := by simpa using h
    have hge : L.getD (Int.toNat (q : Int)) leaf0 = L[q] := by simp [List.getD_eq_getElem?_getD, hq]
    have hmq : L[q] ∈ L := List.getElem_mem hq
    refine KW.goIf lay_ok W1_ok 100 rfl (by simp; omega) rfl trivial (fun h => ?_) fun h => ?_
    · exfalso
      rw [hge, hclean _ hmq] at h
      simp at h
    clear h
    have hge2 : L.getD q leaf0 = L[q] := hge
    have hapq : ∀ j, j < q → apart L[q] (L.getD j leaf0) := fun j hj => by
      have hj' : j < L.length := by omega
      have := List.pairwise_iff_getElem.1 hap j q hj' hq hj
      rw [show L.getD j leaf0 = L[j] by simp [List.getD_eq_getElem?_getD, hj']]
      exact apart_symm this
    have hcs := cntL_succ S hq
    have hoq := honly _ hmq
    rw [← hge2] at hapq hcs hoq
    refine KW.goLpR lay_ok W1_ok 100 rfl (I := fun j : Nat => ⟨Tryd.f4.ntmps, [(2, sI S), (7, .e (lvV L)), (9, .e (.r 9)), (10, .e (eV 0)), (11, sI (cntL S (L.take q))), (13, .e (.r 13)), (50, .e (lvV L)), (51, sI L.length), (52, sI q), (67, .e (.c (.sl q 3 fun e p => leafC (L.getD e leaf0) p))), (68, sI q), (69, sI j)],
        [(9, .box 43 [iV X.yes, iV X.no, iV X.reason] none), (13, .box 43 [iV (L.getD q leaf0).yes, iV (L.getD q leaf0).no, iV (L.getD q leaf0).reason] none)]⟩)
      (R := fun j => j ≤ q) (m := fun j => q - j) 0 [(9, 9), (13, 13)] rfl rfl ⟨rfl, rfl, rfl, rfl, rfl, rfl, rfl, rfl, rfl, rfl, rfl, rfl, trivial⟩ (by simp; omega) (Nat.zero_le _) (by exact ⟨rfl, rfl, trivial⟩) ?_
    rintro j hj0
    refine KW.goIf lay_ok W1_ok 100 rfl (by simp) rfl trivial (fun h => ?_) fun h => ?_
    · have hj : j < q := by simpa using h
      have hapj := hapq j hj
      refine KW.goIf lay_ok W1_ok 100 rfl (by simp +contextual; omega) rfl trivial (fun h => ?_) fun h => ?_
      · exfalso
        simp only [Int.toNat_natCast, Bool.and_eq_true, beq_iff_eq] at h
        exact hapj h
      · exact KW.goToR lay_ok W1_ok 100 rfl (j + 1) [(9, 9), (13, 13)] rfl rfl ⟨rfl, rfl, rfl, rfl, rfl, rfl, rfl, rfl, rfl, rfl, rfl, rfl, trivial⟩ (by simp [inK]; omega) ⟨by omega, by omega⟩ (by exact ⟨rfl, rfl, trivial⟩)
    · refine KW.goOut lay_ok W1_ok 100 rfl (by simp) ?_
      refine KW.goIf lay_ok W1_ok 100 rfl (by simp +contextual) rfl trivial (fun h => ?_) fun h => ?_
      · have hin : leafIn (L.getD q leaf0) S = true := h
        have hYX := hoq hin
        rw [if_pos hin] at hcs
        refine KW.goIf lay_ok W1_ok 100 rfl (by have := hctop q; simp [inK]; omega) rfl trivial (fun h => ?_) fun h => ?_
        · exfalso
          rw [hYX] at h
          simp at h
        · refine KW.goToR lay_ok W1_ok 100 rfl (q + 1) [(9, 9)] rfl rfl ⟨rfl, rfl, rfl, rfl, by rw [hcs]; rfl, rfl, rfl, rfl, trivial⟩ (by simp [inK]; omega) ⟨by omega, by omega⟩ (by exact ⟨rfl, trivial⟩)
      · have hin : ¬ leafIn (L.getD q leaf0) S = true := by rw [show leafIn (L.getD q leaf0) S = false from h]; decide
        rw [if_neg hin, Nat.add_zero] at hcs
        refine KW.goToR lay_ok W1_ok 100 rfl (q + 1) [(9, 9)] rfl rfl ⟨rfl, rfl, rfl, rfl, by rw [hcs]; rfl, rfl, rfl, rfl, trivial⟩ (by simp [inK]; omega) ⟨by omega, by omega⟩ (by exact ⟨rfl, trivial⟩)
  · have hq : q = L.length := by simp at h; omega
    subst hq
    have h1 : cntL S (L.take L.length) = 1 := by rw [List.take_length, cntL, hfil]; rfl
    rw [h1]
    refine KW.goOut lay_ok W1_ok 100 rfl (by simp) ?_
    refine KW.goRet lay_ok W1_ok 100 rfl rfl ?_ (by simp) trivial
    simp [SV.ren, EV.ren]
end Go.Proofs.YtpkjbchplkfmhaaDoor
