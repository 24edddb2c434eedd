/-
  Laws SplitLeaves, SplitChecks, SplitReturns: contracts.
-/
import Derived.Test.YtpkjbchplkfmhaaDoorTrU
set_option linter.unusedSectionVars false
set_option linter.unusedVariables false
set_option linter.unusedSimpArgs false
attribute [local instance] Go.Sy.drwNo
namespace Go.Proofs.YtpkjbchplkfmhaaDoor
open Go.Sy Go.Pu
def X0 : Fns := (33, fTI (fun t v => .tup [strV (strL (textL t v)), iV (splE t v)]) fun t _ => t.In) ::
  W1
theorem X0_ok : FnsOk Tryd.prog X0 := .cons (W1_ok) Tryd.func33 rfl rfl (fTI_ok fun t v h => rtext19_does t h v)


theorem unTr_nil : unTr 0 (.lit (.slice none 0 0)) 0 = Tr.no := Tr.ext rfl rfl rfl fun i hi => absurd hi (Nat.not_lt_zero _)
theorem isKs_nil : isKs (.lit (.slice none 0 0)) := ⟨rfl, rfl⟩
theorem no_nar : Tr.no.nar := (Tr.nar_iff _).2 ⟨by decide, fun i hi => absurd hi (Nat.not_lt_zero _)⟩
set_option maxHeartbeats 1600000 in
theorem lawLeaves_does (t : Tr) (hin : t.In) (vars s : Int) (T : Nat) : DoesF Tryd.prog 9 [trV t, iV vars, iV s] [gloP 0 T] (sB true) [] := by
  refine DoesF.body _ Tryd.func9 rfl rfl rfl rfl ?_
  refine KW.goIf lay_ok X0_ok 100 rfl (by simp) rfl trivial (fun h => ?_) fun h => ?_
  · exact KW.goRet lay_ok X0_ok 100 rfl rfl rfl (by simp) trivial
  simp only [unTr_cells] at h
  obtain ⟨h1, h2⟩ : fwB t 300 = true ∧ splE t vars = 0 := by simpa using h
  refine KW.go lay_ok X0_ok 100 rfl (by simp) ?_
  refine KW.call0 (text_does t hin vars T) (enters Tryd.func26 rfl rfl) [(0, 0)] [] [] (.inl rfl) rfl rfl rfl rfl rfl trivial
    ⟨⟨_, _, rfl, trivial, (show Mt _ _ _ (EV.ren [(0, 0)] (trV t)) (trV t) from .same)⟩, ⟨_, _, rfl, trivial, .conv (CVEq.refl _)⟩, trivial⟩ rfl ⟨rfl, trivial⟩ rfl trivial rfl rfl (.inl rfl) ?_
  refine KW.goRet lay_ok X0_ok 400 rfl rfl ?_ ?_ trivial
  · simp only [unTr_cells]
    simp [SV.ren, EV.ren]
  · simp only [unTr_cells, isKs_ks]
    simp [hin]
set_option maxHeartbeats 1600000 in
theorem lawChecks_does (t : Tr) (hin : t.In) (vars : Int) (T : Nat) : DoesF Tryd.prog 10 [trV t, iV vars] [gloP 0 T] (sB true) [] := by
  refine DoesF.body _ Tryd.func10 rfl rfl rfl rfl ?_
  refine KW.goIf lay_ok X0_ok 100 rfl (by simp) rfl trivial (fun h => ?_) fun h => ?_
  · exact KW.goRet lay_ok X0_ok 100 rfl rfl rfl (by simp) trivial
  clear h
  refine KW.goIf lay_ok X0_ok 100 rfl (by simp) rfl trivial (fun h => ?_) fun h => ?_
  · simp [unTr_cells] at h
  clear h
  refine KW.goIf lay_ok X0_ok 100 rfl (by simp) rfl trivial (fun h => ?_) fun h => ?_
  · exact KW.goRet lay_ok X0_ok 100 rfl rfl rfl (by simp) trivial
  have h0 : splE t vars ≠ 0 := by simpa [unTr_cells] using h
  have hL : splL t vars = [] := by rw [splL, if_neg h0]
  have aE : atE t vars 0 = splE t vars := by rw [atE, if_neg h0]
  have aV : atV t vars 0 = leaf0 := by rw [atV, aE, if_neg h0]
  have hS : splS t vars = (0, 0, 0) := by rw [splS, if_neg h0]
  have hM : splM t vars = .no := by rw [splM, if_neg h0]
  have wE : swapE t vars 0 .no = splE t vars := by rw [swapE, if_pos h0]
  have wV : swapV t vars 0 .no = .no := by rw [swapV, wE, if_neg h0]
  have hT : textL t vars = [] := by rw [textL, if_neg h0]
  refine KW.go lay_ok X0_ok 400 rfl ?_ ?_
  · simp only [unTr_cells, unTr_nil, isKs_nil]
    simp [no_nar]
  refine KW.call0 (text_does t hin vars T) (enters Tryd.func26 rfl rfl) [(0, 0)] [] [] (.inl rfl) rfl rfl rfl rfl rfl trivial
    ⟨⟨_, _, rfl, trivial, (show Mt _ _ _ (EV.ren [(0, 0)] (trV t)) (trV t) from .same)⟩, ⟨_, _, rfl, trivial, .conv (CVEq.refl _)⟩, trivial⟩ rfl ⟨rfl, trivial⟩ rfl trivial rfl rfl (.inl rfl) ?_
  simp only [unTr_cells, unTr_nil, hL, aE, aV, hS, hM, wE, wV, hT]
  refine KW.goRet lay_ok X0_ok 400 rfl rfl ?_ ?_ trivial
  · simp only [unTr_cells, unTr_nil]
    simp [SV.ren, EV.ren, leaf0]
  · simp only [unTr_cells, unTr_nil, isKs_ks, isKs_nil]
    simp [leaf0, inK]
def X1 : Fns := (27, fVI (fun v c => sB (decide (numV v ≠ 0) && decide (numV v = c))) fun v c => isErr 61 v) ::
  X0
theorem X1_ok : FnsOk Tryd.prog X1 := .cons (X0_ok) Tryd.func27 rfl rfl (fVI_ok fun v c h => is_does v c h)


set_option maxHeartbeats 1600000 in
theorem lawReturns_does (t : Tr) (hin : t.In) (vars : Int) (T : Nat) : DoesF Tryd.prog 8 [trV t, iV vars] [gloP 0 T] (sB true) [] := by
  refine DoesF.body _ Tryd.func8 rfl rfl rfl rfl ?_
  refine KW.goIf lay_ok X1_ok 100 rfl (by simp) rfl trivial (fun h => ?_) fun h => ?_
  · exact KW.goRet lay_ok X1_ok 100 rfl rfl rfl (by simp) trivial
  simp only [unTr_cells] at h
  obtain ⟨h1, h2⟩ : fwB t 300 = true ∧ splE t vars = 0 := by simpa using h
  obtain ⟨hg, hc⟩ := splE_g h2
  have hfew := few_cnt hg h1
  have hsz := showT_size t hg hin
  obtain ⟨pT, pF⟩ := par_show h2 (by omega)
  have hgl := good_lvs t 0 0
  have hL : splL t vars = lvs t 0 0 := by rw [splL, if_pos h2]
  have hX : textL t vars = showT t := by rw [textL, if_pos h2]
  refine KW.go lay_ok X1_ok 100 rfl (by simp) ?_
  refine KW.call0 (text_does t hin vars T) (enters Tryd.func26 rfl rfl) [(0, 0)] [] [] (.inl rfl) rfl rfl rfl rfl rfl trivial
    ⟨⟨_, _, rfl, trivial, (show Mt _ _ _ (EV.ren [(0, 0)] (trV t)) (trV t) from .same)⟩, ⟨_, _, rfl, trivial, .conv (CVEq.refl _)⟩, trivial⟩ rfl ⟨rfl, trivial⟩ rfl trivial rfl rfl (.inl rfl) ?_
  rw [hX, h2]
  refine KW.goIf lay_ok X1_ok 100 rfl (by simp) rfl trivial (fun h => ?_) fun h => ?_
  · simp at h
  clear h
  refine KW.goIf lay_ok X1_ok 100 rfl (by simp) rfl trivial (fun h => ?_) fun h => ?_
  · simp [unTr_cells, h2] at h
  clear h
  simp only [strL_data, unTr_cells, hL]
  have hlen := lvs_len t 0 0
  have hz := szT_rng t
  generalize hLv : lvs t 0 0 = L at *
  refine KW.goLpR lay_ok X1_ok 100 rfl (I := fun q : Nat => ⟨Tryd.f8.ntmps, [(2, .e (.r 2)), (7, .e (.r 7)), (8, .e (eV (parC (showT t)))), (48, .e (lvV L)), (49, sI L.length), (50, sI q)],
      [(2, .box 25 [iV t.v, .c t.ks, iV t.r] none), (7, .box 25 [iV (parV (showT t)).v, .c (parV (showT t)).ks, iV (parV (showT t)).r] none)]⟩)
    (R := fun q => q ≤ L.length ∧ (L.take q).all (fun x => goodR x.reason) = true) (m := fun q => L.length - q) 0 [(2, 2), (7, 7)] rfl rfl ⟨rfl, rfl, rfl, rfl, rfl, rfl, trivial⟩ (by simp) ⟨Nat.zero_le _, rfl⟩ (by exact ⟨rfl, rfl, trivial⟩) ?_
  rintro q ⟨hq0, hall⟩
  refine KW.goIf lay_ok X1_ok 100 rfl (by simp) rfl trivial (fun h => ?_) fun h => ?_
  · have hq : q < L.length := by simpa using h
    have htk : L.take (q + 1) = L.take q ++ [L[q]] := by rw [List.take_add_one, List.getElem?_eq_getElem hq]; rfl
    have hge : L.getD (Int.toNat (q : Int)) leaf0 = L[q] := by simp [List.getD_eq_getElem?_getD, hq]
    refine KW.goIf lay_ok X1_ok 100 rfl (by simp +contextual; omega) rfl trivial (fun h => ?_) fun h => ?_
    · rw [hge] at h
      have hbad : goodR L[q].reason = false := by
        rw [goodR_iff]
        simpa using h
      have hbT : goodT t = false := by
        rw [hgl, List.all_eq_false]
        exact ⟨_, List.getElem_mem hq, by rw [hbad]; decide⟩
      have p2 := pF hbT
      refine KW.goOutR lay_ok X1_ok 100 rfl (by simp) ?_
      rw [p2]
      refine KW.goRet lay_ok X1_ok 100 rfl rfl ?_ (by simp) trivial
      simp [SV.ren, EV.ren]
    · rw [hge] at h
      have hok : goodR L[q].reason = true := by
        cases hb : goodR L[q].reason with
        | true => rfl
        | false =>
          rw [goodR_iff] at hb
          simp at h
          omega
      exact KW.goToR lay_ok X1_ok 100 rfl (q + 1) [(2, 2), (7, 7)] rfl rfl ⟨rfl, rfl, rfl, rfl, rfl, rfl, trivial⟩ (by simp [inK]; omega) ⟨⟨by omega, by rw [htk, List.all_append, hall]; simp [hok]⟩, by omega⟩ (by exact ⟨rfl, rfl, trivial⟩)
  · have hq : q = L.length := by simp at h; omega
    subst hq
    rw [List.take_length] at hall
    have hgT : goodT t = true := by rw [hgl]; exact hall
    obtain ⟨p1, p2⟩ := pT hgT
    rw [p1, p2]
    refine KW.goOut lay_ok X1_ok 100 rfl (by simp) ?_
    refine KW.goRet lay_ok X1_ok 100 rfl rfl ?_ ?_ trivial
    · simp only [unTr_cells]
      simp [SV.ren, EV.ren]
    · simp only [unTr_cells, isKs_ks]
      simp
end Go.Proofs.YtpkjbchplkfmhaaDoor
