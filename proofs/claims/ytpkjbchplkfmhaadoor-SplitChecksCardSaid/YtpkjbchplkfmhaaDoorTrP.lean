/-
  Laws SplitFull, SplitMerges, SplitSwaps: contracts.
-/
import Derived.Test.YtpkjbchplkfmhaaDoorTrO
import Derived.Test.YtpkjbchplkfmhaaDoorTrJ
import Derived.Test.YtpkjbchplkfmhaaDoorTrS
import Derived.Test.YtpkjbchplkfmhaaDoorPuN
set_option linter.unusedSectionVars false
set_option linter.unusedVariables false
set_option linter.unusedSimpArgs false
attribute [local instance] Go.Sy.drwNo
namespace Go.Proofs.YtpkjbchplkfmhaaDoor
open Go.Sy Go.Pu
def W0 : Fns := (23, fIL (fun v l => .tup [trV (fullV v l), iV (fullE v l)]) fun _ _ => True) ::
  (24, fTIIT (fun t v i b => .tup [trV (swapV t v i b), eV (swapE t v i b)]) fun _ _ _ b => b.nar) ::
  (25, fTIIT (fun t v i b => .tup [trV (swapV t v i b), iV (swapE t v i b)]) fun _ _ _ _ => True) ::
  V4
theorem W0_ok : FnsOk Tryd.prog W0 := .cons (.cons (.cons (V4_ok) Tryd.func25 rfl rfl (fTIIT_ok fun t v i b _ => rswapX_does t v i b)) Tryd.func24 rfl rfl (fTIIT_ok fun t v i b h => swapX_does t v i b h)) Tryd.func23 rfl rfl (fIL_ok fun v l _ => rfullX_does v l)


theorem lawFull_does (vars : Int) (ev : List Int) : DoesF Tryd.prog 6 [iV vars, lV ev] [] (sB true) [] := by
  refine DoesF.body _ Tryd.func6 rfl rfl rfl rfl ?_
  refine KW.goIf lay_ok W0_ok 100 rfl (by simp) rfl trivial (fun h => ?_) fun h => ?_
  · exact KW.goRet lay_ok W0_ok 100 rfl rfl rfl (by simp) trivial
  · refine KW.goRet lay_ok W0_ok 100 rfl rfl ?_ ?_ trivial
    · simp only [unTr_cells, unI_ints]
      simp [SV.ren, EV.ren]
    · simp
theorem merged19_does (t : Tr) : gT t → DoesF Tryd.prog 21 [trV t] [] (sB (mergedB t)) [] := by
  induction t using Tr.ind with
  | h t ih =>
    intro hg
    have T_ok : t.n = 2 → FnsOk Tryd.prog ((21, fT (fun t' => sB (mergedB t')) fun t' => kidOf t t') :: W0) := fun h2 => by
      obtain ⟨_, _, _, _, g0, g1⟩ := gT_kids hg (by omega)
      refine .cons W0_ok Tryd.func21 rfl rfl (fT_ok fun t' h => ?_)
      rcases h with rfl | rfl
      · exact ih 0 (by omega) g0
      · exact ih 1 (by omega) g1
    rw [mergedB_eq]
    refine DoesF.body _ Tryd.func21 rfl rfl rfl rfl ?_
    refine KW.open 0 t rfl ?_
    refine KW.goIf lay_ok W0_ok 100 rfl (by simp) rfl trivial (fun h => ?_) fun h => ?_
    · have h2 : t.n ≠ 2 := by simp at h; omega
      rw [if_neg h2]
      exact KW.goRet lay_ok W0_ok 100 rfl rfl rfl (by simp) trivial
    · have h2 : t.n = 2 := by simp at h; omega
      rw [if_pos h2]
      refine KW.goDV lay_ok (T_ok h2) rfl 100 rfl 11 10 3 rfl (by decide +kernel) (by decide +kernel) rfl rfl rfl ?_ ?_ ?_
      · simp
      · simp [h2]
      · have e0 : ∀ n : Nat, (((n : Nat) : Int) == 0) = (n == 0) := fun n => by rw [Bool.eq_iff_iff, beq_iff_eq, beq_iff_eq]; omega
        refine KW.goIf lay_ok (T_ok h2) 100 rfl (by simp +contextual) rfl trivial (fun h => ?_) fun h => ?_
        · simp only [e0, Int.toNat_zero, Int.toNat_one] at h
          rw [h]
          exact KW.goRet lay_ok (T_ok h2) 100 rfl rfl rfl (by simp) trivial
        · simp only [e0, Int.toNat_zero, Int.toNat_one] at h
          rw [h]
          refine KW.goRet lay_ok (T_ok h2) 100 rfl rfl ?_ ?_ trivial
          · simp only [Nat.zero_add, Tr.cell_1, unTr_cells, Int.toNat_zero, Int.toNat_one]
            rfl
          · simp only [Nat.zero_add, Tr.cell_1, unTr_cells, isKs_ks, Int.toNat_zero, Int.toNat_one, kid0, kid1]
            simp
def W1 : Fns := (21, fT (fun t => sB (mergedB t)) gT) ::
  W0
theorem W1_ok : FnsOk Tryd.prog W1 := .cons (W0_ok) Tryd.func21 rfl rfl (fT_ok merged19_does)


theorem mask_rng (s : Int) {vars : Int} (h0 : 0 ≤ vars) (h1 : vars ≤ 24) : 0 ≤ iand .i64 s (ishl 1 vars - 1) ∧ iand .i64 s (ishl 1 vars - 1) < ishl 1 vars := by
  obtain ⟨n, rfl⟩ := Int.eq_ofNat_of_zero_le h0
  have hn : n ≤ 24 := by omega
  have e : ishl 1 ((n : Nat) : Int) - 1 = allN n := by
    rw [ishl_one, allN]; have := Nat.two_pow_pos n; omega
  rw [e, ishl_one]
  exact (inN_iff hn).1 (inN_of hn (rng_iand _ _) fun i hi => by rw [bit_iand, bit_allN hn, decide_eq_false (by omega), Bool.and_false])
theorem lawMerges_does (t : Tr) (vars s : Int) : DoesF Tryd.prog 5 [trV t, iV vars, iV s] [] (sB true) [] := by
  refine DoesF.body _ Tryd.func5 rfl rfl rfl rfl ?_
  refine KW.goIf lay_ok W1_ok 100 rfl (by simp) rfl trivial (fun h => ?_) fun h => ?_
  · exact KW.goRet lay_ok W1_ok 100 rfl rfl rfl (by simp) trivial
  · simp only [unTr_cells] at h
    obtain ⟨h1, h2⟩ : fwB t 300 = true ∧ splE t vars = 0 := by simpa using h
    obtain ⟨v0, v1, ok, hc⟩ := splE_ok h2
    have hg := okT_gT v1 ok
    have sv := shl_v v0 v1
    have sm := mask_rng s v0 v1
    obtain ⟨m1, m2, m3⟩ := mrg_shape t
    have mok := mrg_ok v1 ok
    have mE : splE (mrg t) vars = 0 := splE_of v0 v1 mok (by omega)
    have mgT := okT_gT v1 mok
    have aE : atE t vars (iand .i64 s (ishl 1 vars - 1)) = 0 := by rw [atE, if_pos h2, if_neg (by omega)]
    have aE' : atE (mrg t) vars (iand .i64 s (ishl 1 vars - 1)) = 0 := by rw [atE, if_pos mE, if_neg (by omega)]
    have aV : atV t vars (iand .i64 s (ishl 1 vars - 1)) = atT (iand .i64 s (ishl 1 vars - 1)) t 0 0 := by rw [atV, if_pos aE]
    have aV' : atV (mrg t) vars (iand .i64 s (ishl 1 vars - 1)) = atT (iand .i64 s (ishl 1 vars - 1)) (mrg t) 0 0 := by rw [atV, if_pos aE']
    have mV : splM t vars = mrg t := by rw [splM, if_pos h2]
    have mV' : splM (mrg t) vars = mrg t := by rw [splM, if_pos mE, m2]
    have hr := mrg_at (iand .i64 s (ishl 1 vars - 1)) (t := t) 0 0 0 0
    refine KW.goRet lay_ok W1_ok 100 rfl rfl ?_ ?_ trivial
    · simp only [unTr_cells, mV, mV', mE, h2, aE, aE', aV, aV', hr, m1]
      simp [SV.ren, EV.ren]
    · simp only [unTr_cells, isKs_ks, mV, mV', mE, h2, aE, aE']
      simp [mgT, inK, bitsI]
      omega
theorem swapE_zero {t b : Tr} {vars leaf : Int} (h : swapE t vars leaf b = 0) : splE t vars = 0 ∧ 0 ≤ leaf ∧ leaf < (szT t).2.1 ∧ splE (swp b t leaf).1 vars = 0 := by
  unfold swapE at h
  split at h
  · rename_i h1; exact absurd h h1
  · rename_i h1
    split at h
    · cases h
    · rename_i h2; exact ⟨by omega, by omega, by omega, h⟩
theorem idx_only {t : Tr} {vars : Int} (h : splE t vars = 0) {s leaf : Int} (h0 : 0 ≤ leaf) (h1 : leaf < (szT t).2.1) (he : atT s t 0 0 = (lvs t 0 0).getD leaf.toNat leaf0) : idxT s t = leaf := by
  obtain ⟨v0, v1, ok, hc⟩ := splE_ok h
  have hg := okT_gT v1 ok
  have hr := idxT_rng s t
  have hl := lvs_len t 0 0
  have hi := idx_at s t 0 0
  refine Classical.byContradiction fun hne => ?_
  have hap := lvs_apart hg 0 0
  rw [List.pairwise_iff_getElem] at hap
  have hmem : atT s t 0 0 ∈ lvs t 0 0 := List.mem_of_getElem? hi
  have hcl := lvs_clean v1 ok (bit0a 0) (bit0a 0) (by decide) hmem
  have hcl' : iand .i64 (atT s t 0 0).no (atT s t 0 0).yes = 0 := iand_zero.2 fun i hi h => by
    cases hb : bit (atT s t 0 0).yes i with
    | false => rfl
    | true => rw [iand_zero.1 hcl i hi hb] at h; cases h
  have hself : ¬ apart (atT s t 0 0) (atT s t 0 0) := fun h => h ⟨hcl, hcl'⟩
  obtain ⟨hi1, hi2⟩ := List.getElem?_eq_some_iff.1 hi
  have hj1 : leaf.toNat < (lvs t 0 0).length := by omega
  have hj2 : (lvs t 0 0)[leaf.toNat] = atT s t 0 0 := by rw [he]; simp [List.getD_eq_getElem?_getD, hj1]
  rcases Nat.lt_or_ge (idxT s t).toNat leaf.toNat with hlt | hge
  · have := hap _ _ hi1 hj1 hlt
    rw [hi2, hj2] at this
    exact hself this
  · have := hap _ _ hj1 hi1 (by omega)
    rw [hi2, hj2] at this
    exact hself this
set_option maxHeartbeats 800000 in
theorem lawSwaps_does (t b : Tr) (vars leaf s : Int) : DoesF Tryd.prog 7 [trV t, trV b, .ag [.lit (.int .i64 vars), .lit (.int .i64 leaf), .lit (.int .i64 s)]] [] (sB true) [] := by
  refine DoesF.body _ Tryd.func7 rfl rfl rfl rfl ?_
  refine KW.goIf lay_ok W1_ok 100 rfl (by simp) rfl trivial (fun h => ?_) fun h => ?_
  · exact KW.goRet lay_ok W1_ok 100 rfl rfl rfl (by simp) trivial
  simp only [unTr_cells] at h
  obtain ⟨h1, h2⟩ : fwB t 100 = true ∧ fwB b 100 = true := by simpa using h
  have hnar : b.nar := left_nar b (m := 100) (d := 0) (by simpa [fwB] using h2)
  refine KW.goIf lay_ok W1_ok 100 rfl (by simp [hnar]) rfl trivial (fun h => ?_) fun h => ?_
  · simp [unTr_cells] at h
  clear h
  refine KW.goD lay_ok W1_ok rfl 100 rfl (by decide +kernel) rfl (by simp) ?_ ?_
  · simp only [unTr_cells]
    by_cases e : swapE t vars leaf b = 0
    · obtain ⟨e1, _⟩ := swapE_zero e
      obtain ⟨v0, v1, _⟩ := splE_ok e1
      have sv := shl_v v0 v1
      simp +contextual [e, inK, bitsI]
      omega
    · simp [e]
  refine KW.goIf lay_ok W1_ok 100 rfl (by simp) rfl trivial (fun h => ?_) fun h => ?_
  · exact KW.goRet lay_ok W1_ok 100 rfl rfl rfl (by simp) trivial
  simp only [unTr_cells] at h
  obtain ⟨⟨e, s0⟩, s1⟩ : (swapE t vars leaf b = 0 ∧ 0 ≤ s) ∧ s < ishl 1 vars := by simpa using h
  obtain ⟨e1, l0, l1, e2⟩ := swapE_zero e
  obtain ⟨v0, v1, ok, hc⟩ := splE_ok e1
  have hl := lvs_len t 0 0
  have hL : splL t vars = lvs t 0 0 := by rw [splL, if_pos e1]
  have uV : swapV t vars leaf b = (swp b t leaf).1 := by rw [swapV, if_pos e]
  have aE : atE t vars s = 0 := by rw [atE, if_pos e1, if_neg (by omega)]
  have aV : atV t vars s = atT s t 0 0 := by rw [atV, if_pos aE]
  have bE : atE (swp b t leaf).1 vars s = 0 := by rw [atE, if_pos e2, if_neg (by omega)]
  have bV : atV (swp b t leaf).1 vars s = atT s (swp b t leaf).1 0 0 := by rw [atV, if_pos bE]
  simp only [unTr_cells, uV]
  refine KW.goIf lay_ok W1_ok 100 rfl (by simp [unTr_cells, hL, e1, aE, bE]) rfl trivial (fun h => ?_) fun h => ?_
  · simp only [unTr_cells, hL, e1, aE, bE] at h
    simp at h
    omega
  clear h
  simp only [unTr_cells, hL, aV, bV]
  refine KW.goD lay_ok W1_ok rfl 100 rfl (by decide +kernel) rfl (by simp) ?_ ?_
  · simp only [true_and, and_true]
    omega
  generalize hG : (lvs t 0 0).getD leaf.toNat leaf0 = G at *
  refine KW.goIf lay_ok W1_ok 100 rfl (by simp) rfl trivial (fun h => ?_) fun h => ?_
  · have hne : ¬ atT s t 0 0 = G := fun e => by rw [e] at h; simp at h
    have hidx : idxT s t ≠ leaf := fun e => by
      have := idx_at s t 0 0
      rw [e] at this
      exact hne (by rw [← hG]; simp [List.getD_eq_getElem?_getD, this])
    have ho := swp_other b s (t := t) 0 0 hidx
    refine KW.goRet lay_ok W1_ok 100 rfl rfl ?_ (by simp) trivial
    rw [ho]
    simp [SV.ren, EV.ren]
  · have hA : atT s t 0 0 = G := by
      have h3 : [(atT s t 0 0).yes, (atT s t 0 0).no, (atT s t 0 0).reason] = [G.yes, G.no, G.reason] := by simpa using h
      generalize atT s t 0 0 = X at *
      obtain ⟨a1, a2, a3⟩ := X
      obtain ⟨b1, b2, b3⟩ := G
      simp at h3
      obtain ⟨rfl, rfl, rfl⟩ := h3
      rfl
    have hidx := idx_only e1 l0 l1 (by rw [hG]; exact hA)
    have hs := swp_same b s (t := t) 0 0 hidx
    obtain ⟨_, _, okU, hcU⟩ := splE_ok e2
    obtain ⟨okb, hcb⟩ := swp_by v1 l0 l1 okU
    have bb : splE b vars = 0 := splE_of v0 v1 okb (by omega)
    have cE : atE b vars s = 0 := by rw [atE, if_pos bb, if_neg (by omega)]
    have cV : atV b vars s = atT s b 0 0 := by rw [atV, if_pos cE]
    refine KW.goRet lay_ok W1_ok 100 rfl rfl ?_ ?_ trivial
    · simp only [unTr_cells, cE, cV, hs]
      simp [SV.ren, EV.ren]
    · simp only [unTr_cells, isKs_ks, cE]
      simp
end Go.Proofs.YtpkjbchplkfmhaaDoor
