/-
  split.Size, Merge, the reference's; Same, Few: contracts.
-/
import Derived.Test.YtpkjbchplkfmhaaDoorTrC
set_option linter.unusedSectionVars false
set_option linter.unusedVariables false
set_option linter.unusedSimpArgs false
namespace Go.Proofs.YtpkjbchplkfmhaaDoor
open Go.Sy Go.Pu
variable [Drw]
theorem gT_kids {t : Tr} (h : gT t) (h2 : t.n ≠ 0) : t.n = 2 ∧ 0 ≤ t.v ∧ t.v < 24 ∧ t.r = 0 ∧ gT (t.k 0) ∧ gT (t.k 1) := by
  rw [gT_eq] at h
  split at h
  · exact ⟨‹_›, h⟩
  · exact absurd h.1 h2
theorem gT_leaf {t : Tr} (h : gT t) (h2 : t.n = 0) : t.v = 0 := by
  rw [gT_eq, if_neg (by omega)] at h; exact h.2
/-- a tree that a call with this tree calls itself with -/
def kidOf (t t' : Tr) : Prop := t' = t.k 0 ∨ t' = t.k 1
@[simp] theorem kid0 (t : Tr) : kidOf t (t.k 0) := .inl rfl
@[simp] theorem kid1 (t : Tr) : kidOf t (t.k 1) := .inr rfl
abbrev szV (t : Tr) : SV := .tup [iV (szT t).1, iV (szT t).2.1, iV (szT t).2.2]
theorem size_does (t : Tr) : gT t → cntN t ≤ 4096 → DoesF Tryd.prog 44 [trV t] [] (szV t) [] := by
  induction t using Tr.ind with
  | h t ih =>
    intro hg hc
    have T_ok : t.n = 2 → FnsOk Tryd.prog ((44, fT szV fun t' => kidOf t t') :: U2) := fun h2 => by
      obtain ⟨_, _, _, _, g0, g1⟩ := gT_kids hg (by omega)
      have p0 := cntN_pos (t.k 0)
      have p1 := cntN_pos (t.k 1)
      rw [cntN_eq, if_pos h2] at hc
      refine .cons U2_ok Tryd.func44 rfl rfl (fT_ok fun t' h => ?_)
      rcases h with rfl | rfl
      · exact ih 0 (by omega) g0 (by omega)
      · exact ih 1 (by omega) g1 (by omega)
    refine DoesF.body _ Tryd.func44 rfl rfl rfl rfl ?_
    refine KW.open 0 t rfl ?_
    refine KW.goIf lay_ok U2_ok 100 rfl (by simp) rfl trivial (fun h => ?_) fun h => ?_
    · have h0 : t.n = 0 := by simpa using h
      refine KW.goRet lay_ok U2_ok 100 rfl rfl ?_ (by simp) trivial
      simp only [szV]
      rw [szT_eq, if_neg (by omega)]; rfl
    · have h0 : t.n ≠ 0 := by simpa using h
      obtain ⟨h2, _, _, _, g0, g1⟩ := gT_kids hg h0
      have r0 := szT_rng (t.k 0)
      have r1 := szT_rng (t.k 1)
      rw [cntN_eq, if_pos h2] at hc
      refine KW.goRet lay_ok (T_ok h2) 100 rfl rfl ?_ ?_ trivial
      · simp only [szV]
        rw [szT_eq t, if_pos h2]
        simp only [Tr.cell_1, unTr_cells, SV.ren, renL, EV.ren, Int.toNat_zero, Int.toNat_one, Nat.zero_add]
      · simp only [Tr.cell_1, unTr_cells, isKs_ks, Int.toNat_zero, Int.toNat_one, Nat.zero_add, kid0, kid1, true_and, and_true, inK]
        omega
theorem rcount19_does (t : Tr) : gT t → cntN t ≤ 4096 → DoesF Tryd.prog 50 [trV t] [] (szV t) [] := by
  induction t using Tr.ind with
  | h t ih =>
    intro hg hc
    have T_ok : t.n = 2 → FnsOk Tryd.prog ((50, fT szV fun t' => kidOf t t') :: U2) := fun h2 => by
      obtain ⟨_, _, _, _, g0, g1⟩ := gT_kids hg (by omega)
      have p0 := cntN_pos (t.k 0)
      have p1 := cntN_pos (t.k 1)
      rw [cntN_eq, if_pos h2] at hc
      refine .cons U2_ok Tryd.func50 rfl rfl (fT_ok fun t' h => ?_)
      rcases h with rfl | rfl
      · exact ih 0 (by omega) g0 (by omega)
      · exact ih 1 (by omega) g1 (by omega)
    refine DoesF.body _ Tryd.func50 rfl rfl rfl rfl ?_
    refine KW.open 0 t rfl ?_
    refine KW.goIf lay_ok U2_ok 100 rfl (by simp) rfl trivial (fun h => ?_) fun h => ?_
    · have h0 : t.n = 0 := by simpa using h
      refine KW.goRet lay_ok U2_ok 100 rfl rfl ?_ (by simp) trivial
      simp only [szV]
      rw [szT_eq, if_neg (by omega)]; rfl
    · have h0 : t.n ≠ 0 := by simpa using h
      obtain ⟨h2, _, _, _, g0, g1⟩ := gT_kids hg h0
      have r0 := szT_rng (t.k 0)
      have r1 := szT_rng (t.k 1)
      rw [cntN_eq, if_pos h2] at hc
      refine KW.goRet lay_ok (T_ok h2) 100 rfl rfl ?_ ?_ trivial
      · simp only [szV]
        rw [szT_eq t, if_pos h2]
        simp only [Tr.cell_1, unTr_cells, SV.ren, renL, EV.ren, Int.toNat_zero, Int.toNat_one, Nat.zero_add]
        rw [Int.add_comm 1]
      · simp only [Tr.cell_1, unTr_cells, isKs_ks, Int.toNat_zero, Int.toNat_one, Nat.zero_add, kid0, kid1, true_and, and_true, inK]
        omega

theorem two_rows (v : Int) (a b : Tr) : CVEq (rowsC 3 2 (trC a ++ trC b)) (Tr.two v a b).ks :=
  ⟨rfl, .inr ⟨rfl, fun e q he hq => by
    rw [Tr.kf_eq (t := Tr.two v a b) he]
    match e, he, q, hq with
    | 0, _, 0, _ => exact CVEq.refl _
    | 0, _, 1, _ => exact CVEq.refl _
    | 0, _, 2, _ => exact CVEq.refl _
    | 1, _, 0, _ => exact CVEq.refl _
    | 1, _, 1, _ => exact CVEq.refl _
    | 1, _, 2, _ => exact CVEq.refl _⟩⟩
theorem mrg_n (t : Tr) : (mrg t).n = 0 ∨ (mrg t).n = 2 := by
  induction t using Tr.ind with
  | h t ih =>
    rw [mrg_eq]
    split
    · rename_i h
      unfold mrgN
      split
      · exact ih 0 (by omega)
      · exact .inr rfl
    · exact .inl rfl
theorem merge_does (t : Tr) : gT t → DoesF Tryd.prog 41 [trV t] [] (.e (trV (mrg t))) [] := by
  induction t using Tr.ind with
  | h t ih =>
    intro hg
    have T_ok : t.n = 2 → FnsOk Tryd.prog ((41, fT (fun t' => .e (trV (mrg t'))) fun t' => kidOf t t') :: U2) := fun h2 => by
      obtain ⟨_, _, _, _, g0, g1⟩ := gT_kids hg (by omega)
      refine .cons U2_ok Tryd.func41 rfl rfl (fT_ok fun t' h => ?_)
      rcases h with rfl | rfl
      · exact ih 0 (by omega) g0
      · exact ih 1 (by omega) g1
    refine DoesF.bodyC lay_ok _ Tryd.func41 rfl rfl rfl rfl ?_
    refine KW.open 0 t rfl ?_
    refine KW.goIf lay_ok U2_ok 100 rfl (by simp) rfl trivial (fun h => ?_) fun h => ?_
    · have h0 : t.n = 0 := by simpa using h
      rw [mrg_eq, if_neg (by omega)]
      refine KW.go lay_ok U2_ok 100 rfl (by simp) ?_
      refine KW.convB 2 1 (Tr.lf t.r).ks rfl rfl ⟨rfl, rfl⟩ ?_
      exact KW.finC [] rfl rfl rfl trivial
    · have h0 : t.n ≠ 0 := by simpa using h
      obtain ⟨h2, _, _, _, g0, g1⟩ := gT_kids hg h0
      have n0 := mrg_n (t.k 0)
      have n1 := mrg_n (t.k 1)
      rw [mrg_eq, if_pos h2]
      refine KW.goDX lay_ok (T_ok h2) rfl 100 rfl 12 rfl (by decide +kernel) (by decide +kernel) rfl rfl (by simp) ?_ ?_
      · simp only [Tr.cell_1, unTr_cells, isKs_ks, Int.toNat_zero, Int.toNat_one, Nat.zero_add, kid0, kid1, true_and, and_true, inK]
        omega
      simp only [Tr.cell_1, unTr_cells, isKs_ks, Int.toNat_zero, Int.toNat_one, Nat.zero_add]
      generalize mrg (t.k 0) = a at *
      generalize mrg (t.k 1) = b at *
      refine KW.goIf lay_ok (T_ok h2) 100 rfl (by simp [inK]; omega) rfl trivial (fun h => ?_) fun h => ?_
      · have hc : a.n = 0 ∧ b.n = 0 ∧ a.r = b.r := by simp at h; omega
        rw [mrgN, if_pos hc]
        exact KW.goRetC lay_ok (T_ok h2) 100 rfl rfl rfl (by simp) trivial
      · have hc : ¬ (a.n = 0 ∧ b.n = 0 ∧ a.r = b.r) := by simp at h; omega
        rw [mrgN, if_neg hc]
        refine KW.go lay_ok (T_ok h2) 100 rfl (by simp) ?_
        refine KW.frz1 42 rfl rfl rfl ?_
        refine KW.go lay_ok (T_ok h2) 100 rfl (by simp) ?_
        refine KW.convB 2 1 (Tr.two t.v a b).ks rfl rfl (two_rows t.v a b) ?_
        exact KW.finC [] rfl rfl rfl trivial
theorem rmerged_does (t : Tr) : gT t → DoesF Tryd.prog 51 [trV t] [] (.e (trV (mrg t))) [] := by
  induction t using Tr.ind with
  | h t ih =>
    intro hg
    have T_ok : t.n = 2 → FnsOk Tryd.prog ((51, fT (fun t' => .e (trV (mrg t'))) fun t' => kidOf t t') :: U2) := fun h2 => by
      obtain ⟨_, _, _, _, g0, g1⟩ := gT_kids hg (by omega)
      refine .cons U2_ok Tryd.func51 rfl rfl (fT_ok fun t' h => ?_)
      rcases h with rfl | rfl
      · exact ih 0 (by omega) g0
      · exact ih 1 (by omega) g1
    refine DoesF.bodyC lay_ok _ Tryd.func51 rfl rfl rfl rfl ?_
    refine KW.open 0 t rfl ?_
    refine KW.goIf lay_ok U2_ok 100 rfl (by simp) rfl trivial (fun h => ?_) fun h => ?_
    · have h0 : t.n = 0 := by simpa using h
      rw [mrg_eq, if_neg (by omega)]
      refine KW.go lay_ok U2_ok 100 rfl (by simp) ?_
      refine KW.convB 2 1 (Tr.lf t.r).ks rfl rfl ⟨rfl, rfl⟩ ?_
      exact KW.finC [] rfl rfl rfl trivial
    · have h0 : t.n ≠ 0 := by simpa using h
      obtain ⟨h2, _, _, _, g0, g1⟩ := gT_kids hg h0
      have n0 := mrg_n (t.k 0)
      have n1 := mrg_n (t.k 1)
      rw [mrg_eq, if_pos h2]
      refine KW.goDX lay_ok (T_ok h2) rfl 100 rfl 12 rfl (by decide +kernel) (by decide +kernel) rfl rfl (by simp) ?_ ?_
      · simp only [Tr.cell_1, unTr_cells, isKs_ks, Int.toNat_zero, Int.toNat_one, Nat.zero_add, kid0, kid1, true_and, and_true, inK]
        omega
      simp only [Tr.cell_1, unTr_cells, isKs_ks, Int.toNat_zero, Int.toNat_one, Nat.zero_add]
      generalize mrg (t.k 0) = a at *
      generalize mrg (t.k 1) = b at *
      refine KW.goIf lay_ok (T_ok h2) 100 rfl (by simp) rfl trivial (fun h => ?_) fun h => ?_
      · have hc : a.n = 0 ∧ b.n = 0 ∧ a.r = b.r := by simp at h; omega
        rw [mrgN, if_pos hc]
        exact KW.goRetC lay_ok (T_ok h2) 100 rfl rfl rfl (by simp) trivial
      · have hc : ¬ (a.n = 0 ∧ b.n = 0 ∧ a.r = b.r) := by simp at h; omega
        rw [mrgN, if_neg hc]
        refine KW.go lay_ok (T_ok h2) 100 rfl (by simp) ?_
        refine KW.frz1 44 rfl rfl rfl ?_
        refine KW.go lay_ok (T_ok h2) 100 rfl (by simp) ?_
        refine KW.convB 2 1 (Tr.two t.v a b).ks rfl rfl (two_rows t.v a b) ?_
        exact KW.finC [] rfl rfl rfl trivial

def U3 : Fns := (44, fT szV fun t => gT t ∧ cntN t ≤ 4096) ::
  (50, fT szV fun t => gT t ∧ cntN t ≤ 4096) ::
  (41, fT (fun t => .e (trV (mrg t))) gT) ::
  (51, fT (fun t => .e (trV (mrg t))) gT) ::
  U2
theorem U3_ok : FnsOk Tryd.prog U3 := .cons (.cons (.cons (.cons (U2_ok) Tryd.func51 rfl rfl (fT_ok rmerged_does)) Tryd.func41 rfl rfl (fT_ok merge_does)) Tryd.func50 rfl rfl (fT_ok fun t h => rcount19_does t h.1 h.2)) Tryd.func44 rfl rfl (fT_ok fun t h => size_does t h.1 h.2)


def splS (t : Tr) (vars : Int) : Int × Int × Int := if splE t vars = 0 then szT t else (0, 0, 0)
def splM (t : Tr) (vars : Int) : Tr := if splE t vars = 0 then mrg t else .no
theorem splE_g {t : Tr} {vars : Int} (h : splE t vars = 0) : gT t ∧ cntN t ≤ 4096 := by
  obtain ⟨h1, h2, h3, h4⟩ := splE_ok h
  exact ⟨okT_gT h2 h3, h4⟩
theorem sizeX_does (t : Tr) (vars : Int) : DoesF Tryd.prog 28 [trV t, iV vars] [] (.tup [iV (splS t vars).1, iV (splS t vars).2.1, iV (splS t vars).2.2, eV (splE t vars)]) [] := by
  refine DoesF.body _ Tryd.func28 rfl rfl rfl rfl ?_
  refine KW.goIf lay_ok U3_ok 100 rfl (by simp) rfl trivial (fun h => ?_) fun h => ?_
  · have h0 : splE t vars ≠ 0 := by simpa using h
    refine KW.goRet lay_ok U3_ok 100 rfl rfl ?_ (by simp) trivial
    simp only [splS, if_neg h0, unTr_cells]; rfl
  · have h0 : splE t vars = 0 := by simpa using h
    refine KW.goRet lay_ok U3_ok 100 rfl rfl ?_ (by simpa using splE_g h0) trivial
    simp only [splS, if_pos h0, unTr_cells, h0]; rfl
theorem rsizeX_does (t : Tr) (vars : Int) : DoesF Tryd.prog 31 [trV t, iV vars] [] (.tup [iV (splS t vars).1, iV (splS t vars).2.1, iV (splS t vars).2.2, iV (splE t vars)]) [] := by
  refine DoesF.body _ Tryd.func31 rfl rfl rfl rfl ?_
  refine KW.goIf lay_ok U3_ok 100 rfl (by simp) rfl trivial (fun h => ?_) fun h => ?_
  · have h0 : splE t vars ≠ 0 := by simpa using h
    refine KW.goRet lay_ok U3_ok 100 rfl rfl ?_ (by simp) trivial
    simp only [splS, if_neg h0, unTr_cells]; rfl
  · have h0 : splE t vars = 0 := by simpa using h
    refine KW.goRet lay_ok U3_ok 100 rfl rfl ?_ (by simpa using splE_g h0) trivial
    simp only [splS, if_pos h0, unTr_cells, h0]; rfl
theorem mergeX_does (t : Tr) (vars : Int) : DoesF Tryd.prog 20 [trV t, iV vars] [] (.tup [trV (splM t vars), eV (splE t vars)]) [] := by
  refine DoesF.bodyC lay_ok _ Tryd.func20 rfl rfl rfl rfl ?_
  refine KW.goIf lay_ok U3_ok 100 rfl (by simp) rfl trivial (fun h => ?_) fun h => ?_
  · have h0 : splE t vars ≠ 0 := by simpa using h
    refine KW.go lay_ok U3_ok 100 rfl (by simp) ?_
    refine KW.convB 4 1 Tr.no.ks rfl rfl ⟨rfl, rfl⟩ ?_
    refine KW.finC [] rfl rfl ?_ trivial
    simp only [splM, if_neg h0, unTr_cells]; rfl
  · have h0 : splE t vars = 0 := by simpa using h
    refine KW.goRetC lay_ok U3_ok 100 rfl rfl ?_ (by simpa using (splE_g h0).1) trivial
    simp only [splM, if_pos h0, unTr_cells, h0]; rfl
theorem rmergeX_does (t : Tr) (vars : Int) : DoesF Tryd.prog 32 [trV t, iV vars] [] (.tup [trV (splM t vars), iV (splE t vars)]) [] := by
  refine DoesF.bodyC lay_ok _ Tryd.func32 rfl rfl rfl rfl ?_
  refine KW.goIf lay_ok U3_ok 100 rfl (by simp) rfl trivial (fun h => ?_) fun h => ?_
  · have h0 : splE t vars ≠ 0 := by simpa using h
    refine KW.go lay_ok U3_ok 100 rfl (by simp) ?_
    refine KW.convB 4 1 Tr.no.ks rfl rfl ⟨rfl, rfl⟩ ?_
    refine KW.finC [] rfl rfl ?_ trivial
    simp only [splM, if_neg h0, unTr_cells]; rfl
  · have h0 : splE t vars = 0 := by simpa using h
    refine KW.goRetC lay_ok U3_ok 100 rfl rfl ?_ (by simpa using (splE_g h0).1) trivial
    simp only [splM, if_pos h0, unTr_cells, h0]; rfl
end Go.Proofs.YtpkjbchplkfmhaaDoor
