/-
  split.swap, Swap and the reference's: contracts.
-/
import Derived.Test.YtpkjbchplkfmhaaDoorTrI
set_option linter.unusedSectionVars false
set_option linter.unusedVariables false
set_option linter.unusedSimpArgs false
namespace Go.Proofs.YtpkjbchplkfmhaaDoor
open Go.Sy Go.Pu
variable [Drw]
def swpC (t : Tr) (i : Int) : Prop := -100000 + cntN t ≤ i ∧ i ≤ 100000 ∧ cntN t ≤ 4096
theorem swpC_kids {t : Tr} (h2 : t.n = 2) {i : Int} (b : Tr) (h : swpC t i) : swpC (t.k 0) i ∧ swpC (t.k 1) (i - (swp b (t.k 0) i).2) ∧ 1 ≤ (swp b (t.k 0) i).2 ∧ (swp b (t.k 0) i).2 ≤ 4096 ∧ 1 ≤ (swp b (t.k 1) (i - (swp b (t.k 0) i).2)).2 ∧ (swp b (t.k 1) (i - (swp b (t.k 0) i).2)).2 ≤ 4096 := by
  obtain ⟨h3, h4, h5⟩ := h
  have e := cntN_eq t
  rw [if_pos h2] at e
  have p0 := cntN_pos (t.k 0)
  have p1 := cntN_pos (t.k 1)
  rw [swp_n, swp_n]
  have r0 := szT_rng (t.k 0)
  have r1 := szT_rng (t.k 1)
  exact ⟨⟨by omega, by omega, by omega⟩, ⟨by omega, by omega, by omega⟩, by omega, by omega, by omega, by omega⟩
theorem swap_does (b : Tr) (hb : b.nar) (t : Tr) : gT t → ∀ i : Int, swpC t i → DoesF Tryd.prog 45 [trV t, iV i, trV b] [] (.tup [trV (swp b t i).1, iV (swp b t i).2]) [] := by
  induction t using Tr.ind with
  | h t ih =>
    intro hg i hi
    have T_ok : t.n = 2 → FnsOk Tryd.prog ((45, fTIT (fun t' i' b' => .tup [trV (swp b' t' i').1, iV (swp b' t' i').2]) fun t' i' b' => kidOf t t' ∧ swpC t' i' ∧ b' = b) :: U7) := fun h2 => by
      obtain ⟨_, _, _, _, g0, g1⟩ := gT_kids hg (by omega)
      refine .cons U7_ok Tryd.func45 rfl rfl (fTIT_ok fun t' i' b' h => ?_)
      obtain ⟨h3, h4, rfl⟩ := h
      rcases h3 with rfl | rfl
      · exact ih 0 (by omega) g0 i' h4
      · exact ih 1 (by omega) g1 i' h4
    refine DoesF.bodyC lay_ok _ Tryd.func45 rfl rfl rfl rfl ?_
    refine KW.open 0 t rfl ?_
    refine KW.goIf lay_ok U7_ok 100 rfl (by simp) rfl trivial (fun h => ?_) fun h => ?_
    · have h0 : t.n = 0 := by simpa using h
      rw [swp_eq, if_neg (by omega)]
      refine KW.goIf lay_ok U7_ok 100 rfl (by simp) rfl trivial (fun h => ?_) fun h => ?_
      · have hi0 : i = 0 := by simpa using h
        rw [if_pos hi0]
        refine KW.goRetC lay_ok U7_ok 100 rfl rfl ?_ (by simpa using hb) trivial
        simp only [unTr_cells]; rfl
      · have hi0 : ¬ i = 0 := by simpa using h
        rw [if_neg hi0]
        refine KW.go lay_ok U7_ok 100 rfl (by simp) ?_
        refine KW.convB 6 1 (Tr.lf t.r).ks rfl rfl ⟨rfl, rfl⟩ ?_
        exact KW.finC [] rfl rfl rfl trivial
    · have h0 : t.n ≠ 0 := by simpa using h
      obtain ⟨h2, _, _, _, g0, g1⟩ := gT_kids hg h0
      obtain ⟨c0, c1, n0, n1, m0, m1⟩ := swpC_kids h2 b hi
      obtain ⟨hi1, hi2, hi3⟩ := hi
      have pc := cntN_pos t
      rw [swp_eq, if_pos h2]
      refine KW.goDV lay_ok (T_ok h2) rfl 100 rfl 12 11 8 rfl (by decide +kernel) (by decide +kernel) rfl rfl rfl (by simp) ?_ ?_
      · simp only [Tr.cell_1, unTr_cells, isKs_ks, Int.toNat_zero, Int.toNat_one, Nat.zero_add, kid0, kid1, true_and, and_true, inK]
        first | exact ⟨by omega, c0⟩ | exact ⟨c0, by omega⟩ | exact c0
      simp only [Tr.cell_1, unTr_cells, isKs_ks, Int.toNat_zero, Int.toNat_one, Nat.zero_add]
      generalize hA : swp b (t.k 0) i = A at *
      refine KW.goDV lay_ok (T_ok h2) rfl 100 rfl 14 13 10 rfl (by decide +kernel) (by decide +kernel) rfl rfl rfl (by simp) ?_ ?_
      · simp only [Tr.cell_1, unTr_cells, isKs_ks, Int.toNat_zero, Int.toNat_one, Nat.zero_add, kid0, kid1, true_and, and_true, inK]
        exact ⟨by omega, c1⟩
      simp only [Tr.cell_1, unTr_cells, isKs_ks, Int.toNat_zero, Int.toNat_one, Nat.zero_add]
      generalize hB : swp b (t.k 1) (i - A.2) = B at *
      refine KW.go lay_ok (T_ok h2) 100 rfl (by simp) ?_
      refine KW.frz1 49 rfl rfl rfl ?_
      refine KW.go lay_ok (T_ok h2) 100 rfl (by simp [inK]; omega) ?_
      refine KW.convB 6 1 (Tr.two t.v A.1 B.1).ks rfl rfl (two_rows t.v A.1 B.1) ?_
      exact KW.finC [] rfl rfl rfl trivial
theorem rswapped_does (b : Tr) (t : Tr) : gT t → ∀ i : Int, swpC t i → DoesF Tryd.prog 46 [trV t, iV i, trV b] [] (.tup [trV (swp b t i).1, iV (swp b t i).2]) [] := by
  induction t using Tr.ind with
  | h t ih =>
    intro hg i hi
    have T_ok : t.n = 2 → FnsOk Tryd.prog ((46, fTIT (fun t' i' b' => .tup [trV (swp b' t' i').1, iV (swp b' t' i').2]) fun t' i' b' => kidOf t t' ∧ swpC t' i' ∧ b' = b) :: U7) := fun h2 => by
      obtain ⟨_, _, _, _, g0, g1⟩ := gT_kids hg (by omega)
      refine .cons U7_ok Tryd.func46 rfl rfl (fTIT_ok fun t' i' b' h => ?_)
      obtain ⟨h3, h4, rfl⟩ := h
      rcases h3 with rfl | rfl
      · exact ih 0 (by omega) g0 i' h4
      · exact ih 1 (by omega) g1 i' h4
    refine DoesF.bodyC lay_ok _ Tryd.func46 rfl rfl rfl rfl ?_
    refine KW.open 0 t rfl ?_
    refine KW.goIf lay_ok U7_ok 100 rfl (by simp) rfl trivial (fun h => ?_) fun h => ?_
    · have h0 : t.n = 0 := by simpa using h
      have hlf : t = Tr.lf t.r := Tr.eq_lf (gT_leaf hg h0) h0
      rw [swp_eq, if_neg (by omega)]
      refine KW.goIf lay_ok U7_ok 100 rfl (by simp) rfl trivial (fun h => ?_) fun h => ?_
      · have hi0 : i = 0 := by simpa using h
        rw [if_pos hi0]
        exact KW.goRetC lay_ok U7_ok 100 rfl rfl rfl (by simp) trivial
      · have hi0 : ¬ i = 0 := by simpa using h
        rw [if_neg hi0]
        refine KW.go lay_ok U7_ok 100 rfl (by simp) ?_
        refine KW.convB 6 1 t.ks rfl rfl t.x_ks ?_
        refine KW.finC [] rfl rfl ?_ trivial
        rw [← hlf]; rfl
    · have h0 : t.n ≠ 0 := by simpa using h
      obtain ⟨h2, _, _, _, g0, g1⟩ := gT_kids hg h0
      obtain ⟨c0, c1, n0, n1, m0, m1⟩ := swpC_kids h2 b hi
      obtain ⟨hi1, hi2, hi3⟩ := hi
      have pc := cntN_pos t
      rw [swp_eq, if_pos h2]
      refine KW.goDV lay_ok (T_ok h2) rfl 100 rfl 12 11 8 rfl (by decide +kernel) (by decide +kernel) rfl rfl rfl (by simp) ?_ ?_
      · simp only [Tr.cell_1, unTr_cells, isKs_ks, Int.toNat_zero, Int.toNat_one, Nat.zero_add, kid0, kid1, true_and, and_true, inK]
        first | exact ⟨by omega, c0⟩ | exact ⟨c0, by omega⟩ | exact c0
      simp only [Tr.cell_1, unTr_cells, isKs_ks, Int.toNat_zero, Int.toNat_one, Nat.zero_add]
      generalize hA : swp b (t.k 0) i = A at *
      refine KW.goDV lay_ok (T_ok h2) rfl 100 rfl 14 13 10 rfl (by decide +kernel) (by decide +kernel) rfl rfl rfl (by simp) ?_ ?_
      · simp only [Tr.cell_1, unTr_cells, isKs_ks, Int.toNat_zero, Int.toNat_one, Nat.zero_add, kid0, kid1, true_and, and_true, inK]
        exact ⟨by omega, c1⟩
      simp only [Tr.cell_1, unTr_cells, isKs_ks, Int.toNat_zero, Int.toNat_one, Nat.zero_add]
      generalize hB : swp b (t.k 1) (i - A.2) = B at *
      refine KW.go lay_ok (T_ok h2) 100 rfl (by simp) ?_
      refine KW.frz1 46 rfl rfl rfl ?_
      refine KW.go lay_ok (T_ok h2) 100 rfl (by simp [inK]; omega) ?_
      refine KW.convB 6 1 (Tr.two t.v A.1 B.1).ks rfl rfl (two_rows t.v A.1 B.1) ?_
      exact KW.finC [] rfl rfl rfl trivial
def U8 : Fns := (45, fTIT (fun t i b => .tup [trV (swp b t i).1, iV (swp b t i).2]) fun t i b => gT t ∧ swpC t i ∧ b.nar) ::
  (46, fTIT (fun t i b => .tup [trV (swp b t i).1, iV (swp b t i).2]) fun t i b => gT t ∧ swpC t i) ::
  U7
theorem U8_ok : FnsOk Tryd.prog U8 := .cons (.cons (U7_ok) Tryd.func46 rfl rfl (fTIT_ok fun t i b h => rswapped_does b t h.1 i h.2)) Tryd.func45 rfl rfl (fTIT_ok fun t i b h => swap_does b h.2.2 t h.1 i h.2.1)


def swapE (t : Tr) (vars leaf : Int) (b : Tr) : Int := if splE t vars ≠ 0 then splE t vars else if leaf < 0 ∨ (szT t).2.1 ≤ leaf then 10 else splE (swp b t leaf).1 vars
def swapV (t : Tr) (vars leaf : Int) (b : Tr) : Tr := if swapE t vars leaf b = 0 then (swp b t leaf).1 else .no
theorem swapX_does (t : Tr) (vars leaf : Int) (b : Tr) (hb : b.nar) : DoesF Tryd.prog 24 [trV t, iV vars, iV leaf, trV b] [] (.tup [trV (swapV t vars leaf b), eV (swapE t vars leaf b)]) [] := by
  refine DoesF.bodyC lay_ok _ Tryd.func24 rfl rfl rfl rfl ?_
  refine KW.goIf lay_ok U8_ok 100 rfl (by simp) rfl trivial (fun h => ?_) fun h => ?_
  · have h0 : splE t vars ≠ 0 := by simpa using h
    have e : swapE t vars leaf b = splE t vars := by rw [swapE, if_pos h0]
    refine KW.go lay_ok U8_ok 100 rfl (by simp) ?_
    refine KW.convB 8 1 Tr.no.ks rfl rfl ⟨rfl, rfl⟩ ?_
    refine KW.finC [] rfl rfl ?_ trivial
    simp only [swapV, e, if_neg h0, unTr_cells]; rfl
  have h0 : splE t vars = 0 := by simpa using h
  obtain ⟨hg, hc⟩ := splE_g h0
  have hz := szT_rng t
  have e0 : swapE t vars leaf b = if leaf < 0 ∨ (szT t).2.1 ≤ leaf then 10 else splE (swp b t leaf).1 vars := by rw [swapE, if_neg (by omega)]
  refine KW.goIf lay_ok U8_ok 100 rfl (by simp only [unTr_cells, isKs_ks, true_and, and_true]; simp [hg, hc]) rfl trivial (fun h => ?_) fun h => ?_
  · simp only [unTr_cells] at h
    have h1 : leaf < 0 ∨ (szT t).2.1 ≤ leaf := by simpa using h
    rw [if_pos h1] at e0
    refine KW.go lay_ok U8_ok 100 rfl (by simp) ?_
    refine KW.convB 8 1 Tr.no.ks rfl rfl ⟨rfl, rfl⟩ ?_
    refine KW.finC [] rfl rfl ?_ trivial
    simp only [swapV, e0]; rfl
  simp only [unTr_cells] at h
  have h1 : ¬ (leaf < 0 ∨ (szT t).2.1 ≤ leaf) := by simp at h; omega
  rw [if_neg h1] at e0
  have hsw : swpC t leaf := ⟨by omega, by omega, hc⟩
  refine KW.goIf lay_ok U8_ok 100 rfl (by simp only [unTr_cells, isKs_ks, true_and, and_true]; simp [hg, hsw, hb]) rfl trivial (fun h => ?_) fun h => ?_
  · simp only [unTr_cells] at h
    have h2 : splE (swp b t leaf).1 vars ≠ 0 := by simpa using h
    refine KW.go lay_ok U8_ok 100 rfl (by simp) ?_
    refine KW.convB 8 1 Tr.no.ks rfl rfl ⟨rfl, rfl⟩ ?_
    refine KW.finC [] rfl rfl ?_ trivial
    simp only [swapV, e0, if_neg h2, unTr_cells]; rfl
  · simp only [unTr_cells] at h
    have h2 : splE (swp b t leaf).1 vars = 0 := by simpa using h
    refine KW.goRetC lay_ok U8_ok 100 rfl rfl ?_ (by simp) trivial
    simp only [swapV, e0, if_pos h2, unTr_cells, h2]; rfl
theorem rswapX_does (t : Tr) (vars leaf : Int) (b : Tr) : DoesF Tryd.prog 25 [trV t, iV vars, iV leaf, trV b] [] (.tup [trV (swapV t vars leaf b), iV (swapE t vars leaf b)]) [] := by
  refine DoesF.bodyC lay_ok _ Tryd.func25 rfl rfl rfl rfl ?_
  refine KW.goIf lay_ok U8_ok 100 rfl (by simp) rfl trivial (fun h => ?_) fun h => ?_
  · simp only [unTr_cells] at h
    have h0 : splE t vars ≠ 0 := by simpa using h
    have e : swapE t vars leaf b = splE t vars := by rw [swapE, if_pos h0]
    refine KW.go lay_ok U8_ok 100 rfl (by simp) ?_
    refine KW.convB 8 1 Tr.no.ks rfl rfl ⟨rfl, rfl⟩ ?_
    refine KW.finC [] rfl rfl ?_ trivial
    simp only [swapV, e, if_neg h0, unTr_cells]; rfl
  simp only [unTr_cells] at h
  have h0 : splE t vars = 0 := by simpa using h
  obtain ⟨hg, hc⟩ := splE_g h0
  have hz := szT_rng t
  have eS : splS t vars = szT t := by rw [splS, if_pos h0]
  have e0 : swapE t vars leaf b = if leaf < 0 ∨ (szT t).2.1 ≤ leaf then 10 else splE (swp b t leaf).1 vars := by rw [swapE, if_neg (by omega)]
  refine KW.goIf lay_ok U8_ok 100 rfl (by simp) rfl trivial (fun h => ?_) fun h => ?_
  · simp only [unTr_cells, eS] at h
    have h1 : leaf < 0 ∨ (szT t).2.1 ≤ leaf := by simpa using h
    rw [if_pos h1] at e0
    refine KW.go lay_ok U8_ok 100 rfl (by simp) ?_
    refine KW.convB 8 1 Tr.no.ks rfl rfl ⟨rfl, rfl⟩ ?_
    refine KW.finC [] rfl rfl ?_ trivial
    simp only [swapV, e0]; rfl
  simp only [unTr_cells, eS] at h
  have h1 : ¬ (leaf < 0 ∨ (szT t).2.1 ≤ leaf) := by simp at h; omega
  rw [if_neg h1] at e0
  have hsw : swpC t leaf := ⟨by omega, by omega, hc⟩
  refine KW.goIf lay_ok U8_ok 100 rfl (by simp only [unTr_cells, isKs_ks, true_and, and_true]; simp [hg, hsw]) rfl trivial (fun h => ?_) fun h => ?_
  · simp only [unTr_cells] at h
    have h2 : splE (swp b t leaf).1 vars ≠ 0 := by simpa using h
    refine KW.go lay_ok U8_ok 100 rfl (by simp) ?_
    refine KW.convB 8 1 Tr.no.ks rfl rfl ⟨rfl, rfl⟩ ?_
    refine KW.finC [] rfl rfl ?_ trivial
    simp only [swapV, e0, if_neg h2, unTr_cells]; rfl
  · simp only [unTr_cells] at h
    have h2 : splE (swp b t leaf).1 vars = 0 := by simpa using h
    refine KW.goRetC lay_ok U8_ok 100 rfl rfl ?_ (by simp) trivial
    simp only [swapV, e0, if_pos h2, unTr_cells, h2]; rfl
end Go.Proofs.YtpkjbchplkfmhaaDoor
