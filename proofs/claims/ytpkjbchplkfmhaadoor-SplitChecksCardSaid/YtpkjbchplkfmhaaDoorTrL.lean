/-
  TREES: plain facts for the laws: both parsers give the same; texts of checked trees. No program is named here.
-/
import Derived.Test.YtpkjbchplkfmhaaDoorTrW
set_option linter.unusedSectionVars false
set_option linter.unusedVariables false
set_option linter.unusedSimpArgs false
namespace Go.Pu
open Go.Sy
variable [Drw]
def parE (x : Tr × PS) : Int := if x.2.2 = true ∨ x.2.1 ≠ [] then 2 else splE x.1 24
def parC (l : List UInt8) : Int := if 65536 < l.length then 4 else parE (nodeCP 31 (l, false))
def parV (l : List UInt8) : Tr := if parC l = 0 then (nodeCP 31 (l, false)).1 else .no
def rparE (n : Nat) (x : Tr × Nat) : Int := if x.2 = 0 ∨ x.2 ≠ n then 2 else splE x.1 24
def rparC (l : List UInt8) : Int := if 65536 < l.length then 4 else rparE l.length (readRP 31 l)
def rparV (l : List UInt8) : Tr := if rparC l = 0 then (readRP 31 l).1 else .no
theorem par_same (l : List UInt8) : rparC l = parC l ∧ rparV l = parV l := by
  obtain ⟨h1, h2⟩ := read_same 31 l
  have hle := readRP_le 31 l
  have hE : rparE l.length (readRP 31 l) = parE (nodeCP 31 (l, false)) := by
    unfold rparE parE
    by_cases h0 : (readRP 31 l).2 = 0
    · rw [if_pos (.inl h0), if_pos (.inl (h1 h0))]
    · rw [h2 h0]
      by_cases h3 : (readRP 31 l).2 = l.length
      · rw [if_neg (by rintro (h | h); exact h0 h; exact h h3), if_neg (by
          rintro (h | h)
          · cases h
          · exact h (by simp only; rw [h3, List.drop_length]))]
      · rw [if_pos (.inr h3), if_pos (.inr (by
          simp only
          intro h
          have := congrArg List.length h
          simp only [List.length_drop, List.length_nil] at this
          omega))]
  have hC : rparC l = parC l := by unfold rparC parC; rw [hE]
  refine ⟨hC, ?_⟩
  unfold rparV parV
  rw [hC]
  split
  · rename_i h
    by_cases h0 : (readRP 31 l).2 = 0
    · exfalso
      unfold parC at h
      split at h
      · cases h
      · rw [← hE] at h
        unfold rparE at h
        rw [if_pos (.inl h0)] at h
        cases h
    · rw [h2 h0]
  · rfl
theorem okT_up {vars v2 : Int} (hv : vars ≤ v2) {t : Tr} : ∀ {a : Int}, okT vars t a → okT v2 t a := by
  induction t using Tr.ind with
  | h t ih =>
    intro a
    rw [okT_eq vars, okT_eq v2]
    split
    · rename_i h
      rintro ⟨h1, h2, h3, h4, h5, h6⟩
      exact ⟨h1, by omega, h3, h4, ih 0 (by omega) h5, ih 1 (by omega) h6⟩
    · exact id
theorem fwL_two (g : Nat → Int → Int) (m : Int) : fwL g m 2 = if (if m < 0 then -1 else g 0 m) < 0 then -1 else g 1 (if m < 0 then -1 else g 0 m) := by rw [fwL, fwL, fwL]
theorem left_cnt (t : Tr) : gT t → ∀ m d : Int, 0 ≤ leftT t m d → leftT t m d = m - cntN t := by
  induction t using Tr.ind with
  | h t ih =>
    rw [gT_eq]
    intro hg m d h
    rw [leftT_eq] at h ⊢
    rw [cntN_eq]
    split at h
    · omega
    rename_i h10
    rw [if_neg h10]
    split at hg
    · rename_i h2
      rw [if_pos h2]
      obtain ⟨_, _, _, g0, g1⟩ := hg
      rw [h2] at h ⊢
      rw [fwL_two] at h ⊢
      by_cases e1 : m - 1 < 0
      · rw [if_pos e1] at h; simp at h
      rw [if_neg e1] at h ⊢
      by_cases e2 : leftT (t.k 0) (m - 1) (d + 1) < 0
      · rw [if_pos e2] at h; simp at h
      rw [if_neg e2] at h ⊢
      have h0 := ih 0 (by omega) g0 (m - 1) (d + 1) (by omega)
      have h1 := ih 1 (by omega) g1 _ (d + 1) h
      rw [h1, h0]; omega
    · rename_i h2
      rw [if_neg h2]
      rw [hg.1] at h ⊢
      simp only [fwL]
theorem few_cnt {t : Tr} (hg : gT t) {m : Int} (h : fwB t m = true) : cntN t ≤ m := by
  have h1 : 0 ≤ leftT t m 0 := by simpa [fwB] using h
  have := left_cnt t hg m 0 h1
  omega
theorem itoa_size {n : Int} (h0 : -9223372036854775808 ≤ n) (h1 : n ≤ 9223372036854775807) : (Lib.itoa n).length ≤ 20 := by
  have hl : (Lib.decDigits n.natAbs).length = Lib.nDigits n.natAbs := Lib.decDigits_length _
  have := nDig_le 18 n.natAbs (by omega)
  by_cases hneg : n < 0
  · rw [show Lib.itoa n = 45 :: Lib.decDigits n.natAbs by rw [Lib.itoa, if_pos hneg], List.length_cons]; omega
  · rw [show Lib.itoa n = Lib.decDigits n.natAbs by rw [Lib.itoa, if_neg hneg]; congr 1; omega]; omega
theorem showT_size (t : Tr) : gT t → t.In → ((showT t).length : Int) ≤ 30 * cntN t := by
  induction t using Tr.ind with
  | h t ih =>
    rw [gT_eq, Tr.in_iff, showT_eq, cntN_eq]
    rintro hg ⟨i1, i2, i3⟩
    simp only [inK] at i1 i2
    split at hg
    · rename_i h2
      rw [if_pos h2, if_pos h2]
      obtain ⟨_, _, _, g0, g1⟩ := hg
      have h0 := ih 0 (by omega) g0 (i3 0 (by omega))
      have h1 := ih 1 (by omega) g1 (i3 1 (by omega))
      have hv := itoa_size (n := t.v) (by omega) (by omega)
      simp only [List.length_cons, List.length_append, List.length_nil]
      omega
    · rename_i h2
      rw [if_neg h2, if_neg h2]
      have := itoa_size (n := t.r) (by omega) (by omega)
      omega
theorem good_lvs (t : Tr) : ∀ yes no : Int, goodT t = (lvs t yes no).all fun x => goodR x.reason := by
  induction t using Tr.ind with
  | h t ih =>
    intro yes no
    rw [goodT_eq, lvs_eq]
    split
    · rename_i h
      rw [List.all_append, ← ih 0 (by omega), ← ih 1 (by omega)]
    · simp
/-- the text of a checked tree, parsed -/
theorem par_show {t : Tr} {vars : Int} (h : splE t vars = 0) (hl : (showT t).length ≤ 65536) : (goodT t = true → parC (showT t) = 0 ∧ parV (showT t) = t) ∧ (goodT t = false → parC (showT t) = 2) := by
  obtain ⟨h0, h1, h2, h3⟩ := splE_ok h
  have hg := okT_gT h1 h2
  have hd := depT_le 24 h1 h2 fun S hn hi => nodup_lt 24 S hn fun i h => (hi i h).1
  obtain ⟨r1, r2⟩ := read_show 31 t hg (by omega) [] rfl
  rw [List.append_nil] at r1 r2
  have hs := par_same (showT t)
  have h24 : splE t 24 = 0 := splE_of (by decide) (by decide) (okT_up h1 h2) h3
  constructor
  · intro hgood
    have e := r1 hgood
    have hp := showT_len t
    have c0 : rparC (showT t) = 0 := by
      unfold rparC rparE
      rw [if_neg (by omega), e, if_neg (by simp only; omega)]
      exact h24
    refine ⟨hs.1 ▸ c0, ?_⟩
    rw [← hs.2]
    unfold rparV
    rw [if_pos c0, e]
  · intro hgood
    have e := r2 hgood
    rw [← hs.1]
    unfold rparC rparE
    rw [if_neg (by omega), if_pos (.inl e)]
theorem goodR_iff (r : Int) : goodR r = false ↔ 1000000000000000000 ≤ r ∨ r ≤ -1000000000000000000 := by
  unfold goodR
  rw [decide_eq_false_iff_not]
  omega
end Go.Pu
