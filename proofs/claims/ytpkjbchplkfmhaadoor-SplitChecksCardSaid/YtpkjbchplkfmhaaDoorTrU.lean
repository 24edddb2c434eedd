/-
  The reference's Number, show, Text: contracts.
-/
import Derived.Test.YtpkjbchplkfmhaaDoorTrT
set_option linter.unusedSectionVars false
set_option linter.unusedVariables false
set_option linter.unusedSimpArgs false
attribute [local instance] Go.Sy.drwNo
namespace Go.Proofs.YtpkjbchplkfmhaaDoor
open Go.Sy Go.Pu
theorem dig_at {k : Nat} (h : k < 10) : (⟨#[48, 49, 50, 51, 52, 53, 54, 55, 56, 57]⟩ : ByteArray).extract k (k + 1) = strL [UInt8.ofNat (48 + k)] := by
  apply ByteArray.ext
  exact (by decide +kernel : ∀ k : Fin 10, ((⟨#[48, 49, 50, 51, 52, 53, 54, 55, 56, 57]⟩ : ByteArray).extract k.val (k.val + 1)).data = (strL [UInt8.ofNat (48 + k.val)]).data) ⟨k, h⟩
theorem number_nat (u : Nat) : u ≤ 9223372036854775807 → DoesF Tryd.prog 60 [iV u] [] (.e (strV (strL (Lib.decDigits u)))) [] := by
  induction u using Nat.strongRecOn with
  | _ u ih =>
    intro hu
    have T_ok : 10 ≤ u → FnsOk Tryd.prog ((60, fI (fun a => .e (strV (strL (Lib.decDigits a.toNat)))) fun a => a = ((u / 10 : Nat) : Int)) :: V4) := fun h10 =>
      .cons V4_ok Tryd.func60 rfl rfl (fI_ok fun a h => by
        subst h
        rw [Int.toNat_natCast]
        exact ih (u / 10) (by omega) (by omega))
    refine DoesF.body _ Tryd.func60 rfl rfl rfl rfl ?_
    refine KW.goIf lay_ok V4_ok 100 rfl (by simp) rfl trivial (fun h => ?_) fun h => ?_
    · exfalso; simp at h
    refine KW.goIf lay_ok V4_ok 100 rfl (by simp) rfl trivial (fun h => ?_) fun h => ?_
    · exfalso; simp at h; omega
    have et : ((u : Int).tmod 10) = ((u % 10 : Nat) : Int) := by rw [Int.tmod_eq_emod_of_nonneg (by omega)]; rfl
    have eq : ((u : Int).tdiv 10) = ((u / 10 : Nat) : Int) := by rw [Int.tdiv_eq_ediv_of_nonneg (by omega)]; rfl
    have hd := dig_at (k := u % 10) (by omega)
    have e1 : (⟨#[48, 49, 50, 51, 52, 53, 54, 55, 56, 57]⟩ : ByteArray).extract (Int.toNat ((u : Int).tmod 10)) (Int.toNat ((u : Int).tmod 10 + 1)) = strL [UInt8.ofNat (48 + u % 10)] := by
      rw [et, Int.toNat_natCast, show Int.toNat (((u % 10 : Nat) : Int) + 1) = u % 10 + 1 by omega]; exact hd
    have hl := Lib.decDigits_length (u / 10)
    have hnd := nDig_le 18 (u / 10) (by omega)
    refine KW.goIf lay_ok V4_ok 100 rfl ?_ rfl trivial (fun h => ?_) fun h => ?_
    · simp only [et, inK, true_and, and_true, show (⟨#[48, 49, 50, 51, 52, 53, 54, 55, 56, 57]⟩ : ByteArray).size = 10 from rfl]
      omega
    · have hlt : u < 10 := by simp at h; omega
      refine KW.goRet lay_ok V4_ok 100 rfl rfl ?_ (by simp) trivial
      rw [e1, show Lib.decDigits u = [UInt8.ofNat (48 + u % 10)] by rw [Lib.decDigits, dif_pos hlt, Nat.mod_eq_of_lt hlt]]; rfl
    · have hge : 10 ≤ u := by simp at h; omega
      refine KW.goRet lay_ok (T_ok hge) 100 rfl rfl ?_ ?_ trivial
      · rw [e1, eq, Int.toNat_natCast, show Lib.decDigits u = Lib.decDigits (u / 10) ++ [UInt8.ofNat (48 + u % 10)] by rw [Lib.decDigits, dif_neg (by omega)], ← strL_append]; rfl
      · simp only [e1, eq, Int.toNat_natCast, strL_size, inK, true_and, and_true, List.length_cons, List.length_nil]
        omega
theorem number_int (n : Int) (hn : inK .i64 n) : DoesF Tryd.prog 60 [iV n] [] (.e (strV (strL (Lib.itoa n)))) [] := by
  simp only [inK] at hn
  by_cases h0 : 0 ≤ n
  · obtain ⟨u, rfl⟩ := Int.eq_ofNat_of_zero_le h0
    rw [Lib.itoa_nonneg]
    exact number_nat u (by omega)
  have hi : Lib.itoa n = 45 :: Lib.decDigits n.natAbs := by rw [Lib.itoa, if_pos (by omega)]
  have hl := Lib.decDigits_length n.natAbs
  have hnd := nDig_le 18 n.natAbs (by omega)
  refine DoesF.body _ Tryd.func60 rfl rfl rfl rfl ?_
  refine KW.goIf lay_ok V4_ok 100 rfl (by simp) rfl trivial (fun h => ?_) fun h => ?_
  · have h1 : n = -9223372036854775808 := by simpa using h
    refine KW.goRet lay_ok V4_ok 100 rfl rfl ?_ (by simp) trivial
    have e : (⟨#[45, 57, 50, 50, 51, 51, 55, 50, 48, 51, 54, 56, 53, 52, 55, 55, 53, 56, 48, 56]⟩ : ByteArray) = strL (Lib.itoa n) := by
      subst h1
      apply ByteArray.ext
      decide +kernel
    rw [← e]; rfl
  have h1 : n ≠ -9223372036854775808 := by simpa using h
  have T_ok : FnsOk Tryd.prog ((60, fI (fun a => .e (strV (strL (Lib.decDigits a.toNat)))) fun a => a = ((n.natAbs : Nat) : Int)) :: V4) :=
    .cons V4_ok Tryd.func60 rfl rfl (fI_ok fun a h => by
      subst h
      rw [Int.toNat_natCast]
      exact number_nat _ (by omega))
  refine KW.goIf lay_ok T_ok 100 rfl (by simp) rfl trivial (fun h => ?_) fun h => ?_
  · have en : -n = ((n.natAbs : Nat) : Int) := by omega
    refine KW.goRet lay_ok T_ok 100 rfl rfl ?_ ?_ trivial
    · rw [en, Int.toNat_natCast, hi, show (45 :: Lib.decDigits n.natAbs) = [45] ++ Lib.decDigits n.natAbs from rfl, ← strL_append]; rfl
    · simp only [en, Int.toNat_natCast, strL_size, inK, true_and, and_true, show (⟨#[45]⟩ : ByteArray).size = 1 from rfl]
      omega
  · exfalso; simp at h; omega
def V5 : Fns := (60, fI (fun a => .e (strV (strL (Lib.itoa a)))) fun a => inK .i64 a) ::
  V4
theorem V5_ok : FnsOk Tryd.prog V5 := .cons (V4_ok) Tryd.func60 rfl rfl (fI_ok fun a h => number_int a h)


theorem show_does (t : Tr) : gT t → t.In → cntN t ≤ 4096 → DoesF Tryd.prog 52 [trV t] [] (.e (strV (strL (showT t)))) [] := by
  induction t using Tr.ind with
  | h t ih =>
    intro hg hin hc
    obtain ⟨iv, ir, ik⟩ := (Tr.in_iff t).1 hin
    have T_ok : t.n = 2 → FnsOk Tryd.prog ((52, fT (fun t' => .e (strV (strL (showT t')))) fun t' => kidOf t t') :: V5) := fun h2 => by
      obtain ⟨_, _, _, _, g0, g1⟩ := gT_kids hg (by omega)
      have p0 := cntN_pos (t.k 0)
      have p1 := cntN_pos (t.k 1)
      rw [cntN_eq, if_pos h2] at hc
      refine .cons V5_ok Tryd.func52 rfl rfl (fT_ok fun t' h => ?_)
      rcases h with rfl | rfl
      · exact ih 0 (by omega) g0 (ik 0 (by omega)) (by omega)
      · exact ih 1 (by omega) g1 (ik 1 (by omega)) (by omega)
    refine DoesF.body _ Tryd.func52 rfl rfl rfl rfl ?_
    refine KW.open 0 t rfl ?_
    refine KW.goIf lay_ok V5_ok 100 rfl (by simp) rfl trivial (fun h => ?_) fun h => ?_
    · have h0 : t.n = 0 := by simpa using h
      refine KW.goRet lay_ok V5_ok 100 rfl rfl ?_ (by simpa using ir) trivial
      rw [showT_eq, if_neg (by omega)]; rfl
    · have h0 : t.n ≠ 0 := by simpa using h
      obtain ⟨h2, _, _, _, g0, g1⟩ := gT_kids hg h0
      simp only [inK] at iv ir
      have hl := itoa_size (n := t.v) (by omega) (by omega)
      have s0 := showT_size (t.k 0) g0 (ik 0 (by omega))
      have s1 := showT_size (t.k 1) g1 (ik 1 (by omega))
      have p0 := cntN_pos (t.k 0)
      have p1 := cntN_pos (t.k 1)
      have cc := cntN_eq t
      rw [if_pos h2] at cc
      refine KW.goD lay_ok (T_ok h2) rfl 100 rfl (by decide +kernel) rfl (by simp) ?_ ?_
      · simp only [Nat.zero_add, Tr.cell_1, unTr_cells, isKs_ks, Int.toNat_zero, Int.toNat_one, kid0, kid1, strL_size, ByteArray.size_append, inK, true_and, and_true, show (⟨#[91]⟩ : ByteArray).size = 1 from rfl, show (⟨#[32]⟩ : ByteArray).size = 1 from rfl, show (⟨#[93]⟩ : ByteArray).size = 1 from rfl]
        omega
      refine KW.goRet lay_ok (T_ok h2) 100 rfl rfl ?_ (by simp) trivial
      have e : showT t = [91] ++ Lib.itoa t.v ++ [32] ++ showT (t.k 0) ++ [32] ++ showT (t.k 1) ++ [93] := by
        rw [showT_eq t, if_pos h2]; simp
      simp only [Nat.zero_add, Tr.cell_1, unTr_cells, Int.toNat_zero, Int.toNat_one]
      rw [e]
      simp only [← strL_append]
      rfl
def V6 : Fns := (52, fT (fun t => .e (strV (strL (showT t)))) fun t => gT t ∧ t.In ∧ cntN t ≤ 4096) ::
  V5
theorem V6_ok : FnsOk Tryd.prog V6 := .cons (V5_ok) Tryd.func52 rfl rfl (fT_ok fun t h => show_does t h.1 h.2.1 h.2.2)


theorem rtext19_does (t : Tr) (hin : t.In) (vars : Int) : DoesF Tryd.prog 33 [trV t, iV vars] [] (.tup [strV (strL (textL t vars)), iV (splE t vars)]) [] := by
  refine DoesF.body _ Tryd.func33 rfl rfl rfl rfl ?_
  refine KW.goIf lay_ok V6_ok 100 rfl (by simp) rfl trivial (fun h => ?_) fun h => ?_
  · have h0 : splE t vars ≠ 0 := by simpa using h
    refine KW.goRet lay_ok V6_ok 100 rfl rfl ?_ (by simp) trivial
    simp only [textL, if_neg h0, unTr_cells]; rfl
  · have h0 : splE t vars = 0 := by simpa using h
    obtain ⟨hg, hc⟩ := splE_g h0
    have e : textL t vars = showT t := by rw [textL, if_pos h0]
    rw [e, h0]
    refine KW.goRet lay_ok V6_ok 100 rfl rfl ?_ (by simp [hg, hin, hc]) trivial
    simp only [unTr_cells]; rfl
end Go.Proofs.YtpkjbchplkfmhaaDoor
