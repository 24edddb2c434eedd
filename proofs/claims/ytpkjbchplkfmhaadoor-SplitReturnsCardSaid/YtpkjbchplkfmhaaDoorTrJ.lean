/-
  The reference's Full (NOT CLEAN: region 5 of ref19.full holds a store among free operations).
-/
import Derived.Test.YtpkjbchplkfmhaaDoorTrI
set_option linter.unusedSectionVars false
set_option linter.unusedVariables false
set_option linter.unusedSimpArgs false
namespace Go.Proofs.YtpkjbchplkfmhaaDoor
open Go.Sy Go.Pu
variable [Drw]
theorem rfull_does (ev : List Int) : ∀ first : Int, 0 ≤ first → first + ((2 ^ ev.length : Nat) : Int) ≤ 4096 → DoesF Tryd.prog 43 [lV ev, iV first] [] (.tup [trV (fullT ev first), iV ((2 ^ ev.length : Nat) : Int)]) [] := by
  induction ev with
  | nil =>
    intro first h0 h1
    refine DoesF.bodyC lay_ok _ Tryd.func43 rfl rfl rfl rfl ?_
    refine KW.goIf lay_ok U6_ok 100 rfl (by simp) rfl trivial (fun h => ?_) fun h => ?_
    · refine KW.go lay_ok U6_ok 100 rfl (by simp) ?_
      refine KW.convB 4 1 (Tr.lf first).ks rfl rfl ⟨rfl, rfl⟩ ?_
      exact KW.finC [] rfl rfl rfl trivial
    · simp at h
  | cons v r ih =>
    intro first h0 h1
    have hp := Nat.two_pow_pos r.length
    have e2 : (2 ^ (v :: r).length : Nat) = 2 ^ r.length + 2 ^ r.length := by rw [List.length_cons, Nat.pow_succ]; omega
    rw [e2] at h1 ⊢
    have T_ok : FnsOk Tryd.prog ((43, fLI (fun l a => .tup [trV (fullT l a), iV ((2 ^ l.length : Nat) : Int)]) fun l a => l = r ∧ 0 ≤ a ∧ a + ((2 ^ r.length : Nat) : Int) ≤ 4096) :: U6) :=
      .cons U6_ok Tryd.func43 rfl rfl (fLI_ok fun l a h => by obtain ⟨rfl, h2, h3⟩ := h; exact ih a h2 h3)
    obtain ⟨d1, d2⟩ := cons_tail v r
    refine DoesF.bodyC lay_ok _ Tryd.func43 rfl rfl rfl rfl ?_
    refine KW.goIf lay_ok T_ok 100 rfl (by simp) rfl trivial (fun h => ?_) fun h => ?_
    · simp at h; omega
    refine KW.goDV lay_ok T_ok rfl 100 rfl 11 10 4 rfl (by decide +kernel) (by decide +kernel) rfl rfl rfl ?_ ?_ ?_
    · simp only [d1, d2, true_and, and_true, inK, bitsI]
      simp only [List.length_cons]
      generalize 2 ^ r.length = P at *
      omega
    · simp only [d1, d2, true_and, and_true, inK, bitsI]
      simp only [List.length_cons]
      generalize 2 ^ r.length = P at *
      omega
    refine KW.go lay_ok T_ok 100 rfl (by simp) ?_
    refine KW.convB 4 1 (Tr.two v (fullT r first) (fullT r (first + ((2 ^ r.length : Nat) : Int)))).ks rfl rfl ?_ ?_
    · simp only [d2]
      exact two_rows v _ _
    refine KW.finC [] rfl rfl ?_ trivial
    simp only [d2]
    rfl
theorem rfullX_does (vars : Int) (ev : List Int) : DoesF Tryd.prog 23 [iV vars, lV ev] [] (.tup [trV (fullV vars ev), iV (fullE vars ev)]) [] := by
  refine DoesF.bodyC lay_ok _ Tryd.func23 rfl rfl rfl rfl ?_
  refine KW.len 1 rfl rfl fun hla => ?_
  refine KW.goIf lay_ok U6_ok 100 rfl (by simp) rfl trivial (fun h => ?_) fun h => ?_
  · have h1 : vars < 0 ∨ 24 < vars := by simp at h; omega
    have e : fullE vars ev = 3 := by rw [fullE, if_pos h1]
    refine KW.go lay_ok U6_ok 100 rfl (by simp) ?_
    refine KW.convB 4 1 Tr.no.ks rfl rfl ⟨rfl, rfl⟩ ?_
    refine KW.finC [] rfl rfl ?_ trivial
    simp only [fullV, e]; rfl
  have h1 : ¬ (vars < 0 ∨ 24 < vars) := by simp at h; omega
  have hE : fullE vars ev = if seenE vars ev 0 = 0 then if 11 < ev.length then 4 else 0 else seenE vars ev 0 := by rw [fullE, if_neg h1]
  refine KW.goLpR lay_ok U6_ok 100 rfl (I := fun q : Nat × Int => ⟨Tryd.f23.ntmps, [(0, sI vars), (1, .e (lV ev)), (4, .e (.r 4)), (6, sI q.2), (18, .e (lV ev)), (19, sI ev.length), (20, sI q.1)], [(4, .box 25 [iV 0, .c (.lit (.slice none 0 0)), iV 0] none)]⟩)
    (R := fun q => q.1 ≤ ev.length ∧ seenE vars (ev.drop q.1) q.2 = seenE vars ev 0) (m := fun q => ev.length - q.1) (0, 0) [(4, 4)] rfl rfl ⟨rfl, rfl, rfl, rfl, rfl, rfl, rfl, trivial⟩ (by simp) ⟨Nat.zero_le _, rfl⟩ (by exact ⟨rfl, trivial⟩) ?_
  rintro ⟨q, s⟩ ⟨k1, k2⟩
  simp only at k1 k2
  refine KW.goIf lay_ok U6_ok 100 rfl (by simp) rfl trivial (fun h => ?_) fun h => ?_
  · have hq : q < ev.length := by simpa using h
    have hg : ev.getD (Int.toNat (q : Int)) 0 = ev[q] := by simp [List.getD_eq_getElem?_getD, hq]
    rw [List.drop_eq_getElem_cons hq] at k2
    generalize ev[q] = i at hg k2
    rw [seenE] at k2
    refine KW.goIf lay_ok U6_ok 100 rfl (by simp; omega) rfl trivial (fun h => ?_) fun h => ?_
    · have h3 : i < 0 ∨ vars ≤ i := by rw [hg] at h; simp at h; omega
      rw [if_pos h3] at k2
      refine KW.goOutR lay_ok U6_ok 100 rfl (by simp) ?_
      refine KW.go lay_ok U6_ok 100 rfl (by simp) ?_
      refine KW.convB 4 1 Tr.no.ks rfl rfl ⟨rfl, rfl⟩ ?_
      refine KW.finC [] rfl rfl ?_ trivial
      simp only [fullV, hE, ← k2]; rfl
    have h3 : ¬ (i < 0 ∨ vars ≤ i) := by rw [hg] at h; simp at h; omega
    rw [if_neg h3] at k2
    refine KW.goIf lay_ok U6_ok 100 rfl (by simp only [hg]; simp [bitsI]; omega) rfl trivial (fun h => ?_) fun h => ?_
    · have h4 : bitB s i = true := by rw [hg] at h; exact h
      rw [if_pos h4] at k2
      refine KW.goOutR lay_ok U6_ok 100 rfl (by simp) ?_
      refine KW.go lay_ok U6_ok 100 rfl (by simp) ?_
      refine KW.convB 4 1 Tr.no.ks rfl rfl ⟨rfl, rfl⟩ ?_
      refine KW.finC [] rfl rfl ?_ trivial
      simp only [fullV, hE, ← k2]; rfl
    · have h4 : ¬ bitB s i = true := by rw [hg] at h; rw [show bitB s i = false from h]; decide
      rw [if_neg h4] at k2
      have one := shl_rng24 (v := i) (by omega) (by omega)
      refine KW.goToR lay_ok U6_ok 100 rfl (q + 1, ior .i64 s (ishl 1 i)) [(4, 4)] rfl rfl ⟨rfl, rfl, rfl, by simp only [hg]; rfl, rfl, rfl, rfl, trivial⟩ (by simp only [hg]; simp [inK, bitsI]; omega) ⟨⟨by simp only; omega, k2⟩, by simp only; omega⟩ ⟨rfl, trivial⟩
  have hq : q = ev.length := by simp at h; omega
  rw [hq, List.drop_length, seenE] at k2
  rw [← k2, if_pos rfl] at hE
  refine KW.goOut lay_ok U6_ok 100 rfl (by simp) ?_
  refine KW.goIf lay_ok U6_ok 100 rfl (by simp) rfl trivial (fun h => ?_) fun h => ?_
  · have h5 : 11 < ev.length := by simp at h; omega
    rw [if_pos h5] at hE
    refine KW.go lay_ok U6_ok 100 rfl (by simp) ?_
    refine KW.convB 4 1 Tr.no.ks rfl rfl ⟨rfl, rfl⟩ ?_
    refine KW.finC [] rfl rfl ?_ trivial
    simp only [fullV, hE]; rfl
  · have h5 : ¬ 11 < ev.length := fun h' => by simp at h; omega
    rw [if_neg h5] at hE
    have T_ok : FnsOk Tryd.prog ((43, fLI (fun l a => .tup [trV (fullT l a), iV ((2 ^ l.length : Nat) : Int)]) fun l a => l = ev ∧ a = 0) :: U6) :=
      .cons U6_ok Tryd.func43 rfl rfl (fLI_ok fun l a h => by obtain ⟨rfl, rfl⟩ := h; exact rfull_does _ 0 (by decide) (full_room (by omega)))
    refine KW.goRetC lay_ok T_ok 100 rfl rfl ?_ (by simp) trivial
    simp only [fullV, hE, unI_ints]; rfl
end Go.Proofs.YtpkjbchplkfmhaaDoor
