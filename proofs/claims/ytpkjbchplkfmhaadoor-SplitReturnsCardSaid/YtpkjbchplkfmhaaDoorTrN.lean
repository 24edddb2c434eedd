/-
  The reference's read, Parse: contracts.
-/
import Derived.Test.YtpkjbchplkfmhaaDoorTrM
set_option linter.unusedSectionVars false
set_option linter.unusedVariables false
set_option linter.unusedSimpArgs false
attribute [local instance] Go.Sy.drwNo
namespace Go.Pu
open Go.Sy
def Tr.ofL (v : Int) (xs : List Tr) : Tr := .of v 0 xs.length fun i => xs.getD i .no
theorem Tr.ofL_two (v : Int) (a b : Tr) : Tr.ofL v [a, b] = Tr.two v a b := Tr.ext rfl rfl rfl fun i hi => by
  match i, hi with
  | 0, _ => rfl
  | 1, _ => rfl
  | i + 2, hi => exact absurd hi (by show ¬ i + 2 < 2; omega)
/-- what is left of a node: so many kids -/
def kidsP (f : Nat) (v : Int) (l : List UInt8) : Nat → Nat → List Tr → Tr × Nat
  | 0, p, xs => if atB l p 93 = false then (.no, 0) else (Tr.ofL v xs, p + 1)
  | k + 1, p, xs => if atB l p 32 = false then (.no, 0) else if (readRP f (l.drop (p + 1))).2 = 0 then (.no, 0)
    else kidsP f v l k (p + (1 + (readRP f (l.drop (p + 1))).2)) (xs ++ [(readRP f (l.drop (p + 1))).1])
theorem readRP_kids (f : Nat) (l : List UInt8) (h0 : l ≠ []) (h1 : l.getD 0 0 = 91) : readRP (f + 1) l = if (numRP 2 (l.drop 1)).2 = 0 ∨ (numRP 2 (l.drop 1)).1 < 0 then (.no, 0) else kidsP f (numRP 2 (l.drop 1)).1 l 2 ((numRP 2 (l.drop 1)).2 + 1) [] := by
  rw [readRP, if_neg h0, if_neg (fun h => h h1)]
  dsimp only
  split
  · rfl
  rw [kidsP]
  split
  · rfl
  split
  · rfl
  rw [kidsP]
  split
  · rfl
  split
  · rfl
  rw [kidsP]
  split
  · rfl
  · rw [List.nil_append, List.cons_append, List.nil_append, Tr.ofL_two]
theorem atB_lt {l : List UInt8} {p : Nat} {c : UInt8} (h : atB l p c = true) : p < l.length := by
  unfold atB at h
  rw [Bool.and_eq_true, decide_eq_true_iff] at h
  exact h.1
theorem numRP_le (m : Nat) (l : List UInt8) : (numRP m l).2 ≤ l.length := by
  unfold numRP
  split
  · exact Nat.zero_le _
  · have h1 := nDg_le (l.drop (negK l))
    have h2 : negK l ≤ l.length := by
      unfold negK negB
      split
      · rename_i h; rw [Bool.and_eq_true, decide_eq_true_iff] at h; exact h.1
      · exact Nat.zero_le _
    simp only [List.length_drop] at h1 ⊢
    omega
end Go.Pu
namespace Go.Proofs.YtpkjbchplkfmhaaDoor
open Go.Sy Go.Pu
def V2 : Fns := (56, fBI (fun s m => .tup [iV (numRP m.toNat s.data.toList).1, iV ((numRP m.toNat s.data.toList).2 : Nat)]) fun s m => s.size ≤ 70000 ∧ 0 ≤ m ∧ m ≤ 18) ::
  V1
theorem V2_ok : FnsOk Tryd.prog V2 := .cons (V1_ok) Tryd.func56 rfl rfl (fBI_ok fun s m h => by obtain ⟨k, rfl⟩ := Int.eq_ofNat_of_zero_le h.2.1; obtain ⟨l, rfl⟩ : ∃ l, s = strL l := ⟨_, (strL_of s).symm⟩; rw [strL_data, Int.toNat_natCast]; exact rnumber19_does k (by omega) l (by simpa using h.1))


theorem at_test (l : List UInt8) (p : Nat) (c : UInt8) : (decide (((strL l).size : Int) ≤ (p : Int)) || ((((strL l).data.getD (Int.toNat (p : Int)) 0).toNat : Nat) : Int) != ((c.toNat : Nat) : Int)) = !(atB l p c) := by
  rw [strL_size, strL_getD, Int.toNat_natCast, bne, u8_eq, atB]
  by_cases h : p < l.length
  · rw [decide_eq_true h, decide_eq_false (by omega)]; simp
  · rw [decide_eq_false h, decide_eq_true (by omega)]; simp
set_option maxHeartbeats 1600000 in
theorem rread_does (f : Nat) : ∀ (deep : Int) (l : List UInt8), deep = 31 - (f : Int) → f ≤ 31 → l.length ≤ 70000 → DoesF Tryd.prog 37 [strV (strL l), iV deep] [] (.tup [trV (readRP f l).1, iV ((readRP f l).2 : Nat)]) [] := by
  induction f with
  | zero =>
    intro deep l hd hf hx
    refine DoesF.bodyC lay_ok _ Tryd.func37 rfl rfl rfl rfl ?_
    refine KW.goIf lay_ok V2_ok 100 rfl (by simp) rfl trivial (fun h => ?_) fun h => ?_
    · refine KW.go lay_ok V2_ok 100 rfl (by simp) ?_
      refine KW.convB 4 1 Tr.no.ks rfl rfl ⟨rfl, rfl⟩ ?_
      exact KW.finC [] rfl rfl rfl trivial
    · exfalso
      simp at h
      omega
  | succ f ih =>
    intro deep l hd hf hx
    have T_ok : FnsOk Tryd.prog ((37, fBI (fun s d => .tup [trV (readRP f s.data.toList).1, iV ((readRP f s.data.toList).2 : Nat)]) fun s d => s.size ≤ 70000 ∧ d = deep + 1) :: V2) :=
      .cons V2_ok Tryd.func37 rfl rfl (fBI_ok fun s d h => by
        obtain ⟨l', rfl⟩ : ∃ l, s = strL l := ⟨_, (strL_of s).symm⟩
        obtain ⟨h1, rfl⟩ := h
        rw [strL_data]
        exact ih (deep + 1) l' (by omega) (by omega) (by simpa using h1))
    refine DoesF.bodyC lay_ok _ Tryd.func37 rfl rfl rfl rfl ?_
    refine KW.goIf lay_ok T_ok 100 rfl (by simp) rfl trivial (fun h => ?_) fun h => ?_
    · have h1 : l = [] := by
        simp at h
        rcases h with h | h
        · exact h
        · omega
      rw [readRP, if_pos h1]
      refine KW.go lay_ok T_ok 100 rfl (by simp) ?_
      refine KW.convB 4 1 Tr.no.ks rfl rfl ⟨rfl, rfl⟩ ?_
      exact KW.finC [] rfl rfl rfl trivial
    have h1 : l ≠ [] := by simp at h; exact h.1
    have hl : 0 < l.length := List.length_pos_iff.2 h1
    have e91 := byte_at l 91
    refine KW.goIf lay_ok T_ok 100 rfl (by simp; omega) rfl trivial (fun h => ?_) fun h => ?_
    · have h2 : l.getD 0 0 ≠ 91 := fun e => by
        have h3 : (!(((((strL l).data.getD (Int.toNat 0) 0).toNat : Nat) : Int) == (((91 : UInt8).toNat : Nat) : Int))) = true := h
        rw [e91, e] at h3; cases h3
      rw [readRP, if_neg h1, if_pos h2]
      refine KW.go lay_ok T_ok 100 rfl (by simp; omega) ?_
      simp only [strL_data, show Int.toNat 18 = 18 from rfl]
      generalize numRP 18 l = n2
      refine KW.convB 4 1 (Tr.lf n2.1).ks rfl rfl ⟨rfl, rfl⟩ ?_
      exact KW.finC [] rfl rfl rfl trivial
    have h2 : l.getD 0 0 = 91 := by
      have h3 : (!(((((strL l).data.getD (Int.toNat 0) 0).toNat : Nat) : Int) == (((91 : UInt8).toNat : Nat) : Int))) = false := h
      rw [e91] at h3; simpa using h3
    rw [readRP_kids f l h1 h2]
    have e1 : (strL l).extract (Int.toNat 1) (Int.toNat (((strL l).size : Nat) : Int)) = strL (l.drop 1) := by
      rw [Int.toNat_natCast, strL_size]; exact strL_drop l 1
    have hN := numRP_le 2 (l.drop 1)
    simp only [List.length_drop] at hN
    refine KW.goIf lay_ok T_ok 100 rfl ?_ rfl trivial (fun h => ?_) fun h => ?_
    · simp only [e1]
      simp +contextual
      omega
    · simp only [e1, strL_data, show Int.toNat 2 = 2 from rfl] at h
      generalize numRP 2 (l.drop 1) = N at *
      have h3 : N.2 = 0 ∨ N.1 < 0 := by simpa using h
      rw [if_pos h3]
      refine KW.go lay_ok T_ok 100 rfl (by simp) ?_
      refine KW.convB 4 1 Tr.no.ks rfl rfl ⟨rfl, rfl⟩ ?_
      exact KW.finC [] rfl rfl rfl trivial
    · simp only [e1, strL_data, show Int.toNat 2 = 2 from rfl] at h ⊢
      generalize numRP 2 (l.drop 1) = N at *
      have h3 : ¬ (N.2 = 0 ∨ N.1 < 0) := by simp at h; omega
      rw [if_neg h3]
      refine KW.go lay_ok T_ok 100 rfl (by simp [inK]; omega) ?_
      refine KW.nilB 10 1 200 25 (treesC []) rfl rfl rfl rfl rfl ?_
      refine KW.goLpR lay_ok T_ok 100 rfl (I := fun q : Nat × Nat × List Tr => ⟨Tryd.f37.ntmps, [(0, .e (strV (strL l))), (1, sI deep), (4, .e (.r 4)), (9, sI (q.2.1 : Nat)), (10, .e (.r 10)), (49, sI q.1)],
          [(4, .box 25 [iV 0, .c (.lit (.slice none 0 0)), iV 0] none), (10, .box 25 [iV N.1, .r 200, iV 0] none), (200, .own 25 (treesC q.2.2))]⟩)
        (R := fun q => q.1 ≤ 2 ∧ q.2.2.length = q.1 ∧ q.2.1 ≤ 70001 ∧ kidsP f N.1 l (2 - q.1) q.2.1 q.2.2 = kidsP f N.1 l 2 (N.2 + 1) []) (m := fun q => 2 - q.1) (0, N.2 + 1, []) [(4, 4), (10, 10), (200, 200)] rfl rfl ⟨rfl, rfl, rfl, rfl, rfl, rfl, trivial⟩ (by simp) ⟨Nat.zero_le _, rfl, by simp only; omega, rfl⟩ (by exact ⟨rfl, rfl, rfl, trivial⟩) ?_
      rintro ⟨q, p, xs⟩ ⟨r1, r2, r3, r4⟩
      simp only at r1 r2 r3 r4
      rw [← r4]
      refine KW.goIf lay_ok T_ok 100 rfl (by simp) rfl trivial (fun h => ?_) fun h => ?_
      · have hq : q < 2 := by simp at h; omega
        obtain ⟨k, hk⟩ : ∃ k, 2 - q = k + 1 := ⟨1 - q, by omega⟩
        rw [hk] at r4 ⊢
        rw [kidsP] at r4 ⊢
        refine KW.goIf lay_ok T_ok 100 rfl ?_ rfl trivial (fun h => ?_) fun h => ?_
        · simp +contextual [-Array.getD_eq_getD_getElem?]
        · have h4 : atB l p 32 = false := by
            have := (at_test l p 32).symm.trans h
            simpa using this
          rw [if_pos h4]
          refine KW.goOutR lay_ok T_ok 100 rfl (by simp) ?_
          refine KW.go lay_ok T_ok 100 rfl (by simp) ?_
          refine KW.convB 4 1 Tr.no.ks rfl rfl ⟨rfl, rfl⟩ ?_
          exact KW.finC [] rfl rfl rfl trivial
        · have h4 : atB l p 32 = true := by
            have := (at_test l p 32).symm.trans h
            simpa using this
          have hp := atB_lt h4
          have e2 : (strL l).extract (Int.toNat ((p : Int) + 1)) (Int.toNat (((strL l).size : Nat) : Int)) = strL (l.drop (p + 1)) := by
            rw [Int.toNat_natCast, strL_size, show Int.toNat ((p : Int) + 1) = p + 1 by omega]; exact strL_drop l _
          have hA := readRP_le f (l.drop (p + 1))
          simp only [List.length_drop] at hA
          rw [if_neg (by rw [h4]; decide)] at r4 ⊢
          refine KW.goIf lay_ok T_ok 100 rfl ?_ rfl trivial (fun h => ?_) fun h => ?_
          · simp only [e2]
            simp only [strL_size, List.length_drop, true_and, and_true, inK]
            omega
          · simp only [e2, strL_data] at h
            have h5 : (readRP f (l.drop (p + 1))).2 = 0 := by simpa using h
            rw [if_pos h5]
            refine KW.goOutR lay_ok T_ok 100 rfl (by simp) ?_
            refine KW.go lay_ok T_ok 100 rfl (by simp) ?_
            refine KW.convB 4 1 Tr.no.ks rfl rfl ⟨rfl, rfl⟩ ?_
            exact KW.finC [] rfl rfl rfl trivial
          · simp only [e2, strL_data] at h ⊢
            have h5 : (readRP f (l.drop (p + 1))).2 ≠ 0 := by simpa using h
            rw [if_neg h5] at r4 ⊢
            generalize readRP f (l.drop (p + 1)) = X at *
            refine KW.go lay_ok T_ok 100 rfl ?_ ?_
            · simp only [true_and, and_true, inK]
              omega
            refine KW.catG 79 X.1 rfl (fun p hp => ?_) ?_
            · match p, hp with
              | 0, _ => exact CVEq.refl _
              | 1, _ => exact CVEq.refl _
              | 2, _ => exact CVEq.refl _
            refine KW.goToR lay_ok T_ok 100 rfl (q + 1, p + (1 + X.2), xs ++ [X.1]) [(4, 4), (10, 10), (200, 79)] rfl rfl ⟨rfl, rfl, rfl, by simp only [Int.natCast_add, Int.natCast_one]; rfl, rfl, rfl, trivial⟩ trivial ⟨⟨by simp only; omega, by simp [r2], by simp only; omega, ?_⟩, by simp only; omega⟩ (by exact ⟨rfl, rfl, rfl, trivial⟩)
            simp only
            have ek : 2 - (q + 1) = k := by omega
            simp only [ek]
      · have hq : q = 2 := by simp at h; omega
        subst hq
        rw [show 2 - 2 = 0 from rfl, kidsP]
        refine KW.goOut lay_ok T_ok 100 rfl (by simp) ?_
        refine KW.goIf lay_ok T_ok 100 rfl ?_ rfl trivial (fun h => ?_) fun h => ?_
        · simp +contextual [-Array.getD_eq_getD_getElem?]
        · have h4 : atB l p 93 = false := by
            have := (at_test l p 93).symm.trans h
            simpa using this
          rw [if_pos h4]
          refine KW.go lay_ok T_ok 100 rfl (by simp) ?_
          refine KW.convB 4 1 Tr.no.ks rfl rfl ⟨rfl, rfl⟩ ?_
          exact KW.finC [] rfl rfl rfl trivial
        · have h4 : atB l p 93 = true := by
            have := (at_test l p 93).symm.trans h
            simpa using this
          have hp := atB_lt h4
          rw [if_neg (by rw [h4]; decide)]
          refine KW.go lay_ok T_ok 100 rfl (by simp) ?_
          refine KW.frzB 10 1 200 rfl rfl rfl rfl ?_
          refine KW.go lay_ok T_ok 100 rfl (by simp [inK]; omega) ?_
          refine KW.convB 4 1 (Tr.ofL N.1 xs).ks rfl rfl Tr.of_ks ?_
          refine KW.finC [] rfl rfl ?_ trivial
          simp only [Int.natCast_add, Int.natCast_one]; rfl
theorem rparse19_does (s : ByteArray) : DoesF Tryd.prog 13 [strV s] [] (.tup [trV (rparV s.data.toList), iV (rparC s.data.toList)]) [] := by
  obtain ⟨l, rfl⟩ : ∃ l, s = strL l := ⟨_, (strL_of s).symm⟩
  rw [strL_data]
  have T_ok : FnsOk Tryd.prog ((37, fBI (fun s d => .tup [trV (readRP 31 s.data.toList).1, iV ((readRP 31 s.data.toList).2 : Nat)]) fun s d => s.size ≤ 70000 ∧ d = 0) :: V2) :=
    .cons V2_ok Tryd.func37 rfl rfl (fBI_ok fun s d h => by
      obtain ⟨l', rfl⟩ : ∃ l, s = strL l := ⟨_, (strL_of s).symm⟩
      obtain ⟨h1, rfl⟩ := h
      rw [strL_data]
      exact rread_does 31 0 l' (by decide) (by decide) (by simpa using h1))
  refine DoesF.bodyC lay_ok _ Tryd.func13 rfl rfl rfl rfl ?_
  refine KW.goIf lay_ok T_ok 100 rfl (by simp) rfl trivial (fun h => ?_) fun h => ?_
  · have h1 : 65536 < l.length := by simp at h; omega
    have e : rparC l = 4 := by rw [rparC, if_pos h1]
    refine KW.go lay_ok T_ok 100 rfl (by simp) ?_
    refine KW.convB 2 1 Tr.no.ks rfl rfl ⟨rfl, rfl⟩ ?_
    refine KW.finC [] rfl rfl ?_ trivial
    simp only [rparV, e]; rfl
  have h1 : ¬ 65536 < l.length := by simp at h; omega
  have e : rparC l = rparE l.length (readRP 31 l) := by rw [rparC, if_neg h1]
  have hV : rparV l = if rparE l.length (readRP 31 l) = 0 then (readRP 31 l).1 else .no := by rw [rparV, e]
  rw [hV, e]
  refine KW.goIf lay_ok T_ok 100 rfl (by simp; omega) rfl trivial (fun h => ?_) fun h => ?_
  · simp only [strL_data] at h
    generalize readRP 31 l = X at *
    have h2 : X.2 = 0 ∨ X.2 ≠ l.length := by
      simp at h
      rcases h with h | h
      · exact .inl h
      · exact .inr (by omega)
    have e2 : rparE l.length X = 2 := by rw [rparE, if_pos h2]
    refine KW.go lay_ok T_ok 100 rfl (by simp) ?_
    refine KW.convB 2 1 Tr.no.ks rfl rfl ⟨rfl, rfl⟩ ?_
    refine KW.finC [] rfl rfl ?_ trivial
    simp only [e2]; rfl
  simp only [strL_data] at h ⊢
  generalize readRP 31 l = X at *
  have h2 : ¬ (X.2 = 0 ∨ X.2 ≠ l.length) := by simp at h; omega
  have e2 : rparE l.length X = splE X.1 24 := by rw [rparE, if_neg h2]
  simp only [e2]
  refine KW.goIf lay_ok T_ok 100 rfl (by simp [unTr_cells]) rfl trivial (fun h => ?_) fun h => ?_
  · have h0 : splE X.1 24 ≠ 0 := by simpa [unTr_cells] using h
    refine KW.go lay_ok T_ok 100 rfl (by simp) ?_
    refine KW.convB 2 1 Tr.no.ks rfl rfl ⟨rfl, rfl⟩ ?_
    refine KW.finC [] rfl rfl ?_ trivial
    simp only [if_neg h0, unTr_cells]; rfl
  · have h0 : splE X.1 24 = 0 := by simpa [unTr_cells] using h
    refine KW.goRetC lay_ok T_ok 100 rfl rfl ?_ (by simp) trivial
    simp only [if_pos h0, unTr_cells, h0]; rfl
def V3 : Fns := (13, fB (fun s => .tup [trV (rparV s.data.toList), iV (rparC s.data.toList)]) fun _ => True) ::
  V2
theorem V3_ok : FnsOk Tryd.prog V3 := .cons (V2_ok) Tryd.func13 rfl rfl (fB_ok fun s _ => rparse19_does s)


end Go.Proofs.YtpkjbchplkfmhaaDoor
