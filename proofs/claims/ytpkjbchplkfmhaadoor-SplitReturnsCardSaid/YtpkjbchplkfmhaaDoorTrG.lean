/-
  Trees compared; few nodes; leaves; the leaf of a state: contracts.
-/
import Derived.Test.YtpkjbchplkfmhaaDoorTrF
set_option linter.unusedSectionVars false
set_option linter.unusedVariables false
set_option linter.unusedSimpArgs false
namespace Go.Pu
open Go.Sy
variable [Drw]
def sameT : Tr → Tr → Bool
  | .nd v r n f => fun b => decide (v = b.v) && decide (r = b.r) && decide (n = b.n) && (List.ofFn fun i : Fin n => sameT (f i) (b.k i)).all id
theorem sameT_iff (a : Tr) : ∀ b : Tr, sameT a b = true ↔ a = b := by
  induction a with
  | nd v r n f ih =>
    intro b
    rw [sameT]
    simp only [Bool.and_eq_true, decide_eq_true_eq, List.all_eq_true, List.mem_ofFn, id_eq]
    constructor
    · rintro ⟨⟨⟨h1, h2⟩, h3⟩, h4⟩
      refine Tr.ext h1 h2 h3 fun i hi => ?_
      have hi' : i < n := hi
      have h5 := (ih ⟨i, hi'⟩ _).1 (h4 _ ⟨⟨i, hi'⟩, rfl⟩)
      simpa [Tr.k, hi'] using h5
    · rintro rfl
      refine ⟨⟨⟨rfl, rfl⟩, rfl⟩, ?_⟩
      rintro x ⟨i, rfl⟩
      refine (ih i _).2 ?_
      simp [Tr.k, i.2]
@[simp] theorem sameT_self (a : Tr) : sameT a a = true := (sameT_iff a a).2 rfl
theorem sameT_no {a b : Tr} (h : a ≠ b) : sameT a b = false := by
  cases hb : sameT a b with
  | false => rfl
  | true => exact absurd ((sameT_iff a b).1 hb) h
end Go.Pu
namespace Go.Proofs.YtpkjbchplkfmhaaDoor
open Go.Sy Go.Pu
variable [Drw]
theorem same_does (a : Tr) : ∀ b : Tr, DoesF Tryd.prog 15 [trV a, trV b] [] (sB (sameT a b)) [] := by
  induction a using Tr.ind with
  | h a ih =>
    intro b
    have T_ok : FnsOk Tryd.prog ((15, fTT (fun a' b' => sB (sameT a' b')) fun a' _ => ∃ i, i < a.n ∧ a' = a.k i) :: U3) := by
      refine .cons U3_ok Tryd.func15 rfl rfl (fTT_ok fun a' b' h => ?_)
      obtain ⟨i, hi, rfl⟩ := h
      exact ih i hi b'
    refine DoesF.body _ Tryd.func15 rfl rfl rfl rfl ?_
    refine KW.lenT 0 a rfl fun han => ?_
    refine KW.open 0 a rfl ?_
    refine KW.open 1 b rfl ?_
    refine KW.goIf lay_ok T_ok 100 rfl (by simp) rfl trivial (fun h => ?_) fun h => ?_
    · have hne : a ≠ b := by rintro rfl; simp at h
      refine KW.goRet lay_ok T_ok 100 rfl rfl ?_ (by simp) trivial
      rw [sameT_no hne]; rfl
    · have h3 : a.v = b.v ∧ a.r = b.r ∧ a.n = b.n := by simp at h; omega
      refine KW.goLpR lay_ok T_ok 100 rfl (I := fun q : Nat => ⟨Tryd.f15.ntmps, [(2, .e (.r 2)), (3, .e (.r 3)), (29, sI a.n), (30, sI q)], [(2, .box 25 [iV a.v, .c a.ksx, iV a.r] none), (3, .box 25 [iV b.v, .c b.ksx, iV b.r] none)]⟩)
        (R := fun q => q ≤ a.n ∧ ∀ i, i < q → a.k i = b.k i) (m := fun q => a.n - q) 0 [(2, 2), (3, 3)] rfl rfl ⟨rfl, rfl, rfl, rfl, trivial⟩ (by simp) ⟨Nat.zero_le _, fun i hi => by omega⟩ (by exact ⟨rfl, rfl, trivial⟩) ?_
      rintro q ⟨h1, h2⟩
      refine KW.goIf lay_ok T_ok 100 rfl (by simp) rfl trivial (fun h => ?_) fun h => ?_
      · have hq : q < a.n := by simpa using h
        refine KW.goD lay_ok T_ok rfl 100 rfl (by decide +kernel) rfl (by simp) ?_ ?_
        · simp only [Int.toNat_natCast, Nat.zero_add, Tr.cell_1, unTr_cells, isKs_ks, true_and, and_true]
          exact ⟨by omega, q, hq, rfl⟩
        simp only [Int.toNat_natCast, Nat.zero_add, Tr.cell_1, unTr_cells]
        refine KW.goIf lay_ok T_ok 100 rfl (by simp) rfl trivial (fun h => ?_) fun h => ?_
        · have hne : a ≠ b := by rintro rfl; simp at h
          refine KW.goOutR lay_ok T_ok 100 rfl (by simp) ?_
          refine KW.goRet lay_ok T_ok 100 rfl rfl ?_ (by simp) trivial
          rw [sameT_no hne]; rfl
        · have he : a.k q = b.k q := (sameT_iff _ _).1 (by simpa using h)
          refine KW.goToR lay_ok T_ok 100 rfl (q + 1) [(2, 2), (3, 3)] rfl rfl ⟨rfl, rfl, rfl, rfl, trivial⟩ (by simp [inK]; omega) ⟨⟨by omega, fun i hi => ?_⟩, by omega⟩ ⟨rfl, rfl, trivial⟩
          by_cases e : i = q
          · subst e; exact he
          · exact h2 i (by omega)
      · have hq : q = a.n := by simp at h; omega
        subst hq
        refine KW.goOut lay_ok T_ok 100 rfl (by simp) ?_
        refine KW.goRet lay_ok T_ok 100 rfl rfl ?_ (by simp) trivial
        rw [(sameT_iff a b).2 (Tr.ext h3.1 h3.2.1 h3.2.2 h2)]; rfl

theorem left_does (t : Tr) : ∀ most depth : Int, 0 ≤ most → most ≤ 4096 → 0 ≤ depth → depth ≤ 101 → DoesF Tryd.prog 38 [trV t, iV most, iV depth] [] (sI (leftT t most depth)) [] := by
  induction t using Tr.ind with
  | h t ih =>
    intro most depth m0 m1 d0 d1
    have T_ok : FnsOk Tryd.prog ((38, fTII (fun t' m' d' => sI (leftT t' m' d')) fun t' m' d' => (∃ i, i < t.n ∧ t' = t.k i) ∧ 0 ≤ m' ∧ m' ≤ 4096 ∧ 0 ≤ d' ∧ d' ≤ 101) :: U3) := by
      refine .cons U3_ok Tryd.func38 rfl rfl (fTII_ok fun t' m' d' h => ?_)
      obtain ⟨⟨i, hi, rfl⟩, h1, h2, h3, h4⟩ := h
      exact ih i hi m' d' h1 h2 h3 h4
    refine DoesF.body _ Tryd.func38 rfl rfl rfl rfl ?_
    refine KW.lenT 0 t rfl fun hn => ?_
    refine KW.open 0 t rfl ?_
    rw [leftT_eq]
    refine KW.goIf lay_ok T_ok 100 rfl (by simp [inK]; omega) rfl trivial (fun h => ?_) fun h => ?_
    · have h1 : 100 < depth ∨ 10 < t.n := by simp at h; omega
      rw [if_pos h1]
      exact KW.goRet lay_ok T_ok 100 rfl rfl rfl (by simp) trivial
    · have h1 : ¬ (100 < depth ∨ 10 < t.n) := by simp at h; omega
      rw [if_neg h1]
      have hG : ∀ q, q ≤ t.n → -1 ≤ fwL (fun i m => leftT (t.k i) m (depth + 1)) (most - 1) q ∧ fwL (fun i m => leftT (t.k i) m (depth + 1)) (most - 1) q ≤ most - 1 := fun q hq => fwL_rng (fun i hi m' hm' => leftT_rng (t.k i) m' (depth + 1) hm') (by omega)
      have hS : ∀ q, fwL (fun i m => leftT (t.k i) m (depth + 1)) (most - 1) (q + 1) = if fwL (fun i m => leftT (t.k i) m (depth + 1)) (most - 1) q < 0 then -1 else leftT (t.k q) (fwL (fun i m => leftT (t.k i) m (depth + 1)) (most - 1) q) (depth + 1) := fun q => rfl
      have hN : ∀ q, q < t.n → fwL (fun i m => leftT (t.k i) m (depth + 1)) (most - 1) q < 0 → fwL (fun i m => leftT (t.k i) m (depth + 1)) (most - 1) t.n = -1 := fun q hq h => fwL_neg h hq
      have h0 : fwL (fun i m => leftT (t.k i) m (depth + 1)) (most - 1) 0 = most - 1 := rfl
      generalize fwL (fun i m => leftT (t.k i) m (depth + 1)) (most - 1) = V at *
      refine KW.goLpR lay_ok T_ok 100 rfl (I := fun q : Nat => ⟨Tryd.f38.ntmps, [(1, sI (V q)), (2, sI depth), (20, .e (.c t.ksx)), (21, sI t.n), (22, sI q)], []⟩)
        (R := fun q => q ≤ t.n) (m := fun q => t.n - q) 0 [] rfl rfl ⟨by rw [h0]; rfl, rfl, rfl, rfl, rfl, trivial⟩ (by simp) (Nat.zero_le _) trivial ?_
      rintro q hq
      refine KW.goIf lay_ok T_ok 100 rfl (by simp) rfl trivial (fun h => ?_) fun h => ?_
      · have hq : q < t.n := by simpa using h
        refine KW.goIf lay_ok T_ok 100 rfl (by simp; omega) rfl trivial (fun h => ?_) fun h => ?_
        · have h2 : V q < 0 := by simpa using h
          refine KW.goOutR lay_ok T_ok 100 rfl (by simp) ?_
          refine KW.goRet lay_ok T_ok 100 rfl rfl ?_ (by simp) trivial
          rw [hN q hq h2]; rfl
        · have h2 : ¬ V q < 0 := by simpa using h
          have := hG q (by omega)
          refine KW.goToR lay_ok T_ok 100 rfl (q + 1) [] rfl rfl ⟨?_, rfl, rfl, rfl, rfl, trivial⟩ ?_ ⟨by omega, by omega⟩ trivial
          · rw [hS, if_neg h2]
            simp only [Int.toNat_natCast, Nat.zero_add, Tr.cell_1, unTr_cells]; rfl
          · simp only [Int.toNat_natCast, Nat.zero_add, Tr.cell_1, unTr_cells, isKs_ks, true_and, and_true, inK]
            exact ⟨⟨by omega, ⟨q, hq, rfl⟩, by omega⟩, by omega⟩
      · have hq : q = t.n := by simp at h; omega
        subst hq
        refine KW.goOut lay_ok T_ok 100 rfl (by simp) ?_
        exact KW.goRet lay_ok T_ok 100 rfl rfl rfl (by simp) trivial
def U4 : Fns := (15, fTT (fun a b => sB (sameT a b)) fun _ _ => True) ::
  (38, fTII (fun t m d => sI (leftT t m d)) fun t m d => 0 ≤ m ∧ m ≤ 4096 ∧ 0 ≤ d ∧ d ≤ 101) ::
  (28, fTI (fun t v => .tup [iV (splS t v).1, iV (splS t v).2.1, iV (splS t v).2.2, eV (splE t v)]) fun _ _ => True) ::
  (31, fTI (fun t v => .tup [iV (splS t v).1, iV (splS t v).2.1, iV (splS t v).2.2, iV (splE t v)]) fun _ _ => True) ::
  (20, fTI (fun t v => .tup [trV (splM t v), eV (splE t v)]) fun _ _ => True) ::
  (32, fTI (fun t v => .tup [trV (splM t v), iV (splE t v)]) fun _ _ => True) ::
  U3
theorem U4_ok : FnsOk Tryd.prog U4 := .cons (.cons (.cons (.cons (.cons (.cons (U3_ok) Tryd.func32 rfl rfl (fTI_ok fun t v _ => rmergeX_does t v)) Tryd.func20 rfl rfl (fTI_ok fun t v _ => mergeX_does t v)) Tryd.func31 rfl rfl (fTI_ok fun t v _ => rsizeX_does t v)) Tryd.func28 rfl rfl (fTI_ok fun t v _ => sizeX_does t v)) Tryd.func38 rfl rfl (fTII_ok fun t m d h => left_does t m d h.1 h.2.1 h.2.2.1 h.2.2.2)) Tryd.func15 rfl rfl (fTT_ok fun a b _ => same_does a b)


theorem few_does (t : Tr) (m : Int) (h0 : 0 ≤ m) (h1 : m ≤ 4096) : DoesF Tryd.prog 16 [trV t, iV m] [] (sB (fwB t m)) [] := by
  refine DoesF.body _ Tryd.func16 rfl rfl rfl rfl ?_
  refine KW.goRet lay_ok U4_ok 100 rfl rfl ?_ (by simp; omega) trivial
  simp only [unTr_cells]; rfl
end Go.Proofs.YtpkjbchplkfmhaaDoor
