/-
  split.Check, Size, Merge, Same and the reference's: contracts.
-/
import Derived.Test.YtpkjbchplkfmhaaDoorFnC
import Derived.Test.YtpkjbchplkfmhaaDoorTrD
import Derived.Test.YtpkjbchplkfmhaaDoorSyX
set_option linter.unusedSectionVars false
set_option linter.unusedVariables false
set_option linter.unusedSimpArgs false
namespace Go.Sy
open Go.Pu
variable [Drw]
def leavesC (xs : List LeafP) : CV := rows 3 leafC leaf0 xs
end Go.Sy
namespace Go.Proofs.YtpkjbchplkfmhaaDoor
open Go.Sy Go.Pu
variable [Drw]
abbrev ckR (c vars : Int) (b : Nat) : List (Nat × Res) := [(0, .box 99 [iV c, iV vars] (some b))]
theorem node_does (vars : Int) (h24 : vars ≤ 24) (t : Tr) : ∀ (a c : Int) (b : Nat), 0 ≤ c → c ≤ 4096 → DoesF Tryd.prog 53 [.r 0, trV t, iV a] (ckR c vars b) (.e (eV (chkT vars t a c).2)) (ckR (chkT vars t a c).1 vars b) := by
  induction t using Tr.ind with
  | h t ih =>
    intro a c b h0 h1
    rw [chkT_eq]
    refine DoesF.body _ Tryd.func53 rfl rfl rfl rfl ?_
    refine KW.open 1 t rfl ?_
    refine KW.goIf lay_ok T9_ok 100 rfl (by simp [inK]; omega) rfl trivial (fun h => ?_) fun h => ?_
    · have hc : 4096 < c + 1 := by simpa using h
      have e : (if t.n = 2 then chkTN vars t (chkT vars (t.k 0)) (chkT vars (t.k 1)) else chkTL t) a c = (c + 1, 4) := by
        split <;> simp [chkTN, chkTL, hc]
      rw [e]
      exact KW.goRetR lay_ok T9_ok 100 rfl [(0, 0)] rfl rfl rfl (by simp) (by exact ⟨rfl, trivial⟩)
    have hc : ¬ 4096 < c + 1 := by simpa using h
    refine KW.goIf lay_ok T9_ok 100 rfl (by simp) rfl trivial (fun h => ?_) fun h => ?_
    · have h2 : t.n ≠ 0 ∧ t.n ≠ 2 := by simp at h; omega
      rw [if_neg h2.2, show chkTL t a c = (c + 1, 11) by simp [chkTL, hc, h2.1]]
      exact KW.goRetR lay_ok T9_ok 100 rfl [(0, 0)] rfl rfl rfl (by simp) (by exact ⟨rfl, trivial⟩)
    have h2 : t.n = 0 ∨ t.n = 2 := by simp at h; omega
    refine KW.goIf lay_ok T9_ok 100 rfl (by simp) rfl trivial (fun h => ?_) fun h => ?_
    · have h3 : t.n = 0 := by simpa using h
      rw [if_neg (by omega)]
      refine KW.goIf lay_ok T9_ok 100 rfl (by simp) rfl trivial (fun h => ?_) fun h => ?_
      · have h4 : t.v ≠ 0 := by simpa using h
        rw [show chkTL t a c = (c + 1, 2) by simp [chkTL, hc, h3, h4]]
        exact KW.goRetR lay_ok T9_ok 100 rfl [(0, 0)] rfl rfl rfl (by simp) (by exact ⟨rfl, trivial⟩)
      · have h4 : t.v = 0 := by simpa using h
        rw [show chkTL t a c = (c + 1, 0) by simp [chkTL, hc, h3, h4]]
        exact KW.goRetR lay_ok T9_ok 100 rfl [(0, 0)] rfl rfl rfl (by simp) (by exact ⟨rfl, trivial⟩)
    have h3 : t.n = 2 := by simp at h; omega
    rw [if_pos h3]
    unfold chkTN
    rw [if_neg hc]
    refine KW.goD lay_ok T9_ok rfl 100 rfl (by decide +kernel) rfl (by simp) (by simp) ?_
    refine KW.goIf lay_ok T9_ok 100 rfl (by simp) rfl trivial (fun h => ?_) fun h => ?_
    · have h4 : t.v < 0 ∨ vars ≤ t.v := by simp at h; omega
      rw [if_pos h4]
      exact KW.goRetR lay_ok T9_ok 100 rfl [(0, 0)] rfl rfl rfl (by simp) (by exact ⟨rfl, trivial⟩)
    have h4 : ¬ (t.v < 0 ∨ vars ≤ t.v) := by simp at h; omega
    rw [if_neg h4]
    refine KW.goIf lay_ok T9_ok 100 rfl (by simp [bitsI]; omega) rfl trivial (fun h => ?_) fun h => ?_
    · have h5 : bitB a t.v = true := h
      rw [if_pos h5]
      exact KW.goRetR lay_ok T9_ok 100 rfl [(0, 0)] rfl rfl rfl (by simp) (by exact ⟨rfl, trivial⟩)
    have h5 : ¬ bitB a t.v = true := by rw [show bitB a t.v = false from h]; decide
    rw [if_neg h5]
    refine KW.goIf lay_ok T9_ok 100 rfl (by simp) rfl trivial (fun h => ?_) fun h => ?_
    · have h6 : t.r ≠ 0 := by simpa using h
      rw [if_pos h6]
      exact KW.goRetR lay_ok T9_ok 100 rfl [(0, 0)] rfl rfl rfl (by simp) (by exact ⟨rfl, trivial⟩)
    have h6 : ¬ t.r ≠ 0 := by simpa using h
    rw [if_neg h6]
    have ih0 := ih 0 (by omega) (ior .i64 a (ishl 1 t.v))
    have ih1 := ih 1 (by omega) (ior .i64 a (ishl 1 t.v))
    have l0 := chkT_lt vars (t.k 0) (ior .i64 a (ishl 1 t.v)) (c + 1) (by omega)
    have one := shl_rng24 (v := t.v) (by omega) (by omega)
    generalize hX : chkT vars (t.k 0) (ior .i64 a (ishl 1 t.v)) (c + 1) = X at *
    refine KW.goLpR lay_ok T9_ok 100 rfl (I := fun q : Nat × Int => ⟨Tryd.f53.ntmps, [(0, .e (.r 0)), (2, sI a), (4, .e (.r 4)), (73, .e (.c t.ksx)), (74, sI t.n), (75, sI q.1)], [(0, .box 99 [iV q.2, iV vars] (some b)), (4, .box 25 [iV t.v, .c t.ksx, iV t.r] none)]⟩)
      (R := fun q => (q.1 = 0 ∧ q.2 = c + 1) ∨ (q.1 = 1 ∧ X.2 = 0 ∧ q.2 = X.1) ∨ (q.1 = 2 ∧ X.2 = 0 ∧ chkT vars (t.k 1) (ior .i64 a (ishl 1 t.v)) X.1 = (q.2, 0))) (m := fun q => 2 - q.1) (0, c + 1) [(0, 0), (4, 4)] rfl rfl ⟨rfl, rfl, rfl, rfl, rfl, rfl, trivial⟩ (by simp) (.inl ⟨rfl, rfl⟩) (by exact ⟨rfl, rfl, trivial⟩) ?_
    rintro ⟨q, d⟩ hq
    simp only at hq
    refine KW.goIf lay_ok T9_ok 100 rfl (by simp) rfl trivial (fun h => ?_) fun h => ?_
    · have hq2 : q < 2 := by rw [h3] at h; simp at h; omega
      have hck : (q = 0 ∧ d = c + 1) ∨ (q = 1 ∧ X.2 = 0 ∧ d = X.1) := by omega
      have hd : 0 ≤ d ∧ d ≤ 4096 := by rcases hck with ⟨_, e⟩ | ⟨_, e, e'⟩ <;> omega
      have hk : ∃ i, i < t.n ∧ q = i := ⟨q, by omega, rfl⟩
      refine KW.goDS lay_ok T9_ok rfl 100 rfl 7 rfl (by decide +kernel) (by decide +kernel) rfl (by simp; omega) (by simp [inK, bitsI]; omega) ?_
      rcases hck with ⟨rfl, rfl⟩ | ⟨rfl, hX0, rfl⟩
      · have D := ih0 (c + 1) b (by omega) (by omega)
        rw [hX] at D
        refine KW.call0 D (enters Tryd.func53 rfl rfl) [(0, 0)] [(0, 0)] [] (.inl rfl) rfl rfl rfl rfl rfl trivial
          ⟨⟨_, _, rfl, trivial, (show Mt _ _ _ (EV.ren [(0, 0)] (.r 0)) (.r 0) from .same)⟩, ⟨_, _, rfl, trivial, (show Mt _ _ _ (EV.ren [(0, 0)] (trV (t.k 0))) (trV (t.k 0)) from .same)⟩, ⟨_, _, rfl, trivial, .conv (CVEq.refl _)⟩, trivial⟩ rfl ⟨rfl, trivial⟩ rfl ⟨.inr ⟨rfl, .inr ⟨_, _, _, _, b, rfl, rfl⟩⟩, trivial⟩ rfl rfl (.inl rfl) ?_
        refine KW.goIf lay_ok T9_ok 100 rfl (by simp) rfl trivial (fun h => ?_) fun h => ?_
        · have h7 : X.2 ≠ 0 := by simpa using h
          rw [if_pos h7]
          refine KW.goOutR lay_ok T9_ok 100 rfl (by simp) ?_
          exact KW.goRetR lay_ok T9_ok 100 rfl [(0, 0)] rfl rfl rfl (by simp) (by exact ⟨rfl, trivial⟩)
        · have h7 : X.2 = 0 := by simpa using h
          exact KW.goToR lay_ok T9_ok 100 rfl (1, X.1) [(0, 0), (4, 4)] rfl rfl ⟨rfl, rfl, rfl, rfl, rfl, rfl, trivial⟩ (by simp [inK]) ⟨.inr (.inl ⟨rfl, h7, rfl⟩), by simp only; omega⟩ ⟨rfl, rfl, trivial⟩
      · have D := ih1 X.1 b (by omega) (by omega)
        have l1 := chkT_lt vars (t.k 1) (ior .i64 a (ishl 1 t.v)) X.1 (by omega)
        rw [if_neg (fun e => e hX0)]
        generalize hY : chkT vars (t.k 1) (ior .i64 a (ishl 1 t.v)) X.1 = Y at *
        refine KW.call0 D (enters Tryd.func53 rfl rfl) [(0, 0)] [(0, 0)] [] (.inl rfl) rfl rfl rfl rfl rfl trivial
          ⟨⟨_, _, rfl, trivial, (show Mt _ _ _ (EV.ren [(0, 0)] (.r 0)) (.r 0) from .same)⟩, ⟨_, _, rfl, trivial, (show Mt _ _ _ (EV.ren [(0, 0)] (trV (t.k 1))) (trV (t.k 1)) from .same)⟩, ⟨_, _, rfl, trivial, .conv (CVEq.refl _)⟩, trivial⟩ rfl ⟨rfl, trivial⟩ rfl ⟨.inr ⟨rfl, .inr ⟨_, _, _, _, b, rfl, rfl⟩⟩, trivial⟩ rfl rfl (.inl rfl) ?_
        refine KW.goIf lay_ok T9_ok 100 rfl (by simp) rfl trivial (fun h => ?_) fun h => ?_
        · have h7 : Y.2 ≠ 0 := by simpa using h
          refine KW.goOutR lay_ok T9_ok 100 rfl (by simp) ?_
          exact KW.goRetR lay_ok T9_ok 100 rfl [(0, 0)] rfl rfl rfl (by simp) (by exact ⟨rfl, trivial⟩)
        · have h7 : Y.2 = 0 := by simpa using h
          exact KW.goToR lay_ok T9_ok 100 rfl (2, Y.1) [(0, 0), (4, 4)] rfl rfl ⟨rfl, rfl, rfl, rfl, rfl, rfl, trivial⟩ (by simp [inK]) ⟨.inr (.inr ⟨rfl, hX0, Prod.ext rfl h7⟩), by simp only; omega⟩ ⟨rfl, rfl, trivial⟩
    · have hq2 : 2 ≤ q := by rw [h3] at h; simp at h; omega
      obtain ⟨rfl, hX0, hY⟩ : q = 2 ∧ X.2 = 0 ∧ chkT vars (t.k 1) (ior .i64 a (ishl 1 t.v)) X.1 = (d, 0) := by
        rcases hq with hq | hq | hq
        · omega
        · omega
        · exact hq
      rw [if_neg (fun e => e hX0), hY]
      refine KW.goOut lay_ok T9_ok 100 rfl (by simp) ?_
      exact KW.goRetR lay_ok T9_ok 100 rfl [(0, 0)] rfl rfl rfl (by simp) (by exact ⟨rfl, trivial⟩)

theorem check_does (t : Tr) (vars : Int) : DoesF Tryd.prog 35 [trV t, iV vars] [] (.e (eV (splE t vars))) [] := by
  refine DoesF.body _ Tryd.func35 rfl rfl rfl rfl ?_
  unfold splE
  refine KW.goIf lay_ok T9_ok 100 rfl (by simp) rfl trivial (fun h => ?_) fun h => ?_
  · have h1 : vars < 0 ∨ 24 < vars := by simp at h; omega
    rw [if_pos h1]
    exact KW.goRet lay_ok T9_ok 100 rfl rfl rfl (by simp) trivial
  · have h1 : ¬ (vars < 0 ∨ 24 < vars) := by simp at h; omega
    rw [if_neg h1]
    refine KW.go lay_ok T9_ok 100 rfl (by simp) ?_
    refine KW.name 5 rfl fun b => ?_
    refine KW.call0 (node_does vars (by omega) t 0 0 b (by omega) (by omega)) (enters Tryd.func53 rfl rfl) [(0, 5)] [(0, 5)] [] (.inl rfl) rfl rfl rfl rfl rfl trivial
      ⟨⟨_, _, rfl, trivial, (show Mt _ _ _ (EV.ren [(0, 5)] (.r 0)) (.r 0) from .same)⟩, ⟨_, _, rfl, trivial, (show Mt _ _ _ (EV.ren [(0, 5)] (trV t)) (trV t) from .same)⟩, ⟨_, _, rfl, trivial, .conv (CVEq.refl _)⟩, trivial⟩ rfl ⟨rfl, trivial⟩ rfl ⟨.inr ⟨rfl, .inr ⟨_, _, _, _, b, rfl, rfl⟩⟩, trivial⟩ rfl rfl (.inl rfl) ?_
    exact KW.goRet lay_ok T9_ok 100 rfl rfl rfl (by simp) trivial

/-! the reference's -/
theorem walk_does (vars : Int) (h24 : vars ≤ 24) (t : Tr) : ∀ (a c : Int), 0 ≤ c → c ≤ 4096 → DoesF Tryd.prog 39 [trV t, iV vars, iV a, iV c] [] (.tup [iV (chkT vars t a c).1, iV (chkT vars t a c).2]) [] := by
  induction t using Tr.ind with
  | h t ih =>
    intro a c h0 h1
    have T_ok : FnsOk Tryd.prog ((39, fTIII (fun t' v' a' c' => .tup [iV (chkT vars t' a' c').1, iV (chkT vars t' a' c').2]) fun t' v' a' c' => (∃ i, i < t.n ∧ t' = t.k i) ∧ v' = vars ∧ 0 ≤ c' ∧ c' ≤ 4096) :: T9) :=
      .cons T9_ok Tryd.func39 rfl rfl (fTIII_ok fun t' v' a' c' h => by
        obtain ⟨⟨i, hi, rfl⟩, rfl, h3, h4⟩ := h
        exact ih i hi a' c' h3 h4)
    rw [chkT_eq]
    refine DoesF.body _ Tryd.func39 rfl rfl rfl rfl ?_
    refine KW.open 0 t rfl ?_
    refine KW.goIf lay_ok T_ok 100 rfl (by simp [inK]; omega) rfl trivial (fun h => ?_) fun h => ?_
    · have hc : 4096 < c + 1 := by simpa using h
      have e : (if t.n = 2 then chkTN vars t (chkT vars (t.k 0)) (chkT vars (t.k 1)) else chkTL t) a c = (c + 1, 4) := by
        split <;> simp [chkTN, chkTL, hc]
      rw [e]
      exact KW.goRet lay_ok T_ok 100 rfl rfl rfl (by simp) trivial
    have hc : ¬ 4096 < c + 1 := by simpa using h
    refine KW.goIf lay_ok T_ok 100 rfl (by simp) rfl trivial (fun h => ?_) fun h => ?_
    · have h2 : t.n ≠ 0 ∧ t.n ≠ 2 := by simp at h; omega
      rw [if_neg h2.2, show chkTL t a c = (c + 1, 11) by simp [chkTL, hc, h2.1]]
      exact KW.goRet lay_ok T_ok 100 rfl rfl rfl (by simp) trivial
    have h2 : t.n = 0 ∨ t.n = 2 := by simp at h; omega
    refine KW.goIf lay_ok T_ok 100 rfl (by simp) rfl trivial (fun h => ?_) fun h => ?_
    · have h3 : t.n = 0 := by simpa using h
      rw [if_neg (by omega)]
      refine KW.goIf lay_ok T_ok 100 rfl (by simp) rfl trivial (fun h => ?_) fun h => ?_
      · have h4 : t.v ≠ 0 := by simpa using h
        rw [show chkTL t a c = (c + 1, 2) by simp [chkTL, hc, h3, h4]]
        exact KW.goRet lay_ok T_ok 100 rfl rfl rfl (by simp) trivial
      · have h4 : t.v = 0 := by simpa using h
        rw [show chkTL t a c = (c + 1, 0) by simp [chkTL, hc, h3, h4]]
        exact KW.goRet lay_ok T_ok 100 rfl rfl rfl (by simp) trivial
    have h3 : t.n = 2 := by simp at h; omega
    rw [if_pos h3]
    unfold chkTN
    rw [if_neg hc]
    refine KW.goIf lay_ok T_ok 100 rfl (by simp) rfl trivial (fun h => ?_) fun h => ?_
    · have h4 : t.v < 0 ∨ vars ≤ t.v := by simp at h; omega
      rw [if_pos h4]
      exact KW.goRet lay_ok T_ok 100 rfl rfl rfl (by simp) trivial
    have h4 : ¬ (t.v < 0 ∨ vars ≤ t.v) := by simp at h; omega
    rw [if_neg h4]
    refine KW.goIf lay_ok T_ok 100 rfl (by simp [bitsI]; omega) rfl trivial (fun h => ?_) fun h => ?_
    · have h5 : bitB a t.v = true := h
      rw [if_pos h5]
      exact KW.goRet lay_ok T_ok 100 rfl rfl rfl (by simp) trivial
    have h5 : ¬ bitB a t.v = true := by rw [show bitB a t.v = false from h]; decide
    rw [if_neg h5]
    refine KW.goIf lay_ok T_ok 100 rfl (by simp) rfl trivial (fun h => ?_) fun h => ?_
    · have h6 : t.r ≠ 0 := by simpa using h
      rw [if_pos h6]
      exact KW.goRet lay_ok T_ok 100 rfl rfl rfl (by simp) trivial
    have h6 : ¬ t.r ≠ 0 := by simpa using h
    rw [if_neg h6]
    have l0 := chkT_lt vars (t.k 0) (ior .i64 a (ishl 1 t.v)) (c + 1) (by omega)
    have one := shl_rng24 (v := t.v) (by omega) (by omega)
    generalize hX : chkT vars (t.k 0) (ior .i64 a (ishl 1 t.v)) (c + 1) = X at *
    refine KW.goLpR lay_ok T_ok 100 rfl (I := fun q : Nat × Int => ⟨Tryd.f39.ntmps, [(1, sI vars), (2, sI a), (3, sI q.2), (4, .e (.r 4)), (61, .e (.c t.ksx)), (62, sI t.n), (63, sI q.1)], [(4, .box 25 [iV t.v, .c t.ksx, iV t.r] none)]⟩)
      (R := fun q => (q.1 = 0 ∧ q.2 = c + 1) ∨ (q.1 = 1 ∧ X.2 = 0 ∧ q.2 = X.1) ∨ (q.1 = 2 ∧ X.2 = 0 ∧ chkT vars (t.k 1) (ior .i64 a (ishl 1 t.v)) X.1 = (q.2, 0))) (m := fun q => 2 - q.1) (0, c + 1) [(4, 4)] rfl rfl ⟨rfl, rfl, rfl, rfl, rfl, rfl, rfl, trivial⟩ (by simp) (.inl ⟨rfl, rfl⟩) (by exact ⟨rfl, trivial⟩) ?_
    rintro ⟨q, d⟩ hq
    simp only at hq
    refine KW.goIf lay_ok T_ok 100 rfl (by simp) rfl trivial (fun h => ?_) fun h => ?_
    · have hq2 : q < 2 := by rw [h3] at h; simp at h; omega
      have hck : (q = 0 ∧ d = c + 1) ∨ (q = 1 ∧ X.2 = 0 ∧ d = X.1) := by omega
      have hd : 0 ≤ d ∧ d ≤ 4096 := by rcases hck with ⟨_, e⟩ | ⟨_, e, e'⟩ <;> omega
      have hk : ∃ i, i < t.n ∧ t.k q = t.k i := ⟨q, by omega, rfl⟩
      refine KW.goD lay_ok T_ok rfl 100 rfl (by decide +kernel) rfl (by simp; omega) ?_ ?_
      · simp only [Int.toNat_natCast, Nat.zero_add, Tr.cell_1, unTr_cells, isKs_ks, true_and, and_true, inK, bitsI]
        exact ⟨by omega, hk, by omega⟩
      rcases hck with ⟨rfl, rfl⟩ | ⟨rfl, hX0, rfl⟩
      · simp only [Int.toNat_natCast, Nat.zero_add, Tr.cell_1, unTr_cells, hX]
        refine KW.goIf lay_ok T_ok 100 rfl (by simp) rfl trivial (fun h => ?_) fun h => ?_
        · have h7 : X.2 ≠ 0 := by simpa using h
          rw [if_pos h7]
          refine KW.goOutR lay_ok T_ok 100 rfl (by simp) ?_
          exact KW.goRet lay_ok T_ok 100 rfl rfl rfl (by simp) trivial
        · have h7 : X.2 = 0 := by simpa using h
          exact KW.goToR lay_ok T_ok 100 rfl (1, X.1) [(4, 4)] rfl rfl ⟨rfl, rfl, rfl, rfl, rfl, rfl, rfl, trivial⟩ (by simp [inK]) ⟨.inr (.inl ⟨rfl, h7, rfl⟩), by simp only; omega⟩ ⟨rfl, trivial⟩
      · have l1 := chkT_lt vars (t.k 1) (ior .i64 a (ishl 1 t.v)) X.1 (by omega)
        rw [if_neg (fun e => e hX0)]
        generalize hY : chkT vars (t.k 1) (ior .i64 a (ishl 1 t.v)) X.1 = Y at *
        simp only [Int.toNat_natCast, Nat.zero_add, Tr.cell_1, unTr_cells, hY]
        refine KW.goIf lay_ok T_ok 100 rfl (by simp) rfl trivial (fun h => ?_) fun h => ?_
        · have h7 : Y.2 ≠ 0 := by simpa using h
          refine KW.goOutR lay_ok T_ok 100 rfl (by simp) ?_
          exact KW.goRet lay_ok T_ok 100 rfl rfl rfl (by simp) trivial
        · have h7 : Y.2 = 0 := by simpa using h
          exact KW.goToR lay_ok T_ok 100 rfl (2, Y.1) [(4, 4)] rfl rfl ⟨rfl, rfl, rfl, rfl, rfl, rfl, rfl, trivial⟩ (by simp [inK]) ⟨.inr (.inr ⟨rfl, hX0, Prod.ext rfl h7⟩), by simp only; omega⟩ ⟨rfl, trivial⟩
    · have hq2 : 2 ≤ q := by rw [h3] at h; simp at h; omega
      obtain ⟨rfl, hX0, hY⟩ : q = 2 ∧ X.2 = 0 ∧ chkT vars (t.k 1) (ior .i64 a (ishl 1 t.v)) X.1 = (d, 0) := by
        rcases hq with hq | hq | hq
        · omega
        · omega
        · exact hq
      rw [if_neg (fun e => e hX0), hY]
      refine KW.goOut lay_ok T_ok 100 rfl (by simp) ?_
      exact KW.goRet lay_ok T_ok 100 rfl rfl rfl (by simp) trivial
def U1 : Fns := (35, fTI (fun t v => .e (eV (splE t v))) fun _ _ => True) ::
  (39, fTIII (fun t v a c => .tup [iV (chkT v t a c).1, iV (chkT v t a c).2]) fun t v a c => v ≤ 24 ∧ 0 ≤ c ∧ c ≤ 4096) ::
  T9
theorem U1_ok : FnsOk Tryd.prog U1 := .cons (.cons (T9_ok) Tryd.func39 rfl rfl (fTIII_ok fun t v a c h => walk_does v h.1 t a c h.2.1 h.2.2)) Tryd.func35 rfl rfl (fTI_ok fun t v _ => check_does t v)


theorem rcheck_does (t : Tr) (vars : Int) : DoesF Tryd.prog 17 [trV t, iV vars] [] (sI (splE t vars)) [] := by
  refine DoesF.body _ Tryd.func17 rfl rfl rfl rfl ?_
  unfold splE
  refine KW.goIf lay_ok U1_ok 100 rfl (by simp) rfl trivial (fun h => ?_) fun h => ?_
  · have h1 : vars < 0 ∨ 24 < vars := by simp at h; omega
    rw [if_pos h1]
    exact KW.goRet lay_ok U1_ok 100 rfl rfl rfl (by simp) trivial
  · have h1 : ¬ (vars < 0 ∨ 24 < vars) := by simp at h; omega
    rw [if_neg h1]
    refine KW.goRet lay_ok U1_ok 100 rfl rfl ?_ (by simp; omega) trivial
    simp [SV.ren, EV.ren]
def U2 : Fns := (17, fTI (fun t v => sI (splE t v)) fun _ _ => True) ::
  U1
theorem U2_ok : FnsOk Tryd.prog U2 := .cons (U1_ok) Tryd.func17 rfl rfl (fTI_ok fun t v _ => rcheck_does t v)


end Go.Proofs.YtpkjbchplkfmhaaDoor
