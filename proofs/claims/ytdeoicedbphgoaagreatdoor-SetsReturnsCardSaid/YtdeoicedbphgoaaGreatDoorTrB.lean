/-
  TREES: what layer 19 computes, plainly. No program is named here.
-/
import Derived.Test.YtdeoicedbphgoaaGreatDoorTrA
set_option linter.unusedSectionVars false
set_option linter.unusedVariables false
set_option linter.unusedSimpArgs false
namespace Go.Pu
open Go.Sy
variable [Drw]
/-- a function of a tree out of what it is at a node without two kids, and at one with two -/
def Tr.bin {α : Type} (L : Tr → α) (N : Tr → α → α → α) : Tr → α
  | .nd v r n f => if h : n = 2 then N (.nd v r n f) (Tr.bin L N (f ⟨0, by omega⟩)) (Tr.bin L N (f ⟨1, by omega⟩)) else L (.nd v r n f)
theorem Tr.bin_eq {α : Type} (L : Tr → α) (N : Tr → α → α → α) (t : Tr) : Tr.bin L N t = if t.n = 2 then N t (Tr.bin L N (t.k 0)) (Tr.bin L N (t.k 1)) else L t := by
  cases t with
  | nd v r n f =>
    rw [Tr.bin]
    by_cases h : n = 2
    · subst h; rfl
    · rw [dif_neg h]; exact (if_neg (show ¬ (Tr.nd v r n f).n = 2 from h)).symm
/-! Check: the number of nodes so far, and the error -/
def bitB (a v : Int) : Bool := iand .i64 (ishr a v) 1 == 1
def chkTN (vars : Int) (t : Tr) (x y : Int → Int → Int × Int) (a c : Int) : Int × Int :=
  if 4096 < c + 1 then (c + 1, 4) else if t.v < 0 ∨ vars ≤ t.v then (c + 1, 3) else if bitB a t.v = true then (c + 1, 6) else if t.r ≠ 0 then (c + 1, 2)
  else if (x (ior .i64 a (ishl 1 t.v)) (c + 1)).2 ≠ 0 then x (ior .i64 a (ishl 1 t.v)) (c + 1) else y (ior .i64 a (ishl 1 t.v)) (x (ior .i64 a (ishl 1 t.v)) (c + 1)).1
def chkTL (t : Tr) (a c : Int) : Int × Int := (c + 1, if 4096 < c + 1 then 4 else if t.n ≠ 0 then 11 else if t.v ≠ 0 then 2 else 0)
def chkT (vars : Int) : Tr → Int → Int → Int × Int := Tr.bin chkTL (chkTN vars)
theorem chkT_eq (vars : Int) (t : Tr) : chkT vars t = if t.n = 2 then chkTN vars t (chkT vars (t.k 0)) (chkT vars (t.k 1)) else chkTL t := Tr.bin_eq _ _ t
def splE (t : Tr) (vars : Int) : Int := if vars < 0 ∨ 24 < vars then 3 else (chkT vars t 0 0).2
/-- what a tree without errors is -/
def okT (vars : Int) : Tr → Int → Prop := Tr.bin (fun t _ => t.n = 0 ∧ t.v = 0) fun t x y a => 0 ≤ t.v ∧ t.v < vars ∧ bitB a t.v = false ∧ t.r = 0 ∧ x (ior .i64 a (ishl 1 t.v)) ∧ y (ior .i64 a (ishl 1 t.v))
theorem okT_eq (vars : Int) (t : Tr) (a : Int) : okT vars t a ↔ if t.n = 2 then 0 ≤ t.v ∧ t.v < vars ∧ bitB a t.v = false ∧ t.r = 0 ∧ okT vars (t.k 0) (ior .i64 a (ishl 1 t.v)) ∧ okT vars (t.k 1) (ior .i64 a (ishl 1 t.v)) else t.n = 0 ∧ t.v = 0 := by
  unfold okT
  rw [Tr.bin_eq]
  split <;> rfl
/-- the number of nodes -/
def cntN : Tr → Int := Tr.bin (fun _ => 1) fun _ x y => x + y + 1
theorem cntN_eq (t : Tr) : cntN t = if t.n = 2 then cntN (t.k 0) + cntN (t.k 1) + 1 else 1 := Tr.bin_eq _ _ t
theorem cntN_pos (t : Tr) : 1 ≤ cntN t := by
  induction t using Tr.ind with
  | h t ih =>
    rw [cntN_eq]
    split
    · rename_i h; have := ih 0 (by omega); have := ih 1 (by omega); omega
    · omega
theorem chkT_lt (vars : Int) (t : Tr) : ∀ a c : Int, c ≤ 4096 → c + 1 ≤ (chkT vars t a c).1 ∧ (chkT vars t a c).1 ≤ 4097 ∧ ((chkT vars t a c).2 = 0 → (chkT vars t a c).1 ≤ 4096) := by
  induction t using Tr.ind with
  | h t ih =>
    intro a c hc
    rw [chkT_eq]
    split
    · rename_i h
      unfold chkTN
      have h0 := ih 0 (by omega) (ior .i64 a (ishl 1 t.v)) (c + 1)
      generalize chkT vars (t.k 0) (ior .i64 a (ishl 1 t.v)) (c + 1) = X at *
      have h1 := ih 1 (by omega) (ior .i64 a (ishl 1 t.v)) X.1
      generalize chkT vars (t.k 1) (ior .i64 a (ishl 1 t.v)) X.1 = Y at *
      split
      · exact ⟨by simp only; omega, by simp only; omega, fun h => by simp at h⟩
      split
      · exact ⟨by simp only; omega, by simp only; omega, fun h => by simp at h⟩
      split
      · exact ⟨by simp only; omega, by simp only; omega, fun h => by simp at h⟩
      split
      · exact ⟨by simp only; omega, by simp only; omega, fun h => by simp at h⟩
      have h0 := h0 (by omega)
      split
      · rename_i hx; exact ⟨by omega, h0.2.1, fun h => absurd h hx⟩
      · rename_i hx
        have h1 := h1 (h0.2.2 (by omega))
        exact ⟨by omega, h1.2⟩
    · unfold chkTL
      refine ⟨by simp only; omega, by simp only; omega, fun h => ?_⟩
      simp only at h ⊢
      split at h
      · cases h
      · omega
theorem chkT_ok (vars : Int) (t : Tr) : ∀ a c : Int, (chkT vars t a c).2 = 0 → c ≤ 4096 → okT vars t a ∧ (chkT vars t a c).1 = c + cntN t := by
  induction t using Tr.ind with
  | h t ih =>
    intro a c
    rw [chkT_eq, okT_eq, cntN_eq]
    by_cases h : t.n = 2
    · rw [if_pos h, if_pos h, if_pos h]
      unfold chkTN
      have h0 := ih 0 (by omega) (ior .i64 a (ishl 1 t.v)) (c + 1)
      have l0 := chkT_lt vars (t.k 0) (ior .i64 a (ishl 1 t.v)) (c + 1)
      generalize chkT vars (t.k 0) (ior .i64 a (ishl 1 t.v)) (c + 1) = X at *
      have h1 := ih 1 (by omega) (ior .i64 a (ishl 1 t.v)) X.1
      generalize chkT vars (t.k 1) (ior .i64 a (ishl 1 t.v)) X.1 = Y at *
      split
      · intro h; simp at h
      split
      · intro h; simp at h
      split
      · intro h; simp at h
      split
      · intro h; simp at h
      split
      · rename_i hx; intro h; exact absurd h hx
      · rename_i g1 g2 g3 g4 hx
        intro hy hc
        have l0 := l0 (by omega)
        have h0 := h0 (by omega) (by omega)
        have h1 := h1 hy (l0.2.2 (by omega))
        refine ⟨⟨by omega, by omega, by simpa using g3, by omega, h0.1, h1.1⟩, by omega⟩
    · rw [if_neg h, if_neg h, if_neg h]
      unfold chkTL
      simp only
      intro h1 hc
      refine ⟨?_, trivial⟩
      split at h1
      · cases h1
      split at h1
      · cases h1
      split at h1
      · cases h1
      · omega
theorem chkT_of (vars : Int) (t : Tr) : ∀ a c : Int, okT vars t a → c + cntN t ≤ 4096 → chkT vars t a c = (c + cntN t, 0) := by
  induction t using Tr.ind with
  | h t ih =>
    intro a c
    rw [chkT_eq, okT_eq, cntN_eq]
    by_cases h : t.n = 2
    · rw [if_pos h, if_pos h, if_pos h]
      rintro ⟨g1, g2, g3, g4, g5, g6⟩ hc
      have p0 := cntN_pos (t.k 0)
      have p1 := cntN_pos (t.k 1)
      unfold chkTN
      rw [if_neg (by omega), if_neg (by omega), if_neg (by rw [g3]; decide), if_neg (by omega), ih 0 (by omega) _ _ g5 (by omega)]
      simp only
      rw [if_neg (by omega), ih 1 (by omega) _ _ g6 (by omega)]
      congr 1; omega
    · rw [if_neg h, if_neg h, if_neg h]
      rintro ⟨g1, g2⟩ hc
      unfold chkTL
      rw [if_neg (by omega), if_neg (by omega), if_neg (by omega)]
theorem splE_ok {t : Tr} {vars : Int} (h : splE t vars = 0) : 0 ≤ vars ∧ vars ≤ 24 ∧ okT vars t 0 ∧ cntN t ≤ 4096 := by
  unfold splE at h
  split at h
  · cases h
  · have := chkT_ok vars t 0 0 h (by omega)
    have := (chkT_lt vars t 0 0 (by omega)).2.2 h
    exact ⟨by omega, by omega, (chkT_ok vars t 0 0 h (by omega)).1, by omega⟩
theorem splE_of {t : Tr} {vars : Int} (h0 : 0 ≤ vars) (h1 : vars ≤ 24) (h2 : okT vars t 0) (h3 : cntN t ≤ 4096) : splE t vars = 0 := by
  unfold splE
  rw [if_neg (by omega), chkT_of vars t 0 0 h2 (by omega)]
/-! Leaves -/
structure LeafP where
  yes : Int
  no : Int
  reason : Int
  deriving DecidableEq
def leaf0 : LeafP := ⟨0, 0, 0⟩
def leafC (x : LeafP) (q : Nat) : CV := match q with
  | 0 => .lit (.int .i64 x.yes)
  | 1 => .lit (.int .i64 x.no)
  | _ => .lit (.int .i64 x.reason)
def leafL (x : LeafP) : List CV := [.lit (.int .i64 x.yes), .lit (.int .i64 x.no), .lit (.int .i64 x.reason)]
def lvs : Tr → Int → Int → List LeafP := Tr.bin (fun t yes no => [⟨yes, no, t.r⟩]) fun t x y yes no => x yes (ior .i64 no (ishl 1 t.v)) ++ y (ior .i64 yes (ishl 1 t.v)) no
theorem lvs_eq (t : Tr) (yes no : Int) : lvs t yes no = if t.n = 2 then lvs (t.k 0) yes (ior .i64 no (ishl 1 t.v)) ++ lvs (t.k 1) (ior .i64 yes (ishl 1 t.v)) no else [⟨yes, no, t.r⟩] := by
  unfold lvs; rw [Tr.bin_eq]; split <;> rfl
/-! Size -/
def szT : Tr → Int × Int × Int := Tr.bin (fun _ => (1, 1, 0)) fun _ x y => (x.1 + y.1 + 1, x.2.1 + y.2.1, max x.2.2 y.2.2 + 1)
theorem szT_eq (t : Tr) : szT t = if t.n = 2 then ((szT (t.k 0)).1 + (szT (t.k 1)).1 + 1, (szT (t.k 0)).2.1 + (szT (t.k 1)).2.1, max (szT (t.k 0)).2.2 (szT (t.k 1)).2.2 + 1) else (1, 1, 0) := Tr.bin_eq _ _ t
theorem szT_rng (t : Tr) : (szT t).1 = cntN t ∧ 1 ≤ (szT t).2.1 ∧ (szT t).2.1 ≤ cntN t ∧ 0 ≤ (szT t).2.2 ∧ (szT t).2.2 < cntN t := by
  induction t using Tr.ind with
  | h t ih =>
    rw [szT_eq, cntN_eq]
    split
    · rename_i h
      have := ih 0 (by omega); have := ih 1 (by omega)
      refine ⟨by simp only; omega, by simp only; omega, by simp only; omega, by simp only; omega, by simp only; omega⟩
    · simp
/-! Merge -/
def mrgN (t a b : Tr) : Tr := if a.n = 0 ∧ b.n = 0 ∧ a.r = b.r then a else Tr.two t.v a b
def mrg : Tr → Tr := Tr.bin (fun t => Tr.lf t.r) mrgN
theorem mrg_eq (t : Tr) : mrg t = if t.n = 2 then mrgN t (mrg (t.k 0)) (mrg (t.k 1)) else Tr.lf t.r := Tr.bin_eq _ _ t
/-! Swap -/
def swp (by_ : Tr) : Tr → Int → Tr × Int := Tr.bin (fun t i => (if i = 0 then by_ else Tr.lf t.r, 1)) fun t x y i => (Tr.two t.v (x i).1 (y (i - (x i).2)).1, (x i).2 + (y (i - (x i).2)).2)
theorem swp_eq (b t : Tr) (i : Int) : swp b t i = if t.n = 2 then (Tr.two t.v (swp b (t.k 0) i).1 (swp b (t.k 1) (i - (swp b (t.k 0) i).2)).1, (swp b (t.k 0) i).2 + (swp b (t.k 1) (i - (swp b (t.k 0) i).2)).2) else (if i = 0 then b else Tr.lf t.r, 1) := by
  unfold swp; rw [Tr.bin_eq]; split <;> rfl
theorem swp_n (b t : Tr) : ∀ i : Int, (swp b t i).2 = (szT t).2.1 := by
  induction t using Tr.ind with
  | h t ih =>
    intro i
    rw [swp_eq, szT_eq]
    split
    · rename_i h
      simp only
      rw [ih 0 (by omega), ih 1 (by omega)]
    · rfl
/-! Full -/
def fullT : List Int → Int → Tr
  | [], first => Tr.lf first
  | v :: r, first => Tr.two v (fullT r first) (fullT r (first + ((2 ^ r.length : Nat) : Int)))
def seenE (vars : Int) : List Int → Int → Int
  | [], _ => 0
  | i :: r, s => if i < 0 ∨ vars ≤ i then 3 else if bitB s i = true then 6 else seenE vars r (ior .i64 s (ishl 1 i))
def fullE (vars : Int) (ev : List Int) : Int := if vars < 0 ∨ 24 < vars then 3 else if seenE vars ev 0 = 0 then if 11 < ev.length then 4 else 0 else seenE vars ev 0
def fullV (vars : Int) (ev : List Int) : Tr := if fullE vars ev = 0 then fullT ev 0 else .no
/-! Few: how many of a number of nodes are left -/
def fwL (g : Nat → Int → Int) (m : Int) : Nat → Int
  | 0 => m
  | i + 1 => if fwL g m i < 0 then -1 else g i (fwL g m i)
def leftT : Tr → Int → Int → Int
  | .nd v r n f => fun most depth => if 100 < depth ∨ 10 < n then -1 else fwL (fun i m => if h : i < n then leftT (f ⟨i, h⟩) m (depth + 1) else m) (most - 1) n
theorem fwL_congr {g g' : Nat → Int → Int} (m : Int) : ∀ i : Nat, (∀ j, j < i → ∀ m, g j m = g' j m) → fwL g m i = fwL g' m i
  | 0, _ => rfl
  | i + 1, h => by rw [fwL, fwL, fwL_congr m i fun j hj => h j (by omega), h i (by omega)]
theorem leftT_eq (t : Tr) (most depth : Int) : leftT t most depth = if 100 < depth ∨ 10 < t.n then -1 else fwL (fun i m => leftT (t.k i) m (depth + 1)) (most - 1) t.n := by
  cases t with
  | nd v r n f =>
    rw [leftT]
    show (if 100 < depth ∨ 10 < n then (-1 : Int) else _) = if 100 < depth ∨ 10 < n then (-1 : Int) else _
    split
    · rfl
    · refine fwL_congr _ _ fun j hj m => ?_
      rw [dif_pos hj]
      show _ = leftT (if h : j < n then f ⟨j, h⟩ else Tr.no) m (depth + 1)
      rw [dif_pos hj]
theorem fwL_rng {g : Nat → Int → Int} {m : Int} : ∀ {n : Nat}, (∀ i, i < n → ∀ m', 0 ≤ m' → -1 ≤ g i m' ∧ g i m' < m') → -1 ≤ m → -1 ≤ fwL g m n ∧ fwL g m n ≤ m
  | 0, _, hm => ⟨by rw [fwL]; omega, by rw [fwL]; omega⟩
  | n + 1, h, hm => by
    have ih := fwL_rng (g := g) (m := m) (n := n) (fun i hi => h i (by omega)) hm
    rw [fwL]
    split
    · omega
    · have := h n (by omega) (fwL g m n) (by omega)
      omega
theorem fwL_neg {g : Nat → Int → Int} {m : Int} {q : Nat} (h : fwL g m q < 0) : ∀ {n : Nat}, q < n → fwL g m n = -1
  | 0, hq => absurd hq (Nat.not_lt_zero _)
  | n + 1, hq => by
    rw [fwL]
    by_cases e : q = n
    · subst e; rw [if_pos h]
    · rw [fwL_neg h (n := n) (by omega), if_pos (by decide)]
theorem leftT_rng (t : Tr) : ∀ m d : Int, 0 ≤ m → -1 ≤ leftT t m d ∧ leftT t m d < m := by
  induction t using Tr.ind with
  | h t ih =>
    intro m d hm
    rw [leftT_eq]
    split
    · omega
    · have := fwL_rng (g := fun i m => leftT (t.k i) m (d + 1)) (m := m - 1) (n := t.n) (fun i hi m' hm' => ih i hi m' (d + 1) hm') (by omega)
      omega
def fwB (t : Tr) (most : Int) : Bool := decide (0 ≤ leftT t most 0)
end Go.Pu
