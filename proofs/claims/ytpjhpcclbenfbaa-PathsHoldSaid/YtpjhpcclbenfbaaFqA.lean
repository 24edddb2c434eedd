/-
  FqA, FqB, FqC, FqD, one text.
-/
import Derived.Test.YtpjhpcclbenfbaaFpD
import Derived.Test.YtpjhpcclbenfbaaFnP
import Derived.Test.YtpjhpcclbenfbaaPuP
set_option linter.unusedVariables false
set_option linter.unusedSimpArgs false
/-
  Path sets of a node: or, and, votes.
-/
namespace Go.Proofs.Ytpjhpcclbenfbaa
open Go.Sy Go.Pu

theorem plusP_does (a b : List Int) : DoesF Try.prog 143 [lV a, lV b] [] (.tup [lV (plusP a b).1, eV (plusP a b).2]) [] := by
  have := plus_does a b
  unfold plusP
  split
  · rename_i h; simpa [h] using this
  · rename_i h; simpa [h] using this
theorem prodP_does (a b : List Int) : DoesF Try.prog 94 [lV a, lV b] [] (.tup [lV (prodP a b).1, eV (prodP a b).2]) [] := by
  have := product_does a b
  unfold prodP
  split
  · rename_i h; simpa [h] using this
  · rename_i h; simpa [h] using this
theorem rplusP_does (a b : List Int) : DoesF Try.prog 115 [lV a, lV b] [] (.tup [lV (plusP a b).1, iV (plusP a b).2]) [] := by
  have := rplus_does a b
  rw [plus_ref]
  split
  · rename_i h; simpa [h] using this
  · rename_i h; simpa [h] using this
theorem rprodP_does (a b : List Int) : DoesF Try.prog 116 [lV a, lV b] [] (.tup [lV (prodP a b).1, iV (prodP a b).2]) [] := by
  have := rproduct_does a b
  rw [prod_ref]
  split
  · rename_i h; simpa [h] using this
  · rename_i h; simpa [h] using this

def J0 : Fns := (143, fLL (fun a b => .tup [lV (plusP a b).1, eV (plusP a b).2]) fun _ _ => True) ::
  (94, fLL (fun a b => .tup [lV (prodP a b).1, eV (prodP a b).2]) fun _ _ => True) ::
  (115, fLL (fun a b => .tup [lV (plusP a b).1, iV (plusP a b).2]) fun _ _ => True) ::
  (116, fLL (fun a b => .tup [lV (prodP a b).1, iV (prodP a b).2]) fun _ _ => True) ::
  T24
theorem J0_ok : FnsOk Try.prog J0 := .cons (.cons (.cons (.cons (T24_ok) Try.func116 rfl rfl (fLL_ok fun a b _ => rprodP_does a b)) Try.func115 rfl rfl (fLL_ok fun a b _ => rplusP_does a b)) Try.func94 rfl rfl (fLL_ok fun a b _ => prodP_does a b)) Try.func143 rfl rfl (fLL_ok fun a b _ => plusP_does a b)


theorem or_does (rows : List (List Int)) : DoesF Try.prog 111 [.c (intss rows)] [] (.tup [lV (foldP prodP rows [0]).1, eV (foldP prodP rows [0]).2]) [] := by
  refine DoesF.body _ Try.func111 rfl rfl rfl rfl ?_
  refine KW.go lay_ok J0_ok 100 rfl (by simp) ?_
  refine KW.frz 8 [8, 4] rfl rfl rfl ?_
  refine KW.len 9 rfl rfl fun hbig => ?_
  refine KW.goLpR lay_ok J0_ok 100 rfl (I := fun q : Nat × List Int => ⟨Try.f111.ntmps, [(4, .e (lV q.2)), (9, .e (.c (intss rows))), (10, sI rows.length), (11, sI q.1)], []⟩)
    (R := fun q => q.1 ≤ rows.length ∧ foldP prodP (rows.drop q.1) q.2 = foldP prodP rows [0]) (m := fun q => rows.length - q.1) (0, [0]) [] rfl rfl ⟨rfl, rfl, rfl, rfl, trivial⟩ (by simp) ⟨Nat.zero_le _, rfl⟩ trivial ?_
  rintro ⟨q, acc⟩ ⟨g1, g2⟩
  simp only at g1 g2
  refine KW.goIf lay_ok J0_ok 100 rfl (by simp) rfl trivial (fun h => ?_) fun h => ?_
  · have hq : q < rows.length := by simpa using h
    have hg : rows.getD (Int.toNat (q : Int)) [] = rows[q] := by simp [List.getD_eq_getElem?_getD, hq]
    rw [List.drop_eq_getElem_cons hq, foldP] at g2
    generalize rows[q] = r at hg g2
    refine KW.goIf lay_ok J0_ok 100 rfl (by simp [hq, ifcV_errV]) rfl trivial (fun h => ?_) fun h => ?_
    · simp only [unI_ints, hg] at h
      have e : ¬ (prodP acc r).2 = 0 := by
        have e : (!isNilB (errV 66 (prodP acc r).2)) = true := h
        simpa using e
      rw [if_neg e] at g2
      refine KW.goOutR lay_ok J0_ok 100 rfl (by simp) ?_
      refine KW.go lay_ok J0_ok 100 rfl (by simp) ?_
      refine KW.conv 2 (ints []) rfl ⟨rfl, rfl⟩ ?_
      simp only [unI_ints, hg]
      rw [← g2]
      exact KW.fin [] rfl rfl rfl trivial
    · simp only [unI_ints, hg] at h
      have e : (prodP acc r).2 = 0 := by
        have e : (!isNilB (errV 66 (prodP acc r).2)) = false := h
        simpa using e
      rw [if_pos e] at g2
      refine KW.goToR lay_ok J0_ok 100 rfl (q + 1, (prodP acc r).1) [] rfl rfl ⟨?_, rfl, rfl, rfl, trivial⟩ (by simp [inK]; omega) ⟨⟨by simp only; omega, g2⟩, by simp only; omega⟩ trivial
      simp only [unI_ints, hg]; rfl
  · have hq : q = rows.length := by simp at h; omega
    rw [hq, List.drop_length] at g2
    refine KW.goOut lay_ok J0_ok 100 rfl (by simp) ?_
    refine KW.goRet lay_ok J0_ok 100 rfl rfl ?_ (by simp) trivial
    rw [← g2]; rfl

theorem and_does (rows : List (List Int)) : DoesF Try.prog 112 [.c (intss rows)] [] (.tup [lV (foldP plusP rows []).1, eV (foldP plusP rows []).2]) [] := by
  refine DoesF.body _ Try.func112 rfl rfl rfl rfl ?_
  refine KW.go lay_ok J0_ok 100 rfl (by simp) ?_
  refine KW.conv 4 (ints []) rfl ⟨rfl, rfl⟩ ?_
  refine KW.len 8 rfl rfl fun hbig => ?_
  refine KW.goLpR lay_ok J0_ok 100 rfl (I := fun q : Nat × List Int => ⟨Try.f112.ntmps, [(4, .e (lV q.2)), (8, .e (.c (intss rows))), (9, sI rows.length), (10, sI q.1)], []⟩)
    (R := fun q => q.1 ≤ rows.length ∧ foldP plusP (rows.drop q.1) q.2 = foldP plusP rows []) (m := fun q => rows.length - q.1) (0, []) [] rfl rfl ⟨rfl, rfl, rfl, rfl, trivial⟩ (by simp) ⟨Nat.zero_le _, rfl⟩ trivial ?_
  rintro ⟨q, acc⟩ ⟨g1, g2⟩
  simp only at g1 g2
  refine KW.goIf lay_ok J0_ok 100 rfl (by simp) rfl trivial (fun h => ?_) fun h => ?_
  · have hq : q < rows.length := by simpa using h
    have hg : rows.getD (Int.toNat (q : Int)) [] = rows[q] := by simp [List.getD_eq_getElem?_getD, hq]
    rw [List.drop_eq_getElem_cons hq, foldP] at g2
    generalize rows[q] = r at hg g2
    refine KW.goIf lay_ok J0_ok 100 rfl (by simp [hq, ifcV_errV]) rfl trivial (fun h => ?_) fun h => ?_
    · simp only [unI_ints, hg] at h
      have e : ¬ (plusP acc r).2 = 0 := by
        have e : (!isNilB (errV 66 (plusP acc r).2)) = true := h
        simpa using e
      rw [if_neg e] at g2
      refine KW.goOutR lay_ok J0_ok 100 rfl (by simp) ?_
      refine KW.go lay_ok J0_ok 100 rfl (by simp) ?_
      refine KW.conv 2 (ints []) rfl ⟨rfl, rfl⟩ ?_
      simp only [unI_ints, hg]
      rw [← g2]
      exact KW.fin [] rfl rfl rfl trivial
    · simp only [unI_ints, hg] at h
      have e : (plusP acc r).2 = 0 := by
        have e : (!isNilB (errV 66 (plusP acc r).2)) = false := h
        simpa using e
      rw [if_pos e] at g2
      refine KW.goToR lay_ok J0_ok 100 rfl (q + 1, (plusP acc r).1) [] rfl rfl ⟨?_, rfl, rfl, rfl, trivial⟩ (by simp [inK]; omega) ⟨⟨by simp only; omega, g2⟩, by simp only; omega⟩ trivial
      simp only [unI_ints, hg]; rfl
  · have hq : q = rows.length := by simp at h; omega
    rw [hq, List.drop_length] at g2
    refine KW.goOut lay_ok J0_ok 100 rfl (by simp) ?_
    refine KW.goRet lay_ok J0_ok 100 rfl rfl ?_ (by simp) trivial
    rw [← g2]; rfl
end Go.Proofs.Ytpjhpcclbenfbaa

/-
  Path sets of a node: votes.
-/
namespace Go.Proofs.Ytpjhpcclbenfbaa
open Go.Sy Go.Pu
/-- a row of lists that grows and changes -/
abbrev lsC (l : List (List Int)) : CV := rows 1 (fun x _ => ints x) [] l
theorem vote_does (rws : List (List Int)) (k : Nat) (hk : k ≤ 1000) : DoesF Try.prog 113 [.c (intss rws), iV k] [] (.tup [lV (voteP rws k).1, eV (voteP rws k).2]) [] := by
  refine DoesF.body _ Try.func113 rfl rfl rfl rfl ?_
  refine KW.go lay_ok J0_ok 100 rfl (by simp [inK]; omega) ?_
  refine KW.frz 16 [16] rfl rfl rfl ?_
  refine KW.convR 14 (lsC (List.replicate (k + 1) [])) rfl (g := fun e q => ints ((List.replicate (k + 1) ([] : List Int)).getD e [])) ?_ (fun e q he hq => ?_) ?_
  · show rows 1 (fun x _ => ints x) [] (List.replicate (k + 1) []) = _
    rw [rows, List.length_replicate, show Int.toNat ((k : Int) + 1) = k + 1 by omega]
  · have : q = 0 := by omega
    subst this
    have e2 : (List.replicate (k + 1) ([] : List Int)).getD e [] = [] := by
      rw [List.getD_eq_getElem?_getD, List.getElem?_replicate]
      split <;> rfl
    rw [e2]
    exact ⟨rfl, rfl⟩
  refine KW.go lay_ok J0_ok 100 rfl (by simp) ?_
  refine KW.updG 14 [0] rfl rfl (fun q hq => ?_) ?_
  · have : q = 0 := by omega
    subst this
    exact CVEq.refl _
  refine KW.len 18 rfl rfl fun hbig => ?_
  have ht0 : (List.replicate (k + 1) ([] : List Int)).set 0 [0] = tab0 k := rfl
  rw [show Int.toNat (0 : Int) = 0 from rfl, ht0]
  refine KW.goLpR lay_ok J0_ok 100 rfl (I := fun q : Nat × List (List Int) => ⟨Try.f113.ntmps, [(1, sI k), (6, .e (.r 6)), (18, .e (.c (intss rws))), (19, sI rws.length), (20, sI q.1)], [(6, .own 45 (lsC q.2))]⟩)
    (R := fun q => q.1 ≤ rws.length ∧ q.2.length = k + 1 ∧ voteR k (rws.drop q.1) q.2 = voteR k rws (tab0 k)) (m := fun q => rws.length - q.1) (0, tab0 k) [(6, 14)] rfl rfl ⟨rfl, rfl, rfl, rfl, rfl, trivial⟩ (by simp) ⟨Nat.zero_le _, by simp [tab0], rfl⟩ ⟨rfl, trivial⟩ ?_
  rintro ⟨q, tab⟩ ⟨g1, g2, g3⟩
  simp only at g1 g2 g3
  have ev : voteP rws k = if (voteR k rws (tab0 k)).2 = 0 then ((voteR k rws (tab0 k)).1.getD k [], 0) else ([], (voteR k rws (tab0 k)).2) := rfl
  refine KW.goIf lay_ok J0_ok 100 rfl (by simp) rfl trivial (fun h => ?_) fun h => ?_
  · have hq : q < rws.length := by simpa using h
    have hg : rws.getD (Int.toNat (q : Int)) [] = rws[q] := by simp [List.getD_eq_getElem?_getD, hq]
    rw [List.drop_eq_getElem_cons hq, voteR] at g3
    generalize rws[q] = r at hg g3
    refine KW.goLpR lay_ok J0_ok 100 rfl (I := fun p : Nat × List (List Int) => ⟨Try.f113.ntmps, [(1, sI k), (6, .e (.r 6)), (8, .e (lV r)), (9, sI p.1), (18, .e (.c (intss rws))), (19, sI rws.length), (20, sI q)], [(6, .own 45 (lsC p.2))]⟩)
      (R := fun p => p.1 ≤ k ∧ p.2.length = k + 1 ∧ voteJ r p.1 p.2 = voteJ r k tab) (m := fun p => p.1) (k, tab) [(6, 6)] rfl rfl ⟨rfl, rfl, by rw [← hg]; rfl, rfl, rfl, rfl, rfl, trivial⟩ (by simp [hq]) ⟨Nat.le_refl _, g2, rfl⟩ ⟨rfl, trivial⟩ ?_
    rintro ⟨j, tb⟩ ⟨r1, r2, r3⟩
    simp only at r1 r2 r3
    refine KW.goIf lay_ok J0_ok 100 rfl (by simp) rfl trivial (fun h => ?_) fun h => ?_
    · obtain ⟨j, rfl⟩ : ∃ j', j = j' + 1 := ⟨j - 1, by simp at h; omega⟩
      have hj1 : Int.toNat (((j + 1 : Nat) : Int) - 1) = j := by omega
      rw [voteJ] at r3
      refine KW.goIf lay_ok J0_ok 100 rfl ?_ rfl trivial (fun h => ?_) fun h => ?_
      · simp only [r2, isI_ints, ifcV_errV, inK, true_and, and_true]
        omega
      · simp only [unI_ints, hj1] at h
        have e : ¬ (prodP (tb.getD j []) r).2 = 0 := by
          have e : (!isNilB (errV 66 (prodP (tb.getD j []) r).2)) = true := h
          simpa using e
        rw [if_neg e] at r3
        have e3 : (voteR k rws (tab0 k)) = ([], (prodP (tb.getD j []) r).2) := by
          rw [← g3, ← r3, if_neg e]
        refine KW.goOutR lay_ok J0_ok 100 rfl (by simp) ?_
        refine KW.goOutR lay_ok J0_ok 100 rfl (by simp) ?_
        refine KW.go lay_ok J0_ok 100 rfl (by simp) ?_
        refine KW.conv 4 (ints []) rfl ⟨rfl, rfl⟩ ?_
        simp only [unI_ints, hj1]
        rw [ev, e3, if_neg e]
        exact KW.fin [] rfl rfl rfl trivial
      · simp only [unI_ints, hj1] at h
        have e : (prodP (tb.getD j []) r).2 = 0 := by
          have e : (!isNilB (errV 66 (prodP (tb.getD j []) r).2)) = false := h
          simpa using e
        rw [if_pos e] at r3
        refine KW.goIf lay_ok J0_ok 100 rfl ?_ rfl trivial (fun h => ?_) fun h => ?_
        · simp only [r2, isI_ints, ifcV_errV, inK, true_and, and_true]
          omega
        · simp only [unI_ints, hj1, Int.toNat_natCast] at h
          have e2 : ¬ (plusP (tb.getD (j + 1) []) (prodP (tb.getD j []) r).1).2 = 0 := by
            have e : (!isNilB (errV 66 (plusP (tb.getD (j + 1) []) (prodP (tb.getD j []) r).1).2)) = true := h
            simpa using e
          rw [if_neg e2] at r3
          have e3 : (voteR k rws (tab0 k)) = ([], (plusP (tb.getD (j + 1) []) (prodP (tb.getD j []) r).1).2) := by
            rw [← g3, ← r3, if_neg e2]
          refine KW.goOutR lay_ok J0_ok 100 rfl (by simp) ?_
          refine KW.goOutR lay_ok J0_ok 100 rfl (by simp) ?_
          refine KW.go lay_ok J0_ok 100 rfl (by simp) ?_
          refine KW.conv 4 (ints []) rfl ⟨rfl, rfl⟩ ?_
          simp only [unI_ints, hj1, Int.toNat_natCast]
          rw [ev, e3, if_neg e2]
          exact KW.fin [] rfl rfl rfl trivial
        · simp only [unI_ints, hj1, Int.toNat_natCast] at h
          have e2 : (plusP (tb.getD (j + 1) []) (prodP (tb.getD j []) r).1).2 = 0 := by
            have e : (!isNilB (errV 66 (plusP (tb.getD (j + 1) []) (prodP (tb.getD j []) r).1).2)) = false := h
            simpa using e
          rw [if_pos e2] at r3
          refine KW.go lay_ok J0_ok 100 rfl (by simp [inK]; omega) (KW.updG 6 (plusP (tb.getD (j + 1) []) (prodP (tb.getD j []) r).1).1 rfl rfl (fun p hp => ?_) (KW.to (j, tb.set (j + 1) (plusP (tb.getD (j + 1) []) (prodP (tb.getD j []) r).1).1) ⟨⟨by simp only; omega, by simp only [List.length_set]; exact r2, r3⟩, by simp only; omega⟩ [(6, 6)] ⟨rfl, rfl, ⟨rfl, rfl, rfl, ?_, rfl, rfl, rfl, trivial⟩, ⟨?_, trivial⟩⟩))
          · have : p = 0 := by omega
            subst this
            simp only [unI_ints, hj1, Int.toNat_natCast]
            exact CVEq.refl _
          · rw [show (((j : Nat) : Int)) = ((j + 1 : Nat) : Int) - 1 by omega]; rfl
          · rfl
    · have hj : j = 0 := by simp at h; omega
      subst hj
      replace r3 : (tb, (0 : Int)) = voteJ r k tab := r3
      rw [← r3, if_pos rfl] at g3
      refine KW.goOut lay_ok J0_ok 100 rfl (by simp) ?_
      exact KW.goToR lay_ok J0_ok 100 rfl (q + 1, tb) [(6, 6)] rfl rfl ⟨rfl, rfl, rfl, rfl, rfl, trivial⟩ (by simp [inK]; omega) ⟨⟨by simp only; omega, r2, g3⟩, by simp only; omega⟩ ⟨rfl, trivial⟩
  · have hq : q = rws.length := by simp at h; omega
    rw [hq, List.drop_length] at g3
    replace g3 : (tab, (0 : Int)) = voteR k rws (tab0 k) := g3
    refine KW.goOut lay_ok J0_ok 100 rfl (by simp) ?_
    refine KW.goRet lay_ok J0_ok 100 rfl rfl ?_ (by simp; omega) trivial
    rw [ev, ← g3, if_pos rfl]
    simp only [SV.ren, renL, EV.ren, Int.toNat_natCast]
    rfl
end Go.Proofs.Ytpjhpcclbenfbaa

/-
  Path sets of a node.
-/
namespace Go.Pu
open Go.Sy
/-- a node's cells -/
def nodeK (x : NodeP) : List CV := [.lit (.int .i64 x.kind), .lit (.int .i64 x.k), ints x.args]
def fLsI (g : List (List Int) → Int → SV) (p : List (List Int) → Int → Prop) : List EV → Option (SV × Prop)
  | [.c x, .c (.lit (.int .i64 k))] => some (g (unII x) k, isII x ∧ p (unII x) k)
  | _ => none
def fNLs (g : NodeP → List (List Int) → SV) (p : NodeP → List (List Int) → Prop) : List EV → Option (SV × Prop)
  | [.ag [.lit (.int .i64 k), .lit (.int .i64 kk), x], .c y] => some (g ⟨k, kk, unI x⟩ (unII y), isI x ∧ isII y ∧ p ⟨k, kk, unI x⟩ (unII y))
  | _ => none
section
variable {P : Program} {f : FuncId}
theorem fLsI_ok {g : List (List Int) → Int → SV} {p : List (List Int) → Int → Prop} (h : ∀ a k, p a k → DoesF P f [.c (intss a), iV k] [] (g a k) []) : ∀ ys y φ, fLsI g p ys = some (y, φ) → φ → DoesF P f ys [] y [] := by
  intro ys y φ he hφ
  unfold fLsI at he
  split at he
  · simp only [Option.some.injEq, Prod.mk.injEq] at he
    obtain ⟨rfl, rfl⟩ := he
    refine DoesF.conv ?_ (h _ _ hφ.2)
    exact ⟨hφ.1, CVEq.refl _, trivial⟩
  · cases he
theorem fNLs_ok {g : NodeP → List (List Int) → SV} {p : NodeP → List (List Int) → Prop} (h : ∀ x l, p x l → DoesF P f [.ag (nodeK x), .c (intss l)] [] (g x l) []) : ∀ ys y φ, fNLs g p ys = some (y, φ) → φ → DoesF P f ys [] y [] := by
  intro ys y φ he hφ
  unfold fNLs at he
  split at he
  · rename_i k kk x l
    simp only [Option.some.injEq, Prod.mk.injEq] at he
    obtain ⟨rfl, rfl⟩ := he
    refine DoesF.conv ?_ (h _ _ hφ.2.2)
    refine ⟨⟨rfl, fun q y z hy hz => ?_⟩, hφ.2.1, trivial⟩
    match q, hy, hz with
    | 0, hy, hz => simp [nodeK] at hy hz; subst hy; subst hz; exact CVEq.refl _
    | 1, hy, hz => simp [nodeK] at hy hz; subst hy; subst hz; exact CVEq.refl _
    | 2, hy, hz => simp [nodeK] at hy hz; subst hy; subst hz; exact hφ.1
    | q + 3, hy, hz => simp at hy
  · cases he
end
/-- how many a vote may ask for -/
def voteIn (x : NodeP) (l : List (List Int)) : Prop := l.length ≤ 1000 ∧ -1000 ≤ x.k ∧ x.k ≤ 1000 ∧ (x.kind = 0 ∨ x.kind = 2 ∨ x.kind = 3 ∨ (0 ≤ (l.length : Int) - x.k + 1 ∧ (l.length : Int) - x.k + 1 ≤ 1000))
end Go.Pu
namespace Go.Proofs.Ytpjhpcclbenfbaa
open Go.Sy Go.Pu

def J1 : Fns := (111, fLs (fun l => .tup [lV (foldP prodP l [0]).1, eV (foldP prodP l [0]).2]) fun _ => True) ::
  (112, fLs (fun l => .tup [lV (foldP plusP l []).1, eV (foldP plusP l []).2]) fun _ => True) ::
  (113, fLsI (fun l k => .tup [lV (voteP l k.toNat).1, eV (voteP l k.toNat).2]) fun l k => 0 ≤ k ∧ k ≤ 1000) ::
  J0
theorem J1_ok : FnsOk Try.prog J1 := .cons (.cons (.cons (J0_ok) Try.func113 rfl rfl (fLsI_ok fun l k h => by have := vote_does l k.toNat (by omega); rwa [Int.toNat_of_nonneg h.1] at this)) Try.func112 rfl rfl (fLs_ok fun l _ => and_does l)) Try.func111 rfl rfl (fLs_ok fun l _ => or_does l)


theorem pnode_does (x : NodeP) (l : List (List Int)) (hv : voteIn x l) : DoesF Try.prog 76 [.ag (nodeK x), .c (intss l)] [] (.tup [lV (nodePS x.kind x.k l).1, eV (nodePS x.kind x.k l).2]) [] := by
  refine DoesF.body _ Try.func76 rfl rfl rfl rfl ?_
  obtain ⟨kind, kk, args⟩ := x
  obtain ⟨v1, v2, v3, v4⟩ := hv
  simp only at v2 v3 v4 ⊢
  refine KW.goIf lay_ok J1_ok 100 rfl (by simp) rfl trivial (fun h => ?_) fun h => ?_
  · have k0 : kind = 0 := by simpa using h
    subst k0
    refine KW.goIf lay_ok J1_ok 100 rfl (by simp) rfl trivial (fun h => ?_) fun h => ?_
    · have k1 : kk = 0 := by simpa using h
      subst k1
      refine KW.go lay_ok J1_ok 100 rfl (by simp) ?_
      refine KW.frz 13 [4] rfl rfl rfl ?_
      exact KW.fin [] rfl rfl rfl trivial
    · have k1 : ¬ kk = 0 := by simpa using h
      refine KW.go lay_ok J1_ok 100 rfl (by simp) ?_
      refine KW.conv 4 (ints []) rfl ⟨rfl, rfl⟩ ?_
      have e : nodePS 0 kk l = ([], 0) := by simp [nodePS, k1]
      rw [e]
      exact KW.fin [] rfl rfl rfl trivial
  have k0 : ¬ kind = 0 := by simpa using h
  refine KW.goIf lay_ok J1_ok 100 rfl (by simp) rfl trivial (fun h => ?_) fun h => ?_
  · have k3 : kind = 3 := by simpa using h
    subst k3
    refine KW.goRet lay_ok J1_ok 100 rfl rfl ?_ (by simp [ifcV_errV]) trivial
    simp only [unII_intss]; rfl
  have k3 : ¬ kind = 3 := by simpa using h
  refine KW.goIf lay_ok J1_ok 100 rfl (by simp) rfl trivial (fun h => ?_) fun h => ?_
  · have k2 : kind = 2 := by simpa using h
    subst k2
    refine KW.goRet lay_ok J1_ok 100 rfl rfl ?_ (by simp [ifcV_errV]) trivial
    simp only [unII_intss]; rfl
  have k2 : ¬ kind = 2 := by simpa using h
  have e : nodePS kind kk l = voteP l ((l.length : Int) - kk + 1).toNat := by simp [nodePS, k0, k2, k3]
  refine KW.goRet lay_ok J1_ok 100 rfl rfl ?_ (by simp [ifcV_errV, inK]; omega) trivial
  simp only [unII_intss, e]
  rfl

theorem trim_len2 (f : FormP) (ok : FormOk f) : (trimF f).nodes.length ≤ 128 := Nat.le_trans (trimN_len f.vars.toNat f.nodes (belowF f) f.nodes.length).2 ok.len
theorem below_closed {f : FormP} (ok : FormOk f) : ∀ (i : Nat) (h : i < f.nodes.length), (belowF f).getD (f.vars.toNat + i) false = true → ∀ a ∈ f.nodes[i].args, (belowF f).getD a.toNat false = true ∧ 0 ≤ a ∧ a.toNat < f.vars.toNat + i := fun i h hm a ha => by
  have h1 := (ok.nodes i h).args a ha
  exact ⟨marksF_closed ok (fun _ _ => true) h hm ha rfl, h1.1, ok.args_lt i h a ha⟩
/-- the kept nodes look back, too -/
theorem trim_nodes {f : FormP} (ok : FormOk f) (hc : cohF f = true) : ∀ i, i ≤ f.nodes.length → (∀ j, j < f.vars.toNat + i → (belowF f).getD j false = true → 0 ≤ (trimN f.vars.toNat f.nodes (belowF f) i).1.getD j 0 ∧ ((trimN f.vars.toNat f.nodes (belowF f) i).1.getD j 0).toNat < f.vars.toNat + (trimN f.vars.toNat f.nodes (belowF f) i).2.length) ∧
    ∀ (q : Nat) (h : q < (trimN f.vars.toNat f.nodes (belowF f) i).2.length), (∀ a ∈ (trimN f.vars.toNat f.nodes (belowF f) i).2[q].args, 0 ≤ a ∧ a.toNat < f.vars.toNat + q) ∧ (trimN f.vars.toNat f.nodes (belowF f) i).2[q].args.length ≤ 16 ∧
      -1000 ≤ (trimN f.vars.toNat f.nodes (belowF f) i).2[q].k ∧ (trimN f.vars.toNat f.nodes (belowF f) i).2[q].k ≤ 1000 ∧ ((trimN f.vars.toNat f.nodes (belowF f) i).2[q].kind = 0 ∨ (trimN f.vars.toNat f.nodes (belowF f) i).2[q].kind = 2 ∨ (trimN f.vars.toNat f.nodes (belowF f) i).2[q].kind = 3 ∨ (0 ≤ ((trimN f.vars.toNat f.nodes (belowF f) i).2[q].args.length : Int) - (trimN f.vars.toNat f.nodes (belowF f) i).2[q].k + 1 ∧ ((trimN f.vars.toNat f.nodes (belowF f) i).2[q].args.length : Int) - (trimN f.vars.toNat f.nodes (belowF f) i).2[q].k + 1 ≤ 1000))
  | 0, _ => by
    refine ⟨fun j hj _ => ?_, fun q h => by simp [trimN] at h⟩
    have hj' : j < f.vars.toNat := by omega
    have e : (trimN f.vars.toNat f.nodes (belowF f) 0).1.getD j 0 = (j : Int) := by
      simp [trimN, List.getD_eq_getElem?_getD, show j < f.vars.toNat + f.nodes.length by omega, hj']
      try omega
    rw [e]
    exact ⟨by omega, by simp [trimN]; omega⟩
  | i + 1, hi => by
    obtain ⟨ih1, ih2⟩ := trim_nodes ok hc i (by omega)
    have hi' : i < f.nodes.length := by omega
    have htl := trimN_len f.vars.toNat f.nodes (belowF f) i
    have e1 := trimN_succ f.vars.toNat f.nodes (belowF f) i
    have hX : f.nodes.getD i node0 = f.nodes[i] := by simp [List.getD_eq_getElem?_getD, hi']
    by_cases hm : (belowF f).getD (f.vars.toNat + i) false = true
    · rw [if_pos hm, hX] at e1
      have hcl := below_closed ok i hi' hm
      have okX := ok.nodes i hi'
      have hkd := coh_node hc hi' hm
      generalize f.nodes[i] = X at e1 hcl okX hkd
      generalize hTT : trimN f.vars.toNat f.nodes (belowF f) i = TT at *
      obtain ⟨mv, kept⟩ := TT
      simp only at ih1 ih2 e1 htl
      rw [e1]
      refine ⟨fun j hj hjm => ?_, fun q h => ?_⟩
      · simp only [List.length_append, List.length_cons, List.length_nil]
        by_cases hji : j = f.vars.toNat + i
        · subst hji
          rw [getD_set_at (by omega)]
          exact ⟨by omega, by omega⟩
        · rw [getD_set_far (Ne.symm hji)]
          have := ih1 j (by omega) hjm
          exact ⟨this.1, by omega⟩
      · simp only at h ⊢
        simp only [List.length_append, List.length_cons, List.length_nil] at h
        by_cases hq : q < kept.length
        · rw [List.getElem_append_left hq]; exact ih2 q hq
        · have hq2 : q = kept.length := by omega
          subst hq2
          simp only [List.getElem_concat_length]
          refine ⟨fun a ha => ?_, by simpa using argsB_le okX.cnt, ?_⟩
          · obtain ⟨b, hb, rfl⟩ := List.mem_map.1 ha
            obtain ⟨c1, c2, c3⟩ := hcl b hb
            exact ih1 b.toNat (by omega) c1
          · have hk := okX.k
            have h16 := argsB_le okX.cnt
            have hkk := okX.kind
            unfold kE at hk
            simp only [List.length_map]
            split at hk
            · rename_i h0
              split at hk
              · cases hk
              · rename_i h1; omega
            · split at hk
              · split at hk
                · cases hk
                · omega
              · split at hk
                · cases hk
                · omega
    · rw [if_neg hm] at e1
      rw [e1]
      refine ⟨fun j hj hjm => ?_, ih2⟩
      by_cases hji : j = f.vars.toNat + i
      · subst hji; exact absurd hjm hm
      · exact ih1 j (by omega) hjm
end Go.Proofs.Ytpjhpcclbenfbaa

/-
  Path sets of a formula: the program's.
-/
namespace Go.Pu
open Go.Sy
theorem limL_len (l : LS) : (limL l).length ≤ 1024 := by
  unfold limL
  split
  · simp
  · omega
theorem plusP_len (a b : LS) : (plusP a b).1.length ≤ 1024 := by
  unfold plusP
  split
  · exact limL_len _
  · simp
theorem prodP_len (a b : LS) : (prodP a b).1.length ≤ 1024 := by
  unfold prodP
  split
  · exact limL_len _
  · simp
theorem foldP_len {op : LS → LS → LS × Int} (hop : ∀ a b, (op a b).1.length ≤ 1024) : ∀ (rs : List LS) {acc : LS}, acc.length ≤ 1024 → (foldP op rs acc).1.length ≤ 1024
  | [], acc, h => h
  | r :: rs, acc, h => by
    rw [foldP]
    split
    · exact foldP_len hop rs (hop _ _)
    · simp
theorem voteJ_len (row : LS) : ∀ (j : Nat) {tab : List LS}, (∀ l ∈ tab, l.length ≤ 1024) → ∀ l ∈ (voteJ row j tab).1, l.length ≤ 1024
  | 0, tab, h => h
  | j + 1, tab, h => by
    rw [voteJ]
    split
    · split
      · refine voteJ_len row j fun l hl => ?_
        rcases List.mem_or_eq_of_mem_set hl with hl | rfl
        · exact h l hl
        · exact plusP_len _ _
      · simp
    · simp
theorem voteR_len (k : Nat) : ∀ (rs : List LS) {tab : List LS}, (∀ l ∈ tab, l.length ≤ 1024) → ∀ l ∈ (voteR k rs tab).1, l.length ≤ 1024
  | [], tab, h => h
  | r :: rs, tab, h => by
    rw [voteR]
    split
    · exact voteR_len k rs (voteJ_len r k h)
    · simp
theorem getD_len {tab : List LS} (h : ∀ l ∈ tab, l.length ≤ 1024) (k : Nat) : (tab.getD k []).length ≤ 1024 := by
  rw [List.getD_eq_getElem?_getD]
  cases e : tab[k]? with
  | none => simp
  | some x => exact h x (List.mem_of_getElem? e)
theorem nodePS_len (kind k : Int) (rows : List LS) : (nodePS kind k rows).1.length ≤ 1024 := by
  unfold nodePS
  split
  · split <;> simp
  · split
    · exact foldP_len prodP_len rows (by simp)
    · split
      · exact foldP_len plusP_len rows (by simp)
      · unfold voteP
        split
        · refine getD_len (voteR_len _ _ fun l hl => ?_) _
          rcases List.mem_or_eq_of_mem_set hl with hl | rfl
          · rw [List.eq_of_mem_replicate hl]; simp
          · simp
        · simp
theorem fam0_len (n : Nat) : ∀ l ∈ fam0 n, l.length ≤ 1024 := fun l hl => by
  obtain ⟨i, _, rfl⟩ := List.mem_map.1 hl
  simp
end Go.Pu
namespace Go.Proofs.Ytpjhpcclbenfbaa
open Go.Sy Go.Pu

def J2 : Fns := (76, fNLs (fun x l => .tup [lV (nodePS x.kind x.k l).1, eV (nodePS x.kind x.k l).2]) fun x l => voteIn x l) ::
  (74, fF (fun f => .e (eV (pathE f))) FormIn) ::
  (75, fF (fun f => .tup [.ag (formC (trimF f)), .c (.lit .nilIface)]) fun f => FormIn f ∧ formE f = 0) ::
  J1
theorem J2_ok : FnsOk Try.prog J2 := .cons (.cons (.cons (J1_ok) Try.func75 rfl rfl (fF_ok fun f h => trim_good f h.1 h.2)) Try.func74 rfl rfl (fF_ok fun f h => pcheck_does f h)) Try.func76 rfl rfl (fNLs_ok fun x l h => pnode_does x l h)


def pathsV (f : FormP) : LS × Int := if pathE f = 0 then (pathsL f, pathsE f) else ([], pathE f)
theorem paths_does (f : FormP) (hin : FormIn f) : DoesF Try.prog 34 [.ag (formC f)] [] (.tup [lV (pathsV f).1, eV (pathsV f).2]) [] := by
  refine DoesF.body _ Try.func34 rfl rfl rfl rfl ?_
  obtain ⟨vars, ns, top⟩ := f
  refine KW.goIf lay_ok J2_ok 100 rfl (by simp only [unN_nodesC, isN_nodesC, true_and, and_true, ifcV_errV]; exact hin) rfl trivial (fun h => ?_) fun h => ?_
  · simp only [unN_nodesC] at h
    have h1 : ¬ pathE ⟨vars, ns, top⟩ = 0 := by
      have e : (!isNilB (errV 66 (pathE ⟨vars, ns, top⟩))) = true := h
      simpa using e
    refine KW.go lay_ok J2_ok 100 rfl (by simp) ?_
    refine KW.conv 2 (ints []) rfl ⟨rfl, rfl⟩ ?_
    rw [pathsV, if_neg h1]
    simp only [unN_nodesC]
    exact KW.fin [] rfl rfl rfl trivial
  · simp only [unN_nodesC] at h
    have h1 : pathE ⟨vars, ns, top⟩ = 0 := by
      have e : (!isNilB (errV 66 (pathE ⟨vars, ns, top⟩))) = false := h
      simpa using e
    have h02 : formE ⟨vars, ns, top⟩ = 0 ∧ cohF ⟨vars, ns, top⟩ = true := by
      unfold pathE at h1
      split at h1
      · rename_i h0
        split at h1
        · rename_i hc; exact ⟨h0, hc⟩
        · cases h1
      · rename_i h0; exact absurd h1 h0
    obtain ⟨h0, hc⟩ := h02
    have ok := formE_ok h0
    have hv := ok.vars
    simp only at hv
    obtain ⟨n, rfl⟩ := Int.eq_ofNat_of_zero_le hv.1
    have hn24 : n ≤ 24 := by omega
    rw [pathsV, if_pos h1]
    have hTl := trim_len2 ⟨n, ns, top⟩ ok
    have hTn := trim_nodes ok hc ns.length (Nat.le_refl _)
    have hTv : (trimF ⟨n, ns, top⟩).vars = (n : Int) := rfl
    have htop := ok.top
    have hTt := hTn.1 top.toNat (by simp only at htop ⊢; omega) (marksF_top ok _)
    have hTa := hTn.2
    have ePE : pathsE ⟨n, ns, top⟩ = (runP (trimF ⟨n, ns, top⟩).nodes (fam0 n)).2 := rfl
    have ePL : pathsL ⟨n, ns, top⟩ = if pathsE ⟨n, ns, top⟩ = 0 then (runP (trimF ⟨n, ns, top⟩).nodes (fam0 n)).1.getD (trimF ⟨n, ns, top⟩).top.toNat [] else [] := rfl
    have eT1 : (trimF ⟨n, ns, top⟩).nodes = (trimN (FormP.vars ⟨n, ns, top⟩).toNat (FormP.nodes ⟨n, ns, top⟩) (belowF ⟨n, ns, top⟩) ns.length).2 := rfl
    have eT2 : (trimF ⟨n, ns, top⟩).top = (trimN (FormP.vars ⟨n, ns, top⟩).toNat (FormP.nodes ⟨n, ns, top⟩) (belowF ⟨n, ns, top⟩) ns.length).1.getD top.toNat 0 := rfl
    rw [← eT2, ← eT1] at hTt
    rw [← eT1] at hTa
    simp only [Int.toNat_natCast] at hTt hTa
    refine KW.goIf lay_ok J2_ok 100 rfl (by simp only [unN_nodesC, isN_nodesC, true_and, and_true]; simp [hin, h0, ifcV]) rfl trivial (fun h => absurd h (by decide)) fun h => ?_
    simp only [unN_nodesC]
    generalize trimF ⟨n, ns, top⟩ = T at *
    obtain ⟨tv, tn, tt⟩ := T
    simp only at hTl hTv hTt hTa ePE ePL
    subst hTv
    refine KW.go lay_ok J2_ok 100 rfl (by simp [inK]; omega) ?_
    refine KW.convR 35 (lsC []) rfl (g := fun e q => ints (([] : List (List Int)).getD e [])) rfl (fun e q he hq => absurd he (Nat.not_lt_zero _)) ?_
    refine KW.goLpR lay_ok J2_ok 100 rfl (I := fun q : Nat => ⟨Try.f34.ntmps, [(5, .e (.r 5)), (7, .e (.r 7)), (37, sI n), (38, sI q)], [(5, .box 24 [iV n, .c (nodesC tn), iV tt] none), (7, .own 45 (lsC (fam0 q)))]⟩)
      (R := fun q => q ≤ n) (m := fun q => n - q) 0 [(5, 5), (7, 35)] rfl rfl ⟨rfl, rfl, rfl, rfl, trivial⟩ (by simp) (Nat.zero_le _) ⟨rfl, rfl, trivial⟩ ?_
    rintro q hq0
    refine KW.goIf lay_ok J2_ok 100 rfl (by simp) rfl trivial (fun h => ?_) fun h => ?_
    · have hq : q < n := by simpa using h
      have hor := validS_iff.1 (one_valid (show q < 24 by omega))
      have hone : ishl 1 (q : Int) = Go.Pu.one q := rfl
      refine KW.go lay_ok J2_ok 100 rfl (by simp [inK, bitsI]; rw [hone]; omega) ?_
      refine KW.frz1 44 rfl rfl rfl ?_
      refine KW.go lay_ok J2_ok 100 rfl (by simp [inK, fam0]; omega) (KW.catG 46 [Go.Pu.one q] rfl (fun p hp => ?_) (KW.to (q + 1) ⟨by omega, by omega⟩ [(5, 5), (7, 46)] ⟨rfl, rfl, ⟨rfl, rfl, rfl, rfl, trivial⟩, ⟨rfl, ?_, trivial⟩⟩))
      · have : p = 0 := by omega
        subst this
        exact CVEq.refl _
      · have e : fam0 (q + 1) = fam0 q ++ [[Go.Pu.one q]] := by simp [fam0, List.range_succ]
        rw [e]; rfl
    have hq : q = n := by simp at h; omega
    subst hq
    refine KW.goOut lay_ok J2_ok 100 rfl (by simp) ?_
    refine KW.goLpR lay_ok J2_ok 100 rfl (I := fun p : Nat × List (List Int) => ⟨Try.f34.ntmps, [(5, .e (.r 5)), (7, .e (.r 7)), (49, .e (.c (nodesC tn))), (50, sI tn.length), (51, sI p.1)], [(5, .box 24 [iV q, .c (nodesC tn), iV tt] none), (7, .own 45 (lsC p.2))]⟩)
      (R := fun p => p.1 ≤ tn.length ∧ p.2.length = q + p.1 ∧ runP (tn.drop p.1) p.2 = runP tn (fam0 q) ∧ ∀ l ∈ p.2, l.length ≤ 1024) (m := fun p => tn.length - p.1) (0, fam0 q) [(5, 5), (7, 7)] rfl rfl ⟨rfl, rfl, rfl, rfl, rfl, trivial⟩ (by simp) ⟨Nat.zero_le _, by simp [fam0], rfl, fam0_len q⟩ ⟨rfl, rfl, trivial⟩ ?_
    rintro ⟨i, fam⟩ ⟨g1, g2, g3, g4⟩
    simp only at g1 g2 g3 g4
    refine KW.goIf lay_ok J2_ok 100 rfl (by simp) rfl trivial (fun h => ?_) fun h => ?_
    · have hi : i < tn.length := by simpa using h
      have hX : tn.getD (Int.toNat (i : Int)) node0 = tn[i] := by simp [List.getD_eq_getElem?_getD, hi]
      have hXa := hTa i hi
      rw [List.drop_eq_getElem_cons hi, runP] at g3
      generalize tn[i] = X at hX hXa g3
      obtain ⟨x1, x2, x3⟩ := hXa
      refine KW.go lay_ok J2_ok 100 rfl (by simp [hi]) ?_
      refine KW.nilO 11 202 45 (lsC []) rfl rfl rfl ?_
      refine KW.goLpR lay_ok J2_ok 100 rfl (I := fun j : Nat => ⟨Try.f34.ntmps, [(5, .e (.r 5)), (7, .e (.r 7)), (10, .e (.r 10)), (11, .e (.r 202)), (49, .e (.c (nodesC tn))), (50, sI tn.length), (51, sI i), (56, .e (lV X.args)), (57, sI X.args.length), (58, sI j)],
          [(5, .box 24 [iV q, .c (nodesC tn), iV tt] none), (7, .own 45 (lsC fam)), (10, .box 71 [iV X.kind, iV X.k, .c (ints X.args)] none), (202, .own 45 (lsC ((X.args.take j).map fun a => fam.getD a.toNat [])))]⟩)
        (R := fun j => j ≤ X.args.length) (m := fun j => X.args.length - j) 0 [(5, 5), (7, 7), (10, 10), (202, 202)] rfl rfl ⟨rfl, rfl, rfl, rfl, rfl, rfl, rfl, by rw [← hX]; rfl, by rw [← hX]; rfl, rfl, trivial⟩ (by simp) (Nat.zero_le _) ⟨rfl, rfl, by rw [← hX]; rfl, rfl, trivial⟩ ?_
      rintro j hj0
      refine KW.goIf lay_ok J2_ok 100 rfl (by simp) rfl trivial (fun h => ?_) fun h => ?_
      · have hj : j < X.args.length := by simpa using h
        have hg : X.args.getD (Int.toNat (j : Int)) 0 = X.args[j] := by simp [List.getD_eq_getElem?_getD, hj]
        have ha := x1 _ (List.getElem_mem hj)
        have htk : X.args.take (j + 1) = X.args.take j ++ [X.args[j]] := by rw [List.take_add_one, List.getElem?_eq_getElem hj]; rfl
        generalize X.args[j] = a at hg ha htk
        refine KW.go lay_ok J2_ok 100 rfl (by simp only [hg, g2]; simp [inK, List.length_take]; omega) (KW.catG 68 (fam.getD a.toNat []) rfl (fun p hp => ?_) (KW.to (j + 1) ⟨by omega, by omega⟩ [(5, 5), (7, 7), (10, 10), (202, 68)] ⟨rfl, rfl, ⟨rfl, rfl, rfl, rfl, rfl, rfl, rfl, rfl, rfl, rfl, trivial⟩, ⟨rfl, rfl, rfl, ?_, trivial⟩⟩))
        · have : p = 0 := by omega
          subst this
          simp only [hg]
          exact CVEq.refl _
        · rw [htk, List.map_append]; rfl
      have hj : j = X.args.length := by simp at h; omega
      subst hj
      refine KW.goOut lay_ok J2_ok 100 rfl (by simp) ?_
      refine KW.frz 202 [11] rfl rfl rfl ?_
      simp only [List.take_length]
      refine KW.conv 11 (intss (X.args.map fun a => fam.getD a.toNat [])) rfl (CVEq.refl _) ?_
      refine KW.goIf lay_ok J2_ok 100 rfl ?_ rfl trivial (fun h => ?_) fun h => ?_
      · simp only [isI_ints, unI_ints, isII_intss, unII_intss, true_and, and_true, ifcV_errV]
        refine ⟨by simp; omega, x3.1, x3.2.1, ?_⟩
        simpa using x3.2.2
      · simp only [unI_ints, unII_intss] at h
        have e : ¬ (nodePS X.kind X.k (X.args.map fun a => fam.getD a.toNat [])).2 = 0 := by
          have e : (!isNilB (errV 66 (nodePS X.kind X.k (X.args.map fun a => fam.getD a.toNat [])).2)) = true := h
          simpa using e
        rw [if_neg e] at g3
        have eE : pathsE ⟨q, ns, top⟩ = (nodePS X.kind X.k (X.args.map fun a => fam.getD a.toNat [])).2 := by rw [ePE, ← g3]
        have eL : pathsL ⟨q, ns, top⟩ = [] := by rw [ePL, eE, if_neg e]
        refine KW.goOutR lay_ok J2_ok 100 rfl (by simp) ?_
        refine KW.go lay_ok J2_ok 100 rfl (by simp) ?_
        refine KW.conv 2 (ints []) rfl ⟨rfl, rfl⟩ ?_
        simp only [unI_ints, unII_intss]
        rw [eE, eL]
        exact KW.fin [] rfl rfl rfl trivial
      · simp only [unI_ints, unII_intss] at h
        have e : (nodePS X.kind X.k (X.args.map fun a => fam.getD a.toNat [])).2 = 0 := by
          have e : (!isNilB (errV 66 (nodePS X.kind X.k (X.args.map fun a => fam.getD a.toNat [])).2)) = false := h
          simpa using e
        rw [if_pos e] at g3
        refine KW.go lay_ok J2_ok 100 rfl (by simp [inK, g2]; omega) (KW.catG 82 (nodePS X.kind X.k (X.args.map fun a => fam.getD a.toNat [])).1 rfl (fun p hp => ?_) (KW.to (i + 1, fam ++ [(nodePS X.kind X.k (X.args.map fun a => fam.getD a.toNat [])).1]) ⟨⟨by simp only; omega, by simp only [List.length_append, List.length_cons, List.length_nil]; omega, g3, fun l hl => (List.mem_append.1 hl).elim (g4 l) fun hl => by rw [List.mem_singleton.1 hl]; exact nodePS_len _ _ _⟩, by simp only; omega⟩ [(5, 5), (7, 82)] ⟨rfl, rfl, ⟨rfl, rfl, rfl, rfl, rfl, trivial⟩, ⟨rfl, rfl, trivial⟩⟩))
        have : p = 0 := by omega
        subst this
        simp only [unI_ints, unII_intss]
        exact CVEq.refl _
    · have hi : i = tn.length := by simp at h; omega
      rw [hi, List.drop_length] at g3
      replace g3 : (fam, (0 : Int)) = runP tn (fam0 q) := g3
      have eE : pathsE ⟨q, ns, top⟩ = 0 := by rw [ePE, ← g3]
      have eL : pathsL ⟨q, ns, top⟩ = fam.getD tt.toNat [] := by rw [ePL, if_pos eE, ← g3]
      rw [eE, eL]
      refine KW.goOut lay_ok J2_ok 100 rfl (by simp) ?_
      refine KW.go lay_ok J2_ok 100 rfl (by simp; omega) ?_
      refine KW.callO0 (clone_does (fam.getD tt.toNat []) (Nat.le_trans (getD_len g4 _) (by decide))) (enters Try.func77 rfl rfl) [] (.inl rfl) rfl rfl rfl rfl rfl trivial ⟨⟨_, _, rfl, trivial, .conv (CVEq.refl _)⟩, trivial⟩ rfl (.inl rfl) ?_
      refine KW.go lay_ok J2_ok 100 rfl (by simp) ?_
      refine KW.frz 89 [2] rfl rfl rfl ?_
      exact KW.fin [] rfl rfl rfl trivial
end Go.Proofs.Ytpjhpcclbenfbaa
