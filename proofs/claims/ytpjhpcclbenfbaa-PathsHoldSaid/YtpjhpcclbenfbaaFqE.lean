/-
  FqE, FqF, FqG, FqH, one text.
-/
import Derived.Test.YtpjhpcclbenfbaaFqA
set_option linter.unusedVariables false
set_option linter.unusedSimpArgs false
/-
  Path sets of given formulas.
-/
namespace Go.Pu
open Go.Sy
def exAN : List NodeP := [⟨3, 0, [1, 2]⟩, ⟨2, 0, [0, 3]⟩]
def exBN : List NodeP := [⟨4, 2, [0, 1, 2]⟩]
end Go.Pu
namespace Go.Proofs.Ytpjhpcclbenfbaa
open Go.Sy Go.Pu
theorem exv0 : plusP [] [1] = ([1], 0) := by rw [plus_ref]; decide +kernel
theorem exv1 : plusP [1] [6] = ([1, 6], 0) := by rw [plus_ref]; decide +kernel
theorem exv2 : prodP [0] [2] = ([2], 0) := by rw [prod_ref]; decide +kernel
theorem exv3 : prodP [2] [4] = ([6], 0) := by rw [prod_ref]; decide +kernel
theorem exv4 : prodP [] [1] = ([], 0) := by rw [prod_ref]; decide +kernel
theorem exv5 : plusP [] [] = ([], 0) := by rw [plus_ref]; decide +kernel
theorem exv6 : prodP [0] [1] = ([1], 0) := by rw [prod_ref]; decide +kernel
theorem exv7 : prodP [1] [2] = ([3], 0) := by rw [prod_ref]; decide +kernel
theorem exv8 : plusP [] [3] = ([3], 0) := by rw [plus_ref]; decide +kernel
theorem exv9 : plusP [1] [2] = ([1, 2], 0) := by rw [plus_ref]; decide +kernel
theorem exv10 : prodP [1, 2] [4] = ([5, 6], 0) := by rw [prod_ref]; decide +kernel
theorem exv11 : plusP [3] [5, 6] = ([3, 5, 6], 0) := by rw [plus_ref]; decide +kernel
theorem exv12 : prodP [0] [4] = ([4], 0) := by rw [prod_ref]; decide +kernel
theorem exv13 : plusP [1, 2] [4] = ([1, 2, 4], 0) := by rw [plus_ref]; decide +kernel
theorem ex_fam : fam0 3 = [[1], [2], [4]] := by decide +kernel
theorem exA_run : runP exAN (fam0 3) = ([[1], [2], [4], [6], [1, 6]], 0) := by
  rw [ex_fam]
  simp [runP, exAN, nodePS, foldP, exv0, exv1, exv2, exv3, exv4, exv5, exv6, exv7, exv8, exv9, exv10, exv11, exv12, exv13]
theorem exB_run : runP exBN (fam0 3) = ([[1], [2], [4], [3, 5, 6]], 0) := by
  rw [ex_fam]
  simp [runP, exBN, nodePS, voteP, voteR, voteJ, tab0, List.replicate, exv0, exv1, exv2, exv3, exv4, exv5, exv6, exv7, exv8, exv9, exv10, exv11, exv12, exv13]
theorem exA_checks : pathE ⟨3, exAN, 4⟩ = 0 ∧ pathE ⟨3, exBN, 3⟩ = 0 := by decide +kernel
theorem exA_trim : trimF ⟨3, exAN, 4⟩ = ⟨3, exAN, 4⟩ ∧ trimF ⟨3, exBN, 3⟩ = ⟨3, exBN, 3⟩ := ⟨rfl, rfl⟩
theorem exA_val : pathsV ⟨3, exAN, 4⟩ = ([1, 6], 0) := by
  have e : pathsE ⟨3, exAN, 4⟩ = 0 := by
    unfold pathsE; rw [exA_trim.1]
    show (runP exAN (fam0 3)).2 = 0
    rw [exA_run]
  rw [pathsV, if_pos exA_checks.1, e, pathsL, if_pos e, exA_trim.1]
  show ((runP exAN (fam0 3)).1.getD 4 [], (0 : Int)) = _
  rw [exA_run]; rfl
theorem exB_val : pathsV ⟨3, exBN, 3⟩ = ([3, 5, 6], 0) := by
  have e : pathsE ⟨3, exBN, 3⟩ = 0 := by
    unfold pathsE; rw [exA_trim.2]
    show (runP exBN (fam0 3)).2 = 0
    rw [exB_run]
  rw [pathsV, if_pos exA_checks.2, e, pathsL, if_pos e, exA_trim.2]
  show ((runP exBN (fam0 3)).1.getD 3 [], (0 : Int)) = _
  rw [exB_run]; rfl
end Go.Proofs.Ytpjhpcclbenfbaa

/-
  The laws of layer 34 are awake.
-/
namespace Go.Proofs.Ytpjhpcclbenfbaa
open Go.Sy Go.Pu

def J3 : Fns := (34, fF (fun f => .tup [lV (pathsV f).1, eV (pathsV f).2]) FormIn) ::
  J2
theorem J3_ok : FnsOk Try.prog J3 := .cons (J2_ok) Try.func34 rfl rfl (fF_ok fun f h => paths_does f h)


theorem exA_in : FormIn ⟨3, exAN, 4⟩ := by
  have hk : ∀ n : Int, 0 ≤ n ∧ n ≤ 9 → inK .i64 n := fun n h => by simp only [inK]; omega
  refine ⟨hk 3 (by decide), hk 4 (by decide), fun x hx => ?_⟩
  simp only [exAN, List.mem_cons, List.not_mem_nil, or_false] at hx
  rcases hx with rfl | rfl
  · exact ⟨hk 3 (by decide), hk 0 (by decide), fun a ha => hk a (by simp at ha; omega)⟩
  · exact ⟨hk 2 (by decide), hk 0 (by decide), fun a ha => hk a (by simp at ha; omega)⟩
theorem exB_in : FormIn ⟨3, exBN, 3⟩ := by
  have hk : ∀ n : Int, 0 ≤ n ∧ n ≤ 9 → inK .i64 n := fun n h => by simp only [inK]; omega
  refine ⟨hk 3 (by decide), hk 3 (by decide), fun x hx => ?_⟩
  simp only [exBN, List.mem_cons, List.not_mem_nil, or_false] at hx
  rcases hx with rfl
  exact ⟨hk 4 (by decide), hk 2 (by decide), fun a ha => hk a (by simp at ha; omega)⟩
theorem awake34_does : DoesF Try.prog 33 [] [] (sB true) [] := by
  refine DoesF.body _ Try.func33 rfl rfl rfl rfl ?_
  refine KW.go lay_ok J3_ok 100 rfl (by simp) ?_
  refine KW.frz1 6 rfl rfl rfl ?_
  refine KW.go lay_ok J3_ok 100 rfl (by simp) ?_
  refine KW.frz1 8 rfl rfl rfl ?_
  refine KW.go lay_ok J3_ok 100 rfl (by simp) ?_
  refine KW.frz1 10 rfl rfl rfl ?_
  refine KW.conv 10 (nodesC exAN) rfl ?_ ?_
  · refine ⟨rfl, .inr ⟨rfl, fun e q he hq => ?_⟩⟩
    rcases (by omega : e = 0 ∨ e = 1) with rfl | rfl <;> rcases (by omega : q = 0 ∨ q = 1 ∨ q = 2) with rfl | rfl | rfl <;> exact CVEq.refl _
  refine KW.go lay_ok J3_ok 100 rfl ?_ ?_
  · simp only [unN_nodesC, isN_nodesC, exA_in, exA_val, ifcV_errV, true_and, and_true, implies_true]
  simp only [unN_nodesC, exA_val]
  refine KW.frz1 16 rfl rfl rfl ?_
  refine KW.go lay_ok J3_ok 100 rfl (by simp) ?_
  refine KW.frz1 18 rfl rfl rfl ?_
  refine KW.conv 18 (nodesC exBN) rfl ?_ ?_
  · refine ⟨rfl, .inr ⟨rfl, fun e q he hq => ?_⟩⟩
    rcases (by omega : e = 0) with rfl
    rcases (by omega : q = 0 ∨ q = 1 ∨ q = 2) with rfl | rfl | rfl <;> exact CVEq.refl _
  refine KW.go lay_ok J3_ok 100 rfl ?_ ?_
  · simp only [unN_nodesC, isN_nodesC, exB_in, exB_val, ifcV_errV, true_and, and_true, implies_true]
    simp
  simp only [unN_nodesC, exB_val]
  refine KW.guardT rfl rfl (by simp) ?_
  refine KW.go lay_ok J3_ok 100 rfl (by simp) ?_
  refine KW.guardT rfl rfl (by simp) ?_
  refine KW.goRet lay_ok J3_ok 100 rfl rfl ?_ (by simp) trivial
  simp [SV.ren, EV.ren]
end Go.Proofs.Ytpjhpcclbenfbaa

/-
  The reference's errors of layer 34.
-/
namespace Go.Proofs.Ytpjhpcclbenfbaa
open Go.Sy Go.Pu

def J4 : Fns := (33, f0 (sB true) True) ::
  (54, fF (fun f => sI (formE f)) FormIn) ::
  (114, fF (fun f => sB (cohF f)) fun f => FormIn f ∧ formE f = 0) ::
  (79, fF (fun f => .e (blV (belowF f))) fun f => FormIn f ∧ formE f = 0) ::
  (72, fFI (fun f s => sB (setB f s)) fun f s => 0 ≤ f.vars ∧ f.vars ≤ 24) ::
  J3
theorem J4_ok : FnsOk Try.prog J4 := .cons (.cons (.cons (.cons (.cons (J3_ok) Try.func72 rfl rfl (fFI_ok fun f s h => set_does f s h)) Try.func79 rfl rfl (fF_ok fun f h => rbelow_does f h.1 h.2)) Try.func114 rfl rfl (fF_ok fun f h => rsyntax_does f h.1 h.2)) Try.func54 rfl rfl (fF_ok fun f h => rcheckF_does f h)) Try.func33 rfl rfl (f0_ok fun _ => awake34_does)


theorem rerror34_does (f : FormP) (hin : FormIn f) : DoesF Try.prog 78 [.ag (formC f)] [] (sI (pathE f)) [] := by
  refine DoesF.body _ Try.func78 rfl rfl rfl rfl ?_
  obtain ⟨vars, ns, top⟩ := f
  refine KW.goIf lay_ok J4_ok 100 rfl (by simp [hin]) rfl trivial (fun h => ?_) fun h => ?_
  · simp only [unN_nodesC] at h
    have h1 : ¬ formE ⟨vars, ns, top⟩ = 0 := by
      have e : (formE ⟨vars, ns, top⟩ != 0) = true := h
      simpa using e
    refine KW.goRet lay_ok J4_ok 100 rfl rfl ?_ (by simp) trivial
    simp only [unN_nodesC, pathE, if_neg h1]; rfl
  · simp only [unN_nodesC] at h
    have h1 : formE ⟨vars, ns, top⟩ = 0 := by
      have e : (formE ⟨vars, ns, top⟩ != 0) = false := h
      simpa using e
    refine KW.goIf lay_ok J4_ok 100 rfl (by simp [hin, h1]) rfl trivial (fun h => ?_) fun h => ?_
    · simp only [unN_nodesC] at h
      have h2 : cohF ⟨vars, ns, top⟩ = false := by
        have e : (!cohF ⟨vars, ns, top⟩) = true := h
        simpa using e
      refine KW.goRet lay_ok J4_ok 100 rfl rfl ?_ (by simp) trivial
      simp only [pathE, if_pos h1, h2]; rfl
    · simp only [unN_nodesC] at h
      have h2 : cohF ⟨vars, ns, top⟩ = true := by
        have e : (!cohF ⟨vars, ns, top⟩) = false := h
        simpa using e
      refine KW.goRet lay_ok J4_ok 100 rfl rfl ?_ (by simp) trivial
      simp only [pathE, if_pos h1, h2]; rfl

def J5 : Fns := (78, fF (fun f => sI (pathE f)) FormIn) ::
  J4
theorem J5_ok : FnsOk Try.prog J5 := .cons (J4_ok) Try.func78 rfl rfl (fF_ok fun f h => rerror34_does f h)


theorem rerrorOf34_does (f : FormP) (s : Int) (hin : FormIn f) : DoesF Try.prog 83 [.ag (formC f), iV s] [] (sI (pathSE f s)) [] := by
  refine DoesF.body _ Try.func83 rfl rfl rfl rfl ?_
  obtain ⟨vars, ns, top⟩ := f
  refine KW.goIf lay_ok J5_ok 100 rfl (by simp [hin]) rfl trivial (fun h => ?_) fun h => ?_
  · simp only [unN_nodesC] at h
    have h1 : ¬ pathE ⟨vars, ns, top⟩ = 0 := by
      have e : (pathE ⟨vars, ns, top⟩ != 0) = true := h
      simpa using e
    refine KW.goRet lay_ok J5_ok 100 rfl rfl ?_ (by simp) trivial
    simp only [unN_nodesC, pathSE, if_neg h1]; rfl
  · simp only [unN_nodesC] at h
    have h1 : pathE ⟨vars, ns, top⟩ = 0 := by
      have e : (pathE ⟨vars, ns, top⟩ != 0) = false := h
      simpa using e
    have h0 : formE ⟨vars, ns, top⟩ = 0 := by
      unfold pathE at h1
      split at h1
      · assumption
      · exact h1
    have hv := (formE_ok h0).vars
    simp only at hv
    have hsb : setB ⟨vars, ns, top⟩ s = decide (0 ≤ s ∧ s < ishl 1 vars) := by
      simp [setB]
    refine KW.goIf lay_ok J5_ok 100 rfl (by simp [hv]) rfl trivial (fun h => ?_) fun h => ?_
    · simp only [unN_nodesC] at h
      have h2 : ¬ (0 ≤ s ∧ s < ishl 1 vars) := by
        have e : (!setB ⟨vars, ns, top⟩ s) = true := h
        rw [hsb] at e; simp at e; omega
      refine KW.goRet lay_ok J5_ok 100 rfl rfl ?_ (by simp) trivial
      simp only [pathSE, if_pos h1]; rw [if_neg h2]; rfl
    · simp only [unN_nodesC] at h
      have h2 : 0 ≤ s ∧ s < ishl 1 vars := by
        have e : (!setB ⟨vars, ns, top⟩ s) = false := h
        rw [hsb] at e; simpa using e
      refine KW.goRet lay_ok J5_ok 100 rfl rfl ?_ (by simp) trivial
      simp only [pathSE, if_pos h1]; rw [if_pos h2]; rfl
end Go.Proofs.Ytpjhpcclbenfbaa

/-
  Small formulas of layer 34.
-/
namespace Go.Pu
open Go.Sy
def brA : List NodeP → Int
  | [] => 0
  | x :: r => x.args.length + brA r
def brV : List NodeP → Int
  | [] => 0
  | x :: r => (if x.kind = 4 then (x.args.length : Int) * ((x.args.length : Int) - x.k + 1) else 0) + brV r
def broadF (f : FormP) : Bool := decide (80 < brA f.nodes) || decide (130 < brV f.nodes)
end Go.Pu
namespace Go.Proofs.Ytpjhpcclbenfbaa
open Go.Sy Go.Pu
/-- broad is asked of formulas that pass the check alone -/
theorem broad_does (f : FormP) (hin : FormIn f) (h0 : formE f = 0) : DoesF Try.prog 73 [.ag (formC f)] [] (sB (broadF f)) [] := by
  refine DoesF.body _ Try.func73 rfl rfl rfl rfl ?_
  have ok := formE_ok h0
  obtain ⟨vars, ns, top⟩ := f
  have hl := ok.len
  have hns := ok.nodes
  simp only at hl hns
  refine KW.goLpR lay_ok J5_ok 100 rfl (I := fun q : Nat × Int × Int => ⟨Try.f73.ntmps, [(3, sI q.2.1), (4, sI q.2.2), (8, .e (.c (nodesC ns))), (9, sI ns.length), (10, sI q.1)], []⟩)
    (R := fun q => q.1 ≤ ns.length ∧ q.2.1 + brA (ns.drop q.1) = brA ns ∧ q.2.2 + brV (ns.drop q.1) = brV ns ∧ 0 ≤ q.2.1 ∧ q.2.1 ≤ 16 * q.1 ∧ -300 * q.1 ≤ q.2.2 ∧ q.2.2 ≤ 300 * q.1) (m := fun q => ns.length - q.1) (0, 0, 0) [] rfl rfl ⟨rfl, rfl, rfl, rfl, rfl, trivial⟩ (by simp) ⟨Nat.zero_le _, by simp, by simp, by simp, by simp, by simp, by simp⟩ trivial ?_
  rintro ⟨q, a, b⟩ ⟨g1, g2, g3, g4, g5, g6, g7⟩
  simp only at g1 g2 g3 g4 g5 g6 g7
  refine KW.goIf lay_ok J5_ok 100 rfl (by simp) rfl trivial (fun h => ?_) fun h => ?_
  · have hq : q < ns.length := by simpa using h
    have hX : ns.getD (Int.toNat (q : Int)) node0 = ns[q] := by simp [List.getD_eq_getElem?_getD, hq]
    have okX := hns q hq
    rw [List.drop_eq_getElem_cons hq, brA] at g2
    rw [List.drop_eq_getElem_cons hq, brV] at g3
    generalize ns[q] = X at hX okX g2 g3
    have h16 := argsB_le okX.cnt
    have hk := okX.k
    refine KW.goIf lay_ok J5_ok 100 rfl (by simp only [hX]; simp [hq, inK]; omega) rfl trivial (fun h => ?_) fun h => ?_
    · have k4 : X.kind = 4 := by
        simp only [hX] at h
        simpa using h
      have hkr : 1 ≤ X.k ∧ X.k ≤ X.args.length := by
        unfold kE at hk
        rw [k4] at hk
        simp only [Int.reduceEq, if_false, if_true] at hk
        split at hk
        · cases hk
        · omega
      rw [if_pos k4] at g3
      have p1 : (0 : Int) ≤ (X.args.length : Int) * ((X.args.length : Int) - X.k + 1) := Int.mul_nonneg (by omega) (by omega)
      have p2 : (X.args.length : Int) * ((X.args.length : Int) - X.k + 1) ≤ 16 * 16 := Int.mul_le_mul (by omega) (by omega) (by omega) (by omega)
      refine KW.goToR lay_ok J5_ok 100 rfl (q + 1, a + X.args.length, b + (X.args.length : Int) * ((X.args.length : Int) - X.k + 1)) [] rfl rfl ⟨by simp only [← hX]; rfl, by simp only [← hX]; rfl, rfl, rfl, rfl, trivial⟩ ?_ ⟨⟨by simp only; omega, by simp only; omega, by simp only; omega, by simp only; omega, by simp only; omega, by simp only; omega, by simp only; omega⟩, by simp only; omega⟩ trivial
      simp only [hX]
      generalize (X.args.length : Int) * ((X.args.length : Int) - X.k + 1) = P at *
      simp [inK]
      omega
    · have k4 : ¬ X.kind = 4 := by
        simp only [hX] at h
        simpa using h
      rw [if_neg k4] at g3
      exact KW.goToR lay_ok J5_ok 100 rfl (q + 1, a + X.args.length, b) [] rfl rfl ⟨by simp only [← hX]; rfl, rfl, rfl, rfl, rfl, trivial⟩ (by simp [inK]; omega) ⟨⟨by simp only; omega, by simp only; omega, by simp only; omega, by simp only; omega, by simp only; omega, by simp only; omega, by simp only; omega⟩, by simp only; omega⟩ trivial
  · have hq : q = ns.length := by simp at h; omega
    rw [hq, List.drop_length] at g2 g3
    simp only [brA, brV, Int.add_zero] at g2 g3
    refine KW.goOut lay_ok J5_ok 100 rfl (by simp) ?_
    refine KW.goRet lay_ok J5_ok 100 rfl rfl ?_ (by simp) trivial
    simp only [SV.ren, EV.ren, broadF, ← g2, ← g3]

def J6 : Fns := (73, fF (fun f => sB (broadF f)) fun f => FormIn f ∧ formE f = 0) ::
  J5
theorem J6_ok : FnsOk Try.prog J6 := .cons (J5_ok) Try.func73 rfl rfl (fF_ok fun f h => broad_does f h.1 h.2)


def light34F (f : FormP) : Bool := decide (f.nodes.length ≤ 200) && (f.nodes.all fun x => decide (x.args.length ≤ 40)) && (decide (formE f ≠ 0) || (decide (f.vars ≤ 9) && decide (f.nodes.length ≤ 20) && !broadF f))
theorem light34_does (f : FormP) (hin : FormIn f) : DoesF Try.prog 32 [.ag (formC f)] [] (sB (light34F f)) [] := by
  refine DoesF.body _ Try.func32 rfl rfl rfl rfl ?_
  obtain ⟨vars, ns, top⟩ := f
  refine KW.goIf lay_ok J6_ok 100 rfl (by simp) rfl trivial (fun h => ?_) fun h => ?_
  · have h1 : ¬ ns.length ≤ 200 := by simp at h; omega
    refine KW.goRet lay_ok J6_ok 100 rfl rfl ?_ (by simp) trivial
    simp [SV.ren, EV.ren, light34F, h1]
  · have h1 : ns.length ≤ 200 := by simp at h; omega
    refine KW.goLpR lay_ok J6_ok 100 rfl (I := fun q : Nat => ⟨Try.f32.ntmps, [(1, .e (.r 1)), (10, .e (.c (nodesC ns))), (11, sI ns.length), (12, sI q)], [(1, .box 24 [iV vars, .c (nodesC ns), iV top] none)]⟩)
      (R := fun q => q ≤ ns.length ∧ (ns.drop q).all (fun x => decide (x.args.length ≤ 40)) = ns.all fun x => decide (x.args.length ≤ 40)) (m := fun q => ns.length - q) 0 [(1, 1)] rfl rfl ⟨rfl, rfl, rfl, rfl, trivial⟩ (by simp) ⟨by simp, by simp⟩ ⟨rfl, trivial⟩ ?_
    rintro q ⟨g1, g2⟩
    refine KW.goIf lay_ok J6_ok 100 rfl (by simp) rfl trivial (fun h => ?_) fun h => ?_
    · have hq : q < ns.length := by simpa using h
      have hX : ns.getD (Int.toNat (q : Int)) node0 = ns[q] := by simp [List.getD_eq_getElem?_getD, hq]
      rw [List.drop_eq_getElem_cons hq, List.all_cons] at g2
      generalize ns[q] = X at hX g2
      refine KW.goIf lay_ok J6_ok 100 rfl (by simp; omega) rfl trivial (fun h => ?_) fun h => ?_
      · have h2 : ¬ X.args.length ≤ 40 := by
          have e : decide ((40 : Int) < ((ns.getD (Int.toNat (q : Int)) node0).args.length : Int)) = true := h
          rw [hX, decide_eq_true_eq] at e; omega
        rw [decide_eq_false h2, Bool.false_and] at g2
        refine KW.goOutR lay_ok J6_ok 100 rfl (by simp) ?_
        refine KW.goRet lay_ok J6_ok 100 rfl rfl ?_ (by simp) trivial
        simp only [SV.ren, EV.ren, light34F, ← g2, Bool.and_false, Bool.false_and]
      · have h2 : X.args.length ≤ 40 := by
          have e : decide ((40 : Int) < ((ns.getD (Int.toNat (q : Int)) node0).args.length : Int)) = false := h
          rw [hX, decide_eq_false_iff_not] at e; omega
        rw [decide_eq_true h2, Bool.true_and] at g2
        exact KW.goToR lay_ok J6_ok 100 rfl (q + 1) [(1, 1)] rfl rfl ⟨rfl, rfl, rfl, rfl, trivial⟩ (by simp [inK]; omega) ⟨⟨by omega, g2⟩, by omega⟩ ⟨rfl, trivial⟩
    · have hq : q = ns.length := by simp at h; omega
      rw [hq, List.drop_length] at g2
      refine KW.goOut lay_ok J6_ok 100 rfl (by simp) ?_
      refine KW.goRet lay_ok J6_ok 100 rfl rfl ?_ (by simp only [unN_nodesC, isN_nodesC, true_and, and_true, hin]; simp +contextual) trivial
      simp only [SV.ren, EV.ren, light34F, ← g2, unN_nodesC]
      rw [decide_eq_true h1]
      simp only [List.all_nil, Bool.true_and]
      congr 5
      · rw [Bool.eq_iff_iff]; simp
      · rw [show decide ((ns.length : Int) ≤ 20) = decide (ns.length ≤ 20) by rw [Bool.eq_iff_iff]; simp; omega]


def J7 : Fns := (32, fF (fun f => sB (light34F f)) FormIn) ::
  J6
theorem J7_ok : FnsOk Try.prog J7 := .cons (J6_ok) Try.func32 rfl rfl (fF_ok fun f h => light34_does f h)


theorem valid34_does (f : FormP) (hin : FormIn f) : DoesF Try.prog 39 [.ag (formC f)] [] (sB (light34F f && decide (pathE f = 0))) [] := by
  refine DoesF.body _ Try.func39 rfl rfl rfl rfl ?_
  obtain ⟨vars, ns, top⟩ := f
  refine KW.goRet lay_ok J7_ok 200 rfl rfl ?_ (by simp +contextual [hin]) trivial
  simp only [SV.ren, EV.ren, unN_nodesC]
  congr 4
  all_goals (rw [Bool.eq_iff_iff]; simp)
end Go.Proofs.Ytpjhpcclbenfbaa
