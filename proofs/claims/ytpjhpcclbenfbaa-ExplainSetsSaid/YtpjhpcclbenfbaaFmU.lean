/-
  The laws of layer 56: small formulas, the document's example.
-/
import Derived.Test.YtpjhpcclbenfbaaFmR
set_option linter.unusedVariables false
set_option linter.unusedSimpArgs false
namespace Go.Pu
open Go.Sy
def exNodes : List NodeP := [⟨2, 0, [1, 2]⟩, ⟨3, 0, [0, 3]⟩]
def exF : FormP := ⟨3, exNodes, 4⟩
def exC : CV := rowsC 3 2 [.lit (.int .i64 2), .lit (.int .i64 0), ints [1, 2], .lit (.int .i64 3), .lit (.int .i64 0), ints [0, 3]]
theorem exC_un : unN exC = exNodes := rfl
theorem exC_eq : CVEq exC (nodesC exNodes) := by
  refine ⟨rfl, .inr ⟨rfl, fun e q he hq => ?_⟩⟩
  rcases (by omega : e = 0 ∨ e = 1) with rfl | rfl <;> rcases (by omega : q = 0 ∨ q = 1 ∨ q = 2) with rfl | rfl | rfl <;> exact CVEq.refl _
theorem exF_in : FormIn exF := by
  have hk : ∀ n : Int, 0 ≤ n ∧ n ≤ 9 → inK .i64 n := fun n h => by simp only [inK]; omega
  refine ⟨hk 3 (by decide), hk 4 (by decide), fun x hx => ?_⟩
  simp only [exF, exNodes, List.mem_cons, List.not_mem_nil, or_false] at hx
  rcases hx with rfl | rfl
  · exact ⟨hk 2 (by decide), hk 0 (by decide), fun a ha => hk a (by simp at ha; omega)⟩
  · exact ⟨hk 3 (by decide), hk 0 (by decide), fun a ha => hk a (by simp at ha; omega)⟩
end Go.Pu
namespace Go.Proofs.Ytpjhpcclbenfbaa
open Go.Sy Go.Pu

def F18 : Fns := (24, fFI (fun f s => .tup [lV (carNd f s), iV (carE f s), eV (stateE f s)]) fun f s => FormIn f) ::
  (26, fFI (fun f s => .tup [lV (carNd f s), iV (carE f s), iV (stateE f s)]) fun f s => FormIn f) ::
  F17
theorem F18_ok : FnsOk Try.prog F18 := .cons (.cons (F17_ok) Try.func26 rfl rfl (fFI_ok fun f s h => rcarriers_does f s h)) Try.func24 rfl rfl (fFI_ok fun f s h => carriers_does f s h)


def lightF (f : FormP) : Bool := decide (f.nodes.length ≤ 200) && (f.nodes.all fun x => decide (x.args.length ≤ 40)) && (decide (formE f ≠ 0) || (decide (f.vars ≤ 7) && decide (f.nodes.length ≤ 20)) || decide (12 < f.vars))
theorem light56_does (f : FormP) (hin : FormIn f) : DoesF Try.prog 15 [.ag (formC f)] [] (sB (lightF f)) [] := by
  refine DoesF.body _ Try.func15 rfl rfl rfl rfl ?_
  obtain ⟨vars, ns, top⟩ := f
  refine KW.goIf lay_ok F18_ok 100 rfl (by simp) rfl trivial (fun h => ?_) fun h => ?_
  · have h1 : ¬ ns.length ≤ 200 := by simp at h; omega
    refine KW.goRet lay_ok F18_ok 100 rfl rfl ?_ (by simp) trivial
    simp [SV.ren, EV.ren, lightF, h1]
  · have h1 : ns.length ≤ 200 := by simp at h; omega
    refine KW.goLpR lay_ok F18_ok 100 rfl (I := fun q : Nat => ⟨Try.f15.ntmps, [(1, .e (.r 1)), (10, .e (.c (nodesC ns))), (11, sI ns.length), (12, sI q)], [(1, .box 24 [iV vars, .c (nodesC ns), iV top] none)]⟩)
      (R := fun q => q ≤ ns.length ∧ (ns.drop q).all (fun x => decide (x.args.length ≤ 40)) = ns.all fun x => decide (x.args.length ≤ 40)) (m := fun q => ns.length - q) 0 [(1, 1)] rfl rfl ⟨rfl, rfl, rfl, rfl, trivial⟩ (by simp) ⟨by simp, by simp⟩ ⟨rfl, trivial⟩ ?_
    rintro q ⟨g1, g2⟩
    refine KW.goIf lay_ok F18_ok 100 rfl (by simp) rfl trivial (fun h => ?_) fun h => ?_
    · have hq : q < ns.length := by simpa using h
      have hX : ns.getD (Int.toNat (q : Int)) node0 = ns[q] := by simp [List.getD_eq_getElem?_getD, hq]
      rw [List.drop_eq_getElem_cons hq, List.all_cons] at g2
      generalize ns[q] = X at hX g2
      refine KW.goIf lay_ok F18_ok 100 rfl (by simp; omega) rfl trivial (fun h => ?_) fun h => ?_
      · have h2 : ¬ X.args.length ≤ 40 := by
          have e : decide ((40 : Int) < ((ns.getD (Int.toNat (q : Int)) node0).args.length : Int)) = true := h
          rw [hX, decide_eq_true_eq] at e; omega
        rw [decide_eq_false h2, Bool.false_and] at g2
        refine KW.goOutR lay_ok F18_ok 100 rfl (by simp) ?_
        refine KW.goRet lay_ok F18_ok 100 rfl rfl ?_ (by simp) trivial
        simp only [SV.ren, EV.ren, lightF, ← g2, Bool.and_false, Bool.false_and]
      · have h2 : X.args.length ≤ 40 := by
          have e : decide ((40 : Int) < ((ns.getD (Int.toNat (q : Int)) node0).args.length : Int)) = false := h
          rw [hX, decide_eq_false_iff_not] at e; omega
        rw [decide_eq_true h2, Bool.true_and] at g2
        exact KW.goToR lay_ok F18_ok 100 rfl (q + 1) [(1, 1)] rfl rfl ⟨rfl, rfl, rfl, rfl, trivial⟩ (by simp [inK]; omega) ⟨⟨by omega, g2⟩, by omega⟩ ⟨rfl, trivial⟩
    · have hq : q = ns.length := by simp at h; omega
      rw [hq, List.drop_length] at g2
      refine KW.goOut lay_ok F18_ok 100 rfl (by simp) ?_
      refine KW.goRet lay_ok F18_ok 100 rfl rfl ?_ (by simp only [unN_nodesC, isN_nodesC, true_and, and_true, hin]; simp +contextual; omega) trivial
      simp only [SV.ren, EV.ren, lightF, ← g2, unN_nodesC]
      rw [decide_eq_true h1]
      simp only [List.all_nil, Bool.true_and]
      congr 5
      rw [Bool.eq_iff_iff]; simp; omega

theorem ex_table : tableE exF 7 = 0 ∧ stateE exF 1 = 0 := by decide +kernel
theorem ex_vals : reasonF exF 7 = (6, 0) ∧ critF exF 1 = 1 ∧ carNd exF 1 = [1] ∧ carE exF 1 = 1 := by decide +kernel
theorem ex_all : allF exF 7 = [(1, 0), (6, 0)] := by
  have e : allF exF 7 = sortR (reasonsN (okV exF 3 7) 3 7 8) := by
    rw [← sort_eq (reasonsN_nodup (n := 3) (by decide) ((inN_iff (by decide)).2 (by decide)) (by decide))]
    unfold allF
    rw [if_pos ex_table.1]; rfl
  rw [e]; decide +kernel
theorem isC_two (a b c d : Int) : isC (rowsC 2 2 [.lit (.int .i64 a), .lit (.int .i64 b), .lit (.int .i64 c), .lit (.int .i64 d)]) := by
  unfold isC
  refine ⟨rfl, .inr ⟨rfl, fun e q he hq => ?_⟩⟩
  rcases (by omega : e = 0 ∨ e = 1) with rfl | rfl <;> rcases (by omega : q = 0 ∨ q = 1) with rfl | rfl <;> exact CVEq.refl (.lit _)
theorem awake56_does : DoesF Try.prog 16 [] [] (sB true) [] := by
  refine DoesF.body _ Try.func16 rfl rfl rfl rfl ?_
  refine KW.go lay_ok F18_ok 100 rfl (by simp) ?_
  refine KW.frz1 11 rfl rfl rfl ?_
  refine KW.go lay_ok F18_ok 100 rfl (by simp) ?_
  refine KW.frz1 13 rfl rfl rfl ?_
  refine KW.go lay_ok F18_ok 100 rfl (by simp) ?_
  refine KW.frz1 15 rfl rfl rfl ?_
  refine KW.conv 15 (nodesC exNodes) rfl exC_eq ?_
  have c1 : tableE ⟨3, exNodes, 4⟩ 7 = 0 := ex_table.1
  have c2 : stateE ⟨3, exNodes, 4⟩ 1 = 0 := ex_table.2
  have c3 : reasonF ⟨3, exNodes, 4⟩ 7 = (6, 0) := ex_vals.1
  have c4 : critF ⟨3, exNodes, 4⟩ 1 = 1 := ex_vals.2.1
  have c5 : carNd ⟨3, exNodes, 4⟩ 1 = [1] := ex_vals.2.2.1
  have c6 : carE ⟨3, exNodes, 4⟩ 1 = 1 := ex_vals.2.2.2
  have c7 : allF ⟨3, exNodes, 4⟩ 7 = [(1, 0), (6, 0)] := ex_all
  have c8 : FormIn ⟨3, exNodes, 4⟩ := exF_in
  refine KW.go lay_ok F18_ok 100 rfl ?_ ?_
  · simp only [unN_nodesC, isN_nodesC, c8, ifcV_errV, true_and, and_true, implies_true]
    simp +contextual [c1, c2, c3]
  simp only [unN_nodesC, c1, c2, c3, c4, c5, c6, c7]
  refine KW.guardT rfl rfl (by simp [cubeL]) ?_
  refine KW.go lay_ok F18_ok 100 rfl ?_ ?_
  · simp [cubeL]
    exact isC_two 1 0 6 0
  refine KW.guardT rfl rfl ?_ ?_
  · simp [cubeL]
    rfl
  refine KW.goRet lay_ok F18_ok 100 rfl rfl ?_ (by simp) trivial
  simp [SV.ren, EV.ren, cubeL]
  rfl
end Go.Proofs.Ytpjhpcclbenfbaa
