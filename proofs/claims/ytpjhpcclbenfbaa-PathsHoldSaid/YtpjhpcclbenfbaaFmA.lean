/-
  FmA, FmB, FmC, FmD, FmE, FmF, FmG, FmI, one text.
-/
import Derived.Test.YtpjhpcclbenfbaaFnC
import Derived.Test.YtpjhpcclbenfbaaPuN
import Derived.Test.YtpjhpcclbenfbaaSyT
set_option linter.unusedVariables false
set_option linter.unusedSimpArgs false
/-
  Formulas: errors of the code and of the specification.
-/
namespace Go.Proofs.Ytpjhpcclbenfbaa
open Go.Sy Go.Pu

theorem arguments_does (kind n : Int) : DoesF Try.prog 155 [iV kind, iV n] [] (sB (argsB kind n)) [] := by
  refine DoesF.body _ Try.func155 rfl rfl rfl rfl ?_
  refine KW.goIf lay_ok T9_ok 100 rfl (by simp) rfl trivial (fun h => ?_) fun h => ?_
  · have h' : kind = 0 := by simpa using h
    refine KW.goRet lay_ok T9_ok 100 rfl rfl ?_ (by simp) trivial
    subst h'
    simp [SV.ren, EV.ren, argsB]
    rw [Bool.eq_iff_iff]; simp
  · have h' : ¬ kind = 0 := by simpa using h
    refine KW.goIf lay_ok T9_ok 100 rfl (by simp) rfl trivial (fun h => ?_) fun h => ?_
    · have h2 : kind = 1 := by simpa using h
      refine KW.goRet lay_ok T9_ok 100 rfl rfl ?_ (by simp) trivial
      subst h2
      simp [SV.ren, EV.ren, argsB]
      rw [Bool.eq_iff_iff]; simp
    · have h2 : ¬ kind = 1 := by simpa using h
      refine KW.goRet lay_ok T9_ok 100 rfl rfl ?_ (by simp) trivial
      simp [SV.ren, EV.ren, argsB, h', h2]

theorem validF_does (f : FormP) (a : Int) (hf : inK .i64 f.vars) (ha : inK .i64 a) : DoesF Try.prog 142 [.ag (formC f), iV a] [] (sB (argB f a)) [] := by
  refine DoesF.body _ Try.func142 rfl rfl rfl rfl ?_
  refine KW.goRet lay_ok T9_ok 100 rfl rfl ?_ ?_ trivial
  · simp [SV.ren, EV.ren, argB]
  · simp only [inK] at hf ha
    simp +contextual [inK] <;> (intros; omega)
theorem rvalidF_does (f : FormP) (a : Int) (hf : inK .i64 f.vars) (ha : inK .i64 a) : DoesF Try.prog 100 [.ag (formC f), iV a] [] (sB (argB f a)) [] := by
  refine DoesF.body _ Try.func100 rfl rfl rfl rfl ?_
  refine KW.goRet lay_ok T9_ok 100 rfl rfl ?_ ?_ trivial
  · simp [SV.ren, EV.ren, argB]
  · simp only [inK] at hf ha
    simp +contextual [inK] <;> (intros; omega)
end Go.Proofs.Ytpjhpcclbenfbaa

/-
  Formulas: the error of a node, of a formula: the code.
-/
namespace Go.Proofs.Ytpjhpcclbenfbaa
open Go.Sy Go.Pu

def F1 : Fns := (155, fII (fun k n => sB (argsB k n)) fun _ _ => True) ::
  (142, fFI (fun f a => sB (argB f a)) fun f a => inK .i64 f.vars ∧ inK .i64 a) ::
  T9
theorem F1_ok : FnsOk Try.prog F1 := .cons (.cons (T9_ok) Try.func142 rfl rfl (fFI_ok fun f a h => validF_does f a h.1 h.2)) Try.func155 rfl rfl (fII_ok fun k n _ => arguments_does k n)


theorem checkNode_does (f : FormP) (i : Nat) (hi : i < f.nodes.length) (hin : FormIn f) (hv : 0 ≤ f.vars ∧ f.vars ≤ 24) (hl : f.nodes.length ≤ 128) :
    DoesF Try.prog 141 [.ag (formC f), iV i] [] (.e (eV (nodeE f.vars i (f.nodes.getD i node0)))) [] := by
  refine DoesF.body _ Try.func141 rfl rfl rfl rfl ?_
  obtain ⟨vars, ns, top⟩ := f
  simp only at hi hv hl ⊢
  have hx : NodeIn (ns.getD i node0) := hin.nodes _ (by rw [List.getD_eq_getElem?_getD, List.getElem?_eq_getElem hi]; exact List.getElem_mem hi)
  generalize hX : ns.getD i node0 = X at hx
  have hXi : ns.getD (Int.toNat (i : Int)) node0 = X := hX
  refine KW.goIf lay_ok F1_ok 100 rfl (by simp; omega) rfl trivial (fun h => ?_) fun h => ?_
  · have h' : X.kind < 0 ∨ 5 < X.kind := by
      have e : (decide (X.kind < 0) || decide (5 < X.kind)) = true := by rw [← hXi]; exact h
      simpa using e
    refine KW.goRet lay_ok F1_ok 100 rfl rfl ?_ (by simp) trivial
    simp [SV.ren, EV.ren, nodeE, h', errV]
  · have h1 : ¬ (X.kind < 0 ∨ 5 < X.kind) := by
      have e : (decide (X.kind < 0) || decide (5 < X.kind)) = false := by rw [← hXi]; exact h
      simpa using e
    refine KW.goIf lay_ok F1_ok 100 rfl (by simp) rfl trivial (fun h => ?_) fun h => ?_
    · have h2 : argsB X.kind X.args.length = false := by
        have e : (!argsB X.kind X.args.length) = true := by rw [← hXi]; exact h
        simpa using e
      refine KW.goRet lay_ok F1_ok 100 rfl rfl ?_ (by simp) trivial
      simp [SV.ren, EV.ren, nodeE, h1, h2, errV]
    · have h2 : argsB X.kind X.args.length = true := by
        have e : (!argsB X.kind X.args.length) = false := by rw [← hXi]; exact h
        simpa using e
      have hal : X.args.length ≤ 16 := by
        unfold argsB at h2
        split at h2
        · rw [decide_eq_true_iff] at h2; omega
        · split at h2
          · rw [decide_eq_true_iff] at h2; omega
          · rw [Bool.and_eq_true, decide_eq_true_iff, decide_eq_true_iff] at h2; omega
      refine KW.goLpR lay_ok F1_ok 100 rfl (I := fun q : Nat => ⟨Try.f141.ntmps, [(1, sI i), (2, .e (.r 2)), (5, .e (.r 5)), (31, .e (lV X.args)), (32, sI X.args.length), (33, sI q)],
          [(2, .box 24 [iV vars, .c (nodesC ns), iV top] none), (5, .box 71 [iV X.kind, iV X.k, lV X.args] none)]⟩)
        (R := fun q => q ≤ X.args.length ∧ ((X.args.take q).any fun a => decide (a < 0) || decide (vars + i ≤ a)) = false) (m := fun q => X.args.length - q) 0 [(2, 2), (5, 5)] rfl rfl ⟨rfl, rfl, rfl, (by rw [← hXi]; rfl), (by rw [← hXi]; rfl), rfl, trivial⟩ (by simp) ⟨by simp, by simp⟩ ⟨rfl, (by rw [← hXi]; rfl), trivial⟩ ?_
      rintro q ⟨g1, g2⟩
      refine KW.goIf lay_ok F1_ok 100 rfl (by simp) rfl trivial (fun h => ?_) fun h => ?_
      · have hq : q < X.args.length := by simpa using h
        have hg : X.args.getD (Int.toNat (q : Int)) 0 = X.args[q] := by simp [List.getD_eq_getElem?_getD, hq]
        refine KW.goIf lay_ok F1_ok 100 rfl (by simp [inK] <;> omega) rfl trivial (fun h => ?_) fun h => ?_
        · have h3 : (decide (X.args[q] < 0) || decide (vars + i ≤ X.args[q])) = true := by rw [← hg]; exact h
          have h4 : (X.args.any fun a => decide (a < 0) || decide (vars + i ≤ a)) = true := List.any_eq_true.2 ⟨_, List.getElem_mem hq, h3⟩
          refine KW.goOutR lay_ok F1_ok 100 rfl (by simp) ?_
          refine KW.goRet lay_ok F1_ok 100 rfl rfl ?_ (by simp) trivial
          unfold nodeE
          rw [if_neg h1, if_neg (by rw [h2]; simp), if_pos h4]
          simp [SV.ren, EV.ren, errV]
        · have h3 : (decide (X.args[q] < 0) || decide (vars + i ≤ X.args[q])) = false := by rw [← hg]; exact h
          refine KW.goToR lay_ok F1_ok 100 rfl (q + 1) [(2, 2), (5, 5)] rfl rfl ⟨rfl, rfl, rfl, rfl, rfl, rfl, trivial⟩ (by simp [inK]; omega) ⟨⟨by omega, ?_⟩, by omega⟩ ⟨rfl, rfl, trivial⟩
          rw [List.take_succ_eq_append_getElem hq, List.any_append, g2]
          simpa using h3
      · have hq : q = X.args.length := by simp at h; omega
        rw [hq, List.take_length] at g2
        have hE : nodeE vars i X = kE X := by
          unfold nodeE
          rw [if_neg h1, if_neg (by rw [h2]; simp), if_neg (by rw [g2]; simp)]
        rw [hE]
        refine KW.goOut lay_ok F1_ok 100 rfl (by simp) ?_
        refine KW.goIf lay_ok F1_ok 100 rfl (by simp) rfl trivial (fun h => ?_) fun h => ?_
        · have hk : X.kind = 0 := by simpa using h
          refine KW.goIf lay_ok F1_ok 100 rfl (by simp +contextual) rfl trivial (fun h => ?_) fun h => ?_
          · have hk2 : X.k ≠ 0 ∧ X.k ≠ 1 := by simpa using h
            refine KW.goRet lay_ok F1_ok 100 rfl rfl ?_ (by simp) trivial
            unfold kE
            rw [if_pos hk, if_pos hk2]
            simp [SV.ren, EV.ren, errV]
          · have hk2 : ¬ (X.k ≠ 0 ∧ X.k ≠ 1) := by
              intro hc; simp [hc.1, hc.2] at h
            refine KW.goRet lay_ok F1_ok 100 rfl rfl ?_ (by simp) trivial
            unfold kE
            rw [if_pos hk, if_neg hk2]
            simp [SV.ren, EV.ren, errV]
        · have hk : ¬ X.kind = 0 := by simpa using h
          refine KW.goIf lay_ok F1_ok 100 rfl (by simp) rfl trivial (fun h => ?_) fun h => ?_
          · have hk4 : X.kind = 4 := by simpa using h
            refine KW.goIf lay_ok F1_ok 100 rfl (by simp +contextual) rfl trivial (fun h => ?_) fun h => ?_
            · have hk2 : X.k < 1 ∨ (X.args.length : Int) < X.k := by simpa using h
              refine KW.goRet lay_ok F1_ok 100 rfl rfl ?_ (by simp) trivial
              unfold kE
              rw [if_neg hk, if_pos hk4, if_pos hk2]
              simp [SV.ren, EV.ren, errV]
            · have hk2 : ¬ (X.k < 1 ∨ (X.args.length : Int) < X.k) := by
                intro hc
                have e : (decide (X.k < 1) || decide ((X.args.length : Int) < X.k)) = false := h
                rw [Bool.or_eq_false_iff, decide_eq_false_iff_not, decide_eq_false_iff_not] at e
                exact hc.elim e.1 e.2
              refine KW.goRet lay_ok F1_ok 100 rfl rfl ?_ (by simp) trivial
              unfold kE
              rw [if_neg hk, if_pos hk4, if_neg hk2]
              simp [SV.ren, EV.ren, errV]
          · have hk4 : ¬ X.kind = 4 := by simpa using h
            refine KW.goIf lay_ok F1_ok 100 rfl (by simp) rfl trivial (fun h => ?_) fun h => ?_
            · have hk2 : X.k ≠ 0 := by simpa using h
              refine KW.goRet lay_ok F1_ok 100 rfl rfl ?_ (by simp) trivial
              unfold kE
              rw [if_neg hk, if_neg hk4, if_pos hk2]
              simp [SV.ren, EV.ren, errV]
            · have hk2 : ¬ X.k ≠ 0 := by simpa using h
              refine KW.goRet lay_ok F1_ok 100 rfl rfl ?_ (by simp) trivial
              unfold kE
              rw [if_neg hk, if_neg hk4, if_neg hk2]
              simp [SV.ren, EV.ren, errV]
end Go.Proofs.Ytpjhpcclbenfbaa

/-
  Formulas: formula.Check.
-/
namespace Go.Proofs.Ytpjhpcclbenfbaa
open Go.Sy Go.Pu

def nodePre (f : FormP) (i : Int) : Prop := ∃ n : Nat, i = n ∧ n < f.nodes.length ∧ FormIn f ∧ (0 ≤ f.vars ∧ f.vars ≤ 24) ∧ f.nodes.length ≤ 128
def F2 : Fns := (141, fFI (fun f i => .e (eV (nodeE f.vars i.toNat (f.nodes.getD i.toNat node0)))) nodePre) ::
  F1
theorem F2_ok : FnsOk Try.prog F2 := .cons (F1_ok) Try.func141 rfl rfl (fFI_ok fun f i h => by obtain ⟨n, rfl, h1, h2, h3, h4⟩ := h; exact checkNode_does f n h1 h2 h3 h4)


theorem checkF_does (f : FormP) (hin : FormIn f) : DoesF Try.prog 108 [.ag (formC f)] [] (.e (eV (formE f))) [] := by
  refine DoesF.body _ Try.func108 rfl rfl rfl rfl ?_
  obtain ⟨vars, ns, top⟩ := f
  refine KW.goIf lay_ok F2_ok 100 rfl (by simp +contextual) rfl trivial (fun h => ?_) fun h => ?_
  · have h1 : vars < 0 ∨ 24 < vars := by simpa using h
    refine KW.goRet lay_ok F2_ok 100 rfl rfl ?_ (by simp) trivial
    simp [SV.ren, EV.ren, formE, h1, errV]
  · have h1 : ¬ (vars < 0 ∨ 24 < vars) := by
      intro hc
      have e : (decide (vars < 0) || decide (24 < vars)) = false := h
      rw [Bool.or_eq_false_iff, decide_eq_false_iff_not, decide_eq_false_iff_not] at e
      exact hc.elim e.1 e.2
    refine KW.goIf lay_ok F2_ok 100 rfl (by simp) rfl trivial (fun h => ?_) fun h => ?_
    · have h2 : 128 < ns.length := by
        have e : decide ((128 : Int) < (ns.length : Int)) = true := h
        rw [decide_eq_true_iff] at e; omega
      refine KW.goRet lay_ok F2_ok 100 rfl rfl ?_ (by simp) trivial
      simp [SV.ren, EV.ren, formE, h1, h2, errV]
    · have h2 : ¬ 128 < ns.length := by
        have e : decide ((128 : Int) < (ns.length : Int)) = false := h
        rw [decide_eq_false_iff_not] at e; omega
      refine KW.goLpR lay_ok F2_ok 100 rfl (I := fun q : Nat => ⟨Try.f108.ntmps, [(1, .e (.r 1)), (21, sI ns.length), (22, sI q)], [(1, .box 24 [iV vars, .c (nodesC ns), iV top] none)]⟩)
        (R := fun q => q ≤ ns.length ∧ nodesE vars q (ns.drop q) = nodesE vars 0 ns) (m := fun q => ns.length - q) 0 [(1, 1)] rfl rfl ⟨rfl, rfl, rfl, trivial⟩ (by simp) ⟨by simp, by simp⟩ ⟨rfl, trivial⟩ ?_
      rintro q ⟨g1, g2⟩
      refine KW.goIf lay_ok F2_ok 100 rfl (by simp) rfl trivial (fun h => ?_) fun h => ?_
      · have hq : q < ns.length := by simpa using h
        have hg : ns.getD q node0 = ns[q] := by simp [List.getD_eq_getElem?_getD, hq]
        rw [List.drop_eq_getElem_cons hq, nodesE] at g2
        have hpre : nodePre ⟨vars, ns, top⟩ q := ⟨q, rfl, hq, hin, by simp only; omega, by simp only; omega⟩
        refine KW.goIf lay_ok F2_ok 100 rfl (by simp only [unN_nodesC, isN_nodesC, true_and, and_true, ifcV_errV]; exact hpre) rfl trivial (fun h => ?_) fun h => ?_
        · simp only [unN_nodesC, Int.toNat_natCast, hg] at h
          have h3 : ¬ nodeE vars q ns[q] = 0 := by
            have e : (!isNilB (errV 66 (nodeE vars q ns[q]))) = true := h
            simpa using e
          rw [if_neg h3] at g2
          refine KW.goOutR lay_ok F2_ok 100 rfl (by simp) ?_
          refine KW.goRet lay_ok F2_ok 100 rfl rfl ?_ (by simp) trivial
          simp only [unN_nodesC, Int.toNat_natCast, hg]
          have e : formE ⟨vars, ns, top⟩ = nodeE vars q ns[q] := by
            unfold formE
            simp only [if_neg h1, if_neg h2, ← g2, if_neg h3]
          rw [e]; rfl
        · simp only [unN_nodesC, Int.toNat_natCast, hg] at h
          have h3 : nodeE vars q ns[q] = 0 := by
            have e : (!isNilB (errV 66 (nodeE vars q ns[q]))) = false := h
            simpa using e
          rw [if_pos h3] at g2
          exact KW.goToR lay_ok F2_ok 100 rfl (q + 1) [(1, 1)] rfl rfl ⟨rfl, rfl, rfl, trivial⟩ (by simp [inK]; omega) ⟨⟨by omega, g2⟩, by omega⟩ ⟨rfl, trivial⟩
      · have hq : q = ns.length := by simp at h; omega
        rw [hq, List.drop_length, nodesE] at g2
        refine KW.goOut lay_ok F2_ok 100 rfl (by simp) ?_
        refine KW.goIf lay_ok F2_ok 100 rfl (by simp only [unN_nodesC, isN_nodesC, true_and, and_true]; exact ⟨hin.vars, hin.top⟩) rfl trivial (fun h => ?_) fun h => ?_
        · simp only [unN_nodesC] at h
          have h3 : argB ⟨vars, ns, top⟩ top = false := by
            have e : (!argB ⟨vars, ns, top⟩ top) = true := h
            simpa using e
          refine KW.goRet lay_ok F2_ok 100 rfl rfl ?_ (by simp) trivial
          simp [SV.ren, EV.ren, formE, h1, h2, ← g2, h3, errV]
        · simp only [unN_nodesC] at h
          have h3 : argB ⟨vars, ns, top⟩ top = true := by
            have e : (!argB ⟨vars, ns, top⟩ top) = false := h
            simpa using e
          refine KW.goRet lay_ok F2_ok 100 rfl rfl ?_ (by simp) trivial
          simp [SV.ren, EV.ren, formE, h1, h2, ← g2, h3, errV]
end Go.Proofs.Ytpjhpcclbenfbaa

/-
  Formulas: the error of a node and of a formula: the specification.
-/
namespace Go.Proofs.Ytpjhpcclbenfbaa
open Go.Sy Go.Pu

theorem rnode_does (f : FormP) (i : Nat) (hi : i < f.nodes.length) (hin : FormIn f) (hv : 0 ≤ f.vars ∧ f.vars ≤ 24) (hl : f.nodes.length ≤ 128) :
    DoesF Try.prog 99 [.ag (formC f), iV i] [] (sI (nodeE f.vars i (f.nodes.getD i node0))) [] := by
  refine DoesF.body _ Try.func99 rfl rfl rfl rfl ?_
  obtain ⟨vars, ns, top⟩ := f
  simp only at hi hv hl ⊢
  have hx : NodeIn (ns.getD i node0) := hin.nodes _ (by rw [List.getD_eq_getElem?_getD, List.getElem?_eq_getElem hi]; exact List.getElem_mem hi)
  generalize hX : ns.getD i node0 = X at hx
  have hXi : ns.getD (Int.toNat (i : Int)) node0 = X := hX
  refine KW.goIf lay_ok F2_ok 100 rfl (by simp; omega) rfl trivial (fun h => ?_) fun h => ?_
  · have hk : X.kind = 0 := by rw [← hXi]; simpa using h
    have h1 : ¬ (X.kind < 0 ∨ 5 < X.kind) := by omega
    refine KW.goIf lay_ok F2_ok 100 rfl (by simp +contextual) rfl trivial (fun h => ?_) fun h => ?_
    · have e : (decide ((X.args.length : Int) < 0) || decide ((0 : Int) < (X.args.length : Int))) = true := by rw [← hXi]; exact h
      have h2 : argsB X.kind X.args.length = false := by
        rw [Bool.or_eq_true, decide_eq_true_iff, decide_eq_true_iff] at e
        rw [hk, Bool.eq_false_iff]
        intro hc
        simp only [argsB] at hc
        simp at hc; simp [hc] at e
      refine KW.goRet lay_ok F2_ok 100 rfl rfl ?_ (by simp) trivial
      simp [SV.ren, EV.ren, nodeE, h1, h2]
    · have e : (decide ((X.args.length : Int) < 0) || decide ((0 : Int) < (X.args.length : Int))) = false := by rw [← hXi]; exact h
      rw [Bool.or_eq_false_iff, decide_eq_false_iff_not, decide_eq_false_iff_not] at e
      have h2 : argsB X.kind X.args.length = true := by
        rw [hk]
        simp only [argsB]
        rw [if_pos trivial, decide_eq_true_iff]; omega
      refine KW.goLpR lay_ok F2_ok 100 rfl (I := fun q : Nat => ⟨Try.f99.ntmps, [(1, sI i), (2, .e (.r 2)), (5, .e (.r 5)), (39, .e (lV X.args)), (40, sI X.args.length), (41, sI q)],
          [(2, .box 24 [iV vars, .c (nodesC ns), iV top] none), (5, .box 71 [iV X.kind, iV X.k, lV X.args] none)]⟩)
        (R := fun q => q ≤ X.args.length ∧ ((X.args.take q).any fun a => decide (a < 0) || decide (vars + i ≤ a)) = false) (m := fun q => X.args.length - q) 0 [(2, 2), (5, 5)] rfl rfl ⟨rfl, rfl, rfl, (by rw [← hXi]; rfl), (by rw [← hXi]; rfl), rfl, trivial⟩ (by simp) ⟨by simp, by simp⟩ ⟨rfl, (by rw [← hXi]; rfl), trivial⟩ ?_
      rintro q ⟨g1, g2⟩
      refine KW.goIf lay_ok F2_ok 100 rfl (by simp) rfl trivial (fun h => ?_) fun h => ?_
      · have hq : q < X.args.length := by simpa using h
        have hg : X.args.getD (Int.toNat (q : Int)) 0 = X.args[q] := by simp [List.getD_eq_getElem?_getD, hq]
        refine KW.goIf lay_ok F2_ok 100 rfl (by simp [inK] <;> omega) rfl trivial (fun h => ?_) fun h => ?_
        · have h3 : (decide (X.args[q] < 0) || decide (vars + i ≤ X.args[q])) = true := by rw [← hg]; exact h
          have h4 : (X.args.any fun a => decide (a < 0) || decide (vars + i ≤ a)) = true := List.any_eq_true.2 ⟨_, List.getElem_mem hq, h3⟩
          refine KW.goOutR lay_ok F2_ok 100 rfl (by simp) ?_
          refine KW.goRet lay_ok F2_ok 100 rfl rfl ?_ (by simp) trivial
          unfold nodeE
          rw [if_neg h1, if_neg (by rw [h2]; simp), if_pos h4]
          simp [SV.ren, EV.ren]
        · have h3 : (decide (X.args[q] < 0) || decide (vars + i ≤ X.args[q])) = false := by rw [← hg]; exact h
          refine KW.goToR lay_ok F2_ok 100 rfl (q + 1) [(2, 2), (5, 5)] rfl rfl ⟨rfl, rfl, rfl, rfl, rfl, rfl, trivial⟩ (by simp [inK]; omega) ⟨⟨by omega, ?_⟩, by omega⟩ ⟨rfl, rfl, trivial⟩
          rw [List.take_succ_eq_append_getElem hq, List.any_append, g2]
          simpa using h3
      · have hq : q = X.args.length := by simp at h; omega
        rw [hq, List.take_length] at g2
        have hE : nodeE vars i X = kE X := by
          unfold nodeE
          rw [if_neg h1, if_neg (by rw [h2]; simp), if_neg (by rw [g2]; simp)]
        rw [hE]
        refine KW.goOut lay_ok F2_ok 100 rfl (by simp) ?_
        refine KW.goIf lay_ok F2_ok 100 rfl (by simp) rfl trivial (fun h => ?_) fun h => ?_
        · refine KW.goIf lay_ok F2_ok 100 rfl (by simp +contextual) rfl trivial (fun h => ?_) fun h => ?_
          · have hk2 : X.k ≠ 0 ∧ X.k ≠ 1 := by simpa using h
            refine KW.goRet lay_ok F2_ok 100 rfl rfl ?_ (by simp) trivial
            unfold kE
            rw [if_pos hk, if_pos hk2]
            simp [SV.ren, EV.ren]
          · have hk2 : ¬ (X.k ≠ 0 ∧ X.k ≠ 1) := by
              intro hc; simp [hc.1, hc.2] at h
            refine KW.goRet lay_ok F2_ok 100 rfl rfl ?_ (by simp) trivial
            unfold kE
            rw [if_pos hk, if_neg hk2]
            simp [SV.ren, EV.ren]
        · exact absurd hk (by simpa using h)
  · have hn0 : ¬ X.kind = 0 := by rw [← hXi]; simpa using h
    refine KW.goIf lay_ok F2_ok 100 rfl (by simp) rfl trivial (fun h => ?_) fun h => ?_
    · have hk : X.kind = 1 := by rw [← hXi]; simpa using h
      have h1 : ¬ (X.kind < 0 ∨ 5 < X.kind) := by omega
      refine KW.goIf lay_ok F2_ok 100 rfl (by simp +contextual) rfl trivial (fun h => ?_) fun h => ?_
      · have e : (decide ((X.args.length : Int) < 1) || decide ((1 : Int) < (X.args.length : Int))) = true := by rw [← hXi]; exact h
        have h2 : argsB X.kind X.args.length = false := by
          rw [Bool.or_eq_true, decide_eq_true_iff, decide_eq_true_iff] at e
          rw [hk, Bool.eq_false_iff]
          intro hc
          simp only [argsB] at hc
          simp at hc; omega
        refine KW.goRet lay_ok F2_ok 100 rfl rfl ?_ (by simp) trivial
        simp [SV.ren, EV.ren, nodeE, h1, h2]
      · have e : (decide ((X.args.length : Int) < 1) || decide ((1 : Int) < (X.args.length : Int))) = false := by rw [← hXi]; exact h
        rw [Bool.or_eq_false_iff, decide_eq_false_iff_not, decide_eq_false_iff_not] at e
        have h2 : argsB X.kind X.args.length = true := by
          rw [hk]
          simp only [argsB]
          first | (rw [if_pos trivial, decide_eq_true_iff]; omega) | (rw [if_neg (by decide), if_pos trivial, decide_eq_true_iff]; omega)
        refine KW.goLpR lay_ok F2_ok 100 rfl (I := fun q : Nat => ⟨Try.f99.ntmps, [(1, sI i), (2, .e (.r 2)), (5, .e (.r 5)), (39, .e (lV X.args)), (40, sI X.args.length), (41, sI q)],
            [(2, .box 24 [iV vars, .c (nodesC ns), iV top] none), (5, .box 71 [iV X.kind, iV X.k, lV X.args] none)]⟩)
          (R := fun q => q ≤ X.args.length ∧ ((X.args.take q).any fun a => decide (a < 0) || decide (vars + i ≤ a)) = false) (m := fun q => X.args.length - q) 0 [(2, 2), (5, 5)] rfl rfl ⟨rfl, rfl, rfl, (by rw [← hXi]; rfl), (by rw [← hXi]; rfl), rfl, trivial⟩ (by simp) ⟨by simp, by simp⟩ ⟨rfl, (by rw [← hXi]; rfl), trivial⟩ ?_
        rintro q ⟨g1, g2⟩
        refine KW.goIf lay_ok F2_ok 100 rfl (by simp) rfl trivial (fun h => ?_) fun h => ?_
        · have hq : q < X.args.length := by simpa using h
          have hg : X.args.getD (Int.toNat (q : Int)) 0 = X.args[q] := by simp [List.getD_eq_getElem?_getD, hq]
          refine KW.goIf lay_ok F2_ok 100 rfl (by simp [inK] <;> omega) rfl trivial (fun h => ?_) fun h => ?_
          · have h3 : (decide (X.args[q] < 0) || decide (vars + i ≤ X.args[q])) = true := by rw [← hg]; exact h
            have h4 : (X.args.any fun a => decide (a < 0) || decide (vars + i ≤ a)) = true := List.any_eq_true.2 ⟨_, List.getElem_mem hq, h3⟩
            refine KW.goOutR lay_ok F2_ok 100 rfl (by simp) ?_
            refine KW.goRet lay_ok F2_ok 100 rfl rfl ?_ (by simp) trivial
            unfold nodeE
            rw [if_neg h1, if_neg (by rw [h2]; simp), if_pos h4]
            simp [SV.ren, EV.ren]
          · have h3 : (decide (X.args[q] < 0) || decide (vars + i ≤ X.args[q])) = false := by rw [← hg]; exact h
            refine KW.goToR lay_ok F2_ok 100 rfl (q + 1) [(2, 2), (5, 5)] rfl rfl ⟨rfl, rfl, rfl, rfl, rfl, rfl, trivial⟩ (by simp [inK]; omega) ⟨⟨by omega, ?_⟩, by omega⟩ ⟨rfl, rfl, trivial⟩
            rw [List.take_succ_eq_append_getElem hq, List.any_append, g2]
            simpa using h3
        · have hq : q = X.args.length := by simp at h; omega
          rw [hq, List.take_length] at g2
          have hE : nodeE vars i X = kE X := by
            unfold nodeE
            rw [if_neg h1, if_neg (by rw [h2]; simp), if_neg (by rw [g2]; simp)]
          rw [hE]
          refine KW.goOut lay_ok F2_ok 100 rfl (by simp) ?_
          refine KW.goIf lay_ok F2_ok 100 rfl (by simp) rfl trivial (fun h => ?_) fun h => ?_
          · exact absurd (show X.kind = 0 by simpa using h) (by omega)
          · clear h
            refine KW.goIf lay_ok F2_ok 100 rfl (by simp) rfl trivial (fun h => ?_) fun h => ?_
            · exact absurd (show X.kind = 4 by simpa using h) (by omega)
            · refine KW.goIf lay_ok F2_ok 100 rfl (by simp) rfl trivial (fun h => ?_) fun h => ?_
              · have hk2 : X.k ≠ 0 := by simpa using h
                refine KW.goRet lay_ok F2_ok 100 rfl rfl ?_ (by simp) trivial
                unfold kE
                rw [if_neg (by omega), if_neg (by omega), if_pos hk2]
                simp [SV.ren, EV.ren]
              · have hk2 : ¬ X.k ≠ 0 := by simpa using h
                refine KW.goRet lay_ok F2_ok 100 rfl rfl ?_ (by simp) trivial
                unfold kE
                rw [if_neg (by omega), if_neg (by omega), if_neg hk2]
                simp [SV.ren, EV.ren]
    · have hn1 : ¬ X.kind = 1 := by rw [← hXi]; simpa using h
      refine KW.goIf lay_ok F2_ok 100 rfl (by simp) rfl trivial (fun h => ?_) fun h => ?_
      · have hk : X.kind = 2 := by rw [← hXi]; simpa using h
        refine KW.goIf lay_ok F2_ok 100 rfl (by simp) rfl trivial (fun h => ?_) fun h => absurd hk (by rw [← hXi]; simpa using h)
        have h1 : ¬ (X.kind < 0 ∨ 5 < X.kind) := by omega
        refine KW.goIf lay_ok F2_ok 100 rfl (by simp +contextual) rfl trivial (fun h => ?_) fun h => ?_
        · have e : (decide ((X.args.length : Int) < 1) || decide ((16 : Int) < (X.args.length : Int))) = true := by rw [← hXi]; exact h
          have h2 : argsB X.kind X.args.length = false := by
            rw [Bool.or_eq_true, decide_eq_true_iff, decide_eq_true_iff] at e
            rw [hk, Bool.eq_false_iff]
            intro hc
            simp only [argsB] at hc
            simp at hc; omega
          refine KW.goRet lay_ok F2_ok 100 rfl rfl ?_ (by simp) trivial
          simp [SV.ren, EV.ren, nodeE, h1, h2]
        · have e : (decide ((X.args.length : Int) < 1) || decide ((16 : Int) < (X.args.length : Int))) = false := by rw [← hXi]; exact h
          rw [Bool.or_eq_false_iff, decide_eq_false_iff_not, decide_eq_false_iff_not] at e
          have h2 : argsB X.kind X.args.length = true := by
            rw [hk]
            simp only [argsB]
            first | (rw [Bool.and_eq_true, decide_eq_true_iff, decide_eq_true_iff]; omega) | (simp; omega)
          refine KW.goLpR lay_ok F2_ok 100 rfl (I := fun q : Nat => ⟨Try.f99.ntmps, [(1, sI i), (2, .e (.r 2)), (5, .e (.r 5)), (39, .e (lV X.args)), (40, sI X.args.length), (41, sI q)],
              [(2, .box 24 [iV vars, .c (nodesC ns), iV top] none), (5, .box 71 [iV X.kind, iV X.k, lV X.args] none)]⟩)
            (R := fun q => q ≤ X.args.length ∧ ((X.args.take q).any fun a => decide (a < 0) || decide (vars + i ≤ a)) = false) (m := fun q => X.args.length - q) 0 [(2, 2), (5, 5)] rfl rfl ⟨rfl, rfl, rfl, (by rw [← hXi]; rfl), (by rw [← hXi]; rfl), rfl, trivial⟩ (by simp) ⟨by simp, by simp⟩ ⟨rfl, (by rw [← hXi]; rfl), trivial⟩ ?_
          rintro q ⟨g1, g2⟩
          refine KW.goIf lay_ok F2_ok 100 rfl (by simp) rfl trivial (fun h => ?_) fun h => ?_
          · have hq : q < X.args.length := by simpa using h
            have hg : X.args.getD (Int.toNat (q : Int)) 0 = X.args[q] := by simp [List.getD_eq_getElem?_getD, hq]
            refine KW.goIf lay_ok F2_ok 100 rfl (by simp [inK] <;> omega) rfl trivial (fun h => ?_) fun h => ?_
            · have h3 : (decide (X.args[q] < 0) || decide (vars + i ≤ X.args[q])) = true := by rw [← hg]; exact h
              have h4 : (X.args.any fun a => decide (a < 0) || decide (vars + i ≤ a)) = true := List.any_eq_true.2 ⟨_, List.getElem_mem hq, h3⟩
              refine KW.goOutR lay_ok F2_ok 100 rfl (by simp) ?_
              refine KW.goRet lay_ok F2_ok 100 rfl rfl ?_ (by simp) trivial
              unfold nodeE
              rw [if_neg h1, if_neg (by rw [h2]; simp), if_pos h4]
              simp [SV.ren, EV.ren]
            · have h3 : (decide (X.args[q] < 0) || decide (vars + i ≤ X.args[q])) = false := by rw [← hg]; exact h
              refine KW.goToR lay_ok F2_ok 100 rfl (q + 1) [(2, 2), (5, 5)] rfl rfl ⟨rfl, rfl, rfl, rfl, rfl, rfl, trivial⟩ (by simp [inK]; omega) ⟨⟨by omega, ?_⟩, by omega⟩ ⟨rfl, rfl, trivial⟩
              rw [List.take_succ_eq_append_getElem hq, List.any_append, g2]
              simpa using h3
          · have hq : q = X.args.length := by simp at h; omega
            rw [hq, List.take_length] at g2
            have hE : nodeE vars i X = kE X := by
              unfold nodeE
              rw [if_neg h1, if_neg (by rw [h2]; simp), if_neg (by rw [g2]; simp)]
            rw [hE]
            refine KW.goOut lay_ok F2_ok 100 rfl (by simp) ?_
            refine KW.goIf lay_ok F2_ok 100 rfl (by simp) rfl trivial (fun h => ?_) fun h => ?_
            · exact absurd (show X.kind = 0 by simpa using h) (by omega)
            · clear h
              refine KW.goIf lay_ok F2_ok 100 rfl (by simp) rfl trivial (fun h => ?_) fun h => ?_
              · exact absurd (show X.kind = 4 by simpa using h) (by omega)
              · refine KW.goIf lay_ok F2_ok 100 rfl (by simp) rfl trivial (fun h => ?_) fun h => ?_
                · have hk2 : X.k ≠ 0 := by simpa using h
                  refine KW.goRet lay_ok F2_ok 100 rfl rfl ?_ (by simp) trivial
                  unfold kE
                  rw [if_neg (by omega), if_neg (by omega), if_pos hk2]
                  simp [SV.ren, EV.ren]
                · have hk2 : ¬ X.k ≠ 0 := by simpa using h
                  refine KW.goRet lay_ok F2_ok 100 rfl rfl ?_ (by simp) trivial
                  unfold kE
                  rw [if_neg (by omega), if_neg (by omega), if_neg hk2]
                  simp [SV.ren, EV.ren]
      · have hn2 : ¬ X.kind = 2 := by rw [← hXi]; simpa using h
        refine KW.goIf lay_ok F2_ok 100 rfl (by simp) rfl trivial (fun h => ?_) fun h => ?_
        · have hk : X.kind = 3 := by rw [← hXi]; simpa using h
          refine KW.goIf lay_ok F2_ok 100 rfl (by simp) rfl trivial (fun h => ?_) fun h => absurd hk (by rw [← hXi]; simpa using h)
          have h1 : ¬ (X.kind < 0 ∨ 5 < X.kind) := by omega
          refine KW.goIf lay_ok F2_ok 100 rfl (by simp +contextual) rfl trivial (fun h => ?_) fun h => ?_
          · have e : (decide ((X.args.length : Int) < 1) || decide ((16 : Int) < (X.args.length : Int))) = true := by rw [← hXi]; exact h
            have h2 : argsB X.kind X.args.length = false := by
              rw [Bool.or_eq_true, decide_eq_true_iff, decide_eq_true_iff] at e
              rw [hk, Bool.eq_false_iff]
              intro hc
              simp only [argsB] at hc
              simp at hc; omega
            refine KW.goRet lay_ok F2_ok 100 rfl rfl ?_ (by simp) trivial
            simp [SV.ren, EV.ren, nodeE, h1, h2]
          · have e : (decide ((X.args.length : Int) < 1) || decide ((16 : Int) < (X.args.length : Int))) = false := by rw [← hXi]; exact h
            rw [Bool.or_eq_false_iff, decide_eq_false_iff_not, decide_eq_false_iff_not] at e
            have h2 : argsB X.kind X.args.length = true := by
              rw [hk]
              simp only [argsB]
              first | (rw [Bool.and_eq_true, decide_eq_true_iff, decide_eq_true_iff]; omega) | (simp; omega)
            refine KW.goLpR lay_ok F2_ok 100 rfl (I := fun q : Nat => ⟨Try.f99.ntmps, [(1, sI i), (2, .e (.r 2)), (5, .e (.r 5)), (39, .e (lV X.args)), (40, sI X.args.length), (41, sI q)],
                [(2, .box 24 [iV vars, .c (nodesC ns), iV top] none), (5, .box 71 [iV X.kind, iV X.k, lV X.args] none)]⟩)
              (R := fun q => q ≤ X.args.length ∧ ((X.args.take q).any fun a => decide (a < 0) || decide (vars + i ≤ a)) = false) (m := fun q => X.args.length - q) 0 [(2, 2), (5, 5)] rfl rfl ⟨rfl, rfl, rfl, (by rw [← hXi]; rfl), (by rw [← hXi]; rfl), rfl, trivial⟩ (by simp) ⟨by simp, by simp⟩ ⟨rfl, (by rw [← hXi]; rfl), trivial⟩ ?_
            rintro q ⟨g1, g2⟩
            refine KW.goIf lay_ok F2_ok 100 rfl (by simp) rfl trivial (fun h => ?_) fun h => ?_
            · have hq : q < X.args.length := by simpa using h
              have hg : X.args.getD (Int.toNat (q : Int)) 0 = X.args[q] := by simp [List.getD_eq_getElem?_getD, hq]
              refine KW.goIf lay_ok F2_ok 100 rfl (by simp [inK] <;> omega) rfl trivial (fun h => ?_) fun h => ?_
              · have h3 : (decide (X.args[q] < 0) || decide (vars + i ≤ X.args[q])) = true := by rw [← hg]; exact h
                have h4 : (X.args.any fun a => decide (a < 0) || decide (vars + i ≤ a)) = true := List.any_eq_true.2 ⟨_, List.getElem_mem hq, h3⟩
                refine KW.goOutR lay_ok F2_ok 100 rfl (by simp) ?_
                refine KW.goRet lay_ok F2_ok 100 rfl rfl ?_ (by simp) trivial
                unfold nodeE
                rw [if_neg h1, if_neg (by rw [h2]; simp), if_pos h4]
                simp [SV.ren, EV.ren]
              · have h3 : (decide (X.args[q] < 0) || decide (vars + i ≤ X.args[q])) = false := by rw [← hg]; exact h
                refine KW.goToR lay_ok F2_ok 100 rfl (q + 1) [(2, 2), (5, 5)] rfl rfl ⟨rfl, rfl, rfl, rfl, rfl, rfl, trivial⟩ (by simp [inK]; omega) ⟨⟨by omega, ?_⟩, by omega⟩ ⟨rfl, rfl, trivial⟩
                rw [List.take_succ_eq_append_getElem hq, List.any_append, g2]
                simpa using h3
            · have hq : q = X.args.length := by simp at h; omega
              rw [hq, List.take_length] at g2
              have hE : nodeE vars i X = kE X := by
                unfold nodeE
                rw [if_neg h1, if_neg (by rw [h2]; simp), if_neg (by rw [g2]; simp)]
              rw [hE]
              refine KW.goOut lay_ok F2_ok 100 rfl (by simp) ?_
              refine KW.goIf lay_ok F2_ok 100 rfl (by simp) rfl trivial (fun h => ?_) fun h => ?_
              · exact absurd (show X.kind = 0 by simpa using h) (by omega)
              · clear h
                refine KW.goIf lay_ok F2_ok 100 rfl (by simp) rfl trivial (fun h => ?_) fun h => ?_
                · exact absurd (show X.kind = 4 by simpa using h) (by omega)
                · refine KW.goIf lay_ok F2_ok 100 rfl (by simp) rfl trivial (fun h => ?_) fun h => ?_
                  · have hk2 : X.k ≠ 0 := by simpa using h
                    refine KW.goRet lay_ok F2_ok 100 rfl rfl ?_ (by simp) trivial
                    unfold kE
                    rw [if_neg (by omega), if_neg (by omega), if_pos hk2]
                    simp [SV.ren, EV.ren]
                  · have hk2 : ¬ X.k ≠ 0 := by simpa using h
                    refine KW.goRet lay_ok F2_ok 100 rfl rfl ?_ (by simp) trivial
                    unfold kE
                    rw [if_neg (by omega), if_neg (by omega), if_neg hk2]
                    simp [SV.ren, EV.ren]
        · have hn3 : ¬ X.kind = 3 := by rw [← hXi]; simpa using h
          refine KW.goIf lay_ok F2_ok 100 rfl (by simp) rfl trivial (fun h => ?_) fun h => ?_
          · have hk : X.kind = 4 := by rw [← hXi]; simpa using h
            refine KW.goIf lay_ok F2_ok 100 rfl (by simp) rfl trivial (fun h => ?_) fun h => absurd hk (by rw [← hXi]; simpa using h)
            have h1 : ¬ (X.kind < 0 ∨ 5 < X.kind) := by omega
            refine KW.goIf lay_ok F2_ok 100 rfl (by simp +contextual) rfl trivial (fun h => ?_) fun h => ?_
            · have e : (decide ((X.args.length : Int) < 1) || decide ((16 : Int) < (X.args.length : Int))) = true := by rw [← hXi]; exact h
              have h2 : argsB X.kind X.args.length = false := by
                rw [Bool.or_eq_true, decide_eq_true_iff, decide_eq_true_iff] at e
                rw [hk, Bool.eq_false_iff]
                intro hc
                simp only [argsB] at hc
                simp at hc; omega
              refine KW.goRet lay_ok F2_ok 100 rfl rfl ?_ (by simp) trivial
              simp [SV.ren, EV.ren, nodeE, h1, h2]
            · have e : (decide ((X.args.length : Int) < 1) || decide ((16 : Int) < (X.args.length : Int))) = false := by rw [← hXi]; exact h
              rw [Bool.or_eq_false_iff, decide_eq_false_iff_not, decide_eq_false_iff_not] at e
              have h2 : argsB X.kind X.args.length = true := by
                rw [hk]
                simp only [argsB]
                first | (rw [Bool.and_eq_true, decide_eq_true_iff, decide_eq_true_iff]; omega) | (simp; omega)
              refine KW.goLpR lay_ok F2_ok 100 rfl (I := fun q : Nat => ⟨Try.f99.ntmps, [(1, sI i), (2, .e (.r 2)), (5, .e (.r 5)), (39, .e (lV X.args)), (40, sI X.args.length), (41, sI q)],
                  [(2, .box 24 [iV vars, .c (nodesC ns), iV top] none), (5, .box 71 [iV X.kind, iV X.k, lV X.args] none)]⟩)
                (R := fun q => q ≤ X.args.length ∧ ((X.args.take q).any fun a => decide (a < 0) || decide (vars + i ≤ a)) = false) (m := fun q => X.args.length - q) 0 [(2, 2), (5, 5)] rfl rfl ⟨rfl, rfl, rfl, (by rw [← hXi]; rfl), (by rw [← hXi]; rfl), rfl, trivial⟩ (by simp) ⟨by simp, by simp⟩ ⟨rfl, (by rw [← hXi]; rfl), trivial⟩ ?_
              rintro q ⟨g1, g2⟩
              refine KW.goIf lay_ok F2_ok 100 rfl (by simp) rfl trivial (fun h => ?_) fun h => ?_
              · have hq : q < X.args.length := by simpa using h
                have hg : X.args.getD (Int.toNat (q : Int)) 0 = X.args[q] := by simp [List.getD_eq_getElem?_getD, hq]
                refine KW.goIf lay_ok F2_ok 100 rfl (by simp [inK] <;> omega) rfl trivial (fun h => ?_) fun h => ?_
                · have h3 : (decide (X.args[q] < 0) || decide (vars + i ≤ X.args[q])) = true := by rw [← hg]; exact h
                  have h4 : (X.args.any fun a => decide (a < 0) || decide (vars + i ≤ a)) = true := List.any_eq_true.2 ⟨_, List.getElem_mem hq, h3⟩
                  refine KW.goOutR lay_ok F2_ok 100 rfl (by simp) ?_
                  refine KW.goRet lay_ok F2_ok 100 rfl rfl ?_ (by simp) trivial
                  unfold nodeE
                  rw [if_neg h1, if_neg (by rw [h2]; simp), if_pos h4]
                  simp [SV.ren, EV.ren]
                · have h3 : (decide (X.args[q] < 0) || decide (vars + i ≤ X.args[q])) = false := by rw [← hg]; exact h
                  refine KW.goToR lay_ok F2_ok 100 rfl (q + 1) [(2, 2), (5, 5)] rfl rfl ⟨rfl, rfl, rfl, rfl, rfl, rfl, trivial⟩ (by simp [inK]; omega) ⟨⟨by omega, ?_⟩, by omega⟩ ⟨rfl, rfl, trivial⟩
                  rw [List.take_succ_eq_append_getElem hq, List.any_append, g2]
                  simpa using h3
              · have hq : q = X.args.length := by simp at h; omega
                rw [hq, List.take_length] at g2
                have hE : nodeE vars i X = kE X := by
                  unfold nodeE
                  rw [if_neg h1, if_neg (by rw [h2]; simp), if_neg (by rw [g2]; simp)]
                rw [hE]
                refine KW.goOut lay_ok F2_ok 100 rfl (by simp) ?_
                refine KW.goIf lay_ok F2_ok 100 rfl (by simp) rfl trivial (fun h => ?_) fun h => ?_
                · exact absurd (show X.kind = 0 by simpa using h) (by omega)
                · clear h
                  refine KW.goIf lay_ok F2_ok 100 rfl (by simp) rfl trivial (fun h => ?_) fun h => ?_
                  · refine KW.goIf lay_ok F2_ok 100 rfl (by simp +contextual) rfl trivial (fun h => ?_) fun h => ?_
                    · have hk2 : X.k < 1 ∨ (X.args.length : Int) < X.k := by simpa using h
                      refine KW.goRet lay_ok F2_ok 100 rfl rfl ?_ (by simp) trivial
                      unfold kE
                      rw [if_neg (by omega), if_pos hk, if_pos hk2]
                      simp [SV.ren, EV.ren]
                    · have hk2 : ¬ (X.k < 1 ∨ (X.args.length : Int) < X.k) := by
                        intro hc
                        have e : (decide (X.k < 1) || decide ((X.args.length : Int) < X.k)) = false := h
                        rw [Bool.or_eq_false_iff, decide_eq_false_iff_not, decide_eq_false_iff_not] at e
                        exact hc.elim e.1 e.2
                      refine KW.goRet lay_ok F2_ok 100 rfl rfl ?_ (by simp) trivial
                      unfold kE
                      rw [if_neg (by omega), if_pos hk, if_neg hk2]
                      simp [SV.ren, EV.ren]
                  · exact absurd hk (by simpa using h)
          · have hn4 : ¬ X.kind = 4 := by rw [← hXi]; simpa using h
            refine KW.goIf lay_ok F2_ok 100 rfl (by simp) rfl trivial (fun h => ?_) fun h => ?_
            · have hk : X.kind = 5 := by rw [← hXi]; simpa using h
              have h1 : ¬ (X.kind < 0 ∨ 5 < X.kind) := by omega
              refine KW.goIf lay_ok F2_ok 100 rfl (by simp +contextual) rfl trivial (fun h => ?_) fun h => ?_
              · have e : (decide ((X.args.length : Int) < 1) || decide ((16 : Int) < (X.args.length : Int))) = true := by rw [← hXi]; exact h
                have h2 : argsB X.kind X.args.length = false := by
                  rw [Bool.or_eq_true, decide_eq_true_iff, decide_eq_true_iff] at e
                  rw [hk, Bool.eq_false_iff]
                  intro hc
                  simp only [argsB] at hc
                  simp at hc; omega
                refine KW.goRet lay_ok F2_ok 100 rfl rfl ?_ (by simp) trivial
                simp [SV.ren, EV.ren, nodeE, h1, h2]
              · have e : (decide ((X.args.length : Int) < 1) || decide ((16 : Int) < (X.args.length : Int))) = false := by rw [← hXi]; exact h
                rw [Bool.or_eq_false_iff, decide_eq_false_iff_not, decide_eq_false_iff_not] at e
                have h2 : argsB X.kind X.args.length = true := by
                  rw [hk]
                  simp only [argsB]
                  first | (rw [Bool.and_eq_true, decide_eq_true_iff, decide_eq_true_iff]; omega) | (simp; omega)
                refine KW.goLpR lay_ok F2_ok 100 rfl (I := fun q : Nat => ⟨Try.f99.ntmps, [(1, sI i), (2, .e (.r 2)), (5, .e (.r 5)), (39, .e (lV X.args)), (40, sI X.args.length), (41, sI q)],
                    [(2, .box 24 [iV vars, .c (nodesC ns), iV top] none), (5, .box 71 [iV X.kind, iV X.k, lV X.args] none)]⟩)
                  (R := fun q => q ≤ X.args.length ∧ ((X.args.take q).any fun a => decide (a < 0) || decide (vars + i ≤ a)) = false) (m := fun q => X.args.length - q) 0 [(2, 2), (5, 5)] rfl rfl ⟨rfl, rfl, rfl, (by rw [← hXi]; rfl), (by rw [← hXi]; rfl), rfl, trivial⟩ (by simp) ⟨by simp, by simp⟩ ⟨rfl, (by rw [← hXi]; rfl), trivial⟩ ?_
                rintro q ⟨g1, g2⟩
                refine KW.goIf lay_ok F2_ok 100 rfl (by simp) rfl trivial (fun h => ?_) fun h => ?_
                · have hq : q < X.args.length := by simpa using h
                  have hg : X.args.getD (Int.toNat (q : Int)) 0 = X.args[q] := by simp [List.getD_eq_getElem?_getD, hq]
                  refine KW.goIf lay_ok F2_ok 100 rfl (by simp [inK] <;> omega) rfl trivial (fun h => ?_) fun h => ?_
                  · have h3 : (decide (X.args[q] < 0) || decide (vars + i ≤ X.args[q])) = true := by rw [← hg]; exact h
                    have h4 : (X.args.any fun a => decide (a < 0) || decide (vars + i ≤ a)) = true := List.any_eq_true.2 ⟨_, List.getElem_mem hq, h3⟩
                    refine KW.goOutR lay_ok F2_ok 100 rfl (by simp) ?_
                    refine KW.goRet lay_ok F2_ok 100 rfl rfl ?_ (by simp) trivial
                    unfold nodeE
                    rw [if_neg h1, if_neg (by rw [h2]; simp), if_pos h4]
                    simp [SV.ren, EV.ren]
                  · have h3 : (decide (X.args[q] < 0) || decide (vars + i ≤ X.args[q])) = false := by rw [← hg]; exact h
                    refine KW.goToR lay_ok F2_ok 100 rfl (q + 1) [(2, 2), (5, 5)] rfl rfl ⟨rfl, rfl, rfl, rfl, rfl, rfl, trivial⟩ (by simp [inK]; omega) ⟨⟨by omega, ?_⟩, by omega⟩ ⟨rfl, rfl, trivial⟩
                    rw [List.take_succ_eq_append_getElem hq, List.any_append, g2]
                    simpa using h3
                · have hq : q = X.args.length := by simp at h; omega
                  rw [hq, List.take_length] at g2
                  have hE : nodeE vars i X = kE X := by
                    unfold nodeE
                    rw [if_neg h1, if_neg (by rw [h2]; simp), if_neg (by rw [g2]; simp)]
                  rw [hE]
                  refine KW.goOut lay_ok F2_ok 100 rfl (by simp) ?_
                  refine KW.goIf lay_ok F2_ok 100 rfl (by simp) rfl trivial (fun h => ?_) fun h => ?_
                  · exact absurd (show X.kind = 0 by simpa using h) (by omega)
                  · clear h
                    refine KW.goIf lay_ok F2_ok 100 rfl (by simp) rfl trivial (fun h => ?_) fun h => ?_
                    · exact absurd (show X.kind = 4 by simpa using h) (by omega)
                    · refine KW.goIf lay_ok F2_ok 100 rfl (by simp) rfl trivial (fun h => ?_) fun h => ?_
                      · have hk2 : X.k ≠ 0 := by simpa using h
                        refine KW.goRet lay_ok F2_ok 100 rfl rfl ?_ (by simp) trivial
                        unfold kE
                        rw [if_neg (by omega), if_neg (by omega), if_pos hk2]
                        simp [SV.ren, EV.ren]
                      · have hk2 : ¬ X.k ≠ 0 := by simpa using h
                        refine KW.goRet lay_ok F2_ok 100 rfl rfl ?_ (by simp) trivial
                        unfold kE
                        rw [if_neg (by omega), if_neg (by omega), if_neg hk2]
                        simp [SV.ren, EV.ren]
            · have hn5 : ¬ X.kind = 5 := by rw [← hXi]; simpa using h
              refine KW.goRet lay_ok F2_ok 100 rfl rfl ?_ (by simp) trivial
              have h' : X.kind < 0 ∨ 5 < X.kind := by omega
              simp [SV.ren, EV.ren, nodeE, h']
end Go.Proofs.Ytpjhpcclbenfbaa

/-
  Formulas: the error of a formula: the specification.
-/
namespace Go.Proofs.Ytpjhpcclbenfbaa
open Go.Sy Go.Pu

def F3 : Fns := (108, fF (fun f => .e (eV (formE f))) FormIn) ::
  (99, fFI (fun f i => sI (nodeE f.vars i.toNat (f.nodes.getD i.toNat node0))) nodePre) ::
  (100, fFI (fun f a => sB (argB f a)) fun f a => inK .i64 f.vars ∧ inK .i64 a) ::
  F2
theorem F3_ok : FnsOk Try.prog F3 := .cons (.cons (.cons (F2_ok) Try.func100 rfl rfl (fFI_ok fun f a h => rvalidF_does f a h.1 h.2)) Try.func99 rfl rfl (fFI_ok fun f i h => by obtain ⟨n, rfl, h1, h2, h3, h4⟩ := h; exact rnode_does f n h1 h2 h3 h4)) Try.func108 rfl rfl (fF_ok fun f h => checkF_does f h)


theorem rcheckF_does (f : FormP) (hin : FormIn f) : DoesF Try.prog 54 [.ag (formC f)] [] (sI (formE f)) [] := by
  refine DoesF.body _ Try.func54 rfl rfl rfl rfl ?_
  obtain ⟨vars, ns, top⟩ := f
  refine KW.goIf lay_ok F3_ok 100 rfl (by simp +contextual) rfl trivial (fun h => ?_) fun h => ?_
  · have h1 : vars < 0 ∨ 24 < vars := by simpa using h
    refine KW.goRet lay_ok F3_ok 100 rfl rfl ?_ (by simp) trivial
    simp [SV.ren, EV.ren, formE, h1]
  · have h1 : ¬ (vars < 0 ∨ 24 < vars) := by
      intro hc
      have e : (decide (vars < 0) || decide (24 < vars)) = false := h
      rw [Bool.or_eq_false_iff, decide_eq_false_iff_not, decide_eq_false_iff_not] at e
      exact hc.elim e.1 e.2
    refine KW.goIf lay_ok F3_ok 100 rfl (by simp) rfl trivial (fun h => ?_) fun h => ?_
    · have h2 : 128 < ns.length := by
        have e : decide ((128 : Int) < (ns.length : Int)) = true := h
        rw [decide_eq_true_iff] at e; omega
      refine KW.goRet lay_ok F3_ok 100 rfl rfl ?_ (by simp) trivial
      simp [SV.ren, EV.ren, formE, h1, h2]
    · have h2 : ¬ 128 < ns.length := by
        have e : decide ((128 : Int) < (ns.length : Int)) = false := h
        rw [decide_eq_false_iff_not] at e; omega
      refine KW.goLpR lay_ok F3_ok 100 rfl (I := fun q : Nat => ⟨Try.f54.ntmps, [(1, .e (.r 1)), (19, sI ns.length), (20, sI q)], [(1, .box 24 [iV vars, .c (nodesC ns), iV top] none)]⟩)
        (R := fun q => q ≤ ns.length ∧ nodesE vars q (ns.drop q) = nodesE vars 0 ns) (m := fun q => ns.length - q) 0 [(1, 1)] rfl rfl ⟨rfl, rfl, rfl, trivial⟩ (by simp) ⟨by simp, by simp⟩ ⟨rfl, trivial⟩ ?_
      rintro q ⟨g1, g2⟩
      refine KW.goIf lay_ok F3_ok 100 rfl (by simp) rfl trivial (fun h => ?_) fun h => ?_
      · have hq : q < ns.length := by simpa using h
        have hg : ns.getD q node0 = ns[q] := by simp [List.getD_eq_getElem?_getD, hq]
        rw [List.drop_eq_getElem_cons hq, nodesE] at g2
        have hpre : nodePre ⟨vars, ns, top⟩ q := ⟨q, rfl, hq, hin, by simp only; omega, by simp only; omega⟩
        refine KW.goIf lay_ok F3_ok 100 rfl (by simp only [unN_nodesC, isN_nodesC, true_and, and_true]; exact hpre) rfl trivial (fun h => ?_) fun h => ?_
        · simp only [unN_nodesC, Int.toNat_natCast, hg] at h
          have h3 : ¬ nodeE vars q ns[q] = 0 := by
            have e : (nodeE vars q ns[q] != 0) = true := h
            simpa using e
          rw [if_neg h3] at g2
          refine KW.goOutR lay_ok F3_ok 100 rfl (by simp) ?_
          refine KW.goRet lay_ok F3_ok 100 rfl rfl ?_ (by simp) trivial
          simp only [unN_nodesC, Int.toNat_natCast, hg]
          have e : formE ⟨vars, ns, top⟩ = nodeE vars q ns[q] := by
            unfold formE
            simp only [if_neg h1, if_neg h2, ← g2, if_neg h3]
          rw [e]; rfl
        · simp only [unN_nodesC, Int.toNat_natCast, hg] at h
          have h3 : nodeE vars q ns[q] = 0 := by
            have e : (nodeE vars q ns[q] != 0) = false := h
            simpa using e
          rw [if_pos h3] at g2
          exact KW.goToR lay_ok F3_ok 100 rfl (q + 1) [(1, 1)] rfl rfl ⟨rfl, rfl, rfl, trivial⟩ (by simp [inK]; omega) ⟨⟨by omega, g2⟩, by omega⟩ ⟨rfl, trivial⟩
      · have hq : q = ns.length := by simp at h; omega
        rw [hq, List.drop_length, nodesE] at g2
        refine KW.goOut lay_ok F3_ok 100 rfl (by simp) ?_
        refine KW.goIf lay_ok F3_ok 100 rfl (by simp only [unN_nodesC, isN_nodesC, true_and, and_true]; exact ⟨hin.vars, hin.top⟩) rfl trivial (fun h => ?_) fun h => ?_
        · simp only [unN_nodesC] at h
          have h3 : argB ⟨vars, ns, top⟩ top = false := by
            have e : (!argB ⟨vars, ns, top⟩ top) = true := h
            simpa using e
          refine KW.goRet lay_ok F3_ok 100 rfl rfl ?_ (by simp) trivial
          simp [SV.ren, EV.ren, formE, h1, h2, ← g2, h3]
        · simp only [unN_nodesC] at h
          have h3 : argB ⟨vars, ns, top⟩ top = true := by
            have e : (!argB ⟨vars, ns, top⟩ top) = false := h
            simpa using e
          refine KW.goRet lay_ok F3_ok 100 rfl rfl ?_ (by simp) trivial
          simp [SV.ren, EV.ren, formE, h1, h2, ← g2, h3]
end Go.Proofs.Ytpjhpcclbenfbaa

/-
  Formulas: the errors of a formula and a state.
-/
namespace Go.Proofs.Ytpjhpcclbenfbaa
open Go.Sy Go.Pu

def F4 : Fns := (54, fF (fun f => sI (formE f)) FormIn) ::
  F3
theorem F4_ok : FnsOk Try.prog F4 := .cons (F3_ok) Try.func54 rfl rfl (fF_ok fun f h => rcheckF_does f h)


theorem formE_vars {f : FormP} (h : formE f = 0) : 0 ≤ f.vars ∧ f.vars ≤ 24 := by
  unfold formE at h
  split at h
  · cases h
  · omega
theorem shl_rng {v : Int} (h : 0 ≤ v ∧ v ≤ 24) : 1 ≤ ishl 1 v ∧ ishl 1 v ≤ 16777216 := by
  obtain ⟨n, rfl⟩ := Int.eq_ofNat_of_zero_le h.1
  have key : ∀ m : Fin 25, 1 ≤ ishl 1 (m.val : Int) ∧ ishl 1 (m.val : Int) ≤ 16777216 := by decide +kernel
  exact key ⟨n, by omega⟩
theorem fcheck_does (f : FormP) (s : Int) (hin : FormIn f) : DoesF Try.prog 70 [.ag (formC f), iV s] [] (.e (eV (stateE f s))) [] := by
  refine DoesF.body _ Try.func70 rfl rfl rfl rfl ?_
  obtain ⟨vars, ns, top⟩ := f
  refine KW.goIf lay_ok F4_ok 100 rfl (by simp only [unN_nodesC, isN_nodesC, true_and, and_true, ifcV_errV]; exact hin) rfl trivial (fun h => ?_) fun h => ?_
  · simp only [unN_nodesC] at h
    have h1 : ¬ formE ⟨vars, ns, top⟩ = 0 := by
      have e : (!isNilB (errV 66 (formE ⟨vars, ns, top⟩))) = true := h
      simpa using e
    refine KW.goRet lay_ok F4_ok 100 rfl rfl ?_ (by simp) trivial
    simp only [unN_nodesC, SV.ren, EV.ren]
    rw [stateE, if_neg h1]
  · simp only [unN_nodesC] at h
    have h1 : formE ⟨vars, ns, top⟩ = 0 := by
      have e : (!isNilB (errV 66 (formE ⟨vars, ns, top⟩))) = false := h
      simpa using e
    have hv := formE_vars h1
    have hs := shl_rng hv
    refine KW.goIf lay_ok F4_ok 100 rfl (by simp only [inK, bitsI, true_and, and_true]; simp only at hv hs; simp; omega) rfl trivial (fun h => ?_) fun h => ?_
    · have h2 : s < 0 ∨ ishl 1 vars ≤ s := by
        have e : (decide (s < 0) || decide (ishl 1 vars ≤ s)) = true := h
        simpa using e
      refine KW.goRet lay_ok F4_ok 100 rfl rfl ?_ (by simp) trivial
      rw [stateE, if_pos h1, if_pos h2]
      simp [SV.ren, EV.ren, errV]
    · have h2 : ¬ (s < 0 ∨ ishl 1 vars ≤ s) := by
        have e : (decide (s < 0) || decide (ishl 1 vars ≤ s)) = false := h
        rw [Bool.or_eq_false_iff, decide_eq_false_iff_not, decide_eq_false_iff_not] at e
        exact fun hc => hc.elim e.1 e.2
      refine KW.goRet lay_ok F4_ok 100 rfl rfl ?_ (by simp) trivial
      rw [stateE, if_pos h1, if_neg h2]
      simp [SV.ren, EV.ren, errV]
theorem echeck_does (f : FormP) (s : Int) (hin : FormIn f) : DoesF Try.prog 63 [.ag (formC f), iV s] [] (.e (eV (stateE f s))) [] := by
  refine DoesF.body _ Try.func63 rfl rfl rfl rfl ?_
  obtain ⟨vars, ns, top⟩ := f
  refine KW.goIf lay_ok F4_ok 100 rfl (by simp only [unN_nodesC, isN_nodesC, true_and, and_true, ifcV_errV]; exact hin) rfl trivial (fun h => ?_) fun h => ?_
  · simp only [unN_nodesC] at h
    have h1 : ¬ formE ⟨vars, ns, top⟩ = 0 := by
      have e : (!isNilB (errV 66 (formE ⟨vars, ns, top⟩))) = true := h
      simpa using e
    refine KW.goRet lay_ok F4_ok 100 rfl rfl ?_ (by simp) trivial
    simp only [unN_nodesC, SV.ren, EV.ren]
    rw [stateE, if_neg h1]
  · simp only [unN_nodesC] at h
    have h1 : formE ⟨vars, ns, top⟩ = 0 := by
      have e : (!isNilB (errV 66 (formE ⟨vars, ns, top⟩))) = false := h
      simpa using e
    have hv := formE_vars h1
    have hs := shl_rng hv
    refine KW.goIf lay_ok F4_ok 100 rfl (by simp only [inK, bitsI, true_and, and_true]; simp only at hv hs; simp; omega) rfl trivial (fun h => ?_) fun h => ?_
    · have h2 : s < 0 ∨ ishl 1 vars ≤ s := by
        have e : (decide (s < 0) || decide (ishl 1 vars ≤ s)) = true := h
        simpa using e
      refine KW.goRet lay_ok F4_ok 100 rfl rfl ?_ (by simp) trivial
      rw [stateE, if_pos h1, if_pos h2]
      simp [SV.ren, EV.ren, errV]
    · have h2 : ¬ (s < 0 ∨ ishl 1 vars ≤ s) := by
        have e : (decide (s < 0) || decide (ishl 1 vars ≤ s)) = false := h
        rw [Bool.or_eq_false_iff, decide_eq_false_iff_not, decide_eq_false_iff_not] at e
        exact fun hc => hc.elim e.1 e.2
      refine KW.goRet lay_ok F4_ok 100 rfl rfl ?_ (by simp) trivial
      rw [stateE, if_pos h1, if_neg h2]
      simp [SV.ren, EV.ren, errV]
end Go.Proofs.Ytpjhpcclbenfbaa

/-
  Formulas: the errors of a formula and a state: the specification.
-/
namespace Go.Proofs.Ytpjhpcclbenfbaa
open Go.Sy Go.Pu

def setB (f : FormP) (s : Int) : Bool := decide (0 ≤ s) && decide (s < ishl 1 f.vars)
theorem set_does (f : FormP) (s : Int) (hv : 0 ≤ f.vars ∧ f.vars ≤ 24) : DoesF Try.prog 72 [.ag (formC f), iV s] [] (sB (setB f s)) [] := by
  refine DoesF.body _ Try.func72 rfl rfl rfl rfl ?_
  obtain ⟨vars, ns, top⟩ := f
  have hs := shl_rng hv
  refine KW.goRet lay_ok F4_ok 100 rfl rfl ?_ ?_ trivial
  · simp [SV.ren, EV.ren, setB]
  · simp only at hv hs
    simp +contextual [inK, bitsI] <;> (intros; omega)

def F5 : Fns := (72, fFI (fun f s => sB (setB f s)) fun f s => 0 ≤ f.vars ∧ f.vars ≤ 24) ::
  (70, fFI (fun f s => .e (eV (stateE f s))) fun f s => FormIn f) ::
  (63, fFI (fun f s => .e (eV (stateE f s))) fun f s => FormIn f) ::
  F4
theorem F5_ok : FnsOk Try.prog F5 := .cons (.cons (.cons (F4_ok) Try.func63 rfl rfl (fFI_ok fun f s h => echeck_does f s h)) Try.func70 rfl rfl (fFI_ok fun f s h => fcheck_does f s h)) Try.func72 rfl rfl (fFI_ok fun f s h => set_does f s h)


theorem error56_does (f : FormP) (s : Int) (hin : FormIn f) : DoesF Try.prog 31 [.ag (formC f), iV s] [] (sI (stateE f s)) [] := by
  refine DoesF.body _ Try.func31 rfl rfl rfl rfl ?_
  obtain ⟨vars, ns, top⟩ := f
  refine KW.goIf lay_ok F5_ok 100 rfl (by simp only [unN_nodesC, isN_nodesC, true_and, and_true]; exact hin) rfl trivial (fun h => ?_) fun h => ?_
  · simp only [unN_nodesC] at h
    have h1 : ¬ formE ⟨vars, ns, top⟩ = 0 := by
      have e : (formE ⟨vars, ns, top⟩ != 0) = true := h
      simpa using e
    refine KW.goRet lay_ok F5_ok 100 rfl rfl ?_ (by simp) trivial
    simp only [unN_nodesC, SV.ren, EV.ren]
    rw [stateE, if_neg h1]
  · simp only [unN_nodesC] at h
    have h1 : formE ⟨vars, ns, top⟩ = 0 := by
      have e : (formE ⟨vars, ns, top⟩ != 0) = false := h
      simpa using e
    have hv := formE_vars h1
    refine KW.goIf lay_ok F5_ok 100 rfl (by simp only [unN_nodesC, isN_nodesC, true_and, and_true]; exact hv) rfl trivial (fun h => ?_) fun h => ?_
    · simp only [unN_nodesC] at h
      have h2 : s < 0 ∨ ishl 1 vars ≤ s := by
        have e : (!setB ⟨vars, ns, top⟩ s) = true := h
        simp [setB] at e; omega
      refine KW.goRet lay_ok F5_ok 100 rfl rfl ?_ (by simp) trivial
      rw [stateE, if_pos h1, if_pos h2]
      simp [SV.ren, EV.ren]
    · simp only [unN_nodesC] at h
      have h2 : ¬ (s < 0 ∨ ishl 1 vars ≤ s) := by
        have e : (!setB ⟨vars, ns, top⟩ s) = false := h
        simp [setB] at e; omega
      refine KW.goRet lay_ok F5_ok 100 rfl rfl ?_ (by simp) trivial
      rw [stateE, if_pos h1, if_neg h2]
      simp [SV.ren, EV.ren]
end Go.Proofs.Ytpjhpcclbenfbaa

/-
  Formulas: the errors of the specification of layer 56.
-/
namespace Go.Proofs.Ytpjhpcclbenfbaa
open Go.Sy Go.Pu

def F6 : Fns := (31, fFI (fun f s => sI (stateE f s)) fun f s => FormIn f) ::
  F5
theorem F6_ok : FnsOk Try.prog F6 := .cons (F5_ok) Try.func31 rfl rfl (fFI_ok fun f s h => error56_does f s h)


def tableE (f : FormP) (s : Int) : Int := if stateE f s = 0 then if 12 < f.vars then 4 else 0 else stateE f s
theorem errorOf_does (f : FormP) (s : Int) (hin : FormIn f) : DoesF Try.prog 59 [.ag (formC f), iV s] [] (sI (tableE f s)) [] := by
  refine DoesF.body _ Try.func59 rfl rfl rfl rfl ?_
  obtain ⟨vars, ns, top⟩ := f
  refine KW.goIf lay_ok F6_ok 100 rfl (by simp only [unN_nodesC, isN_nodesC, true_and, and_true]; exact hin) rfl trivial (fun h => ?_) fun h => ?_
  · simp only [unN_nodesC] at h
    have h1 : ¬ stateE ⟨vars, ns, top⟩ s = 0 := by
      have e : (stateE ⟨vars, ns, top⟩ s != 0) = true := h
      simpa using e
    refine KW.goRet lay_ok F6_ok 100 rfl rfl ?_ (by simp) trivial
    simp only [unN_nodesC, SV.ren, EV.ren]
    rw [tableE, if_neg h1]
  · simp only [unN_nodesC] at h
    have h1 : stateE ⟨vars, ns, top⟩ s = 0 := by
      have e : (stateE ⟨vars, ns, top⟩ s != 0) = false := h
      simpa using e
    refine KW.goIf lay_ok F6_ok 100 rfl (by simp) rfl trivial (fun h => ?_) fun h => ?_
    · have h2 : 12 < vars := by simpa using h
      refine KW.goRet lay_ok F6_ok 100 rfl rfl ?_ (by simp) trivial
      rw [tableE, if_pos h1, if_pos h2]
      simp [SV.ren, EV.ren]
    · have h2 : ¬ 12 < vars := by
        have e : decide (12 < vars) = false := h
        rwa [decide_eq_false_iff_not] at e
      refine KW.goRet lay_ok F6_ok 100 rfl rfl ?_ (by simp) trivial
      rw [tableE, if_pos h1, if_neg h2]
      simp [SV.ren, EV.ren]
end Go.Proofs.Ytpjhpcclbenfbaa
