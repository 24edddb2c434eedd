/-
  FpA, FpB, FpC, one text.
-/
import Derived.Test.YtpjhpcclbenfbaaFmH
import Derived.Test.YtpjhpcclbenfbaaSyX
import Derived.Test.YtpjhpcclbenfbaaPuT
set_option linter.unusedVariables false
set_option linter.unusedSimpArgs false
/-
  What lies below a formula's top: the program's, and the reference's.
-/
namespace Go.Proofs.Ytpjhpcclbenfbaa
open Go.Sy Go.Pu

theorem below_does (f : FormP) (hin : FormIn f) (h0 : formE f = 0) : DoesF Try.prog 110 [.ag (formC f)] [] (.e (blV (belowF f))) [] := by
  refine DoesF.body _ Try.func110 rfl rfl rfl rfl ?_
  have ok : FormOk f := formE_ok h0
  obtain ⟨vars, ns, top⟩ := f
  have hv := ok.vars
  have hn128 := ok.len
  have htop := ok.top
  simp only at hv hn128 htop
  obtain ⟨n, rfl⟩ := Int.eq_ofNat_of_zero_le hv.1
  have hn24 : n ≤ 24 := by omega
  have hm0 := mark0_length ⟨n, ns, top⟩
  simp only [Int.toNat_natCast] at hm0
  refine KW.go lay_ok F8_ok 100 rfl (by simp [inK]; omega) (KW.updB 13 rfl ?_)
  refine KW.lp (I := fun q : Nat × List Bool => ⟨Try.f110.ntmps, [(1, .e (.r 1)), (3, .e (.r 3)), (4, sI ((q.1 : Int) - 1))],
      [(1, .box 24 [iV n, .c (nodesC ns), iV top] none), (3, .own 4 (bools q.2))]⟩)
    (R := fun q => q.1 ≤ ns.length ∧ q.2.length = n + ns.length ∧ markN n ns (fun _ _ => true) q.1 q.2 = belowF ⟨n, ns, top⟩) (m := fun q => q.1) (ns.length, mark0 ⟨n, ns, top⟩) ⟨Nat.le_refl _, hm0, rfl⟩ [(1, 1), (3, 13)] ⟨rfl, rfl, ⟨rfl, rfl, rfl, trivial⟩, ⟨rfl, own_catB0 _ ?_, trivial⟩⟩ ?_
  · show (List.replicate (Int.toNat ((n : Int) + (ns.length : Int))) false).set top.toNat true = mark0 ⟨n, ns, top⟩
    rw [mark0]
    simp only [Int.toNat_natCast]
    congr 2
  rintro ⟨i1, m⟩ ⟨r1, r2, r3⟩
  simp only at r1 r2 r3
  refine KW.goIf lay_ok F8_ok 100 rfl (by simp) rfl trivial (fun h => ?_) fun h => ?_
  · obtain ⟨i, rfl⟩ : ∃ i, i1 = i + 1 := ⟨i1 - 1, by simp at h; omega⟩
    have hi : i < ns.length := by omega
    have hii : ((i + 1 : Nat) : Int) - 1 = (i : Int) := by omega
    have hidx : Int.toNat ((n : Int) + (i : Int)) = n + i := by omega
    rw [markN] at r3
    simp only [hii]
    refine KW.goIf lay_ok F8_ok 100 rfl (by simp only [inK, true_and, and_true, r2]; omega) rfl trivial (fun h => ?_) fun h => ?_
    · have h3 : m.getD (n + i) false = true := by
        have e : m.getD (Int.toNat ((n : Int) + (i : Int))) false = true := h
        rw [hidx] at e; exact e
      rw [if_pos h3] at r3
      have hX : ns.getD (Int.toNat (i : Int)) node0 = ns[i] := by simp [List.getD_eq_getElem?_getD, hi]
      have hX2 : ns.getD i node0 = ns[i] := hX
      have okX := ok.nodes i hi
      rw [hX2] at r3
      simp only at okX
      generalize hXX : ns[i] = X at hX okX r3
      have h16 := argsB_le okX.cnt
      refine KW.goLpR lay_ok F8_ok 100 rfl (I := fun q : Nat × List Bool => ⟨Try.f110.ntmps, [(1, .e (.r 1)), (3, .e (.r 3)), (4, sI (i : Int)), (38, .e (lV X.args)), (39, sI X.args.length), (40, sI q.1)],
          [(1, .box 24 [iV n, .c (nodesC ns), iV top] none), (3, .own 4 (bools q.2))]⟩)
        (R := fun q => q.1 ≤ X.args.length ∧ q.2.length = n + ns.length ∧ markN n ns (fun _ _ => true) i (markA (fun _ => true) q.2 (X.args.drop q.1)) = belowF ⟨n, ns, top⟩) (m := fun q => X.args.length - q.1) (0, m) [(1, 1), (3, 3)] rfl rfl
        ⟨rfl, rfl, rfl, (by rw [← hX]; rfl), (by rw [← hX]; rfl), rfl, trivial⟩ (by simp only [inK, true_and, and_true]; simp; omega) ⟨Nat.zero_le _, r2, r3⟩ ⟨rfl, rfl, trivial⟩ ?_
      rintro ⟨j, m'⟩ ⟨g1, g2, g3⟩
      simp only at g1 g2 g3
      refine KW.goIf lay_ok F8_ok 100 rfl (by simp) rfl trivial (fun h => ?_) fun h => ?_
      · have hj : j < X.args.length := by simpa using h
        have hg : X.args.getD (Int.toNat (j : Int)) 0 = X.args[j] := by simp [List.getD_eq_getElem?_getD, hj]
        have ha := okX.args _ (List.getElem_mem hj)
        rw [List.drop_eq_getElem_cons hj, markA_cons, Bool.or_true] at g3
        generalize X.args[j] = a at hg ha g3
        refine KW.go lay_ok F8_ok 100 rfl (by simp only [inK, true_and, and_true, hg, g2]; omega) (KW.updB 3 rfl ?_)
        simp only [hg]
        exact KW.to (j + 1, m'.set a.toNat true) ⟨⟨by simp only; omega, by simp only [List.length_set]; exact g2, g3⟩, by simp only; omega⟩ [(1, 1), (3, 3)] ⟨rfl, rfl, ⟨rfl, rfl, rfl, rfl, rfl, rfl, trivial⟩, ⟨rfl, rfl, trivial⟩⟩
      · have hj : j = X.args.length := by simp at h; omega
        rw [hj, List.drop_length] at g3
        refine KW.goOut lay_ok F8_ok 100 rfl (by simp) ?_
        exact KW.goToR lay_ok F8_ok 100 rfl (i, m') [(1, 1), (3, 3)] rfl rfl ⟨rfl, rfl, rfl, trivial⟩ (by simp only [inK, true_and, and_true]; omega) ⟨⟨by simp only; omega, g2, g3⟩, by simp only; omega⟩ ⟨rfl, rfl, trivial⟩
    · have h3 : m.getD (n + i) false = false := by
        have e : m.getD (Int.toNat ((n : Int) + (i : Int))) false = false := h
        rw [hidx] at e; exact e
      rw [if_neg (by rw [h3]; decide)] at r3
      exact KW.goToR lay_ok F8_ok 100 rfl (i, m) [(1, 1), (3, 3)] rfl rfl ⟨rfl, rfl, rfl, trivial⟩ (by simp only [inK, true_and, and_true]; omega) ⟨⟨by simp only; omega, r2, r3⟩, by simp only; omega⟩ ⟨rfl, rfl, trivial⟩
  · have hi0 : i1 = 0 := by simp at h; omega
    subst hi0
    replace r3 : m = belowF ⟨n, ns, top⟩ := r3
    subst r3
    refine KW.goOut lay_ok F8_ok 100 rfl (by simp) ?_
    exact KW.goRetO lay_ok F8_ok 100 rfl 3 2 rfl rfl rfl rfl (by simp)
theorem rbelow_does (f : FormP) (hin : FormIn f) (h0 : formE f = 0) : DoesF Try.prog 79 [.ag (formC f)] [] (.e (blV (belowF f))) [] := by
  refine DoesF.body _ Try.func79 rfl rfl rfl rfl ?_
  have ok : FormOk f := formE_ok h0
  obtain ⟨vars, ns, top⟩ := f
  have hv := ok.vars
  have hn128 := ok.len
  have htop := ok.top
  simp only at hv hn128 htop
  obtain ⟨n, rfl⟩ := Int.eq_ofNat_of_zero_le hv.1
  have hn24 : n ≤ 24 := by omega
  have hm0 := mark0_length ⟨n, ns, top⟩
  simp only [Int.toNat_natCast] at hm0
  refine KW.go lay_ok F8_ok 100 rfl (by simp [inK]; omega) (KW.updB 13 rfl ?_)
  refine KW.lp (I := fun q : Nat × List Bool => ⟨Try.f79.ntmps, [(1, .e (.r 1)), (3, .e (.r 3)), (4, sI ((q.1 : Int) - 1))],
      [(1, .box 24 [iV n, .c (nodesC ns), iV top] none), (3, .own 4 (bools q.2))]⟩)
    (R := fun q => q.1 ≤ ns.length ∧ q.2.length = n + ns.length ∧ markN n ns (fun _ _ => true) q.1 q.2 = belowF ⟨n, ns, top⟩) (m := fun q => q.1) (ns.length, mark0 ⟨n, ns, top⟩) ⟨Nat.le_refl _, hm0, rfl⟩ [(1, 1), (3, 13)] ⟨rfl, rfl, ⟨rfl, rfl, rfl, trivial⟩, ⟨rfl, own_catB0 _ ?_, trivial⟩⟩ ?_
  · show (List.replicate (Int.toNat ((n : Int) + (ns.length : Int))) false).set top.toNat true = mark0 ⟨n, ns, top⟩
    rw [mark0]
    simp only [Int.toNat_natCast]
    congr 2
  rintro ⟨i1, m⟩ ⟨r1, r2, r3⟩
  simp only at r1 r2 r3
  refine KW.goIf lay_ok F8_ok 100 rfl (by simp) rfl trivial (fun h => ?_) fun h => ?_
  · obtain ⟨i, rfl⟩ : ∃ i, i1 = i + 1 := ⟨i1 - 1, by simp at h; omega⟩
    have hi : i < ns.length := by omega
    have hii : ((i + 1 : Nat) : Int) - 1 = (i : Int) := by omega
    have hidx : Int.toNat ((n : Int) + (i : Int)) = n + i := by omega
    rw [markN] at r3
    simp only [hii]
    refine KW.goIf lay_ok F8_ok 100 rfl (by simp only [inK, true_and, and_true, r2]; omega) rfl trivial (fun h => ?_) fun h => ?_
    · have h3 : m.getD (n + i) false = false := by
        have e : (!m.getD (Int.toNat ((n : Int) + (i : Int))) false) = true := h
        rw [hidx] at e; simpa using e
      rw [if_neg (by rw [h3]; decide)] at r3
      exact KW.goToR lay_ok F8_ok 100 rfl (i, m) [(1, 1), (3, 3)] rfl rfl ⟨rfl, rfl, rfl, trivial⟩ (by simp only [inK, true_and, and_true]; omega) ⟨⟨by simp only; omega, r2, r3⟩, by simp only; omega⟩ ⟨rfl, rfl, trivial⟩
    · have h3 : m.getD (n + i) false = true := by
        have e : (!m.getD (Int.toNat ((n : Int) + (i : Int))) false) = false := h
        rw [hidx] at e; simpa using e
      rw [if_pos h3] at r3
      have hX : ns.getD (Int.toNat (i : Int)) node0 = ns[i] := by simp [List.getD_eq_getElem?_getD, hi]
      have hX2 : ns.getD i node0 = ns[i] := hX
      have okX := ok.nodes i hi
      rw [hX2] at r3
      simp only at okX
      generalize hXX : ns[i] = X at hX okX r3
      have h16 := argsB_le okX.cnt
      refine KW.goLpR lay_ok F8_ok 100 rfl (I := fun q : Nat × List Bool => ⟨Try.f79.ntmps, [(1, .e (.r 1)), (3, .e (.r 3)), (4, sI (i : Int)), (39, .e (lV X.args)), (40, sI X.args.length), (41, sI q.1)],
          [(1, .box 24 [iV n, .c (nodesC ns), iV top] none), (3, .own 4 (bools q.2))]⟩)
        (R := fun q => q.1 ≤ X.args.length ∧ q.2.length = n + ns.length ∧ markN n ns (fun _ _ => true) i (markA (fun _ => true) q.2 (X.args.drop q.1)) = belowF ⟨n, ns, top⟩) (m := fun q => X.args.length - q.1) (0, m) [(1, 1), (3, 3)] rfl rfl
        ⟨rfl, rfl, rfl, (by rw [← hX]; rfl), (by rw [← hX]; rfl), rfl, trivial⟩ (by simp only [inK, true_and, and_true]; simp; omega) ⟨Nat.zero_le _, r2, r3⟩ ⟨rfl, rfl, trivial⟩ ?_
      rintro ⟨j, m'⟩ ⟨g1, g2, g3⟩
      simp only at g1 g2 g3
      refine KW.goIf lay_ok F8_ok 100 rfl (by simp) rfl trivial (fun h => ?_) fun h => ?_
      · have hj : j < X.args.length := by simpa using h
        have hg : X.args.getD (Int.toNat (j : Int)) 0 = X.args[j] := by simp [List.getD_eq_getElem?_getD, hj]
        have ha := okX.args _ (List.getElem_mem hj)
        rw [List.drop_eq_getElem_cons hj, markA_cons, Bool.or_true] at g3
        generalize X.args[j] = a at hg ha g3
        refine KW.go lay_ok F8_ok 100 rfl (by simp only [inK, true_and, and_true, hg, g2]; omega) (KW.updB 3 rfl ?_)
        simp only [hg]
        exact KW.to (j + 1, m'.set a.toNat true) ⟨⟨by simp only; omega, by simp only [List.length_set]; exact g2, g3⟩, by simp only; omega⟩ [(1, 1), (3, 3)] ⟨rfl, rfl, ⟨rfl, rfl, rfl, rfl, rfl, rfl, trivial⟩, ⟨rfl, rfl, trivial⟩⟩
      · have hj : j = X.args.length := by simp at h; omega
        rw [hj, List.drop_length] at g3
        refine KW.goOut lay_ok F8_ok 100 rfl (by simp) ?_
        exact KW.goToR lay_ok F8_ok 100 rfl (i, m') [(1, 1), (3, 3)] rfl rfl ⟨rfl, rfl, rfl, trivial⟩ (by simp only [inK, true_and, and_true]; omega) ⟨⟨by simp only; omega, g2, g3⟩, by simp only; omega⟩ ⟨rfl, rfl, trivial⟩
  · have hi0 : i1 = 0 := by simp at h; omega
    subst hi0
    replace r3 : m = belowF ⟨n, ns, top⟩ := r3
    subst r3
    refine KW.goOut lay_ok F8_ok 100 rfl (by simp) ?_
    exact KW.goRetO lay_ok F8_ok 100 rfl 3 2 rfl rfl rfl rfl (by simp)
end Go.Proofs.Ytpjhpcclbenfbaa

/-
  A formula without what its top does not reach.
-/
namespace Go.Pu
open Go.Sy
def initN (t k : Nat) : List Int := (List.range t).map fun i => if i < k then (i : Int) else 0
theorem initN_set {t k : Nat} : (initN t k).set k (k : Int) = initN t (k + 1) := by
  unfold initN
  refine List.ext_getElem (by simp) fun i h1 h2 => ?_
  rw [List.getElem_set]
  simp only [List.getElem_map, List.getElem_range]
  by_cases h : k = i
  · subst h; simp
  · rw [if_neg h]
    by_cases h3 : i < k
    · rw [if_pos h3, if_pos (by omega)]
    · rw [if_neg h3, if_neg (by omega)]
end Go.Pu
namespace Go.Proofs.Ytpjhpcclbenfbaa
open Go.Sy Go.Pu

def G1 : Fns := (110, fF (fun f => .e (blV (belowF f))) fun f => FormIn f ∧ formE f = 0) ::
  (79, fF (fun f => .e (blV (belowF f))) fun f => FormIn f ∧ formE f = 0) ::
  F8
theorem G1_ok : FnsOk Try.prog G1 := .cons (.cons (F8_ok) Try.func79 rfl rfl (fF_ok fun f h => rbelow_does f h.1 h.2)) Try.func110 rfl rfl (fF_ok fun f h => below_does f h.1 h.2)


def trimC (f : FormP) : List CV := if formE f = 0 then formC (trimF f) else [.lit (.int .i64 0), .lit (.slice none 0 0), .lit (.int .i64 0)]
theorem trim_does (f : FormP) (hin : FormIn f) : DoesF Try.prog 75 [.ag (formC f)] [] (.tup [.ag (trimC f), eV (formE f)]) [] := by
  refine DoesF.bodyC lay_ok _ Try.func75 rfl rfl rfl rfl ?_
  obtain ⟨vars, ns, top⟩ := f
  refine KW.goIf lay_ok G1_ok 100 rfl (by simp only [unN_nodesC, isN_nodesC, true_and, and_true, ifcV_errV]; exact hin) rfl trivial (fun h => ?_) fun h => ?_
  · simp only [unN_nodesC] at h
    have h1 : ¬ formE ⟨vars, ns, top⟩ = 0 := by
      have e : (!isNilB (errV 66 (formE ⟨vars, ns, top⟩))) = true := h
      simpa using e
    rw [trimC, if_neg h1]
    refine KW.goRetC lay_ok G1_ok 100 rfl rfl ?_ (by simp) trivial
    simp only [unN_nodesC]
    rfl
  · simp only [unN_nodesC] at h
    have h0 : formE ⟨vars, ns, top⟩ = 0 := by
      have e : (!isNilB (errV 66 (formE ⟨vars, ns, top⟩))) = false := h
      simpa using e
    rw [trimC, if_pos h0]
    have ok := formE_ok h0
    have hv := ok.vars
    have hn128 := ok.len
    have htop := ok.top
    simp only at hv hn128 htop
    obtain ⟨n, rfl⟩ := Int.eq_ofNat_of_zero_le hv.1
    have hn24 : n ≤ 24 := by omega
    refine KW.goLpR lay_ok G1_ok 100 rfl (I := fun q : Nat => ⟨Try.f75.ntmps, [(1, .e (.r 1)), (2, .e (.r 2)), (5, .e (.r 5)), (6, .e (.r 6)), (31, sI n), (32, sI q)],
        [(1, .box 24 [iV n, .c (nodesC ns), iV top] none), (2, .box 24 [iV 0, .c (.lit (.slice none 0 0)), iV 0] none), (5, .box 24 [iV n, .c (.lit (.slice none 0 0)), iV 0] none), (6, .own 3 (ints (initN (n + ns.length) q)))]⟩)
      (R := fun q => q ≤ n) (m := fun q => n - q) 0 [(1, 1), (2, 2), (5, 5), (6, 29)] rfl rfl ⟨rfl, rfl, rfl, rfl, rfl, rfl, trivial⟩ (by simp [inK]; omega) (Nat.zero_le _) ⟨rfl, rfl, rfl, ?_, trivial⟩ ?_
    · refine own_cat1 _ ?_
      show List.replicate (Int.toNat ((n : Int) + (ns.length : Int))) (0 : Int) = initN (n + ns.length) 0
      rw [show Int.toNat ((n : Int) + (ns.length : Int)) = n + ns.length by omega]
      refine List.ext_getElem (by simp [initN]) fun i h1 h2 => by simp [initN]
    rintro q hq0
    refine KW.goIf lay_ok G1_ok 100 rfl (by simp) rfl trivial (fun h => ?_) fun h => ?_
    · have hq : q < n := by simpa using h
      refine KW.go lay_ok G1_ok 100 rfl (by simp [inK, initN]; omega) (KW.updI 6 rfl (KW.to (q + 1) ⟨by omega, by omega⟩ [(1, 1), (2, 2), (5, 5), (6, 6)] ⟨rfl, rfl, ⟨rfl, rfl, rfl, rfl, rfl, rfl, trivial⟩, ⟨rfl, rfl, rfl, own_cat1 _ ?_, trivial⟩⟩))
      simp only [Int.toNat_natCast]
      exact initN_set
    have hq : q = n := by simp at h; omega
    subst hq
    refine KW.goOut lay_ok G1_ok 100 rfl (by simp) ?_
    clear h
    have hML := belowF_length ⟨q, ns, top⟩
    simp only [Int.toNat_natCast] at hML
    refine KW.goD lay_ok G1_ok rfl 100 rfl (by decide) rfl (by simp) (by simp only [unN_nodesC, isN_nodesC, true_and, and_true, hML]; exact ⟨⟨hin, h0⟩, by omega, by omega, by omega⟩) ?_
    simp only [unN_nodesC]
    generalize hM : belowF ⟨q, ns, top⟩ = M at hML
    refine KW.conv 44 (bools (M.drop q)) rfl ⟨by simp, .inr ⟨rfl, fun e p he hp => ?_⟩⟩ ?_
    · simp [List.getD_eq_getElem?_getD, List.getElem?_drop, Nat.add_comm]
      exact CVEq.refl _
    refine KW.nilB 5 1 201 71 (nodesC []) rfl rfl rfl rfl rfl ?_
    have ht0 : initN (q + ns.length) q = (trimN q ns M 0).1 := rfl
    have htl := trimN_len q ns M
    rw [ht0]
    refine KW.goLpR lay_ok G1_ok 100 rfl (I := fun i : Nat => ⟨Try.f75.ntmps, [(1, .e (.r 1)), (2, .e (.r 2)), (5, .e (.r 5)), (6, .e (.r 6)), (44, .e (blV (M.drop q))), (45, sI ns.length), (46, sI i)],
        [(1, .box 24 [iV q, .c (nodesC ns), iV top] none), (2, .box 24 [iV 0, .c (.lit (.slice none 0 0)), iV 0] none), (5, .box 24 [iV q, .r 201, iV 0] none), (6, .own 3 (ints (trimN q ns M i).1)), (201, .own 71 (nodesC (trimN q ns M i).2))]⟩)
      (R := fun i => i ≤ ns.length) (m := fun i => ns.length - i) 0 [(1, 1), (2, 2), (5, 5), (6, 6), (201, 201)] rfl rfl ⟨rfl, rfl, rfl, rfl, rfl, ?_, rfl, trivial⟩ (by simp) (Nat.zero_le _) ⟨rfl, rfl, rfl, rfl, rfl, trivial⟩ ?_
    · have e : ((((M.length : Nat) : Int).toNat - ((q : Nat) : Int).toNat : Nat) : Int) = (ns.length : Int) := by simp [hML]; omega
      rw [← e]; rfl
    rintro i hi0
    refine KW.goIf lay_ok G1_ok 100 rfl (by simp) rfl trivial (fun h => ?_) fun h => ?_
    · have hi : i < ns.length := by simpa using h
      have hX : ns.getD (Int.toNat (i : Int)) node0 = ns[i] := by simp [List.getD_eq_getElem?_getD, hi]
      have hX2 : ns.getD i node0 = ns[i] := hX
      have okX := ok.nodes i hi
      have hMd : (M.drop q).getD (Int.toNat (i : Int)) false = M.getD (q + i) false := by
        simp [List.getD_eq_getElem?_getD, List.getElem?_drop]
      have e1 := trimN_succ q ns M i
      refine KW.goIf lay_ok G1_ok 100 rfl (by simp [hML]; try omega) rfl trivial (fun h => ?_) fun h => ?_
      · have h3 : M.getD (q + i) false = false := by
          have e : (!(M.drop q).getD (Int.toNat (i : Int)) false) = true := h
          rw [hMd] at e; simpa using e
        rw [if_neg (by rw [h3]; decide)] at e1
        refine KW.goToR lay_ok G1_ok 100 rfl (i + 1) [(1, 1), (2, 2), (5, 5), (6, 6), (201, 201)] rfl rfl ⟨rfl, rfl, rfl, rfl, rfl, rfl, rfl, trivial⟩ (by simp [inK]; omega) ⟨by omega, by omega⟩ ⟨rfl, rfl, rfl, ?_, ?_, trivial⟩
        · rw [e1]; rfl
        · rw [e1]; rfl
      · have h3 : M.getD (q + i) false = true := by
          have e : (!(M.drop q).getD (Int.toNat (i : Int)) false) = false := h
          rw [hMd] at e; simpa using e
        rw [if_pos h3, hX2] at e1
        simp only at okX
        generalize hXX : ns[i] = X at hX okX e1
        have hk : (ns.getD (Int.toNat (i : Int)) node0).args = X.args := by rw [hX]
        generalize hT : trimN q ns M i = Tr at e1
        obtain ⟨mv, kept⟩ := Tr
        simp only at e1
        have hl := htl i
        rw [hT] at hl
        simp only at hl
        refine KW.go lay_ok G1_ok 100 rfl (by simp [hi]) ?_
        refine KW.nilB 11 2 200 3 (ints []) rfl rfl rfl rfl rfl ?_
        refine KW.goLpR lay_ok G1_ok 100 rfl (I := fun j : Nat => ⟨Try.f75.ntmps, [(1, .e (.r 1)), (2, .e (.r 2)), (5, .e (.r 5)), (6, .e (.r 6)), (8, sI i), (11, .e (.r 11)), (44, .e (blV (M.drop q))), (45, sI ns.length), (46, sI i), (64, .e (lV X.args)), (65, sI X.args.length), (66, sI j)],
            [(1, .box 24 [iV q, .c (nodesC ns), iV top] none), (2, .box 24 [iV 0, .c (.lit (.slice none 0 0)), iV 0] none), (5, .box 24 [iV q, .r 201, iV 0] none), (6, .own 3 (ints mv)), (201, .own 71 (nodesC kept)),
              (11, .box 71 [iV X.kind, iV X.k, .r 200] none), (200, .own 3 (ints ((X.args.take j).map fun a => mv.getD a.toNat 0)))]⟩)
          (R := fun j => j ≤ X.args.length) (m := fun j => X.args.length - j) 0 [(1, 1), (2, 2), (5, 5), (6, 6), (201, 201), (11, 11), (200, 200)] rfl rfl ⟨rfl, rfl, rfl, rfl, rfl, rfl, rfl, rfl, rfl, ?_, ?_, rfl, trivial⟩ (by simp) (Nat.zero_le _) ⟨rfl, rfl, rfl, ?_, ?_, ?_, ?_, trivial⟩ ?_
        · rw [← hX]; rfl
        · rw [← hX]; rfl
        · simp only [hT]; rfl
        · simp only [hT]; rfl
        · rw [← hX]; rfl
        · rfl
        rintro j hj0
        refine KW.goIf lay_ok G1_ok 100 rfl (by simp) rfl trivial (fun h => ?_) fun h => ?_
        · have hj : j < X.args.length := by simpa using h
          have hg : X.args.getD (Int.toNat (j : Int)) 0 = X.args[j] := by simp [List.getD_eq_getElem?_getD, hj]
          have ha := okX.args _ (List.getElem_mem hj)
          have htk : X.args.take (j + 1) = X.args.take j ++ [X.args[j]] := by rw [List.take_add_one, List.getElem?_eq_getElem hj]; rfl
          have h16 := argsB_le okX.cnt
          generalize X.args[j] = a at hg ha htk
          refine KW.goDX lay_ok G1_ok rfl 100 rfl 7 rfl (by decide +kernel) (by decide +kernel) rfl rfl (by simp <;> try omega) ?_ ?_
          · simp only [hg, hl.1]
            have := ha
            simp
            omega
          · refine KW.goToR lay_ok G1_ok 100 rfl (j + 1) [(1, 1), (2, 2), (5, 5), (6, 6), (201, 201), (11, 11), (200, 77)] rfl rfl ⟨rfl, rfl, rfl, rfl, rfl, rfl, rfl, rfl, rfl, rfl, rfl, rfl, trivial⟩ ?_ ⟨by omega, by omega⟩ ⟨rfl, rfl, rfl, rfl, rfl, rfl, ?_, trivial⟩
            · simp [inK, List.length_take]
              omega
            · refine own_cat _ ?_
              rw [htk, List.map_append]
              simp only [hg]
              rfl
        · have hj : j = X.args.length := by simp at h; omega
          subst hj
          refine KW.goOut lay_ok G1_ok 100 rfl (by simp) ?_
          refine KW.frzB 11 2 200 rfl rfl rfl rfl ?_
          refine KW.go lay_ok G1_ok 100 rfl ?_ (KW.updI 6 rfl (KW.catG 96 ⟨X.kind, X.k, X.args.map fun a => mv.getD a.toNat 0⟩ rfl ?_ (KW.to (i + 1) ⟨by omega, by omega⟩ [(1, 1), (2, 2), (5, 5), (6, 6), (201, 96)] ⟨rfl, rfl, ⟨rfl, rfl, rfl, rfl, rfl, rfl, rfl, trivial⟩, ⟨rfl, rfl, rfl, ?_, ?_, trivial⟩⟩)))
          · simp [inK, hl.1]
            omega
          · intro p hp
            match p, hp with
            | 0, _ => exact CVEq.refl (.lit (.int .i64 X.kind))
            | 1, _ => exact CVEq.refl (.lit (.int .i64 X.k))
            | 2, _ =>
              show CVEq (ints ((X.args.take X.args.length).map fun a => mv.getD a.toNat 0)) (ints (X.args.map fun a => mv.getD a.toNat 0))
              rw [List.take_length]; exact CVEq.refl _
          · rw [e1]
            refine own_cat1 _ ?_
            rw [show Int.toNat ((q : Int) + (i : Int)) = q + i by omega]
          · rw [e1]; rfl
    · have hi : i = ns.length := by simp at h; omega
      subst hi
      refine KW.goOut lay_ok G1_ok 100 rfl (by simp) ?_
      refine KW.frzB 5 1 201 rfl rfl rfl rfl ?_
      refine KW.goRetC lay_ok G1_ok 100 rfl rfl ?_ ?_ trivial
      · have e : trimF ⟨q, ns, top⟩ = ⟨q, (trimN q ns M ns.length).2, (trimN q ns M ns.length).1.getD top.toNat 0⟩ := by
          rw [trimF]
          simp only [Int.toNat_natCast, hM]
        rw [e, h0]; rfl
      · have := (htl ns.length).1
        simp [this]
        omega
end Go.Proofs.Ytpjhpcclbenfbaa

/-
  Coherence by the form alone: the program's, and the reference's.
-/
namespace Go.Proofs.Ytpjhpcclbenfbaa
open Go.Sy Go.Pu

theorem trim_good (f : FormP) (hin : FormIn f) (h0 : formE f = 0) : DoesF Try.prog 75 [.ag (formC f)] [] (.tup [.ag (formC (trimF f)), .c (.lit .nilIface)]) [] := by
  have := trim_does f hin
  rw [trimC, if_pos h0, h0] at this
  exact this
theorem trim_bad (f : FormP) (hin : FormIn f) (h0 : ¬ formE f = 0) : DoesF Try.prog 75 [.ag (formC f)] [] (.tup [.ag [.lit (.int .i64 0), .lit (.slice none 0 0), .lit (.int .i64 0)], eV (formE f)]) [] := by
  have := trim_does f hin
  rw [trimC, if_neg h0] at this
  exact this
def G2a : Fns := (75, fF (fun f => .tup [.ag (formC (trimF f)), .c (.lit .nilIface)]) fun f => FormIn f ∧ formE f = 0) ::
  G1
theorem G2a_ok : FnsOk Try.prog G2a := .cons (G1_ok) Try.func75 rfl rfl (fF_ok fun f h => trim_good f h.1 h.2)


def G2b : Fns := (75, fF (fun f => .tup [.ag [.lit (.int .i64 0), .lit (.slice none 0 0), .lit (.int .i64 0)], eV (formE f)]) fun f => FormIn f ∧ ¬ formE f = 0) ::
  G1
theorem G2b_ok : FnsOk Try.prog G2b := .cons (G1_ok) Try.func75 rfl rfl (fF_ok fun f h => trim_bad f h.1 h.2)


/-- what is returned beside an error -/
def cohV (f : FormP) : Bool := decide (formE f = 0) && cohF f
theorem syntax_does (f : FormP) (hin : FormIn f) : DoesF Try.prog 36 [.ag (formC f)] [] (.tup [bV (cohV f), eV (formE f)]) [] := by
  refine DoesF.body _ Try.func36 rfl rfl rfl rfl ?_
  by_cases h0 : formE f = 0
  · have hc : cohV f = (trimF f).nodes.all fun x => !(x.kind == 1 || x.kind == 5) := by rw [← cohF_trim]; simp [cohV, h0]
    rw [hc, h0]
    have ok := formE_ok h0
    have hTl : (trimF f).nodes.length ≤ 128 := by
      have h1 := (trimN_len f.vars.toNat f.nodes (belowF f) f.nodes.length).2
      have h2 := ok.len
      exact Nat.le_trans h1 h2
    obtain ⟨vars, ns, top⟩ := f
    refine KW.goIf lay_ok G2a_ok 100 rfl (by simp only [unN_nodesC, isN_nodesC, true_and, and_true]; simp [hin, h0, ifcV]) rfl trivial (fun h => absurd h (by decide)) fun h => ?_
    simp only [unN_nodesC]
    generalize trimF ⟨vars, ns, top⟩ = T at hTl
    obtain ⟨tv, tn, tt⟩ := T
    simp only at hTl
    refine KW.goLpR lay_ok G2a_ok 100 rfl (I := fun i : Nat => ⟨Try.f36.ntmps, [(17, .e (.c (nodesC tn))), (18, sI tn.length), (19, sI i)], []⟩)
      (R := fun i => i ≤ tn.length ∧ (tn.drop i).all (fun x => !(x.kind == 1 || x.kind == 5)) = tn.all fun x => !(x.kind == 1 || x.kind == 5)) (m := fun i => tn.length - i) 0 [] rfl rfl ⟨rfl, rfl, rfl, trivial⟩ (by simp) ⟨Nat.zero_le _, rfl⟩ trivial ?_
    rintro i ⟨hi0, hr⟩
    refine KW.goIf lay_ok G2a_ok 100 rfl (by simp) rfl trivial (fun h => ?_) fun h => ?_
    · have hi : i < tn.length := by simpa using h
      have hX : tn.getD (Int.toNat (i : Int)) node0 = tn[i] := by simp [List.getD_eq_getElem?_getD, hi]
      rw [List.drop_eq_getElem_cons hi, List.all_cons] at hr
      generalize tn[i] = X at hX hr
      refine KW.goIf lay_ok G2a_ok 100 rfl (by simp [hi]) rfl trivial (fun h => ?_) fun h => ?_
      · have e : (X.kind == 1 || X.kind == 5) = true := by rw [← hX]; exact h
        rw [e] at hr
        simp only [Bool.not_true, Bool.false_and] at hr
        refine KW.goOutR lay_ok G2a_ok 100 rfl (by simp) ?_
        refine KW.goRet lay_ok G2a_ok 100 rfl rfl ?_ (by simp) trivial
        simp only [← hr]; rfl
      · have e : (X.kind == 1 || X.kind == 5) = false := by rw [← hX]; exact h
        rw [e] at hr
        simp only [Bool.not_false, Bool.true_and] at hr
        exact KW.goToR lay_ok G2a_ok 100 rfl (i + 1) [] rfl rfl ⟨rfl, rfl, rfl, trivial⟩ (by simp [inK]; omega) ⟨⟨by omega, hr⟩, by omega⟩ trivial
    · have hi : i = tn.length := by simp at h; omega
      rw [hi, List.drop_length] at hr
      refine KW.goOut lay_ok G2a_ok 100 rfl (by simp) ?_
      refine KW.goRet lay_ok G2a_ok 100 rfl rfl ?_ (by simp) trivial
      simp only [← hr]; rfl
  · have hc : cohV f = false := by simp [cohV, h0]
    rw [hc]
    obtain ⟨vars, ns, top⟩ := f
    refine KW.goIf lay_ok G2b_ok 100 rfl (by simp only [unN_nodesC, isN_nodesC, true_and, and_true, ifcV_errV]; exact ⟨hin, h0⟩) rfl trivial (fun h => ?_) fun h => ?_
    · refine KW.goRet lay_ok G2b_ok 100 rfl rfl ?_ (by simp) trivial
      simp only [unN_nodesC]; rfl
    · exfalso
      simp only [unN_nodesC] at h
      have e : (!isNilB (errV 66 (formE ⟨vars, ns, top⟩))) = false := h
      exact h0 (by simpa using e)

theorem rsyntax_does (f : FormP) (hin : FormIn f) (h0 : formE f = 0) : DoesF Try.prog 114 [.ag (formC f)] [] (sB (cohF f)) [] := by
  refine DoesF.body _ Try.func114 rfl rfl rfl rfl ?_
  have ok := formE_ok h0
  obtain ⟨vars, ns, top⟩ := f
  have hv := ok.vars
  have hn128 := ok.len
  simp only at hv hn128
  obtain ⟨n, rfl⟩ := Int.eq_ofNat_of_zero_le hv.1
  have hML := belowF_length ⟨n, ns, top⟩
  have hco : cohF ⟨n, ns, top⟩ = (List.range ns.length).all fun i => !((belowF ⟨n, ns, top⟩).getD (n + i) false && ((ns.getD i node0).kind == 1 || (ns.getD i node0).kind == 5)) := rfl
  simp only [Int.toNat_natCast] at hML
  rw [hco]
  refine KW.goLpR lay_ok G1_ok 100 rfl (I := fun i : Nat => ⟨Try.f114.ntmps, [(1, .e (.r 1)), (3, .e (blV (belowF ⟨n, ns, top⟩))), (9, .e (.c (nodesC ns))), (10, sI ns.length), (11, sI i)],
      [(1, .box 24 [iV n, .c (nodesC ns), iV top] none)]⟩)
    (R := fun i => i ≤ ns.length ∧ ∀ j, j < i → (!((belowF ⟨n, ns, top⟩).getD (n + j) false && ((ns.getD j node0).kind == 1 || (ns.getD j node0).kind == 5))) = true) (m := fun i => ns.length - i) 0 [(1, 1)] rfl rfl ⟨rfl, ?_, rfl, rfl, rfl, trivial⟩ (by simp only [unN_nodesC, isN_nodesC, true_and, and_true]; simp [hin, h0]) ⟨Nat.zero_le _, fun j hj => by omega⟩ ⟨rfl, trivial⟩ ?_
  · simp only [unN_nodesC]; rfl
  rintro i ⟨hi0, hr⟩
  refine KW.goIf lay_ok G1_ok 100 rfl (by simp) rfl trivial (fun h => ?_) fun h => ?_
  · have hi : i < ns.length := by simpa using h
    generalize hB : belowF ⟨n, ns, top⟩ = M at hML hr
    have hidx : Int.toNat ((n : Int) + (i : Int)) = n + i := by omega
    refine KW.goIf lay_ok G1_ok 100 rfl (by simp +contextual [hi, hML, inK]; omega) rfl trivial (fun h => ?_) fun h => ?_
    · have e : (M.getD (n + i) false && ((ns.getD i node0).kind == 1 || (ns.getD i node0).kind == 5)) = true := by
        rw [← hidx]; exact h
      refine KW.goOutR lay_ok G1_ok 100 rfl (by simp) ?_
      refine KW.goRet lay_ok G1_ok 100 rfl rfl ?_ (by simp) trivial
      have e2 : ((List.range ns.length).all fun i => !(M.getD (n + i) false && ((ns.getD i node0).kind == 1 || (ns.getD i node0).kind == 5))) = false := by
        rw [List.all_eq_false]
        exact ⟨i, by simpa using hi, by rw [e]; decide⟩
      rw [e2]; rfl
    · have e : (M.getD (n + i) false && ((ns.getD i node0).kind == 1 || (ns.getD i node0).kind == 5)) = false := by
        rw [← hidx]; exact h
      refine KW.goToR lay_ok G1_ok 100 rfl (i + 1) [(1, 1)] rfl rfl ⟨rfl, rfl, rfl, rfl, rfl, trivial⟩ (by simp [inK]; omega) ⟨⟨by omega, fun j hj => ?_⟩, by omega⟩ ⟨rfl, trivial⟩
      by_cases hji : j = i
      · subst hji; rw [e]; rfl
      · exact hr j (by omega)
  · have hi : i = ns.length := by simp at h; omega
    refine KW.goOut lay_ok G1_ok 100 rfl (by simp) ?_
    refine KW.goRet lay_ok G1_ok 100 rfl rfl ?_ (by simp) trivial
    have e2 : ((List.range ns.length).all fun i => !((belowF ⟨n, ns, top⟩).getD (n + i) false && ((ns.getD i node0).kind == 1 || (ns.getD i node0).kind == 5))) = true := by
      rw [List.all_eq_true]
      exact fun j hj => hr j (by rw [hi]; simpa using hj)
    rw [e2]; rfl
end Go.Proofs.Ytpjhpcclbenfbaa
