/-
  FpA, FpD, FnD, Shelf, FnH, FnL, FnP, PuP, FqA, FqE, one text.
-/
import Derived.Test.YtocnofkagckhkaaGreatDoorKad
import Derived.Shelf.Small.Bits
import Derived.Ground.SlgnProg
import Derived.Shelf.SlicesG.CompactI
import Derived.Ground.SlsfProg
import Derived.Shelf.SlSortCmp.NoneTotal
import Derived.Test.YtocnofkagckhkaaGreatDoorProg
section
set_option linter.unusedSectionVars false
set_option linter.unusedVariables false
set_option linter.unusedSimpArgs false
namespace Go.Proofs.YtocnofkagckhkaaGreatDoor
open Go.Sy Go.Pu
variable [Drw]
theorem below_does (f : FormP) (hin : FormIn f) (h0 : formE f = 0) : DoesF Tryz.prog 106 [.ag (formC f)] [] (.e (blV (belowF f))) [] := by
  refine DoesF.body _ Tryz.func106 rfl rfl rfl rfl ?_
  have ok : FormOk f := formE_ok h0
  obtain ⟨vars, ns, top⟩ := f
  have hv := ok.vars
  have hn128 := ok.len
  have htop := ok.top
  simp only at hv hn128 htop
  obtain ⟨n, rfl⟩ := Int.eq_ofNat_of_zero_le hv.1
  have hn24 : n ≤ 24 := by omega
  have hm0 := mark0_length ⟨n, ns, top⟩
  simp only [Int.toNat_natCast] at hm0
  refine KW.go lay_ok F8_ok 100 rfl (by simp [inK]; omega) (KW.updB 13 rfl ?_)
  refine KW.lp (I := fun q : Nat × List Bool => ⟨Tryz.f106.ntmps, [(1, .e (.r 1)), (3, .e (.r 3)), (4, sI ((q.1 : Int) - 1))],
      [(1, .box 24 [iV n, .c (nodesC ns), iV top] none), (3, .own 4 (bools q.2))]⟩)
    (R := fun q => q.1 ≤ ns.length ∧ q.2.length = n + ns.length ∧ markN n ns (fun _ _ => true) q.1 q.2 = belowF ⟨n, ns, top⟩) (m := fun q => q.1) (ns.length, mark0 ⟨n, ns, top⟩) ⟨Nat.le_refl _, hm0, rfl⟩ [(1, 1), (3, 13)] ⟨rfl, rfl, ⟨rfl, rfl, rfl, trivial⟩, ⟨rfl, own_catB0 _ ?_, trivial⟩⟩ ?_
  · show (List.replicate (Int.toNat ((n : Int) + (ns.length : Int))) false).set top.toNat true = mark0 ⟨n, ns, top⟩
    rw [mark0]
    simp only [Int.toNat_natCast]
    congr 2
  rintro ⟨i1, m⟩ ⟨r1, r2, r3⟩
  simp only at r1 r2 r3
  refine KW.goIf lay_ok F8_ok 100 rfl (by simp) rfl trivial (fun h => ?_) fun h => ?_
  · obtain ⟨i, rfl⟩ : ∃ i, i1 = i + 1 := ⟨i1 - 1, by simp at h; omega⟩
    have hi : i < ns.length := by omega
    have hii : ((i + 1 : Nat) : Int) - 1 = (i : Int) := by omega
    have hidx : Int.toNat ((n : Int) + (i : Int)) = n + i := by omega
    rw [markN] at r3
    simp only [hii]
    refine KW.goIf lay_ok F8_ok 100 rfl (by simp only [inK, true_and, and_true, r2]; omega) rfl trivial (fun h => ?_) fun h => ?_
    · have h3 : m.getD (n + i) false = true := by
        have e : m.getD (Int.toNat ((n : Int) + (i : Int))) false = true := h
        rw [hidx] at e; exact e
      rw [if_pos h3] at r3
      have hX : ns.getD (Int.toNat (i : Int)) node0 = ns[i] := by simp [List.getD_eq_getElem?_getD, hi]
      have hX2 : ns.getD i node0 = ns[i] := hX
      have okX := ok.nodes i hi
      rw [hX2] at r3
      simp only at okX
      generalize hXX : ns[i] = X at hX okX r3
      have h16 := argsB_le okX.cnt
      refine KW.goLpR lay_ok F8_ok 100 rfl (I := fun q : Nat × List Bool => ⟨Tryz.f106.ntmps, [(1, .e (.r 1)), (3, .e (.r 3)), (4, sI (i : Int)), (38, .e (lV X.args)), (39, sI X.args.length), (40, sI q.1)],
          [(1, .box 24 [iV n, .c (nodesC ns), iV top] none), (3, .own 4 (bools q.2))]⟩)
        (R := fun q => q.1 ≤ X.args.length ∧ q.2.length = n + ns.length ∧ markN n ns (fun _ _ => true) i (markA (fun _ => true) q.2 (X.args.drop q.1)) = belowF ⟨n, ns, top⟩) (m := fun q => X.args.length - q.1) (0, m) [(1, 1), (3, 3)] rfl rfl
        ⟨rfl, rfl, rfl, (by rw [← hX]; rfl), (by rw [← hX]; rfl), rfl, trivial⟩ (by simp only [inK, true_and, and_true]; simp; omega) ⟨Nat.zero_le _, r2, r3⟩ ⟨rfl, rfl, trivial⟩ ?_
      rintro ⟨j, m'⟩ ⟨g1, g2, g3⟩
      simp only at g1 g2 g3
      refine KW.goIf lay_ok F8_ok 100 rfl (by simp) rfl trivial (fun h => ?_) fun h => ?_
      · have hj : j < X.args.length := by simpa using h
        have hg : X.args.getD (Int.toNat (j : Int)) 0 = X.args[j] := by simp [List.getD_eq_getElem?_getD, hj]
        have ha := okX.args _ (List.getElem_mem hj)
        rw [List.drop_eq_getElem_cons hj, markA_cons, Bool.or_true] at g3
        generalize X.args[j] = a at hg ha g3
        refine KW.go lay_ok F8_ok 100 rfl (by simp only [inK, true_and, and_true, hg, g2]; omega) (KW.updB 3 rfl ?_)
        simp only [hg]
        exact KW.to (j + 1, m'.set a.toNat true) ⟨⟨by simp only; omega, by simp only [List.length_set]; exact g2, g3⟩, by simp only; omega⟩ [(1, 1), (3, 3)] ⟨rfl, rfl, ⟨rfl, rfl, rfl, rfl, rfl, rfl, trivial⟩, ⟨rfl, rfl, trivial⟩⟩
      · have hj : j = X.args.length := by simp at h; omega
        rw [hj, List.drop_length] at g3
        refine KW.goOut lay_ok F8_ok 100 rfl (by simp) ?_
        exact KW.goToR lay_ok F8_ok 100 rfl (i, m') [(1, 1), (3, 3)] rfl rfl ⟨rfl, rfl, rfl, trivial⟩ (by simp only [inK, true_and, and_true]; omega) ⟨⟨by simp only; omega, g2, g3⟩, by simp only; omega⟩ ⟨rfl, rfl, trivial⟩
    · have h3 : m.getD (n + i) false = false := by
        have e : m.getD (Int.toNat ((n : Int) + (i : Int))) false = false := h
        rw [hidx] at e; exact e
      rw [if_neg (by rw [h3]; decide)] at r3
      exact KW.goToR lay_ok F8_ok 100 rfl (i, m) [(1, 1), (3, 3)] rfl rfl ⟨rfl, rfl, rfl, trivial⟩ (by simp only [inK, true_and, and_true]; omega) ⟨⟨by simp only; omega, r2, r3⟩, by simp only; omega⟩ ⟨rfl, rfl, trivial⟩
  · have hi0 : i1 = 0 := by simp at h; omega
    subst hi0
    replace r3 : m = belowF ⟨n, ns, top⟩ := r3
    subst r3
    refine KW.goOut lay_ok F8_ok 100 rfl (by simp) ?_
    exact KW.goRetO lay_ok F8_ok 100 rfl 3 2 rfl rfl rfl rfl (by simp)
theorem rbelow_does (f : FormP) (hin : FormIn f) (h0 : formE f = 0) : DoesF Tryz.prog 91 [.ag (formC f)] [] (.e (blV (belowF f))) [] := by
  refine DoesF.body _ Tryz.func91 rfl rfl rfl rfl ?_
  have ok : FormOk f := formE_ok h0
  obtain ⟨vars, ns, top⟩ := f
  have hv := ok.vars
  have hn128 := ok.len
  have htop := ok.top
  simp only at hv hn128 htop
  obtain ⟨n, rfl⟩ := Int.eq_ofNat_of_zero_le hv.1
  have hn24 : n ≤ 24 := by omega
  have hm0 := mark0_length ⟨n, ns, top⟩
  simp only [Int.toNat_natCast] at hm0
  refine KW.go lay_ok F8_ok 100 rfl (by simp [inK]; omega) (KW.updB 13 rfl ?_)
  refine KW.lp (I := fun q : Nat × List Bool => ⟨Tryz.f91.ntmps, [(1, .e (.r 1)), (3, .e (.r 3)), (4, sI ((q.1 : Int) - 1))],
      [(1, .box 24 [iV n, .c (nodesC ns), iV top] none), (3, .own 4 (bools q.2))]⟩)
    (R := fun q => q.1 ≤ ns.length ∧ q.2.length = n + ns.length ∧ markN n ns (fun _ _ => true) q.1 q.2 = belowF ⟨n, ns, top⟩) (m := fun q => q.1) (ns.length, mark0 ⟨n, ns, top⟩) ⟨Nat.le_refl _, hm0, rfl⟩ [(1, 1), (3, 13)] ⟨rfl, rfl, ⟨rfl, rfl, rfl, trivial⟩, ⟨rfl, own_catB0 _ ?_, trivial⟩⟩ ?_
  · show (List.replicate (Int.toNat ((n : Int) + (ns.length : Int))) false).set top.toNat true = mark0 ⟨n, ns, top⟩
    rw [mark0]
    simp only [Int.toNat_natCast]
    congr 2
  rintro ⟨i1, m⟩ ⟨r1, r2, r3⟩
  simp only at r1 r2 r3
  refine KW.goIf lay_ok F8_ok 100 rfl (by simp) rfl trivial (fun h => ?_) fun h => ?_
  · obtain ⟨i, rfl⟩ : ∃ i, i1 = i + 1 := ⟨i1 - 1, by simp at h; omega⟩
    have hi : i < ns.length := by omega
    have hii : ((i + 1 : Nat) : Int) - 1 = (i : Int) := by omega
    have hidx : Int.toNat ((n : Int) + (i : Int)) = n + i := by omega
    rw [markN] at r3
    simp only [hii]
    refine KW.goIf lay_ok F8_ok 100 rfl (by simp only [inK, true_and, and_true, r2]; omega) rfl trivial (fun h => ?_) fun h => ?_
    · have h3 : m.getD (n + i) false = false := by
        have e : (!m.getD (Int.toNat ((n : Int) + (i : Int))) false) = true := h
        rw [hidx] at e; simpa using e
      rw [if_neg (by rw [h3]; decide)] at r3
      exact KW.goToR lay_ok F8_ok 100 rfl (i, m) [(1, 1), (3, 3)] rfl rfl ⟨rfl, rfl, rfl, trivial⟩ (by simp only [inK, true_and, and_true]; omega) ⟨⟨by simp only; omega, r2, r3⟩, by simp only; omega⟩ ⟨rfl, rfl, trivial⟩
    · have h3 : m.getD (n + i) false = true := by
        have e : (!m.getD (Int.toNat ((n : Int) + (i : Int))) false) = false := h
        rw [hidx] at e; simpa using e
      rw [if_pos h3] at r3
      have hX : ns.getD (Int.toNat (i : Int)) node0 = ns[i] := by simp [List.getD_eq_getElem?_getD, hi]
      have hX2 : ns.getD i node0 = ns[i] := hX
      have okX := ok.nodes i hi
      rw [hX2] at r3
      simp only at okX
      generalize hXX : ns[i] = X at hX okX r3
      have h16 := argsB_le okX.cnt
      refine KW.goLpR lay_ok F8_ok 100 rfl (I := fun q : Nat × List Bool => ⟨Tryz.f91.ntmps, [(1, .e (.r 1)), (3, .e (.r 3)), (4, sI (i : Int)), (39, .e (lV X.args)), (40, sI X.args.length), (41, sI q.1)],
          [(1, .box 24 [iV n, .c (nodesC ns), iV top] none), (3, .own 4 (bools q.2))]⟩)
        (R := fun q => q.1 ≤ X.args.length ∧ q.2.length = n + ns.length ∧ markN n ns (fun _ _ => true) i (markA (fun _ => true) q.2 (X.args.drop q.1)) = belowF ⟨n, ns, top⟩) (m := fun q => X.args.length - q.1) (0, m) [(1, 1), (3, 3)] rfl rfl
        ⟨rfl, rfl, rfl, (by rw [← hX]; rfl), (by rw [← hX]; rfl), rfl, trivial⟩ (by simp only [inK, true_and, and_true]; simp; omega) ⟨Nat.zero_le _, r2, r3⟩ ⟨rfl, rfl, trivial⟩ ?_
      rintro ⟨j, m'⟩ ⟨g1, g2, g3⟩
      simp only at g1 g2 g3
      refine KW.goIf lay_ok F8_ok 100 rfl (by simp) rfl trivial (fun h => ?_) fun h => ?_
      · have hj : j < X.args.length := by simpa using h
        have hg : X.args.getD (Int.toNat (j : Int)) 0 = X.args[j] := by simp [List.getD_eq_getElem?_getD, hj]
        have ha := okX.args _ (List.getElem_mem hj)
        rw [List.drop_eq_getElem_cons hj, markA_cons, Bool.or_true] at g3
        generalize X.args[j] = a at hg ha g3
        refine KW.go lay_ok F8_ok 100 rfl (by simp only [inK, true_and, and_true, hg, g2]; omega) (KW.updB 3 rfl ?_)
        simp only [hg]
        exact KW.to (j + 1, m'.set a.toNat true) ⟨⟨by simp only; omega, by simp only [List.length_set]; exact g2, g3⟩, by simp only; omega⟩ [(1, 1), (3, 3)] ⟨rfl, rfl, ⟨rfl, rfl, rfl, rfl, rfl, rfl, trivial⟩, ⟨rfl, rfl, trivial⟩⟩
      · have hj : j = X.args.length := by simp at h; omega
        rw [hj, List.drop_length] at g3
        refine KW.goOut lay_ok F8_ok 100 rfl (by simp) ?_
        exact KW.goToR lay_ok F8_ok 100 rfl (i, m') [(1, 1), (3, 3)] rfl rfl ⟨rfl, rfl, rfl, trivial⟩ (by simp only [inK, true_and, and_true]; omega) ⟨⟨by simp only; omega, g2, g3⟩, by simp only; omega⟩ ⟨rfl, rfl, trivial⟩
  · have hi0 : i1 = 0 := by simp at h; omega
    subst hi0
    replace r3 : m = belowF ⟨n, ns, top⟩ := r3
    subst r3
    refine KW.goOut lay_ok F8_ok 100 rfl (by simp) ?_
    exact KW.goRetO lay_ok F8_ok 100 rfl 3 2 rfl rfl rfl rfl (by simp)
end Go.Proofs.YtocnofkagckhkaaGreatDoor
namespace Go.Pu
open Go.Sy
variable [Drw]
def initN (t k : Nat) : List Int := (List.range t).map fun i => if i < k then (i : Int) else 0
theorem initN_set {t k : Nat} : (initN t k).set k (k : Int) = initN t (k + 1) := by
  unfold initN
  refine List.ext_getElem (by simp) fun i h1 h2 => ?_
  rw [List.getElem_set]
  simp only [List.getElem_map, List.getElem_range]
  by_cases h : k = i
  · subst h; simp
  · rw [if_neg h]
    by_cases h3 : i < k
    · rw [if_pos h3, if_pos (by omega)]
    · rw [if_neg h3, if_neg (by omega)]
end Go.Pu
namespace Go.Proofs.YtocnofkagckhkaaGreatDoor
open Go.Sy Go.Pu
variable [Drw]
def G1 : Fns := (106, fF (fun f => .e (blV (belowF f))) fun f => FormIn f ∧ formE f = 0) ::
  (91, fF (fun f => .e (blV (belowF f))) fun f => FormIn f ∧ formE f = 0) ::
  F8
theorem G1_ok : FnsOk Tryz.prog G1 := .cons (.cons (F8_ok) Tryz.func91 rfl rfl (fF_ok fun f h => rbelow_does f h.1 h.2)) Tryz.func106 rfl rfl (fF_ok fun f h => below_does f h.1 h.2)
def trimC (f : FormP) : List CV := if formE f = 0 then formC (trimF f) else [.lit (.int .i64 0), .lit (.slice none 0 0), .lit (.int .i64 0)]
theorem trim_does (f : FormP) (hin : FormIn f) : DoesF Tryz.prog 70 [.ag (formC f)] [] (.tup [.ag (trimC f), eV (formE f)]) [] := by
  refine DoesF.bodyC lay_ok _ Tryz.func70 rfl rfl rfl rfl ?_
  obtain ⟨vars, ns, top⟩ := f
  refine KW.goIf lay_ok G1_ok 100 rfl (by simp only [unN_nodesC, isN_nodesC, true_and, and_true, ifcV_errV]; exact hin) rfl trivial (fun h => ?_) fun h => ?_
  · simp only [unN_nodesC] at h
    have h1 : ¬ formE ⟨vars, ns, top⟩ = 0 := by
      have e : (!isNilB (errV 47 (formE ⟨vars, ns, top⟩))) = true := h
      simpa using e
    rw [trimC, if_neg h1]
    refine KW.goRetC lay_ok G1_ok 100 rfl rfl ?_ (by simp) trivial
    simp only [unN_nodesC]
    rfl
  · simp only [unN_nodesC] at h
    have h0 : formE ⟨vars, ns, top⟩ = 0 := by
      have e : (!isNilB (errV 47 (formE ⟨vars, ns, top⟩))) = false := h
      simpa using e
    rw [trimC, if_pos h0]
    have ok := formE_ok h0
    have hv := ok.vars
    have hn128 := ok.len
    have htop := ok.top
    simp only at hv hn128 htop
    obtain ⟨n, rfl⟩ := Int.eq_ofNat_of_zero_le hv.1
    have hn24 : n ≤ 24 := by omega
    refine KW.goLpR lay_ok G1_ok 100 rfl (I := fun q : Nat => ⟨Tryz.f70.ntmps, [(1, .e (.r 1)), (2, .e (.r 2)), (5, .e (.r 5)), (6, .e (.r 6)), (31, sI n), (32, sI q)],
        [(1, .box 24 [iV n, .c (nodesC ns), iV top] none), (2, .box 24 [iV 0, .c (.lit (.slice none 0 0)), iV 0] none), (5, .box 24 [iV n, .c (.lit (.slice none 0 0)), iV 0] none), (6, .own 3 (ints (initN (n + ns.length) q)))]⟩)
      (R := fun q => q ≤ n) (m := fun q => n - q) 0 [(1, 1), (2, 2), (5, 5), (6, 29)] rfl rfl ⟨rfl, rfl, rfl, rfl, rfl, rfl, trivial⟩ (by simp [inK]; omega) (Nat.zero_le _) ⟨rfl, rfl, rfl, ?_, trivial⟩ ?_
    · refine own_cat1 _ ?_
      show List.replicate (Int.toNat ((n : Int) + (ns.length : Int))) (0 : Int) = initN (n + ns.length) 0
      rw [show Int.toNat ((n : Int) + (ns.length : Int)) = n + ns.length by omega]
      refine List.ext_getElem (by simp [initN]) fun i h1 h2 => by simp [initN]
    rintro q hq0
    refine KW.goIf lay_ok G1_ok 100 rfl (by simp) rfl trivial (fun h => ?_) fun h => ?_
    · have hq : q < n := by simpa using h
      refine KW.go lay_ok G1_ok 100 rfl (by simp [inK, initN]; omega) (KW.updI 6 rfl (KW.to (q + 1) ⟨by omega, by omega⟩ [(1, 1), (2, 2), (5, 5), (6, 6)] ⟨rfl, rfl, ⟨rfl, rfl, rfl, rfl, rfl, rfl, trivial⟩, ⟨rfl, rfl, rfl, own_cat1 _ ?_, trivial⟩⟩))
      simp only [Int.toNat_natCast]
      exact initN_set
    have hq : q = n := by simp at h; omega
    subst hq
    refine KW.goOut lay_ok G1_ok 100 rfl (by simp) ?_
    clear h
    have hML := belowF_length ⟨q, ns, top⟩
    simp only [Int.toNat_natCast] at hML
    refine KW.goD lay_ok G1_ok rfl 100 rfl (by decide) rfl (by simp) (by simp only [unN_nodesC, isN_nodesC, true_and, and_true, hML]; exact ⟨⟨hin, h0⟩, by omega, by omega, by omega⟩) ?_
    simp only [unN_nodesC]
    generalize hM : belowF ⟨q, ns, top⟩ = M at hML
    refine KW.conv 44 (bools (M.drop q)) rfl ⟨by simp, .inr ⟨rfl, fun e p he hp => ?_⟩⟩ ?_
    · simp [List.getD_eq_getElem?_getD, List.getElem?_drop, Nat.add_comm]
      exact CVEq.refl _
    refine KW.nilB 5 1 201 66 (nodesC []) rfl rfl rfl rfl rfl ?_
    have ht0 : initN (q + ns.length) q = (trimN q ns M 0).1 := rfl
    have htl := trimN_len q ns M
    rw [ht0]
    refine KW.goLpR lay_ok G1_ok 100 rfl (I := fun i : Nat => ⟨Tryz.f70.ntmps, [(1, .e (.r 1)), (2, .e (.r 2)), (5, .e (.r 5)), (6, .e (.r 6)), (44, .e (blV (M.drop q))), (45, sI ns.length), (46, sI i)],
        [(1, .box 24 [iV q, .c (nodesC ns), iV top] none), (2, .box 24 [iV 0, .c (.lit (.slice none 0 0)), iV 0] none), (5, .box 24 [iV q, .r 201, iV 0] none), (6, .own 3 (ints (trimN q ns M i).1)), (201, .own 66 (nodesC (trimN q ns M i).2))]⟩)
      (R := fun i => i ≤ ns.length) (m := fun i => ns.length - i) 0 [(1, 1), (2, 2), (5, 5), (6, 6), (201, 201)] rfl rfl ⟨rfl, rfl, rfl, rfl, rfl, ?_, rfl, trivial⟩ (by simp) (Nat.zero_le _) ⟨rfl, rfl, rfl, rfl, rfl, trivial⟩ ?_
    · have e : ((((M.length : Nat) : Int).toNat - ((q : Nat) : Int).toNat : Nat) : Int) = (ns.length : Int) := by simp [hML]; omega
      rw [← e]; rfl
    rintro i hi0
    refine KW.goIf lay_ok G1_ok 100 rfl (by simp) rfl trivial (fun h => ?_) fun h => ?_
    · have hi : i < ns.length := by simpa using h
      have hX : ns.getD (Int.toNat (i : Int)) node0 = ns[i] := by simp [List.getD_eq_getElem?_getD, hi]
      have hX2 : ns.getD i node0 = ns[i] := hX
      have okX := ok.nodes i hi
      have hMd : (M.drop q).getD (Int.toNat (i : Int)) false = M.getD (q + i) false := by
        simp [List.getD_eq_getElem?_getD, List.getElem?_drop]
      have e1 := trimN_succ q ns M i
      refine KW.goIf lay_ok G1_ok 100 rfl (by simp [hML]; try omega) rfl trivial (fun h => ?_) fun h => ?_
      · have h3 : M.getD (q + i) false = false := by
          have e : (!(M.drop q).getD (Int.toNat (i : Int)) false) = true := h
          rw [hMd] at e; simpa using e
        rw [if_neg (by rw [h3]; decide)] at e1
        refine KW.goToR lay_ok G1_ok 100 rfl (i + 1) [(1, 1), (2, 2), (5, 5), (6, 6), (201, 201)] rfl rfl ⟨rfl, rfl, rfl, rfl, rfl, rfl, rfl, trivial⟩ (by simp [inK]; omega) ⟨by omega, by omega⟩ ⟨rfl, rfl, rfl, ?_, ?_, trivial⟩
        · rw [e1]; rfl
        · rw [e1]; rfl
      · have h3 : M.getD (q + i) false = true := by
          have e : (!(M.drop q).getD (Int.toNat (i : Int)) false) = false := h
          rw [hMd] at e; simpa using e
        rw [if_pos h3, hX2] at e1
        simp only at okX
        generalize hXX : ns[i] = X at hX okX e1
        have hk : (ns.getD (Int.toNat (i : Int)) node0).args = X.args := by rw [hX]
        generalize hT : trimN q ns M i = Tr at e1
        obtain ⟨mv, kept⟩ := Tr
        simp only at e1
        have hl := htl i
        rw [hT] at hl
        simp only at hl
        refine KW.go lay_ok G1_ok 100 rfl (by simp [hi]) ?_
        refine KW.nilB 11 2 200 3 (ints []) rfl rfl rfl rfl rfl ?_
        refine KW.goLpR lay_ok G1_ok 100 rfl (I := fun j : Nat => ⟨Tryz.f70.ntmps, [(1, .e (.r 1)), (2, .e (.r 2)), (5, .e (.r 5)), (6, .e (.r 6)), (8, sI i), (11, .e (.r 11)), (44, .e (blV (M.drop q))), (45, sI ns.length), (46, sI i), (64, .e (lV X.args)), (65, sI X.args.length), (66, sI j)],
            [(1, .box 24 [iV q, .c (nodesC ns), iV top] none), (2, .box 24 [iV 0, .c (.lit (.slice none 0 0)), iV 0] none), (5, .box 24 [iV q, .r 201, iV 0] none), (6, .own 3 (ints mv)), (201, .own 66 (nodesC kept)),
              (11, .box 66 [iV X.kind, iV X.k, .r 200] none), (200, .own 3 (ints ((X.args.take j).map fun a => mv.getD a.toNat 0)))]⟩)
          (R := fun j => j ≤ X.args.length) (m := fun j => X.args.length - j) 0 [(1, 1), (2, 2), (5, 5), (6, 6), (201, 201), (11, 11), (200, 200)] rfl rfl ⟨rfl, rfl, rfl, rfl, rfl, rfl, rfl, rfl, rfl, ?_, ?_, rfl, trivial⟩ (by simp) (Nat.zero_le _) ⟨rfl, rfl, rfl, ?_, ?_, ?_, ?_, trivial⟩ ?_
        · rw [← hX]; rfl
        · rw [← hX]; rfl
        · simp only [hT]; rfl
        · simp only [hT]; rfl
        · rw [← hX]; rfl
        · rfl
        rintro j hj0
        refine KW.goIf lay_ok G1_ok 100 rfl (by simp) rfl trivial (fun h => ?_) fun h => ?_
        · have hj : j < X.args.length := by simpa using h
          have hg : X.args.getD (Int.toNat (j : Int)) 0 = X.args[j] := by simp [List.getD_eq_getElem?_getD, hj]
          have ha := okX.args _ (List.getElem_mem hj)
          have htk : X.args.take (j + 1) = X.args.take j ++ [X.args[j]] := by rw [List.take_add_one, List.getElem?_eq_getElem hj]; rfl
          have h16 := argsB_le okX.cnt
          generalize X.args[j] = a at hg ha htk
          refine KW.goDX lay_ok G1_ok rfl 100 rfl 7 rfl (by decide +kernel) (by decide +kernel) rfl rfl (by simp <;> try omega) ?_ ?_
          · simp only [hg, hl.1]
            have := ha
            simp
            omega
          · refine KW.goToR lay_ok G1_ok 100 rfl (j + 1) [(1, 1), (2, 2), (5, 5), (6, 6), (201, 201), (11, 11), (200, 77)] rfl rfl ⟨rfl, rfl, rfl, rfl, rfl, rfl, rfl, rfl, rfl, rfl, rfl, rfl, trivial⟩ ?_ ⟨by omega, by omega⟩ ⟨rfl, rfl, rfl, rfl, rfl, rfl, ?_, trivial⟩
            · simp [inK, List.length_take]
              omega
            · refine own_cat _ ?_
              rw [htk, List.map_append]
              simp only [hg]
              rfl
        · have hj : j = X.args.length := by simp at h; omega
          subst hj
          refine KW.goOut lay_ok G1_ok 100 rfl (by simp) ?_
          refine KW.frzB 11 2 200 rfl rfl rfl rfl ?_
          refine KW.go lay_ok G1_ok 100 rfl ?_ (KW.updI 6 rfl (KW.catG 96 ⟨X.kind, X.k, X.args.map fun a => mv.getD a.toNat 0⟩ rfl ?_ (KW.to (i + 1) ⟨by omega, by omega⟩ [(1, 1), (2, 2), (5, 5), (6, 6), (201, 96)] ⟨rfl, rfl, ⟨rfl, rfl, rfl, rfl, rfl, rfl, rfl, trivial⟩, ⟨rfl, rfl, rfl, ?_, ?_, trivial⟩⟩)))
          · simp [inK, hl.1]
            omega
          · intro p hp
            match p, hp with
            | 0, _ => exact CVEq.refl (.lit (.int .i64 X.kind))
            | 1, _ => exact CVEq.refl (.lit (.int .i64 X.k))
            | 2, _ =>
              show CVEq (ints ((X.args.take X.args.length).map fun a => mv.getD a.toNat 0)) (ints (X.args.map fun a => mv.getD a.toNat 0))
              rw [List.take_length]; exact CVEq.refl _
          · rw [e1]
            refine own_cat1 _ ?_
            rw [show Int.toNat ((q : Int) + (i : Int)) = q + i by omega]
          · rw [e1]; rfl
    · have hi : i = ns.length := by simp at h; omega
      subst hi
      refine KW.goOut lay_ok G1_ok 100 rfl (by simp) ?_
      refine KW.frzB 5 1 201 rfl rfl rfl rfl ?_
      refine KW.goRetC lay_ok G1_ok 100 rfl rfl ?_ ?_ trivial
      · have e : trimF ⟨q, ns, top⟩ = ⟨q, (trimN q ns M ns.length).2, (trimN q ns M ns.length).1.getD top.toNat 0⟩ := by
          rw [trimF]
          simp only [Int.toNat_natCast, hM]
        rw [e, h0]; rfl
      · have := (htl ns.length).1
        simp [this]
        omega
end Go.Proofs.YtocnofkagckhkaaGreatDoor
namespace Go.Proofs.YtocnofkagckhkaaGreatDoor
open Go.Sy Go.Pu
variable [Drw]
theorem trim_good (f : FormP) (hin : FormIn f) (h0 : formE f = 0) : DoesF Tryz.prog 70 [.ag (formC f)] [] (.tup [.ag (formC (trimF f)), .c (.lit .nilIface)]) [] := by
  have := trim_does f hin
  rw [trimC, if_pos h0, h0] at this
  exact this
theorem trim_bad (f : FormP) (hin : FormIn f) (h0 : ¬ formE f = 0) : DoesF Tryz.prog 70 [.ag (formC f)] [] (.tup [.ag [.lit (.int .i64 0), .lit (.slice none 0 0), .lit (.int .i64 0)], eV (formE f)]) [] := by
  have := trim_does f hin
  rw [trimC, if_neg h0] at this
  exact this
def G2a : Fns := (70, fF (fun f => .tup [.ag (formC (trimF f)), .c (.lit .nilIface)]) fun f => FormIn f ∧ formE f = 0) ::
  G1
theorem G2a_ok : FnsOk Tryz.prog G2a := .cons (G1_ok) Tryz.func70 rfl rfl (fF_ok fun f h => trim_good f h.1 h.2)
def G2b : Fns := (70, fF (fun f => .tup [.ag [.lit (.int .i64 0), .lit (.slice none 0 0), .lit (.int .i64 0)], eV (formE f)]) fun f => FormIn f ∧ ¬ formE f = 0) ::
  G1
theorem G2b_ok : FnsOk Tryz.prog G2b := .cons (G1_ok) Tryz.func70 rfl rfl (fF_ok fun f h => trim_bad f h.1 h.2)
def cohV (f : FormP) : Bool := decide (formE f = 0) && cohF f
theorem syntax_does (f : FormP) (hin : FormIn f) : DoesF Tryz.prog 35 [.ag (formC f)] [] (.tup [bV (cohV f), eV (formE f)]) [] := by
  refine DoesF.body _ Tryz.func35 rfl rfl rfl rfl ?_
  by_cases h0 : formE f = 0
  · have hc : cohV f = (trimF f).nodes.all fun x => !(x.kind == 1 || x.kind == 5) := by rw [← cohF_trim]; simp [cohV, h0]
    rw [hc, h0]
    have ok := formE_ok h0
    have hTl : (trimF f).nodes.length ≤ 128 := by
      have h1 := (trimN_len f.vars.toNat f.nodes (belowF f) f.nodes.length).2
      have h2 := ok.len
      exact Nat.le_trans h1 h2
    obtain ⟨vars, ns, top⟩ := f
    refine KW.goIf lay_ok G2a_ok 100 rfl (by simp only [unN_nodesC, isN_nodesC, true_and, and_true]; simp [hin, h0, ifcV]) rfl trivial (fun h => absurd h (by decide)) fun h => ?_
    simp only [unN_nodesC]
    generalize trimF ⟨vars, ns, top⟩ = T at hTl
    obtain ⟨tv, tn, tt⟩ := T
    simp only at hTl
    refine KW.goLpR lay_ok G2a_ok 100 rfl (I := fun i : Nat => ⟨Tryz.f35.ntmps, [(17, .e (.c (nodesC tn))), (18, sI tn.length), (19, sI i)], []⟩)
      (R := fun i => i ≤ tn.length ∧ (tn.drop i).all (fun x => !(x.kind == 1 || x.kind == 5)) = tn.all fun x => !(x.kind == 1 || x.kind == 5)) (m := fun i => tn.length - i) 0 [] rfl rfl ⟨rfl, rfl, rfl, trivial⟩ (by simp) ⟨Nat.zero_le _, rfl⟩ trivial ?_
    rintro i ⟨hi0, hr⟩
    refine KW.goIf lay_ok G2a_ok 100 rfl (by simp) rfl trivial (fun h => ?_) fun h => ?_
    · have hi : i < tn.length := by simpa using h
      have hX : tn.getD (Int.toNat (i : Int)) node0 = tn[i] := by simp [List.getD_eq_getElem?_getD, hi]
      rw [List.drop_eq_getElem_cons hi, List.all_cons] at hr
      generalize tn[i] = X at hX hr
      refine KW.goIf lay_ok G2a_ok 100 rfl (by simp [hi]) rfl trivial (fun h => ?_) fun h => ?_
      · have e : (X.kind == 1 || X.kind == 5) = true := by rw [← hX]; exact h
        rw [e] at hr
        simp only [Bool.not_true, Bool.false_and] at hr
        refine KW.goOutR lay_ok G2a_ok 100 rfl (by simp) ?_
        refine KW.goRet lay_ok G2a_ok 100 rfl rfl ?_ (by simp) trivial
        simp only [← hr]; rfl
      · have e : (X.kind == 1 || X.kind == 5) = false := by rw [← hX]; exact h
        rw [e] at hr
        simp only [Bool.not_false, Bool.true_and] at hr
        exact KW.goToR lay_ok G2a_ok 100 rfl (i + 1) [] rfl rfl ⟨rfl, rfl, rfl, trivial⟩ (by simp [inK]; omega) ⟨⟨by omega, hr⟩, by omega⟩ trivial
    · have hi : i = tn.length := by simp at h; omega
      rw [hi, List.drop_length] at hr
      refine KW.goOut lay_ok G2a_ok 100 rfl (by simp) ?_
      refine KW.goRet lay_ok G2a_ok 100 rfl rfl ?_ (by simp) trivial
      simp only [← hr]; rfl
  · have hc : cohV f = false := by simp [cohV, h0]
    rw [hc]
    obtain ⟨vars, ns, top⟩ := f
    refine KW.goIf lay_ok G2b_ok 100 rfl (by simp only [unN_nodesC, isN_nodesC, true_and, and_true, ifcV_errV]; exact ⟨hin, h0⟩) rfl trivial (fun h => ?_) fun h => ?_
    · refine KW.goRet lay_ok G2b_ok 100 rfl rfl ?_ (by simp) trivial
      simp only [unN_nodesC]; rfl
    · exfalso
      simp only [unN_nodesC] at h
      have e : (!isNilB (errV 47 (formE ⟨vars, ns, top⟩))) = false := h
      exact h0 (by simpa using e)
theorem rsyntax_does (f : FormP) (hin : FormIn f) (h0 : formE f = 0) : DoesF Tryz.prog 62 [.ag (formC f)] [] (sB (cohF f)) [] := by
  refine DoesF.body _ Tryz.func62 rfl rfl rfl rfl ?_
  have ok := formE_ok h0
  obtain ⟨vars, ns, top⟩ := f
  have hv := ok.vars
  have hn128 := ok.len
  simp only at hv hn128
  obtain ⟨n, rfl⟩ := Int.eq_ofNat_of_zero_le hv.1
  have hML := belowF_length ⟨n, ns, top⟩
  have hco : cohF ⟨n, ns, top⟩ = (List.range ns.length).all fun i => !((belowF ⟨n, ns, top⟩).getD (n + i) false && ((ns.getD i node0).kind == 1 || (ns.getD i node0).kind == 5)) := rfl
  simp only [Int.toNat_natCast] at hML
  rw [hco]
  refine KW.goLpR lay_ok G1_ok 100 rfl (I := fun i : Nat => ⟨Tryz.f62.ntmps, [(1, .e (.r 1)), (3, .e (blV (belowF ⟨n, ns, top⟩))), (9, .e (.c (nodesC ns))), (10, sI ns.length), (11, sI i)],
      [(1, .box 24 [iV n, .c (nodesC ns), iV top] none)]⟩)
    (R := fun i => i ≤ ns.length ∧ ∀ j, j < i → (!((belowF ⟨n, ns, top⟩).getD (n + j) false && ((ns.getD j node0).kind == 1 || (ns.getD j node0).kind == 5))) = true) (m := fun i => ns.length - i) 0 [(1, 1)] rfl rfl ⟨rfl, ?_, rfl, rfl, rfl, trivial⟩ (by simp only [unN_nodesC, isN_nodesC, true_and, and_true]; simp [hin, h0]) ⟨Nat.zero_le _, fun j hj => by omega⟩ ⟨rfl, trivial⟩ ?_
  · simp only [unN_nodesC]; rfl
  rintro i ⟨hi0, hr⟩
  refine KW.goIf lay_ok G1_ok 100 rfl (by simp) rfl trivial (fun h => ?_) fun h => ?_
  · have hi : i < ns.length := by simpa using h
    generalize hB : belowF ⟨n, ns, top⟩ = M at hML hr
    have hidx : Int.toNat ((n : Int) + (i : Int)) = n + i := by omega
    refine KW.goIf lay_ok G1_ok 100 rfl (by simp +contextual [hi, hML, inK]; omega) rfl trivial (fun h => ?_) fun h => ?_
    · have e : (M.getD (n + i) false && ((ns.getD i node0).kind == 1 || (ns.getD i node0).kind == 5)) = true := by
        rw [← hidx]; exact h
      refine KW.goOutR lay_ok G1_ok 100 rfl (by simp) ?_
      refine KW.goRet lay_ok G1_ok 100 rfl rfl ?_ (by simp) trivial
      have e2 : ((List.range ns.length).all fun i => !(M.getD (n + i) false && ((ns.getD i node0).kind == 1 || (ns.getD i node0).kind == 5))) = false := by
        rw [List.all_eq_false]
        exact ⟨i, by simpa using hi, by rw [e]; decide⟩
      rw [e2]; rfl
    · have e : (M.getD (n + i) false && ((ns.getD i node0).kind == 1 || (ns.getD i node0).kind == 5)) = false := by
        rw [← hidx]; exact h
      refine KW.goToR lay_ok G1_ok 100 rfl (i + 1) [(1, 1)] rfl rfl ⟨rfl, rfl, rfl, rfl, rfl, trivial⟩ (by simp [inK]; omega) ⟨⟨by omega, fun j hj => ?_⟩, by omega⟩ ⟨rfl, trivial⟩
      by_cases hji : j = i
      · subst hji; rw [e]; rfl
      · exact hr j (by omega)
  · have hi : i = ns.length := by simp at h; omega
    refine KW.goOut lay_ok G1_ok 100 rfl (by simp) ?_
    refine KW.goRet lay_ok G1_ok 100 rfl rfl ?_ (by simp) trivial
    have e2 : ((List.range ns.length).all fun i => !((belowF ⟨n, ns, top⟩).getD (n + i) false && ((ns.getD i node0).kind == 1 || (ns.getD i node0).kind == 5))) = true := by
      rw [List.all_eq_true]
      exact fun j hj => hr j (by rw [hi]; simpa using hj)
    rw [e2]; rfl
end Go.Proofs.YtocnofkagckhkaaGreatDoor
end
section
set_option linter.unusedSectionVars false
set_option linter.unusedVariables false
set_option linter.unusedSimpArgs false
namespace Go.Pu
open Go.Sy
variable [Drw]
def fFIB (g : FormP → Int → Bool → SV) (p : FormP → Int → Bool → Prop) : List EV → Option (SV × Prop)
  | [.ag [.lit (.int .i64 a), x, .lit (.int .i64 b)], .c (.lit (.int .i64 s)), .c (.lit (.bool c))] => some (g ⟨a, unN x, b⟩ s c, isN x ∧ p ⟨a, unN x, b⟩ s c)
  | _ => none
theorem fFIB_ok {P : Program} {f : FuncId} {g : FormP → Int → Bool → SV} {p : FormP → Int → Bool → Prop} (h : ∀ x s c, p x s c → DoesF P f [.ag (formC x), iV s, bV c] [] (g x s c) []) : ∀ ys y φ, fFIB g p ys = some (y, φ) → φ → DoesF P f ys [] y [] := by
  intro ys y φ he hφ
  unfold fFIB at he
  split at he
  · simp only [Option.some.injEq, Prod.mk.injEq] at he
    obtain ⟨rfl, rfl⟩ := he
    refine DoesF.conv ?_ (h _ _ _ hφ.2)
    exact ⟨form_eq hφ.1, CVEq.refl _, CVEq.refl _, trivial⟩
  · cases he
end Go.Pu
namespace Go.Proofs.YtocnofkagckhkaaGreatDoor
open Go.Sy Go.Pu
variable [Drw]
def G3 : Fns := (35, fF (fun f => .tup [bV (cohV f), eV (formE f)]) FormIn) ::
  (62, fF (fun f => sB (cohF f)) fun f => FormIn f ∧ formE f = 0) ::
  G1
theorem G3_ok : FnsOk Tryz.prog G3 := .cons (.cons (G1_ok) Tryz.func62 rfl rfl (fF_ok fun f h => rsyntax_does f h.1 h.2)) Tryz.func35 rfl rfl (fF_ok fun f h => syntax_does f h)
def pathE (f : FormP) : Int := if formE f = 0 then if cohF f = true then 0 else 7 else formE f
theorem pcheck_does (f : FormP) (hin : FormIn f) : DoesF Tryz.prog 78 [.ag (formC f)] [] (.e (eV (pathE f))) [] := by
  refine DoesF.body _ Tryz.func78 rfl rfl rfl rfl ?_
  obtain ⟨vars, ns, top⟩ := f
  refine KW.goIf lay_ok G3_ok 100 rfl (by simp only [unN_nodesC, isN_nodesC, true_and, and_true, ifcV_errV]; simp [hin]) rfl trivial (fun h => ?_) fun h => ?_
  · simp only [unN_nodesC] at h
    have e : (isNilB (errV 47 (formE ⟨vars, ns, top⟩)) && !cohV ⟨vars, ns, top⟩) = true := h
    have h1 : formE ⟨vars, ns, top⟩ = 0 ∧ cohF ⟨vars, ns, top⟩ = false := by
      simp only [Bool.and_eq_true, cohV] at e
      have h1 : formE ⟨vars, ns, top⟩ = 0 := by simpa using e.1
      exact ⟨h1, by simpa [h1] using e.2⟩
    have e2 : pathE ⟨vars, ns, top⟩ = 7 := by simp [pathE, h1]
    refine KW.goRet lay_ok G3_ok 100 rfl rfl ?_ (by simp) trivial
    rw [e2]; rfl
  · simp only [unN_nodesC] at h
    have e : (isNilB (errV 47 (formE ⟨vars, ns, top⟩)) && !cohV ⟨vars, ns, top⟩) = false := h
    have e2 : pathE ⟨vars, ns, top⟩ = formE ⟨vars, ns, top⟩ := by
      by_cases h1 : formE ⟨vars, ns, top⟩ = 0
      · have h2 : cohF ⟨vars, ns, top⟩ = true := by simpa [h1, cohV] using e
        simp [pathE, h1, h2]
      · simp [pathE, h1]
    refine KW.goRet lay_ok G3_ok 100 rfl rfl ?_ (by simp) trivial
    simp only [unN_nodesC, e2]; rfl
def G4 : Fns := (78, fF (fun f => .e (eV (pathE f))) FormIn) ::
  G3
theorem G4_ok : FnsOk Tryz.prog G4 := .cons (G3_ok) Tryz.func78 rfl rfl (fF_ok fun f h => pcheck_does f h)
def pathSE (f : FormP) (s : Int) : Int := if pathE f = 0 then if 0 ≤ s ∧ s < ishl 1 f.vars then 0 else 3 else pathE f
theorem checked_does (f : FormP) (s : Int) (hin : FormIn f) : DoesF Tryz.prog 116 [.ag (formC f), iV s] [] (.e (eV (pathSE f s))) [] := by
  refine DoesF.body _ Tryz.func116 rfl rfl rfl rfl ?_
  obtain ⟨vars, ns, top⟩ := f
  refine KW.goIf lay_ok G4_ok 100 rfl (by simp only [unN_nodesC, isN_nodesC, true_and, and_true, ifcV_errV]; simp [hin]) rfl trivial (fun h => ?_) fun h => ?_
  · simp only [unN_nodesC] at h
    have h1 : ¬ pathE ⟨vars, ns, top⟩ = 0 := by
      have e : (!isNilB (errV 47 (pathE ⟨vars, ns, top⟩))) = true := h
      simpa using e
    have e2 : pathSE ⟨vars, ns, top⟩ s = pathE ⟨vars, ns, top⟩ := by simp [pathSE, h1]
    refine KW.goRet lay_ok G4_ok 100 rfl rfl ?_ (by simp) trivial
    simp only [unN_nodesC, e2]; rfl
  · simp only [unN_nodesC] at h
    have h1 : pathE ⟨vars, ns, top⟩ = 0 := by
      have e : (!isNilB (errV 47 (pathE ⟨vars, ns, top⟩))) = false := h
      simpa using e
    have h0 : formE ⟨vars, ns, top⟩ = 0 := by
      unfold pathE at h1
      split at h1
      · assumption
      · exact h1
    have hv := (formE_ok h0).vars
    simp only at hv
    have hsr := shl_rng hv
    refine KW.goIf lay_ok G4_ok 100 rfl (by simp [inK, bitsI]; intros; omega) rfl trivial (fun h => ?_) fun h => ?_
    · have h2 : ¬ (0 ≤ s ∧ s < ishl 1 vars) := by
        have e : (decide (s < 0) || decide (s ≥ ishl 1 vars)) = true := h
        simp at e; omega
      have e2 : pathSE ⟨vars, ns, top⟩ s = 3 := by simp only [pathSE, h1, if_true]; rw [if_neg h2]
      refine KW.goRet lay_ok G4_ok 100 rfl rfl ?_ (by simp) trivial
      rw [e2]; rfl
    · have h2 : 0 ≤ s ∧ s < ishl 1 vars := by
        have e : (decide (s < 0) || decide (s ≥ ishl 1 vars)) = false := h
        simp at e; omega
      have e2 : pathSE ⟨vars, ns, top⟩ s = 0 := by simp only [pathSE, h1, if_true]; rw [if_pos h2]
      refine KW.goRet lay_ok G4_ok 100 rfl rfl ?_ (by simp) trivial
      rw [e2]; rfl
def G5 : Fns := (116, fFI (fun f s => .e (eV (pathSE f s))) fun f s => FormIn f) ::
  G4
theorem G5_ok : FnsOk Tryz.prog G5 := .cons (G4_ok) Tryz.func116 rfl rfl (fFI_ok fun f s h => checked_does f s h)
def cmplF (f : FormP) (s : Int) (b : Bool) : Int := if b = true then iandNot .i64 (ishl 1 f.vars - 1) s else s
theorem cuts_does (f : FormP) (s : Int) (b : Bool) (hin : FormIn f) (h0 : formE f = 0) : DoesF Tryz.prog 88 [.ag (formC f), iV s, bV b] [] (.tup [bV (valV f (cmplF f s b) != b), eV (stateE f (cmplF f s b))]) [] := by
  refine DoesF.body _ Tryz.func88 rfl rfl rfl rfl ?_
  obtain ⟨vars, ns, top⟩ := f
  have hv := (formE_ok h0).vars
  simp only at hv
  have hsr := shl_rng hv
  refine KW.goIf lay_ok G5_ok 100 rfl (by simp) rfl trivial (fun h => ?_) fun h => ?_
  · subst h
    refine KW.goRet lay_ok G5_ok 100 rfl rfl ?_ (by simp only [unN_nodesC, isN_nodesC, true_and, and_true, inK, bitsI]; simp [hin]; omega) trivial
    simp only [unN_nodesC]; rfl
  · subst h
    refine KW.goRet lay_ok G5_ok 100 rfl rfl ?_ (by simp only [unN_nodesC, isN_nodesC, true_and, and_true, inK, bitsI]; simp [hin]) trivial
    simp only [unN_nodesC]; rfl
def G6 : Fns := (88, fFIB (fun f s b => .tup [bV (valV f (cmplF f s b) != b), eV (stateE f (cmplF f s b))]) fun f s b => FormIn f ∧ formE f = 0) ::
  G5
theorem G6_ok : FnsOk Tryz.prog G6 := .cons (G5_ok) Tryz.func88 rfl rfl (fFIB_ok fun f s b h => cuts_does f s b h.1 h.2)
theorem pathSE_ok {f : FormP} {s : Int} (h : pathSE f s = 0) : formE f = 0 ∧ cohF f = true ∧ 0 ≤ s ∧ s < ishl 1 f.vars := by
  unfold pathSE at h
  split at h
  · rename_i h1
    split at h
    · rename_i h2
      unfold pathE at h1
      split at h1
      · rename_i h3
        split at h1
        · rename_i h4; exact ⟨h3, h4, h2⟩
        · exact absurd h1 (by decide)
      · rename_i h3; exact absurd h1 h3
    · exact absurd h (by decide)
  · rename_i h1; exact absurd h h1
theorem cmpl_in {f : FormP} {n : Nat} (hn : f.vars = n) (hn24 : n ≤ 24) {s : Int} (hs : inN n s) (b : Bool) : inN n (cmplF f s b) := by
  unfold cmplF
  split
  · rw [hn, show ishl 1 (n : Int) - 1 = allN n by have := Nat.two_pow_pos n; rw [ishl_one, allN]; omega]
    exact inN_iandNot hn24 (inN_allN hn24)
  · exact hs
theorem cmpl_state {f : FormP} {n : Nat} (h0 : formE f = 0) (hn : f.vars = n) {s : Int} (hs : inN n s) (b : Bool) : stateE f (cmplF f s b) = 0 := by
  have hv := (formE_ok h0).vars
  have hn24 : n ≤ 24 := by omega
  have := (inN_iff hn24).1 (cmpl_in hn hn24 hs b)
  exact stateE_eq h0 ⟨this.1, by rw [hn, ishl_one]; exact this.2⟩
def isP (f : FormP) (s : Int) (b : Bool) : Bool := valueF f (cmplF f s b) != b
def isV (f : FormP) (s : Int) (b : Bool) : Bool := decide (pathSE f s = 0) && isP f s b
theorem pis_does (f : FormP) (s : Int) (b : Bool) (hin : FormIn f) : DoesF Tryz.prog 87 [.ag (formC f), iV s, bV b] [] (.tup [bV (isV f s b), eV (pathSE f s)]) [] := by
  refine DoesF.body _ Tryz.func87 rfl rfl rfl rfl ?_
  obtain ⟨vars, ns, top⟩ := f
  refine KW.goIf lay_ok G6_ok 100 rfl (by simp only [unN_nodesC, isN_nodesC, true_and, and_true, ifcV_errV]; simp [hin]) rfl trivial (fun h => ?_) fun h => ?_
  · simp only [unN_nodesC] at h
    have h1 : ¬ pathSE ⟨vars, ns, top⟩ s = 0 := by
      have e : (!isNilB (errV 47 (pathSE ⟨vars, ns, top⟩ s))) = true := h
      simpa using e
    have e2 : isV ⟨vars, ns, top⟩ s b = false := by simp [isV, h1]
    refine KW.goRet lay_ok G6_ok 100 rfl rfl ?_ (by simp) trivial
    simp only [unN_nodesC, e2]; rfl
  · simp only [unN_nodesC] at h
    have h1 : pathSE ⟨vars, ns, top⟩ s = 0 := by
      have e : (!isNilB (errV 47 (pathSE ⟨vars, ns, top⟩ s))) = false := h
      simpa using e
    obtain ⟨h0, hc, hs⟩ := pathSE_ok h1
    have hv := (formE_ok h0).vars
    simp only at hv hs
    obtain ⟨n, rfl⟩ := Int.eq_ofNat_of_zero_le hv.1
    have hsn : inN n s := (inN_iff (by omega)).2 ⟨hs.1, by rw [← ishl_one]; exact hs.2⟩
    have e3 := cmpl_state (f := ⟨n, ns, top⟩) h0 rfl hsn b
    have e4 : valV ⟨n, ns, top⟩ (cmplF ⟨n, ns, top⟩ s b) = valueF ⟨n, ns, top⟩ (cmplF ⟨n, ns, top⟩ s b) := by simp [valV, e3]
    have e2 : isV ⟨n, ns, top⟩ s b = (valueF ⟨n, ns, top⟩ (cmplF ⟨n, ns, top⟩ s b) != b) := by simp [isV, isP, h1]
    refine KW.goRet lay_ok G6_ok 100 rfl rfl ?_ (by simp only [unN_nodesC, isN_nodesC, true_and, and_true, ifcV_errV]; simp [hin, h0]) trivial
    simp only [unN_nodesC, e2, e3, e4, h1]
    simp [SV.ren, renL, EV.ren]
end Go.Proofs.YtocnofkagckhkaaGreatDoor
namespace Go.Proofs.YtocnofkagckhkaaGreatDoor
open Go.Sy Go.Pu
variable [Drw]
def G7 : Fns := (87, fFIB (fun f s b => .tup [bV (isV f s b), eV (pathSE f s)]) fun f s b => FormIn f) ::
  G6
theorem G7_ok : FnsOk Tryz.prog G7 := .cons (G6_ok) Tryz.func87 rfl rfl (fFIB_ok fun f s b h => pis_does f s b h)
def minP (f : FormP) (s : Int) (b : Bool) (n : Nat) : Bool := isP f s b && (List.range n).all fun i => !bit s i || !isP f (iandNot .i64 s (Go.Pu.one i)) b
def minV (f : FormP) (s : Int) (b : Bool) : Bool := decide (pathSE f s = 0) && minP f s b f.vars.toNat
theorem pminimal_does (f : FormP) (s : Int) (b : Bool) (hin : FormIn f) : DoesF Tryz.prog 43 [.ag (formC f), iV s, bV b] [] (.tup [bV (minV f s b), eV (pathSE f s)]) [] := by
  refine DoesF.body _ Tryz.func43 rfl rfl rfl rfl ?_
  obtain ⟨vars, ns, top⟩ := f
  refine KW.goIf lay_ok G7_ok 100 rfl (by simp only [unN_nodesC, isN_nodesC, true_and, and_true, ifcV_errV]; simp [hin]) rfl trivial (fun h => ?_) fun h => ?_
  · simp only [unN_nodesC] at h
    have e : (!isNilB (errV 47 (pathSE ⟨vars, ns, top⟩ s)) || !isV ⟨vars, ns, top⟩ s b) = true := h
    have e2 : minV ⟨vars, ns, top⟩ s b = false := by
      by_cases h1 : pathSE ⟨vars, ns, top⟩ s = 0
      · have h2 : isP ⟨vars, ns, top⟩ s b = false := by simpa [h1, isV] using e
        simp [minV, minP, h1, h2]
      · simp [minV, h1]
    refine KW.goRet lay_ok G7_ok 100 rfl rfl ?_ (by simp) trivial
    simp only [unN_nodesC, e2]; rfl
  · simp only [unN_nodesC] at h
    have e : (!isNilB (errV 47 (pathSE ⟨vars, ns, top⟩ s)) || !isV ⟨vars, ns, top⟩ s b) = false := h
    have h1 : pathSE ⟨vars, ns, top⟩ s = 0 := by
      rw [Bool.or_eq_false_iff] at e; simpa using e.1
    have h2 : isP ⟨vars, ns, top⟩ s b = true := by
      rw [Bool.or_eq_false_iff] at e; simpa [isV, h1] using e.2
    obtain ⟨h0, hc, hs⟩ := pathSE_ok h1
    have hv := (formE_ok h0).vars
    simp only at hv hs
    obtain ⟨n, rfl⟩ := Int.eq_ofNat_of_zero_le hv.1
    have hn24 : n ≤ 24 := by omega
    have hsn : inN n s := (inN_iff hn24).2 ⟨hs.1, by rw [← ishl_one]; exact hs.2⟩
    have e3 := fun (x : Int) (hx : inN n x) => cmpl_state (f := ⟨n, ns, top⟩) h0 rfl hx b
    have e4 : ∀ x, inN n x → (valV ⟨n, ns, top⟩ (cmplF ⟨n, ns, top⟩ x b) != b) = isP ⟨n, ns, top⟩ x b := fun x hx => by simp [valV, e3 x hx, isP]
    have e2 : minV ⟨n, ns, top⟩ s b = (List.range n).all fun i => !bit s i || !isP ⟨n, ns, top⟩ (iandNot .i64 s (Go.Pu.one i)) b := by simp [minV, minP, h1, h2]
    rw [e2, h1]
    refine KW.goLpR lay_ok G7_ok 100 rfl (I := fun i : Nat => ⟨Tryz.f43.ntmps, [(1, sI s), (2, sB b), (3, .e (.r 3)), (28, sI n), (29, sI i)],
        [(3, .box 24 [iV n, .c (nodesC ns), iV top] none)]⟩)
      (R := fun i => i ≤ n ∧ ∀ j, j < i → (!bit s j || !isP ⟨n, ns, top⟩ (iandNot .i64 s (Go.Pu.one j)) b) = true) (m := fun i => n - i) 0 [(3, 3)] rfl rfl ⟨rfl, rfl, rfl, rfl, rfl, trivial⟩ (by simp) ⟨Nat.zero_le _, fun j hj => by omega⟩ ⟨rfl, trivial⟩ ?_
    rintro i ⟨hi0, hr⟩
    refine KW.goIf lay_ok G7_ok 100 rfl (by simp) rfl trivial (fun h => ?_) fun h => ?_
    · have hi : i < n := by simpa using h
      have hone : ishl 1 (i : Int) = Go.Pu.one i := rfl
      have hor := validS_iff.1 (one_valid (show i < 24 by omega))
      have hin2 := inN_iandNot (y := Go.Pu.one i) hn24 hsn
      have e5 : (iand .i64 (ishr s (i : Int)) 1 == 0) = !bit s i := by
        rw [ishr_bit _ (by omega)]
        cases bit s i <;> rfl
      refine KW.goIf lay_ok G7_ok 100 rfl (by simp [inK, bitsI]; intros; omega) rfl trivial (fun h => ?_) fun h => ?_
      · have h3 : bit s i = false := by
          have e : (iand .i64 (ishr s (i : Int)) 1 == 0) = true := h
          rw [e5] at e; simpa using e
        refine KW.goToR lay_ok G7_ok 100 rfl (i + 1) [(3, 3)] rfl rfl ⟨rfl, rfl, rfl, rfl, rfl, trivial⟩ (by simp [inK]; omega) ⟨⟨by omega, fun j hj => ?_⟩, by omega⟩ ⟨rfl, trivial⟩
        by_cases hji : j = i
        · subst hji; rw [h3]; rfl
        · exact hr j (by omega)
      · have h3 : bit s i = true := by
          have e : (iand .i64 (ishr s (i : Int)) 1 == 0) = false := h
          rw [e5] at e; simpa using e
        refine KW.goD lay_ok G7_ok rfl 100 rfl (by decide +kernel) rfl (by simp) ?_ ?_
        · simp only [unN_nodesC, isN_nodesC, true_and, and_true, inK, bitsI, hone]
          simp [hin, h0]
          omega
        simp only [unN_nodesC, hone, e3 _ hin2, e4 _ hin2]
        refine KW.goIf lay_ok G7_ok 100 rfl (by simp [ifcV_errV]) rfl trivial (fun h => ?_) fun h => ?_
        · have h4 : isP ⟨n, ns, top⟩ (iandNot .i64 s (Go.Pu.one i)) b = true := h
          refine KW.goOutR lay_ok G7_ok 100 rfl (by simp) ?_
          refine KW.goRet lay_ok G7_ok 100 rfl rfl ?_ (by simp) trivial
          have e6 : ((List.range n).all fun i => !bit s i || !isP ⟨n, ns, top⟩ (iandNot .i64 s (Go.Pu.one i)) b) = false := by
            rw [List.all_eq_false]
            exact ⟨i, by simpa using hi, by rw [h3, h4]; decide⟩
          rw [e6]; rfl
        · have h4 : isP ⟨n, ns, top⟩ (iandNot .i64 s (Go.Pu.one i)) b = false := h
          refine KW.goToR lay_ok G7_ok 100 rfl (i + 1) [(3, 3)] rfl rfl ⟨rfl, rfl, rfl, rfl, rfl, trivial⟩ (by simp [inK]; omega) ⟨⟨by omega, fun j hj => ?_⟩, by omega⟩ ⟨rfl, trivial⟩
          by_cases hji : j = i
          · subst hji; rw [h4]; simp
          · exact hr j (by omega)
    · have hi : i = n := by simp at h; omega
      refine KW.goOut lay_ok G7_ok 100 rfl (by simp) ?_
      refine KW.goRet lay_ok G7_ok 100 rfl rfl ?_ (by simp) trivial
      have e6 : ((List.range n).all fun i => !bit s i || !isP ⟨n, ns, top⟩ (iandNot .i64 s (Go.Pu.one i)) b) = true := by
        rw [List.all_eq_true]
        exact fun j hj => hr j (by rw [hi]; simpa using hj)
      rw [e6]; rfl
def G8 : Fns := (43, fFIB (fun f s b => .tup [bV (minV f s b), eV (pathSE f s)]) fun f s b => FormIn f) ::
  G7
theorem G8_ok : FnsOk Tryz.prog G8 := .cons (G7_ok) Tryz.func43 rfl rfl (fFIB_ok fun f s b h => pminimal_does f s b h)
theorem pMinimalCut_does (f : FormP) (s : Int) (hin : FormIn f) : DoesF Tryz.prog 18 [.ag (formC f), iV s] [] (.tup [bV (minV f s false), eV (pathSE f s)]) [] := by
  refine DoesF.body _ Tryz.func18 rfl rfl rfl rfl ?_
  obtain ⟨vars, ns, top⟩ := f
  refine KW.goRet lay_ok G8_ok 100 rfl rfl ?_ (by simp only [unN_nodesC, isN_nodesC, true_and, and_true]; simp [hin]) trivial
  simp only [unN_nodesC]; rfl
def G9 : Fns := (18, fFI (fun f s => .tup [bV (minV f s false), eV (pathSE f s)]) fun f s => FormIn f) ::
  G8
theorem G9_ok : FnsOk Tryz.prog G9 := .cons (G8_ok) Tryz.func18 rfl rfl (fFI_ok fun f s h => pMinimalCut_does f s h)
theorem isP_cut (f : FormP) (x : Int) : isP f x false = valueF f x := by simp [isP, cmplF]
theorem isP_path {f : FormP} {n : Nat} (hn : f.vars = n) (x : Int) : isP f x true = !valueF f (iandNot .i64 (allN n) x) := by
  have e : ishl 1 (n : Int) - 1 = allN n := by have := Nat.two_pow_pos n; rw [ishl_one, allN]; omega
  simp only [isP, cmplF, hn, e, if_true]
  cases valueF f (iandNot .i64 (allN n) x) <;> rfl
theorem minP_iff {f : FormP} {T : Int} {b : Bool} {n : Nat} : minP f T b n = true ↔ isP f T b = true ∧ ∀ i, i < n → bit T i = true → isP f (iandNot .i64 T (Go.Pu.one i)) b = false := by
  simp only [minP, Bool.and_eq_true, List.all_eq_true, List.mem_range, Bool.or_eq_true, Bool.not_eq_true']
  refine and_congr Iff.rfl ⟨fun h i hi hb => ?_, fun h i hi => ?_⟩
  · rcases h i hi with h1 | h1
    · rw [hb] at h1; cases h1
    · exact h1
  · cases hb : bit T i with
    | false => exact .inl rfl
    | true => exact .inr (h i hi hb)
end Go.Proofs.YtocnofkagckhkaaGreatDoor
end
section
set_option linter.unusedSectionVars false
set_option linter.unusedVariables false
set_option linter.unusedSimpArgs false
namespace Go.Proofs.YtocnofkagckhkaaGreatDoor
open Go.Sy Go.Pu
variable [Drw]
theorem rerror_does (l : List Int) : DoesF Tryz.prog 93 [.c (ints l)] [] (sI (listE l)) [] := by
  refine DoesF.body _ Tryz.func93 rfl rfl rfl rfl ?_
  refine KW.len 0 rfl rfl fun hla => ?_
  refine KW.goIf lay_ok T9_ok 100 rfl (by simp) rfl trivial (fun h => ?_) fun h => ?_
  · refine KW.goRet lay_ok T9_ok 100 rfl rfl ?_ (by simp) trivial
    have hl : 1024 < l.length := by simp at h; omega
    rw [listE, if_pos hl]; rfl
  · have hl : ¬ 1024 < l.length := by simp at h; omega
    refine KW.goLp lay_ok T9_ok 100 rfl (I := fun q : Nat => ⟨Tryz.f93.ntmps, [(8, .e (.c (ints l))), (9, sI l.length), (10, sI q)], []⟩) (R := fun q => q ≤ l.length ∧ (l.take q).all validS = true) (m := fun q => l.length - q) 0 rfl ⟨rfl, rfl, rfl, trivial⟩ (by simp) ⟨by simp, by simp⟩ trivial ?_
    rintro q ⟨h1, h2⟩
    refine KW.goIf lay_ok T9_ok 100 rfl (by simp) rfl trivial (fun h => ?_) fun h => ?_
    · have hq : q < l.length := by simpa using h
      refine KW.goIf lay_ok T9_ok 100 rfl (by simp; omega) rfl trivial (fun h => ?_) fun h => ?_
      · refine KW.goOutR lay_ok T9_ok 100 rfl (by simp) ?_
        refine KW.goRet lay_ok T9_ok 100 rfl rfl ?_ (by simp) trivial
        have hv : validS l[q] = false := by simpa [List.getD_eq_getElem?_getD, hq] using h
        have : l.all validS = false := by
          rw [List.all_eq_false]
          exact ⟨l[q], List.getElem_mem hq, by simp [hv]⟩
        rw [listE, if_neg hl, this]; rfl
      · refine KW.goTo lay_ok T9_ok 100 rfl (q + 1) rfl ⟨rfl, rfl, rfl, trivial⟩ (by simp [inK]; omega) ⟨⟨by omega, ?_⟩, by omega⟩ trivial
        have hv : validS l[q] = true := by simpa [List.getD_eq_getElem?_getD, hq] using h
        rw [List.take_succ_eq_append_getElem hq, List.all_append, h2]
        simp [hv]
    · have hq : q = l.length := by simp at h; omega
      refine KW.goOut lay_ok T9_ok 100 rfl (by simp) ?_
      refine KW.goRet lay_ok T9_ok 100 rfl rfl ?_ (by simp) trivial
      rw [hq, List.take_length] at h2
      rw [listE, if_neg hl, h2]; rfl
theorem lists_does (ls : List (List Int)) : DoesF Tryz.prog 46 [.c (intss ls)] [] (.e (.c (.lit (errV 47 (listsE ls))))) [] := by
  refine DoesF.body _ Tryz.func46 rfl rfl rfl rfl ?_
  refine KW.len 0 rfl rfl fun hla => ?_
  refine KW.goLp lay_ok T9_ok 100 rfl (I := fun q : Nat => ⟨Tryz.f46.ntmps, [(7, .e (.c (intss ls))), (8, sI ls.length), (9, sI q)], []⟩) (R := fun q => q ≤ ls.length ∧ listsE ls = listsE (ls.drop q)) (m := fun q => ls.length - q) 0 rfl ⟨rfl, rfl, rfl, trivial⟩ (by simp) ⟨by simp, by simp⟩ trivial ?_
  rintro q ⟨h1, h2⟩
  refine KW.goIf lay_ok T9_ok 100 rfl (by simp) rfl trivial (fun h => ?_) fun h => ?_
  · have hq : q < ls.length := by simpa using h
    have hd : ls.drop q = ls[q] :: ls.drop (q + 1) := List.drop_eq_getElem_cons hq
    have hg : ls.getD (Int.toNat (q : Int)) [] = ls[q] := by simp [List.getD_eq_getElem?_getD, hq]
    refine KW.goIf lay_ok T9_ok 100 rfl (by simp; omega) rfl trivial (fun h => ?_) fun h => ?_
    · refine KW.goOutR lay_ok T9_ok 100 rfl (by simp) ?_
      refine KW.goRet lay_ok T9_ok 100 rfl rfl ?_ (by simp) trivial
      have hl : 1024 < ls[q].length := by rw [hg] at h; simp at h; omega
      have e : listE ls[q] = 4 := by rw [listE, if_pos hl]
      rw [h2, hd, listsE, if_neg (by rw [e]; decide), e]; rfl
    · have hl : ¬ 1024 < ls[q].length := by rw [hg] at h; simp at h; omega
      refine KW.goLp lay_ok T9_ok 100 rfl (I := fun p : Nat => ⟨Tryz.f46.ntmps, [(7, .e (.c (intss ls))), (8, sI ls.length), (9, sI q), (17, .e (.c (ints ls[q]))), (18, sI ls[q].length), (19, sI p)], []⟩) (R := fun p => p ≤ ls[q].length ∧ (ls[q].take p).all validS = true) (m := fun p => ls[q].length - p) 0 rfl ⟨rfl, rfl, rfl, by rw [← hg]; rfl, by rw [← hg]; rfl, rfl, trivial⟩ (by simp) ⟨by simp, by simp⟩ trivial ?_
      rintro p ⟨g1, g2⟩
      refine KW.goIf lay_ok T9_ok 100 rfl (by simp) rfl trivial (fun h => ?_) fun h => ?_
      · have hp : p < ls[q].length := by simpa using h
        refine KW.goIf lay_ok T9_ok 100 rfl (by simp; omega) rfl trivial (fun h => ?_) fun h => ?_
        · refine KW.goOutR lay_ok T9_ok 100 rfl (by simp) ?_
          refine KW.goOutR lay_ok T9_ok 100 rfl (by simp) ?_
          refine KW.goRet lay_ok T9_ok 100 rfl rfl ?_ (by simp) trivial
          have hv : validS ls[q][p] = false := by simpa [List.getD_eq_getElem?_getD, hp] using h
          have : ls[q].all validS = false := by
            rw [List.all_eq_false]
            exact ⟨ls[q][p], List.getElem_mem hp, by simp [hv]⟩
          have e : listE ls[q] = 3 := by rw [listE, if_neg hl, this]; rfl
          rw [h2, hd, listsE, if_neg (by rw [e]; decide), e]; rfl
        · refine KW.goTo lay_ok T9_ok 100 rfl (p + 1) rfl ⟨rfl, rfl, rfl, rfl, rfl, rfl, trivial⟩ (by simp [inK]; omega) ⟨⟨by omega, ?_⟩, by omega⟩ trivial
          have hv : validS ls[q][p] = true := by simpa [List.getD_eq_getElem?_getD, hp] using h
          rw [List.take_succ_eq_append_getElem hp, List.all_append, g2]
          simp [hv]
      · have hp : p = ls[q].length := by simp at h; omega
        refine KW.goOut lay_ok T9_ok 100 rfl (by simp) ?_
        refine KW.goTo lay_ok T9_ok 100 rfl (q + 1) rfl ⟨rfl, rfl, rfl, trivial⟩ (by simp [inK]; omega) ⟨⟨by omega, ?_⟩, by omega⟩ trivial
        rw [hp, List.take_length] at g2
        have e : listE ls[q] = 0 := by rw [listE, if_neg hl, g2]; rfl
        rw [h2, hd, listsE, if_pos e]
  · have hq : q = ls.length := by simp at h; omega
    refine KW.goOut lay_ok T9_ok 100 rfl (by simp) ?_
    refine KW.goRet lay_ok T9_ok 100 rfl rfl ?_ (by simp) trivial
    rw [h2, hq, List.drop_length]; rfl
end Go.Proofs.YtocnofkagckhkaaGreatDoor
namespace Go.Proofs.YtocnofkagckhkaaGreatDoor
open Go.Sy Go.Pu
variable [Drw]
def Clo (P : Program) (g m : Nat) (ks : Nat → Nat) (caps : Nat → Nat → CV) (p : Int → Bool) (xs : List Int) : Prop :=
  (∀ args w, (callFunc g args).run P w = .ok (.enter g args) w) ∧ ∀ x ∈ xs, DoesF P g (iV x :: capE ks caps m 0) [] (sB (p x)) []
theorem indexFunc_does {g m : Nat} {ks : Nat → Nat} {caps : Nat → Nat → CV} {p : Int → Bool} (xs : List Int) (hc : Clo Tryz.prog g m ks caps p xs) : ∃ z : Int, (0 ≤ z ↔ xs.any p = true) ∧
    DoesF Tryz.prog 71 [.c (ints xs), .c (.clo g m ks caps)] [] (sI z) [] := by
  refine ⟨if xs.any p then (xs.findIdx p : Int) else -1, by split <;> simp_all, ?_⟩
  refine DoesF.body _ Tryz.func71 rfl rfl rfl rfl ?_
  refine KW.len 0 rfl rfl fun hla => ?_
  refine KW.goLp lay_ok T9_ok 100 rfl (I := fun q : Nat => ⟨Tryz.f71.ntmps, [(0, .e (.c (ints xs))), (1, .e (.c (.clo g m ks caps))), (7, sI xs.length), (8, sI q)], []⟩) (R := fun q => q ≤ xs.length ∧ (xs.take q).any p = false) (m := fun q => xs.length - q) 0 rfl ⟨rfl, rfl, rfl, rfl, trivial⟩ (by simp) ⟨by simp, by simp⟩ trivial ?_
  rintro q ⟨h1, h2⟩
  have h2' : ∀ x ∈ xs.take q, p x = false := by simpa [List.any_eq_false] using h2
  refine KW.goIf lay_ok T9_ok 100 rfl (by simp) rfl trivial (fun h => ?_) fun h => ?_
  · have hq : q < xs.length := by simpa using h
    have hg : xs.getD (Int.toNat (q : Int)) 0 = xs[q] := by simp [List.getD_eq_getElem?_getD, hq]
    refine KW.go lay_ok T9_ok 100 rfl (by simp; omega) ?_
    refine KW.callC [iV xs[q]] (hc.2 xs[q] (List.getElem_mem hq)) hc.1 [] (.inl rfl) rfl rfl rfl rfl rfl trivial ⟨⟨_, _, rfl, trivial, Mt.conv (show CVEq (.lit (.int .i64 (xs.getD (Int.toNat (q : Int)) 0))) _ by rw [hg]; exact CVEq.refl _)⟩, trivial⟩ rfl (.inl rfl) ?_
    refine KW.goIf lay_ok T9_ok 100 rfl (by simp) rfl trivial (fun h => ?_) fun h => ?_
    · refine KW.goOutR lay_ok T9_ok 100 rfl (by simp) ?_
      refine KW.goRet lay_ok T9_ok 100 rfl rfl ?_ (by simp) trivial
      have ha : xs.any p = true := by rw [List.any_eq_true]; exact ⟨xs[q], List.getElem_mem hq, h⟩
      have hi : xs.findIdx p = q := by
        rw [List.findIdx_eq hq]
        refine ⟨h, fun j hj => ?_⟩
        exact h2' _ (List.mem_take_iff_getElem.2 ⟨j, by omega, rfl⟩)
      rw [if_pos ha, hi]; rfl
    · refine KW.goTo lay_ok T9_ok 100 rfl (q + 1) rfl ⟨rfl, rfl, rfl, rfl, trivial⟩ (by simp [inK]; omega) ⟨⟨by omega, ?_⟩, by omega⟩ trivial
      rw [List.take_succ_eq_append_getElem hq, List.any_append, h2]
      simp [h]
  · have hq : q = xs.length := by simp at h; omega
    refine KW.goOut lay_ok T9_ok 100 rfl (by simp) ?_
    refine KW.goRet lay_ok T9_ok 100 rfl rfl ?_ (by simp) trivial
    rw [hq, List.take_length] at h2
    rw [h2]; rfl
theorem containsFunc_does {g m : Nat} {ks : Nat → Nat} {caps : Nat → Nat → CV} {p : Int → Bool} (xs : List Int) (hc : Clo Tryz.prog g m ks caps p xs) :
    DoesF Tryz.prog 36 [.c (ints xs), .c (.clo g m ks caps)] [] (sB (xs.any p)) [] := by
  obtain ⟨z, hz, D⟩ := indexFunc_does xs hc
  refine DoesF.body _ Tryz.func36 rfl rfl rfl rfl ?_
  refine KW.go lay_ok T9_ok 100 rfl (by simp) ?_
  refine KW.callV0 D (enters Tryz.func71 rfl rfl) [] (.inl rfl) rfl rfl rfl rfl rfl trivial ⟨⟨_, _, rfl, trivial, .conv (CVEq.refl _)⟩, ⟨_, _, rfl, trivial, .conv (CVEq.refl _)⟩, trivial⟩ rfl (.inl rfl) ?_
  refine KW.goRet lay_ok T9_ok 100 rfl rfl ?_ (by simp) trivial
  simp only [SV.ren, EV.ren]
  congr 5
  rw [Bool.eq_iff_iff, decide_eq_true_iff, ← hz]
def T10 : Fns := (46, fLs (fun l => .e (.c (.lit (errV 47 (listsE l))))) fun _ => True) ::
  (93, fL (fun l => sI (listE l)) fun _ => True) ::
  T9
theorem T10_ok : FnsOk Tryz.prog T10 := .cons (.cons (T9_ok) Tryz.func93 rfl rfl (fL_ok fun l _ => rerror_does l)) Tryz.func46 rfl rfl (fLs_ok fun l _ => lists_does l)
theorem coversC_does (t s : Int) : DoesF Tryz.prog 48 [iV t, .pe 1 1 (fun _ q => .lit (.int .i64 s)) 0 0] [] (sB (subS t s)) [] := by
  refine DoesF.body _ Tryz.func48 rfl rfl rfl rfl ?_
  exact KW.goRet lay_ok T10_ok 100 rfl rfl rfl (by simp) trivial
theorem covers_does (l : List Int) (s : Int) : DoesF Tryz.prog 20 [.c (ints l), iV s] [] (.tup [bV (decide (listE l = 0) && validS s && l.any (fun t => subS t s)), .c (.lit (errV 47 (if listE l = 0 then if validS s then 0 else 3 else listE l)))]) [] := by
  refine DoesF.body _ Tryz.func20 rfl rfl rfl rfl ?_
  refine KW.goIf lay_ok T10_ok 100 rfl (by simp) rfl trivial (fun h => ?_) fun h => ?_
  · refine KW.goRet lay_ok T10_ok 100 rfl rfl ?_ (by simp) trivial
    simp [listsE] at h
    simp [SV.ren, renL, EV.ren, h, listsE]
  · simp [listsE] at h
    refine KW.goIf lay_ok T10_ok 100 rfl (by simp) rfl trivial (fun h' => ?_) fun h' => ?_
    · refine KW.goRet lay_ok T10_ok 100 rfl rfl ?_ (by simp) trivial
      simp at h'
      simp [SV.ren, renL, EV.ren, h, h', errV]
    · simp at h'
      refine KW.go lay_ok T10_ok 100 rfl (by simp) ?_
      refine KW.callV0 (containsFunc_does (m := 1) (ks := fun _ => 1) (caps := fun _ _ => .lit (.int .i64 s)) l ⟨enters Tryz.func48 rfl rfl, fun x _ => coversC_does x s⟩) (enters Tryz.func36 rfl rfl) [3] (.inl rfl) rfl rfl rfl rfl rfl trivial
        ⟨⟨_, _, rfl, trivial, .conv (CVEq.refl _)⟩, ⟨_, _, rfl, trivial, .lfn rfl ?_⟩, trivial⟩ rfl (.inr trivial) ?_
      · intro j hj
        obtain rfl : j = 0 := by omega
        refine ⟨3, _, _, _, rfl, rfl, rfl, rfl, fun q hq => ?_⟩
        obtain rfl : q = 0 := by omega
        rfl
      · refine KW.goRet lay_ok T10_ok 100 rfl rfl ?_ (by simp) trivial
        simp [SV.ren, renL, EV.ren, h, h', errV]
end Go.Proofs.YtocnofkagckhkaaGreatDoor
namespace Go.Proofs.YtocnofkagckhkaaGreatDoor
open Go.Sy Go.Pu
variable [Drw]
theorem rsort_does : ∀ (n : Nat) (l : List Int), l.length ≤ n → l.length ≤ 1099511627776 → DoesF Tryz.prog 121 [.c (ints l)] [] (.e (.c (ints (sortS l)))) [] := by
  intro n
  induction n with
  | zero =>
    intro l hn hb
    refine DoesF.body _ Tryz.func121 rfl rfl rfl rfl ?_
    refine KW.len 0 rfl rfl fun hla => ?_
    refine KW.goIf lay_ok T10_ok 100 rfl (by simp) rfl trivial (fun h => ?_) fun h => by simp at h; omega
    refine KW.goRetO lay_ok T10_ok 100 rfl 12 2 rfl rfl rfl ?_ (by simp <;> omega)
    rw [catV_ints, sortS_short (by omega)]; rfl
  | succ n ih =>
    intro l hn hb
    have T_ok : FnsOk Tryz.prog ((121, fL (fun l => .e (.c (ints (sortS l)))) fun l' => l'.length ≤ n ∧ l'.length ≤ 1099511627776) :: T10) := .cons T10_ok Tryz.func121 rfl rfl (fL_ok fun l h => ih l h.1 h.2)
    refine DoesF.body _ Tryz.func121 rfl rfl rfl rfl ?_
    refine KW.len 0 rfl rfl fun hla => ?_
    refine KW.goIf lay_ok T_ok 100 rfl (by simp) rfl trivial (fun h => ?_) fun h => ?_
    · refine KW.goRetO lay_ok T_ok 100 rfl 12 2 rfl rfl rfl ?_ (by simp <;> omega)
      rw [catV_ints, sortS_short (by simp at h; omega)]; rfl
    · have h2 : 2 ≤ l.length := by simp at h; omega
      have e2 : ((l.length : Int).tdiv 2) = ((l.length / 2 : Nat) : Int) := by rw [Int.tdiv_eq_ediv_of_nonneg (by omega)]; omega
      have A1 := isI_drop l (l.length / 2) 0 (by omega)
      have A2 := isI_drop l (l.length - l.length / 2) (l.length / 2) (by omega)
      have hs := sortS_long h2
      generalize ha : sortS (l.take (l.length / 2)) = a at hs
      generalize hbb : sortS (l.drop (l.length / 2)) = b at hs
      have hlen := sortS_length l
      have hla' := sortS_length (l.take (l.length / 2))
      have hlb' := sortS_length (l.drop (l.length / 2))
      rw [ha] at hla'
      rw [hbb] at hlb'
      simp only [List.length_take, List.length_drop] at hla' hlb'
      refine KW.goD lay_ok T_ok rfl 100 rfl rfl rfl (by simp) ?_ ?_
      · rw [e2]
        simp only [Int.toNat_natCast, Int.toNat_zero, Nat.sub_zero, Int.ofNat_toNat] 
        rw [A1.2, A2.2]
        simp only [Nat.add_zero] at A1 ⊢
        simp [-List.getD_eq_getElem?_getD, A1.1, A2.1, inK]
        omega
      · have e3 : unI (.sl (((l.length : Int).tdiv 2).toNat - Int.toNat 0) 1 fun e q => .lit (.int .i64 (l.getD (e + Int.toNat 0) 0))) = l.take (l.length / 2) := by
          rw [e2]; simp only [Int.toNat_natCast, Int.toNat_zero, Nat.sub_zero]; rw [A1.2]; rfl
        have e4 : unI (.sl ((l.length : Int).toNat - ((l.length : Int).tdiv 2).toNat) 1 fun e q => .lit (.int .i64 (l.getD (e + ((l.length : Int).tdiv 2).toNat) 0))) = l.drop (l.length / 2) := by
          rw [e2]; simp only [Int.toNat_natCast]; rw [A2.2, List.take_of_length_le (by simp)]
        refine KW.go lay_ok T_ok 100 rfl (by simp) ?_
        refine KW.nilO 5 5 3 (ints []) rfl rfl rfl ?_
        refine KW.lp (I := fun q : List Int × List Int × List Int => ⟨Tryz.f121.ntmps, [(3, .e (.c (ints q.1))), (4, .e (.c (ints q.2.1))), (5, .e (.r 5))], [(5, .own 3 (ints q.2.2))]⟩)
          (R := fun q => q.2.2 ++ mergeS q.1 q.2.1 = mergeS a b ∧ q.2.2.length + q.1.length + q.2.1.length ≤ l.length) (m := fun q => q.1.length + q.2.1.length) (a, b, []) ⟨by simp, by simp; omega⟩ [(5, 5)] ⟨rfl, rfl, ⟨?_, ?_, rfl, trivial⟩, ⟨rfl, trivial⟩⟩ ?_
        · rw [← ha, ← e3]; rfl
        · rw [← hbb, ← e4]; rfl
        · rintro ⟨xs, ys, out⟩ ⟨g1, g2⟩
          simp only at g1 g2
          have fin : (xs = [] ∨ ys = []) → out ++ xs ++ ys = mergeS a b := by
            rintro (rfl | rfl)
            · rw [← g1]; simp [mergeS]
            · rw [← g1]; cases xs <;> simp [mergeS]
          refine KW.goIf lay_ok T_ok 100 rfl (by simp) rfl trivial (fun h => ?_) fun h => ?_
          · simp at h
            obtain ⟨x, xs, rfl⟩ := List.exists_cons_of_length_pos (l := xs) (by omega)
            obtain ⟨y, ys, rfl⟩ := List.exists_cons_of_length_pos (l := ys) (by omega)
            simp only [List.length_cons] at g2
            refine KW.goD lay_ok T_ok rfl 100 rfl rfl rfl (by simp) (by simp) ?_
            refine KW.goIf lay_ok T_ok 100 rfl (by simp) rfl trivial (fun h => ?_) fun h => ?_
            · have h1 : cmpS x y ≤ 0 := of_decide_eq_true h
              refine KW.goIf lay_ok T_ok 100 rfl (by simp <;> omega) rfl trivial (fun h' => ?_) fun h' => ?_
              · have h3 : 0 ≤ cmpS x y := of_decide_eq_true h'
                refine KW.goToR lay_ok T_ok 100 rfl (xs, ys, out ++ [x]) [(5, 47)] rfl rfl ⟨rfl, rfl, rfl, trivial⟩ (by simp <;> omega) ⟨⟨?_, ?_⟩, ?_⟩ ⟨own_cat _ rfl, trivial⟩
                · rw [← g1, mergeS, if_pos (by omega)]; simp
                · simp; omega
                · simp; omega
              · have h3 : ¬ 0 ≤ cmpS x y := of_decide_eq_false h'
                refine KW.goToR lay_ok T_ok 100 rfl (xs, y :: ys, out ++ [x]) [(5, 47)] rfl rfl ⟨rfl, rfl, rfl, trivial⟩ (by simp <;> omega) ⟨⟨?_, ?_⟩, ?_⟩ ⟨own_cat _ rfl, trivial⟩
                · rw [← g1, mergeS, if_neg (by omega), if_pos h1]; simp
                · simp; omega
                · simp
            · have h1 : ¬ cmpS x y ≤ 0 := of_decide_eq_false h
              refine KW.goIf lay_ok T_ok 100 rfl (by simp <;> omega) rfl trivial (fun h' => ?_) fun h' => ?_
              · have h3 : 0 ≤ cmpS x y := of_decide_eq_true h'
                refine KW.goToR lay_ok T_ok 100 rfl (x :: xs, ys, out ++ [y]) [(5, 55)] rfl rfl ⟨rfl, rfl, rfl, trivial⟩ (by simp <;> omega) ⟨⟨?_, ?_⟩, ?_⟩ ⟨own_cat _ rfl, trivial⟩
                · rw [← g1, mergeS, if_neg (by omega), if_neg h1]; simp
                · simp; omega
                · simp
              · have h3 : ¬ 0 ≤ cmpS x y := of_decide_eq_false h'
                omega
          · refine KW.goOut lay_ok T_ok 100 rfl (by simp) ?_
            refine KW.goRetO lay_ok T_ok 100 rfl 65 2 rfl rfl rfl ?_ (by simp <;> omega)
            rw [catV_ints, catV_ints, fin, hs]
            simp at h
            rcases xs with _ | ⟨x, xs⟩
            · exact .inl rfl
            · exact .inr (h (by simp))
def T11 : Fns := (121, fL (fun l => .e (.c (ints (sortS l)))) fun l => l.length ≤ 1099511627776) ::
  T10
theorem T11_ok : FnsOk Tryz.prog T11 := .cons (T10_ok) Tryz.func121 rfl rfl (fL_ok fun l h => rsort_does l.length l (Nat.le_refl _) h)
end Go.Proofs.YtocnofkagckhkaaGreatDoor
namespace Go.Proofs.YtocnofkagckhkaaGreatDoor
open Go.Sy Go.Pu
variable [Drw]
theorem part_does (a b : Int) : DoesF Tryz.prog 122 [iV a, iV b] [] (sB (partB a b)) [] := by
  refine DoesF.body _ Tryz.func122 rfl rfl rfl rfl ?_
  refine KW.goRet lay_ok T11_ok 100 rfl rfl ?_ (by simp) trivial
  simp only [SV.ren, EV.ren, partB]
  congr 5
  rw [Bool.eq_iff_iff]; simp
theorem limited_does (l : List Int) : DoesF Tryz.prog 124 [.c (ints l)] [] (.tup [.c (ints (limL l)), iV (limE l)]) [] := by
  refine DoesF.body _ Tryz.func124 rfl rfl rfl rfl ?_
  refine KW.goIf lay_ok T11_ok 100 rfl (by simp) rfl trivial (fun h => ?_) fun h => ?_
  · have hl : 1024 < l.length := by simp at h; omega
    refine KW.go lay_ok T11_ok 100 rfl (by simp) ?_
    refine KW.conv 2 (ints []) rfl ⟨rfl, rfl⟩ ?_
    refine KW.fin [] rfl rfl ?_ trivial
    simp [SV.ren, renL, EV.ren, limL, limE, hl]
  · have hl : ¬ 1024 < l.length := by simp at h; omega
    refine KW.goRet lay_ok T11_ok 100 rfl rfl ?_ (by simp) trivial
    simp [SV.ren, renL, EV.ren, limL, limE, hl]
theorem both_does (a b : List Int) : DoesF Tryz.prog 123 [.c (ints a), .c (ints b)] [] (sI (bothE a b)) [] := by
  refine DoesF.body _ Tryz.func123 rfl rfl rfl rfl ?_
  refine KW.goIf lay_ok T11_ok 100 rfl (by simp) rfl trivial (fun h => ?_) fun h => ?_
  · refine KW.goRet lay_ok T11_ok 100 rfl rfl ?_ (by simp) trivial
    simp at h
    simp [SV.ren, EV.ren, bothE, h]
  · refine KW.goRet lay_ok T11_ok 100 rfl rfl ?_ (by simp) trivial
    simp at h
    simp [SV.ren, EV.ren, bothE, h]
end Go.Proofs.YtocnofkagckhkaaGreatDoor
end
section
namespace Go.Proofs.YtocnofkagckhkaaGreatDoor
open Go.Shelf
def layLen_ren : Go.Shelf.Ren := ⟨fun | 125 => 126 | 128 => 144 | 129 => 145 | n => n, fun | 46 => 154 | 3 => 3 | 51 => 164 | 53 => 166 | 4 => 4 | 5 => 5 | 9 => 9 | n => n, fun | n => n⟩
theorem layLen : Go.Proofs.Lays.n125 Tryz.prog layLen_ren := {
  mixed := by kernel_rfl
  f125 := Tryz.func126.trans (congrArg some (by kernel_rfl))
  f128 := Tryz.func144.trans (congrArg some (by kernel_rfl))
  f129 := Tryz.func145.trans (congrArg some (by kernel_rfl))
  t3 := Tryz.underlying3
  a3 := Tryz.isAgg3
  z3 := Tryz.sizeOf3
  v3 := Tryz.zeroValue3
  t4 := Tryz.underlying4
  a4 := Tryz.isAgg4
  z4 := Tryz.sizeOf4
  v4 := Tryz.zeroValue4
  t5 := Tryz.underlying5
  a5 := Tryz.isAgg5
  z5 := Tryz.sizeOf5
  v5 := Tryz.zeroValue5
  t9 := Tryz.underlying9
  a9 := Tryz.isAgg9
  z9 := Tryz.sizeOf9
  v9 := Tryz.zeroValue9
  t46 := Tryz.underlying154
  a46 := Tryz.isAgg154
  z46 := Tryz.sizeOf154
  v46 := Tryz.zeroValue154
  t51 := Tryz.underlying164
  a51 := Tryz.isAgg164
  z51 := Tryz.sizeOf164
  v51 := Tryz.zeroValue164
  t53 := Tryz.underlying166
  a53 := Tryz.isAgg166
  z53 := Tryz.sizeOf166
  v53 := Tryz.zeroValue166 }
def laySort_ren : Go.Shelf.Ren := ⟨fun | 6 => 98 | 15 => 126 | 14 => 125 | 28 => 144 | 29 => 145 | 20 => 136 | 21 => 137 | 22 => 138 | 23 => 139 | 24 => 140 | 25 => 141 | 26 => 142 | 27 => 143 | 46 => 155 | 47 => 156 | 48 => 157 | 49 => 158 | 50 => 159 | 57 => 167 | n => n, fun | 22 => 25 | 24 => 3 | 25 => 139 | 3 => 3 | 39 => 154 | 0 => 0 | 53 => 164 | 55 => 166 | 4 => 4 | 46 => 157 | 45 => 156 | 50 => 161 | 5 => 5 | 9 => 9 | 66 => 172 | 70 => 176 | 76 => 183 | 77 => 112 | n => n, fun | n => n⟩
theorem laySort : Go.Proofs.SlLaysF.n6 Tryz.prog laySort_ren := {
  mixed := by kernel_rfl
  f6 := ⟨Tryz.f98.name, by decide, Tryz.func98.trans (congrArg some (by kernel_rfl))⟩
  f14 := ⟨Tryz.f125.name, by decide, Tryz.func125.trans (congrArg some (by kernel_rfl))⟩
  f15 := Tryz.func126.trans (congrArg some (by kernel_rfl))
  f20 := ⟨Tryz.f136.name, by decide, Tryz.func136.trans (congrArg some (by kernel_rfl))⟩
  f21 := ⟨Tryz.f137.name, by decide, Tryz.func137.trans (congrArg some (by kernel_rfl))⟩
  f22 := ⟨Tryz.f138.name, by decide, Tryz.func138.trans (congrArg some (by kernel_rfl))⟩
  f23 := ⟨Tryz.f139.name, by decide, Tryz.func139.trans (congrArg some (by kernel_rfl))⟩
  f24 := ⟨Tryz.f140.name, by decide, Tryz.func140.trans (congrArg some (by kernel_rfl))⟩
  f25 := ⟨Tryz.f141.name, by decide, Tryz.func141.trans (congrArg some (by kernel_rfl))⟩
  f26 := ⟨Tryz.f142.name, by decide, Tryz.func142.trans (congrArg some (by kernel_rfl))⟩
  f27 := ⟨Tryz.f143.name, by decide, Tryz.func143.trans (congrArg some (by kernel_rfl))⟩
  f28 := Tryz.func144.trans (congrArg some (by kernel_rfl))
  f29 := Tryz.func145.trans (congrArg some (by kernel_rfl))
  f46 := ⟨Tryz.f155.name, by decide, Tryz.func155.trans (congrArg some (by kernel_rfl))⟩
  f47 := Tryz.func156.trans (congrArg some (by kernel_rfl))
  f48 := Tryz.func157.trans (congrArg some (by kernel_rfl))
  f49 := ⟨Tryz.f158.name, by decide, Tryz.func158.trans (congrArg some (by kernel_rfl))⟩
  f50 := ⟨Tryz.f159.name, by decide, Tryz.func159.trans (congrArg some (by kernel_rfl))⟩
  f57 := ⟨Tryz.f167.name, by decide, Tryz.func167.trans (congrArg some (by kernel_rfl))⟩
  t0 := Tryz.underlying0
  a0 := Tryz.isAgg0
  z0 := Tryz.sizeOf0
  v0 := Tryz.zeroValue0
  t3 := Tryz.underlying3
  a3 := Tryz.isAgg3
  z3 := Tryz.sizeOf3
  v3 := Tryz.zeroValue3
  t4 := Tryz.underlying4
  a4 := Tryz.isAgg4
  z4 := Tryz.sizeOf4
  v4 := Tryz.zeroValue4
  t5 := Tryz.underlying5
  a5 := Tryz.isAgg5
  z5 := Tryz.sizeOf5
  v5 := Tryz.zeroValue5
  t9 := Tryz.underlying9
  a9 := Tryz.isAgg9
  z9 := Tryz.sizeOf9
  v9 := Tryz.zeroValue9
  t22 := Tryz.underlying25
  a22 := Tryz.isAgg25
  z22 := Tryz.sizeOf25
  v22 := Tryz.zeroValue25
  a24 := Tryz.isAgg3
  z24 := Tryz.sizeOf3
  t25 := Tryz.underlying139
  a25 := Tryz.isAgg139
  z25 := Tryz.sizeOf139
  v25 := Tryz.zeroValue139
  t39 := Tryz.underlying154
  a39 := Tryz.isAgg154
  z39 := Tryz.sizeOf154
  v39 := Tryz.zeroValue154
  t45 := Tryz.underlying156
  a45 := Tryz.isAgg156
  z45 := Tryz.sizeOf156
  v45 := Tryz.zeroValue156
  t46 := Tryz.underlying157
  a46 := Tryz.isAgg157
  z46 := Tryz.sizeOf157
  v46 := Tryz.zeroValue157
  t50 := Tryz.underlying161
  a50 := Tryz.isAgg161
  z50 := Tryz.sizeOf161
  v50 := Tryz.zeroValue161
  t53 := Tryz.underlying164
  a53 := Tryz.isAgg164
  z53 := Tryz.sizeOf164
  v53 := Tryz.zeroValue164
  t55 := Tryz.underlying166
  a55 := Tryz.isAgg166
  z55 := Tryz.sizeOf166
  v55 := Tryz.zeroValue166
  t66 := Tryz.underlying172
  a66 := Tryz.isAgg172
  z66 := Tryz.sizeOf172
  v66 := Tryz.zeroValue172
  t70 := Tryz.underlying176
  a70 := Tryz.isAgg176
  z70 := Tryz.sizeOf176
  v70 := Tryz.zeroValue176
  t76 := Tryz.underlying183
  a76 := Tryz.isAgg183
  z76 := Tryz.sizeOf183
  v76 := Tryz.zeroValue183
  t77 := Tryz.underlying112
  a77 := Tryz.isAgg112
  z77 := Tryz.sizeOf112
  v77 := Tryz.zeroValue112 }
def laySort0_ren : Go.Shelf.Ren := ⟨fun | 6 => 98 | 15 => 126 | 14 => 125 | 28 => 144 | 29 => 145 | 20 => 136 | 21 => 137 | 22 => 138 | 23 => 139 | 24 => 140 | 25 => 141 | 26 => 142 | 27 => 143 | 46 => 155 | 47 => 156 | 48 => 157 | 49 => 158 | 50 => 159 | 57 => 167 | n => n, fun | 22 => 25 | 24 => 3 | 25 => 139 | 3 => 3 | 39 => 154 | 0 => 0 | 53 => 164 | 55 => 166 | 4 => 4 | 46 => 157 | 45 => 156 | 50 => 161 | 5 => 5 | 9 => 9 | 66 => 172 | 70 => 176 | 76 => 183 | 77 => 112 | n => n, fun | n => n⟩
theorem laySort0 : Go.Proofs.SlLaysF0.n6 Tryz.prog laySort0_ren := {
  mixed := by kernel_rfl
  f6 := ⟨Tryz.f98.name, by decide, Tryz.func98.trans (congrArg some (by kernel_rfl))⟩
  f14 := ⟨Tryz.f125.name, by decide, Tryz.func125.trans (congrArg some (by kernel_rfl))⟩
  f15 := Tryz.func126.trans (congrArg some (by kernel_rfl))
  f20 := ⟨Tryz.f136.name, by decide, Tryz.func136.trans (congrArg some (by kernel_rfl))⟩
  f21 := ⟨Tryz.f137.name, by decide, Tryz.func137.trans (congrArg some (by kernel_rfl))⟩
  f22 := ⟨Tryz.f138.name, by decide, Tryz.func138.trans (congrArg some (by kernel_rfl))⟩
  f23 := ⟨Tryz.f139.name, by decide, Tryz.func139.trans (congrArg some (by kernel_rfl))⟩
  f24 := ⟨Tryz.f140.name, by decide, Tryz.func140.trans (congrArg some (by kernel_rfl))⟩
  f25 := ⟨Tryz.f141.name, by decide, Tryz.func141.trans (congrArg some (by kernel_rfl))⟩
  f26 := ⟨Tryz.f142.name, by decide, Tryz.func142.trans (congrArg some (by kernel_rfl))⟩
  f27 := ⟨Tryz.f143.name, by decide, Tryz.func143.trans (congrArg some (by kernel_rfl))⟩
  f28 := Tryz.func144.trans (congrArg some (by kernel_rfl))
  f29 := Tryz.func145.trans (congrArg some (by kernel_rfl))
  f46 := ⟨Tryz.f155.name, by decide, Tryz.func155.trans (congrArg some (by kernel_rfl))⟩
  f47 := Tryz.func156.trans (congrArg some (by kernel_rfl))
  f48 := Tryz.func157.trans (congrArg some (by kernel_rfl))
  f49 := ⟨Tryz.f158.name, by decide, Tryz.func158.trans (congrArg some (by kernel_rfl))⟩
  f50 := ⟨Tryz.f159.name, by decide, Tryz.func159.trans (congrArg some (by kernel_rfl))⟩
  f57 := ⟨Tryz.f167.name, by decide, Tryz.func167.trans (congrArg some (by kernel_rfl))⟩
  t0 := Tryz.underlying0
  a0 := Tryz.isAgg0
  z0 := Tryz.sizeOf0
  v0 := Tryz.zeroValue0
  t3 := Tryz.underlying3
  a3 := Tryz.isAgg3
  z3 := Tryz.sizeOf3
  v3 := Tryz.zeroValue3
  t4 := Tryz.underlying4
  a4 := Tryz.isAgg4
  z4 := Tryz.sizeOf4
  v4 := Tryz.zeroValue4
  t5 := Tryz.underlying5
  a5 := Tryz.isAgg5
  z5 := Tryz.sizeOf5
  v5 := Tryz.zeroValue5
  t9 := Tryz.underlying9
  a9 := Tryz.isAgg9
  z9 := Tryz.sizeOf9
  v9 := Tryz.zeroValue9
  t22 := Tryz.underlying25
  a22 := Tryz.isAgg25
  z22 := Tryz.sizeOf25
  v22 := Tryz.zeroValue25
  t25 := Tryz.underlying139
  a25 := Tryz.isAgg139
  z25 := Tryz.sizeOf139
  v25 := Tryz.zeroValue139
  t39 := Tryz.underlying154
  a39 := Tryz.isAgg154
  z39 := Tryz.sizeOf154
  v39 := Tryz.zeroValue154
  t45 := Tryz.underlying156
  a45 := Tryz.isAgg156
  z45 := Tryz.sizeOf156
  v45 := Tryz.zeroValue156
  t46 := Tryz.underlying157
  a46 := Tryz.isAgg157
  z46 := Tryz.sizeOf157
  v46 := Tryz.zeroValue157
  t50 := Tryz.underlying161
  a50 := Tryz.isAgg161
  z50 := Tryz.sizeOf161
  v50 := Tryz.zeroValue161
  t53 := Tryz.underlying164
  a53 := Tryz.isAgg164
  z53 := Tryz.sizeOf164
  v53 := Tryz.zeroValue164
  t55 := Tryz.underlying166
  a55 := Tryz.isAgg166
  z55 := Tryz.sizeOf166
  v55 := Tryz.zeroValue166
  t66 := Tryz.underlying172
  a66 := Tryz.isAgg172
  z66 := Tryz.sizeOf172
  v66 := Tryz.zeroValue172
  t70 := Tryz.underlying176
  a70 := Tryz.isAgg176
  z70 := Tryz.sizeOf176
  v70 := Tryz.zeroValue176
  t76 := Tryz.underlying183
  a76 := Tryz.isAgg183
  z76 := Tryz.sizeOf183
  v76 := Tryz.zeroValue183
  t77 := Tryz.underlying112
  a77 := Tryz.isAgg112
  z77 := Tryz.sizeOf112
  v77 := Tryz.zeroValue112 }
def layCompact_ren : Go.Shelf.Ren := ⟨fun | 43 => 100 | n => n, fun | 22 => 25 | 23 => 3 | 3 => 3 | 4 => 4 | 0 => 0 | n => n, fun | n => n⟩
theorem layCompact : Go.Proofs.SlLaysN.n43 Tryz.prog layCompact_ren := {
  mixed := by kernel_rfl
  f43 := ⟨Tryz.f100.name, by decide, Tryz.func100.trans (congrArg some (by kernel_rfl))⟩
  t0 := Tryz.underlying0
  a0 := Tryz.isAgg0
  z0 := Tryz.sizeOf0
  v0 := Tryz.zeroValue0
  t3 := Tryz.underlying3
  a3 := Tryz.isAgg3
  z3 := Tryz.sizeOf3
  v3 := Tryz.zeroValue3
  t4 := Tryz.underlying4
  a4 := Tryz.isAgg4
  z4 := Tryz.sizeOf4
  v4 := Tryz.zeroValue4
  t22 := Tryz.underlying25
  a22 := Tryz.isAgg25
  z22 := Tryz.sizeOf25
  v22 := Tryz.zeroValue25
  t23 := Tryz.underlying3
  a23 := Tryz.isAgg3
  z23 := Tryz.sizeOf3
  v23 := Tryz.zeroValue3
  i23 := by kernel_rfl }
end Go.Proofs.YtocnofkagckhkaaGreatDoor
end
section
set_option linter.unusedSectionVars false
set_option linter.unusedVariables false
set_option linter.unusedSimpArgs false
namespace Go.Proofs.YtocnofkagckhkaaGreatDoor
open Go.Sy Go.Pu
variable [Drw]
theorem clone_does (xs : List Int) (hb : xs.length ≤ 1099511627776) : DoesF Tryz.prog 80 [.c (ints xs)] [] (.e (.r 0)) [(0, .own 3 (ints xs))] := by
  refine DoesF.body _ Tryz.func80 rfl rfl rfl rfl ?_
  refine KW.go lay_ok T11_ok 100 rfl (by simp) ?_
  refine KW.eqNil (neg := false) lay_ok rfl rfl rfl rfl rfl rfl rfl rfl trivial fun b hb0 => ?_
  refine KW.goIf lay_ok T11_ok 100 rfl (by simp) rfl trivial (fun h => ?_) fun h => ?_
  · have : xs = [] := ints_nil_of (hb0 h)
    subst this
    refine KW.go lay_ok T11_ok 100 rfl (by simp) ?_
    refine KW.nilO 2 2 3 (ints []) rfl rfl rfl ?_
    exact KW.fin [(0, 2)] rfl rfl rfl ⟨rfl, trivial⟩
  · refine KW.goRetR lay_ok T11_ok 100 rfl [(0, 7)] rfl rfl rfl (by simp <;> omega) ⟨?_, trivial⟩
    exact own_cat (a := []) _ rfl
theorem equal_does (a b : List Int) : DoesF Tryz.prog 54 [.c (ints a), .c (ints b)] [] (sB (decide (a = b))) [] := by
  refine DoesF.body _ Tryz.func54 rfl rfl rfl rfl ?_
  refine KW.len 0 rfl rfl fun hla => ?_
  refine KW.goIf lay_ok T11_ok 100 rfl (by simp) rfl trivial (fun h => ?_) fun h => ?_
  · refine KW.goRet lay_ok T11_ok 100 rfl rfl ?_ (by simp) trivial
    have hne : a ≠ b := fun e => by subst e; simp at h
    rw [decide_eq_false hne]; rfl
  · have hl : a.length = b.length := by simp at h; omega
    refine KW.goLp lay_ok T11_ok 100 rfl (I := fun q : Nat => ⟨Tryz.f54.ntmps, [(0, .e (.c (ints a))), (1, .e (.c (ints b))), (12, sI a.length), (13, sI q)], []⟩) (R := fun q => q ≤ a.length ∧ a.take q = b.take q) (m := fun q => a.length - q) 0 rfl ⟨rfl, rfl, rfl, rfl, trivial⟩ (by simp) ⟨by simp, by simp⟩ trivial ?_
    rintro q ⟨h1, h2⟩
    refine KW.goIf lay_ok T11_ok 100 rfl (by simp) rfl trivial (fun h => ?_) fun h => ?_
    · have hq : q < a.length := by simpa using h
      have hq' : q < b.length := by omega
      refine KW.goD lay_ok T11_ok rfl 100 rfl rfl rfl (by simp) (by simp; omega) ?_
      refine KW.goIf lay_ok T11_ok 100 rfl (by simp) rfl trivial (fun h => ?_) fun h => ?_
      · refine KW.goOutR lay_ok T11_ok 100 rfl (by simp) ?_
        refine KW.goRet lay_ok T11_ok 100 rfl rfl ?_ (by simp) trivial
        have hne : a ≠ b := fun e => by subst e; simp at h
        rw [decide_eq_false hne]; rfl
      · refine KW.goTo lay_ok T11_ok 100 rfl (q + 1) rfl ⟨rfl, rfl, rfl, rfl, trivial⟩ (by simp [inK]; omega) ⟨⟨by omega, ?_⟩, by omega⟩ trivial
        have e : a[q] = b[q] := by simpa [List.getD_eq_getElem?_getD, hq, hq'] using h
        rw [List.take_succ_eq_append_getElem hq, List.take_succ_eq_append_getElem hq', h2, e]
    · have hq : q = a.length := by simp at h; omega
      refine KW.goOut lay_ok T11_ok 100 rfl (by simp) ?_
      refine KW.goRet lay_ok T11_ok 100 rfl rfl ?_ (by simp) trivial
      have e : a = b := by
        rw [hq, List.take_length] at h2
        rw [h2, hl, List.take_length]
      rw [decide_eq_true e]; rfl
def layGrow_ren : Go.Shelf.Ren := ⟨fun | 4 => 166 | n => n, fun | 22 => 25 | 25 => 3 | 3 => 3 | 4 => 4 | 9 => 9 | 20 => 20 | 0 => 0 | n => n, fun | n => n⟩
theorem layGrow : Go.Proofs.Lays8.n4 Tryz.prog layGrow_ren := {
  mixed := by kernel_rfl
  f4 := ⟨Tryz.f166.name, by decide, Tryz.func166.trans (congrArg some (by kernel_rfl))⟩
  t0 := Tryz.underlying0
  a0 := Tryz.isAgg0
  z0 := Tryz.sizeOf0
  v0 := Tryz.zeroValue0
  t3 := Tryz.underlying3
  a3 := Tryz.isAgg3
  z3 := Tryz.sizeOf3
  v3 := Tryz.zeroValue3
  t4 := Tryz.underlying4
  a4 := Tryz.isAgg4
  z4 := Tryz.sizeOf4
  v4 := Tryz.zeroValue4
  t9 := Tryz.underlying9
  a9 := Tryz.isAgg9
  z9 := Tryz.sizeOf9
  v9 := Tryz.zeroValue9
  t20 := Tryz.underlying20
  a20 := Tryz.isAgg20
  z20 := Tryz.sizeOf20
  v20 := Tryz.zeroValue20
  t22 := Tryz.underlying25
  a22 := Tryz.isAgg25
  z22 := Tryz.sizeOf25
  v22 := Tryz.zeroValue25 }
theorem grow_does (n : Nat) (hn : n ≤ 1099511627776) : DoesF Tryz.prog 166 [.c (.lit (.slice none 0 0)), iV n] [] (.e (.r 0)) [(0, .own 3 (ints []))] := by
  have hrow : (Tryz.prog.info? 3).map (fun i => (i.zero, i.size, i.bytes)) = some (some (.int .i64 0), 1, 8) := by kernel_rfl
  obtain ⟨i0, hi, hz0, hz1, hz2⟩ := info_parts hrow
  exact grow_nil_does layGrow rfl rfl hi hz0 hz1 hz2 rfl n hn
end Go.Proofs.YtocnofkagckhkaaGreatDoor
namespace Go.Proofs.YtocnofkagckhkaaGreatDoor
open Go.Sy Go.Pu
variable [Drw]
theorem sorted_does (l : List Int) (hv : ∀ x ∈ l, validS x = true) (hb : l.length ≤ 1099511627776) : DoesF Tryz.prog 55 [.c (ints l)] [] (.e (.c (ints (sortedL l)))) [] := by
  refine DoesF.body _ Tryz.func55 rfl rfl rfl rfl ?_
  refine KW.go lay_ok T11_ok 100 rfl (by simp) ?_
  refine KW.callO0 (clone_does l hb) (enters Tryz.func80 rfl rfl) [] (.inl rfl) rfl rfl rfl rfl rfl trivial ⟨⟨_, _, rfl, trivial, .conv (CVEq.refl _)⟩, trivial⟩ rfl (.inl rfl) ?_
  refine KW.go lay_ok T11_ok 100 rfl (by simp) ?_
  refine KW.callK0 (sortFunc_does (ks := fun _ => 0) (caps := fun _ _ => .lit undef) laySort laySort0 rfl rfl cmpS_swo (V := fun x => validS x = true) (fun x y => cmpS_eq) cmpS_total (enters Tryz.func99 rfl rfl) (@compare_does drwOn) 3 l hv (by omega))
    (enters Tryz.func98 rfl rfl) [(0, 5)] [(0, 5)] [] (.inl rfl) rfl rfl rfl rfl rfl trivial
    ⟨⟨_, _, rfl, trivial, (show Mt _ _ _ (EV.ren [(0, 5)] (.r 0)) (.r 0) from .same)⟩, ⟨_, _, rfl, trivial, .conv (CVEq.refl _)⟩, trivial⟩ rfl ⟨rfl, trivial⟩ rfl ⟨.inr ⟨rfl, .inl rfl⟩, trivial⟩ rfl rfl (.inl rfl) ?_
  refine KW.go lay_ok T11_ok 100 rfl (by simp) ?_
  refine KW.call0 (compact_does layCompact rfl 3 (sortL cmpS l)) (enters Tryz.func100 rfl rfl) [(0, 5)] [(0, 9)] [] (.inl rfl) rfl rfl rfl rfl rfl trivial
    ⟨⟨_, _, rfl, trivial, (show Mt _ _ _ (EV.ren [(0, 5)] (.r 0)) (.r 0) from .same)⟩, trivial⟩ rfl ⟨rfl, trivial⟩ rfl ⟨.inl rfl, trivial⟩ rfl rfl (.inl rfl) ?_
  exact KW.goRetO lay_ok T11_ok 100 rfl 9 2 rfl rfl rfl rfl (by simp)
theorem minimalC_does (t s : Int) : DoesF Tryz.prog 101 [iV t, .pe 1 1 (fun _ q => .lit (.int .i64 s)) 0 0] [] (sB (subS t s)) [] := by
  refine DoesF.body _ Tryz.func101 rfl rfl rfl rfl ?_
  exact KW.goRet lay_ok T11_ok 100 rfl rfl rfl (by simp) trivial
theorem minimal_does (l : List Int) (hv : ∀ x ∈ l, validS x = true) (hb : l.length ≤ 1099511627776) : DoesF Tryz.prog 56 [.c (ints l)] [] (.e (.c (ints (minS l)))) [] := by
  have T_ok : FnsOk Tryz.prog ((55, fL (fun l => .e (.c (ints (sortedL l)))) fun l => (∀ x ∈ l, validS x = true) ∧ l.length ≤ 1099511627776) :: T11) := .cons T11_ok Tryz.func55 rfl rfl (fL_ok fun l h => sorted_does l h.1 h.2)
  refine DoesF.body _ Tryz.func56 rfl rfl rfl rfl ?_
  have hSl := sortedL_length l
  have hm := minL_length (sortedL l) []
  refine KW.go lay_ok T_ok 100 rfl (by simpa using ⟨hv, hb⟩) ?_
  simp only [unI_ints]
  generalize hS : sortedL l = S at hSl hm
  refine KW.nilO 3 3 3 (ints []) rfl rfl rfl ?_
  refine KW.lp (I := fun q : List Int × Nat => ⟨Tryz.f56.ntmps, [(3, .e (.r 3)), (7, .e (.c (ints S))), (8, sI S.length), (9, sI q.2)], [(3, .own 3 (ints q.1))]⟩)
    (R := fun q => q.2 ≤ S.length ∧ minL q.1 (S.drop q.2) = minS l ∧ q.1.length ≤ q.2) (m := fun q => S.length - q.2) ([], 0) ⟨by simp, by simp [minS, hS], by simp⟩ [(3, 3)] ⟨rfl, rfl, ⟨rfl, rfl, rfl, rfl, trivial⟩, ⟨rfl, trivial⟩⟩ ?_
  rintro ⟨out, q⟩ ⟨h1, h2, h3⟩
  simp only at h1 h2 h3
  refine KW.goIf lay_ok T_ok 100 rfl (by simp) rfl trivial (fun h => ?_) fun h => ?_
  · have hq : q < S.length := by simpa using h
    have hg : S.getD (Int.toNat (q : Int)) 0 = S[q] := by simp [List.getD_eq_getElem?_getD, hq]
    have hd : S.drop q = S[q] :: S.drop (q + 1) := List.drop_eq_getElem_cons hq
    rw [hd, minL] at h2
    refine KW.go lay_ok T_ok 100 rfl (by simp; omega) ?_
    refine KW.callV0 (containsFunc_does (m := 1) (ks := fun _ => 1) (caps := fun _ _ => .lit (.int .i64 S[q])) (p := fun t => subS t S[q]) out ⟨enters Tryz.func101 rfl rfl, fun x _ => minimalC_does x S[q]⟩) (enters Tryz.func36 rfl rfl) [3, 5] (.inl rfl) rfl rfl rfl rfl rfl trivial
      ⟨⟨_, _, rfl, trivial, .lend rfl rfl (CVEq.refl _) rfl rfl⟩, ⟨_, _, rfl, trivial, .lfn rfl ?_⟩, trivial⟩ rfl (.inr trivial) ?_
    · intro j hj
      obtain rfl : j = 0 := by omega
      refine ⟨5, _, _, _, rfl, rfl, rfl, rfl, fun q' hq' => ?_⟩
      obtain rfl : q' = 0 := by omega
      show some (EV.c (.lit (.int .i64 (S.getD (Int.toNat (q : Int)) 0)))) = _
      rw [hg]
    · refine KW.goIf lay_ok T_ok 100 rfl (by simp) rfl trivial (fun h => ?_) fun h => ?_
      · have hc : (out.any fun t => subS t S[q]) = false := by simpa using h
        rw [hc] at h2
        refine KW.goToR lay_ok T_ok 100 rfl (out ++ [S[q]], q + 1) [(3, 20)] rfl rfl ⟨rfl, rfl, rfl, rfl, trivial⟩ (by simp [inK] <;> omega) ⟨⟨by simp only; omega, by simpa using h2, by simp; omega⟩, by simp only; omega⟩ ⟨own_cat _ ?_, trivial⟩
        rw [hg]
      · have hc : (out.any fun t => subS t S[q]) = true := by simpa using h
        rw [hc] at h2
        refine KW.goToR lay_ok T_ok 100 rfl (out, q + 1) [(3, 3)] rfl rfl ⟨rfl, rfl, rfl, rfl, trivial⟩ (by simp [inK] <;> omega) ⟨⟨by simp only; omega, by simpa using h2, by simp only; omega⟩, by simp only; omega⟩ ⟨rfl, trivial⟩
  · have hq : q = S.length := by simp at h; omega
    refine KW.goOut lay_ok T_ok 100 rfl (by simp) ?_
    refine KW.goRetO lay_ok T_ok 100 rfl 3 2 rfl rfl rfl ?_ (by simp <;> omega)
    rw [hq, List.drop_length, minL] at h2
    rw [h2]
end Go.Proofs.YtocnofkagckhkaaGreatDoor
namespace Go.Proofs.YtocnofkagckhkaaGreatDoor
open Go.Sy Go.Pu
variable [Drw]
theorem sized_does (l : List Int) : DoesF Tryz.prog 115 [lV l] [] (.tup [lV (limL l), eV (limE l)]) [] := by
  refine DoesF.body _ Tryz.func115 rfl rfl rfl rfl ?_
  refine KW.goIf lay_ok T11_ok 100 rfl (by simp) rfl trivial (fun h => ?_) fun h => ?_
  · have hl : 1024 < l.length := by simp at h; omega
    refine KW.go lay_ok T11_ok 100 rfl (by simp) ?_
    refine KW.conv 2 (ints []) rfl ⟨rfl, rfl⟩ ?_
    refine KW.fin [] rfl rfl ?_ trivial
    simp [SV.ren, renL, EV.ren, limL, limE, hl, errV]
  · have hl : ¬ 1024 < l.length := by simp at h; omega
    refine KW.goRet lay_ok T11_ok 100 rfl rfl ?_ (by simp) trivial
    simp [SV.ren, renL, EV.ren, limL, limE, hl, errV]
def T12 : Fns := (56, fL (fun l => .e (lV (minS l))) fun l => (∀ x ∈ l, validS x = true) ∧ l.length ≤ 1099511627776) ::
  (115, fL (fun l => .tup [lV (limL l), eV (limE l)]) fun l => True) ::
  (54, fLL (fun a b => sB (decide (a = b))) fun _ _ => True) ::
  (55, fL (fun l => .e (lV (sortedL l))) fun l => (∀ x ∈ l, validS x = true) ∧ l.length ≤ 1099511627776) ::
  T11
theorem T12_ok : FnsOk Tryz.prog T12 := .cons (.cons (.cons (.cons (T11_ok) Tryz.func55 rfl rfl (fL_ok fun l h => sorted_does l h.1 h.2)) Tryz.func54 rfl rfl (fLL_ok fun a b _ => equal_does a b)) Tryz.func115 rfl rfl (fL_ok fun l _ => sized_does l)) Tryz.func56 rfl rfl (fL_ok fun l h => minimal_does l h.1 h.2)
theorem minimalX_does (l : List Int) : DoesF Tryz.prog 81 [lV l] [] (.tup [lV (if listE l = 0 then minS l else []), eV (listE l)]) [] := by
  refine DoesF.body _ Tryz.func81 rfl rfl rfl rfl ?_
  refine KW.goIf lay_ok T12_ok 100 rfl (by simp) rfl trivial (fun h => ?_) fun h => ?_
  · refine KW.go lay_ok T12_ok 100 rfl (by simp) ?_
    refine KW.conv 2 (ints []) rfl ⟨rfl, rfl⟩ ?_
    refine KW.fin [] rfl rfl ?_ trivial
    simp [listsE_one] at h
    simp [SV.ren, renL, EV.ren, listsE_one, h]
  · simp [listsE_one] at h
    have h1 := listE_len h
    have h2 := listE_valid h
    refine KW.goRet lay_ok T12_ok 100 rfl rfl ?_ (by simpa using ⟨h2, by omega⟩) trivial
    simp [SV.ren, renL, EV.ren, h, errV]
theorem least_does (l : List Int) (hb : l.length ≤ 1099511627776) : DoesF Tryz.prog 94 [lV l] [] (.e (lV (leastS l))) [] := by
  refine DoesF.body _ Tryz.func94 rfl rfl rfl rfl ?_
  have T_ok : FnsOk Tryz.prog ((122, fII (fun a b => sB (partB a b)) fun _ _ => True) :: T12) := .cons T12_ok Tryz.func122 rfl rfl (fII_ok fun a b _ => part_does a b)
  have hSl := sortS_length l
  refine KW.go lay_ok T_ok 100 rfl (by simpa using hb) ?_
  simp only [unI_ints]
  generalize hS : sortS l = S at hSl
  refine KW.nilO 3 3 3 (ints []) rfl rfl rfl ?_
  refine KW.lp (I := fun q : List Int × Nat => ⟨Tryz.f94.ntmps, [(3, .e (.r 3)), (10, .e (.c (ints S))), (11, sI S.length), (12, sI q.2)], [(3, .own 3 (ints q.1))]⟩)
    (R := fun q => q.2 ≤ S.length ∧ leastL q.1 (S.drop q.2) = leastS l ∧ q.1.length ≤ q.2) (m := fun q => S.length - q.2) ([], 0) ⟨by simp, by simp [leastS, hS], by simp⟩ [(3, 3)] ⟨rfl, rfl, ⟨rfl, rfl, rfl, rfl, trivial⟩, ⟨rfl, trivial⟩⟩ ?_
  rintro ⟨out, q⟩ ⟨h1, h2, h3⟩
  simp only at h1 h2 h3
  refine KW.goIf lay_ok T_ok 100 rfl (by simp) rfl trivial (fun h => ?_) fun h => ?_
  · have hq : q < S.length := by simpa using h
    have hg : S.getD (Int.toNat (q : Int)) 0 = S[q] := by simp [List.getD_eq_getElem?_getD, hq]
    have hd : S.drop q = S[q] :: S.drop (q + 1) := List.drop_eq_getElem_cons hq
    rw [hd, leastL] at h2
    refine KW.goLpR lay_ok T_ok 100 rfl (I := fun p : Nat => ⟨Tryz.f94.ntmps, [(3, .e (.r 3)), (5, sI S[q]), (6, sB ((out.take p).all fun x => !partB x S[q])), (10, .e (.c (ints S))), (11, sI S.length), (12, sI q), (16, .e (.r 3)), (17, sI out.length), (18, sI p)], [(3, .own 3 (ints out))]⟩)
      (R := fun p => p ≤ out.length) (m := fun p => out.length - p) 0 [(3, 3)] rfl rfl ⟨rfl, by rw [← hg]; rfl, rfl, rfl, rfl, rfl, rfl, rfl, rfl, trivial⟩ (by simp; omega) (by simp) ⟨rfl, trivial⟩ ?_
    rintro p hp0
    refine KW.goIf lay_ok T_ok 100 rfl (by simp) rfl trivial (fun h => ?_) fun h => ?_
    · have hp : p < out.length := by simpa using h
      have hgp : out.getD (Int.toNat (p : Int)) 0 = out[p] := by simp [List.getD_eq_getElem?_getD, hp]
      refine KW.goToR lay_ok T_ok 100 rfl (p + 1) [(3, 3)] rfl rfl ⟨rfl, rfl, ?_, rfl, rfl, rfl, rfl, rfl, rfl, trivial⟩ (by simp [inK] <;> omega) ⟨by omega, by omega⟩ ⟨rfl, trivial⟩
      rw [List.take_succ_eq_append_getElem hp, List.all_append, ← hgp]
      simp only [List.all_cons, List.all_nil, Bool.and_true]
      rfl
    · have hp : p = out.length := by simp at h; omega
      refine KW.goOut lay_ok T_ok 100 rfl (by simp) ?_
      refine KW.goIf lay_ok T_ok 100 rfl (by simp) rfl trivial (fun h => ?_) fun h => ?_
      · rw [hp, List.take_length] at h
        rw [h] at h2
        refine KW.goToR lay_ok T_ok 100 rfl (out ++ [S[q]], q + 1) [(3, 34)] rfl rfl ⟨rfl, rfl, rfl, rfl, trivial⟩ (by simp [inK] <;> omega) ⟨⟨by simp only; omega, by simpa using h2, by simp; omega⟩, by simp only; omega⟩ ⟨own_cat _ rfl, trivial⟩
      · rw [hp, List.take_length] at h
        rw [h] at h2
        refine KW.goToR lay_ok T_ok 100 rfl (out, q + 1) [(3, 3)] rfl rfl ⟨rfl, rfl, rfl, rfl, trivial⟩ (by simp [inK] <;> omega) ⟨⟨by simp only; omega, by simpa using h2, by simp only; omega⟩, by simp only; omega⟩ ⟨rfl, trivial⟩
  · have hq : q = S.length := by simp at h; omega
    refine KW.goOut lay_ok T_ok 100 rfl (by simp) ?_
    refine KW.goRetO lay_ok T_ok 100 rfl 3 2 rfl rfl rfl ?_ (by simp <;> omega)
    rw [hq, List.drop_length, leastL] at h2
    rw [h2]
end Go.Proofs.YtocnofkagckhkaaGreatDoor
namespace Go.Proofs.YtocnofkagckhkaaGreatDoor
open Go.Sy Go.Pu
variable [Drw]
def T13 : Fns := (94, fL (fun l => .e (lV (leastS l))) fun l => l.length ≤ 1099511627776) ::
  (124, fL (fun l => .tup [lV (limL l), iV (limE l)]) fun l => True) ::
  (123, fLL (fun a b => sI (bothE a b)) fun _ _ => True) ::
  (81, fL (fun l => .tup [lV (if listE l = 0 then minS l else []), eV (listE l)]) fun _ => True) ::
  (20, fLI (fun l s => .tup [bV (decide (listE l = 0) && validS s && l.any (fun t => subS t s)), eV (if listE l = 0 then if validS s then 0 else 3 else listE l)]) fun _ _ => True) ::
  T12
theorem T13_ok : FnsOk Tryz.prog T13 := .cons (.cons (.cons (.cons (.cons (T12_ok) Tryz.func20 rfl rfl (fLI_ok fun l s _ => covers_does l s)) Tryz.func81 rfl rfl (fL_ok fun l _ => minimalX_does l)) Tryz.func123 rfl rfl (fLL_ok fun a b _ => both_does a b)) Tryz.func124 rfl rfl (fL_ok fun l _ => limited_does l)) Tryz.func94 rfl rfl (fL_ok fun l h => least_does l h)
theorem product_does (a b : List Int) : DoesF Tryz.prog 83 [lV a, lV b] [] (.tup [lV (if bothE a b = 0 then limL (minS (unionsC a b)) else []), eV (if bothE a b = 0 then limE (minS (unionsC a b)) else bothE a b)]) [] := by
  refine DoesF.body _ Tryz.func83 rfl rfl rfl rfl ?_
  refine KW.goIf lay_ok T13_ok 100 rfl (by simp) rfl trivial (fun h => ?_) fun h => ?_
  · refine KW.go lay_ok T13_ok 100 rfl (by simp) ?_
    refine KW.conv 4 (ints []) rfl ⟨rfl, rfl⟩ ?_
    refine KW.fin [] rfl rfl ?_ trivial
    simp [listsE_two] at h
    simp [SV.ren, renL, EV.ren, listsE_two, h]
  · simp [listsE_two] at h
    have h1 : listE a = 0 := by unfold bothE at h; split at h <;> simp_all
    have h2 : listE b = 0 := by unfold bothE at h; split at h <;> simp_all
    have la := listE_len h1
    have lb := listE_len h2
    have va := listE_valid h1
    have vb := listE_valid h2
    have hma := minS_length a
    have hmb := minS_length b
    refine KW.go lay_ok T13_ok 100 rfl (by simpa using ⟨⟨va, by omega⟩, vb, by omega⟩) ?_
    simp only [unI_ints]
    generalize hA : minS a = MA at hma
    generalize hB : minS b = MB at hmb
    refine KW.makeMap rfl rfl rfl rfl rfl ?_
    refine KW.go lay_ok T13_ok 100 rfl (by simp) ?_
    refine KW.nilO 8 8 3 (ints []) rfl rfl rfl ?_
    refine KW.lp (I := fun q : Nat => ⟨Tryz.f83.ntmps, [(1, .e (lV MB)), (7, .e (.r 25)), (8, .e (.r 8)), (26, .e (lV MA)), (27, sI MA.length), (28, sI q)], [(8, .own 3 (ints (addAll [] (unionsL (MA.take q) MB)))), (25, .mset (addAll [] (unionsL (MA.take q) MB)).reverse)]⟩)
      (R := fun q => q ≤ MA.length) (m := fun q => MA.length - q) 0 (by simp) [(8, 8), (25, 25)] ⟨rfl, rfl, ⟨rfl, rfl, rfl, rfl, rfl, rfl, trivial⟩, ⟨rfl, rfl, trivial⟩⟩ ?_
    rintro q hq0
    have hUl : (addAll [] (unionsL (MA.take q) MB)).length ≤ 1048576 := by
      have := addAll_length (unionsL (MA.take q) MB) []
      rw [unionsL_length] at this
      have h3 : (MA.take q).length * MB.length ≤ 1024 * 1024 := Nat.mul_le_mul (by simp; omega) (by omega)
      simp only [List.length_nil, Nat.zero_add] at this
      omega
    refine KW.goIf lay_ok T13_ok 100 rfl (by simp) rfl trivial (fun h3 => ?_) fun h3 => ?_
    · have hq : q < MA.length := by simpa using h3
      have hg : MA.getD (Int.toNat (q : Int)) 0 = MA[q] := by simp [List.getD_eq_getElem?_getD, hq]
      have hsucc : unionsL (MA.take (q + 1)) MB = unionsL (MA.take q) MB ++ MB.map fun y => ior .i64 MA[q] y := by
        unfold unionsL
        rw [List.take_succ_eq_append_getElem hq, List.flatMap_append, List.flatMap_singleton]
      generalize hU : addAll [] (unionsL (MA.take q) MB) = U at hUl
      refine KW.goLpR lay_ok T13_ok 100 rfl (I := fun p : Nat => ⟨Tryz.f83.ntmps, [(1, .e (lV MB)), (7, .e (.r 25)), (8, .e (.r 8)), (10, sI MA[q]), (26, .e (lV MA)), (27, sI MA.length), (28, sI q), (32, .e (lV MB)), (33, sI MB.length), (34, sI p)], [(8, .own 3 (ints (addAll U ((MB.take p).map fun y => ior .i64 MA[q] y)))), (25, .mset (addAll U ((MB.take p).map fun y => ior .i64 MA[q] y)).reverse)]⟩)
        (R := fun p => p ≤ MB.length) (m := fun p => MB.length - p) 0 [(8, 8), (25, 25)] rfl rfl ⟨rfl, rfl, rfl, by rw [← hg]; rfl, rfl, rfl, rfl, rfl, rfl, rfl, trivial⟩ (by simp; omega) (by simp) ⟨rfl, rfl, trivial⟩ ?_
      rintro p hp0
      have hVl : (addAll U ((MB.take p).map fun y => ior .i64 MA[q] y)).length ≤ 2097152 := by
        have := addAll_length ((MB.take p).map fun y => ior .i64 MA[q] y) U
        simp only [List.length_map, List.length_take] at this
        omega
      refine KW.goIf lay_ok T13_ok 100 rfl (by simp) rfl trivial (fun h4 => ?_) fun h4 => ?_
      · have hp : p < MB.length := by simpa using h4
        have hgp : MB.getD (Int.toNat (p : Int)) 0 = MB[p] := by simp [List.getD_eq_getElem?_getD, hp]
        have hps : addAll U ((MB.take (p + 1)).map fun y => ior .i64 MA[q] y) = addAll (addAll U ((MB.take p).map fun y => ior .i64 MA[q] y)) [ior .i64 MA[q] MB[p]] := by
          rw [List.take_succ_eq_append_getElem hp, List.map_append, addAll_append]; rfl
        generalize addAll U ((MB.take p).map fun y => ior .i64 MA[q] y) = V at hVl hps
        refine KW.go lay_ok T13_ok 100 rfl (by simp; omega) ?_
        refine KW.look lay_ok rfl rfl rfl rfl rfl rfl rfl rfl trivial trivial ?_
        rw [hgp]
        refine KW.goIf lay_ok T13_ok 100 rfl (by simp) rfl trivial (fun h5 => ?_) fun h5 => ?_
        · have hnot : ¬ ior .i64 MA[q] MB[p] ∈ V := by simpa using h5
          refine KW.go lay_ok T13_ok 100 rfl (by simp) ?_
          refine KW.mapPut lay_ok rfl rfl rfl rfl rfl rfl rfl trivial trivial ?_
          refine KW.goToR lay_ok T13_ok 100 rfl (p + 1) [(8, 50), (25, 25)] rfl rfl ⟨rfl, rfl, rfl, rfl, rfl, rfl, rfl, rfl, rfl, rfl, trivial⟩ (by simp [inK] <;> omega) ⟨by omega, by omega⟩ ⟨own_cat _ ?_, ?_, trivial⟩
          · rw [hps, addAll, addAll, if_neg hnot]
          · rw [hps, addAll, addAll, if_neg hnot, List.reverse_append]; rfl
        · have hin : ior .i64 MA[q] MB[p] ∈ V := by simpa using h5
          refine KW.goToR lay_ok T13_ok 100 rfl (p + 1) [(8, 8), (25, 25)] rfl rfl ⟨rfl, rfl, rfl, rfl, rfl, rfl, rfl, rfl, rfl, rfl, trivial⟩ (by simp [inK] <;> omega) ⟨by omega, by omega⟩ ⟨own_cat1 _ ?_, ?_, trivial⟩
          · rw [hps, addAll, addAll, if_pos hin]
          · rw [hps, addAll, addAll, if_pos hin]; rfl
      · have hp : p = MB.length := by simp at h4; omega
        have hfin : addAll U ((MB.take p).map fun y => ior .i64 MA[q] y) = addAll [] (unionsL (MA.take (q + 1)) MB) := by
          rw [hp, List.take_length, ← hU, hsucc, addAll_append]
        refine KW.goOut lay_ok T13_ok 100 rfl (by simp) ?_
        refine KW.goToR lay_ok T13_ok 100 rfl (q + 1) [(8, 8), (25, 25)] rfl rfl ⟨rfl, rfl, rfl, rfl, rfl, rfl, trivial⟩ (by simp [inK] <;> omega) ⟨by omega, by omega⟩ ⟨own_cat1 _ hfin, ?_, trivial⟩
        rw [← hfin]; rfl
    · have hq : q = MA.length := by simp at h3; omega
      have hU : addAll [] (unionsL (MA.take q) MB) = unionsC a b := by rw [hq, List.take_length]; unfold unionsC; rw [hA, hB]
      refine KW.goOut lay_ok T13_ok 100 rfl (by simp) ?_
      refine KW.go lay_ok T13_ok 100 rfl (by simp) ?_
      refine KW.frz 8 [53] rfl rfl rfl ?_
      refine KW.goRet lay_ok T13_ok 100 rfl rfl ?_ ?_ trivial
      · simp [SV.ren, renL, EV.ren, hU, h, unI_ints]
      · simp only [unI_ints, isI_ints, true_and, and_true]
        rw [hU]
        exact ⟨unionsC_valid va vb, by rw [← hU]; omega⟩
def T14 : Fns := (83, fLL (fun a b => .tup [lV (if bothE a b = 0 then limL (minS (unionsC a b)) else []), eV (if bothE a b = 0 then limE (minS (unionsC a b)) else bothE a b)]) fun _ _ => True) ::
  T13
theorem T14_ok : FnsOk Tryz.prog T14 := .cons (T13_ok) Tryz.func83 rfl rfl (fLL_ok fun a b _ => product_does a b)
end Go.Proofs.YtocnofkagckhkaaGreatDoor
end
section
set_option linter.unusedSectionVars false
set_option linter.unusedVariables false
set_option linter.unusedSimpArgs false
namespace Go.Proofs.YtocnofkagckhkaaGreatDoor
open Go.Sy Go.Pu
variable [Drw]
def T15 : Fns := T14
theorem T15_ok : FnsOk Tryz.prog T15 := T14_ok
end Go.Proofs.YtocnofkagckhkaaGreatDoor
namespace Go.Proofs.YtocnofkagckhkaaGreatDoor
open Go.Sy Go.Pu
variable [Drw]
theorem concat_does (ls : List (List Int)) (hb : ls.flatten.length ≤ 1099511627776) : DoesF Tryz.prog 152 [.c (intss ls)] [] (.e (lV ls.flatten)) [] := by
  have hsucc : ∀ q (hq : q < ls.length), (ls.take (q + 1)).flatten = (ls.take q).flatten ++ ls[q] := fun q hq => by
    rw [List.take_succ_eq_append_getElem hq, List.flatten_append]; simp
  have hle : ∀ q, (ls.take q).flatten.length ≤ ls.flatten.length := fun q => by
    conv => rhs; rw [← List.take_append_drop q ls, List.flatten_append, List.length_append]
    omega
  refine DoesF.body _ Tryz.func152 rfl rfl rfl rfl ?_
  refine KW.len 0 rfl rfl fun hla => ?_
  refine KW.goLp lay_ok T15_ok 100 rfl (I := fun q : Nat => ⟨Tryz.f152.ntmps, [(0, .e (.c (intss ls))), (3, sI ((ls.take q).flatten.length : Nat)), (9, .e (.c (intss ls))), (10, sI ls.length), (11, sI q)], []⟩) (R := fun q => q ≤ ls.length) (m := fun q => ls.length - q) 0 rfl ⟨rfl, rfl, rfl, rfl, rfl, trivial⟩ (by simp) (by simp) trivial ?_
  rintro q hq0
  refine KW.goIf lay_ok T15_ok 100 rfl (by simp) rfl trivial (fun h => ?_) fun h => ?_
  · have hq : q < ls.length := by simpa using h
    have hg : ls.getD (Int.toNat (q : Int)) [] = ls[q] := by simp [List.getD_eq_getElem?_getD, hq]
    have h1 := hle (q + 1)
    have h2 : ((ls.take (q + 1)).flatten.length : Int) = ((ls.take q).flatten.length : Nat) + ((ls.getD (Int.toNat (q : Int)) []).length : Nat) := by rw [hg, hsucc q hq, List.length_append]; omega
    have h3 : ((ls.take q).flatten.length : Int) + ((ls.getD (Int.toNat (q : Int)) []).length : Int) ≤ 1099511627776 := by rw [← h2]; omega
    refine KW.goIf lay_ok T15_ok 100 rfl (by simp only [inK, true_and, and_true]; omega) rfl trivial (fun h => ?_) fun h => ?_
    · have := of_decide_eq_true h
      omega
    · refine KW.goTo lay_ok T15_ok 100 rfl (q + 1) rfl ⟨rfl, ?_, rfl, rfl, rfl, trivial⟩ (by simp [inK] <;> omega) ⟨by omega, by omega⟩ trivial
      rw [h2]; rfl
  · have hq : q = ls.length := by simp at h; omega
    have hall : (ls.take q).flatten = ls.flatten := by rw [hq, List.take_length]
    rw [hall]
    refine KW.goOut lay_ok T15_ok 100 rfl (by simp) ?_
    refine KW.go lay_ok T15_ok 100 rfl (by simp) ?_
    refine KW.callO0 (grow_does ls.flatten.length hb) (enters Tryz.func166 rfl rfl) [] (.inl rfl) rfl rfl rfl rfl rfl trivial ⟨⟨_, _, rfl, trivial, .conv (CVEq.refl _)⟩, ⟨_, _, rfl, trivial, .conv (CVEq.refl _)⟩, trivial⟩ rfl (.inl rfl) ?_
    refine KW.goLpR lay_ok T15_ok 100 rfl (I := fun q : Nat => ⟨Tryz.f152.ntmps, [(6, .e (.r 24)), (25, .e (.c (intss ls))), (26, sI ls.length), (27, sI q)], [(24, .own 3 (ints (ls.take q).flatten))]⟩) (R := fun q => q ≤ ls.length) (m := fun q => ls.length - q) 0 [(24, 24)] rfl rfl ⟨rfl, rfl, rfl, rfl, trivial⟩ (by simp) (by simp) ⟨rfl, trivial⟩ ?_
    rintro q hq0
    refine KW.goIf lay_ok T15_ok 100 rfl (by simp) rfl trivial (fun h => ?_) fun h => ?_
    · have hq : q < ls.length := by simpa using h
      have hg : ls.getD (Int.toNat (q : Int)) [] = ls[q] := by simp [List.getD_eq_getElem?_getD, hq]
      have h1 := hle (q + 1)
      have h2 : (ls.take (q + 1)).flatten.length = (ls.take q).flatten.length + (ls.getD (Int.toNat (q : Int)) []).length := by rw [hg, hsucc q hq, List.length_append]
      refine KW.goToR lay_ok T15_ok 100 rfl (q + 1) [(24, 33)] rfl rfl ⟨rfl, rfl, rfl, rfl, trivial⟩ (by simp only [inK, true_and, and_true]; omega) ⟨by omega, by omega⟩ ⟨own_cat _ ?_, trivial⟩
      rw [hg, hsucc q hq]
    · have hq : q = ls.length := by simp at h; omega
      refine KW.goOut lay_ok T15_ok 100 rfl (by simp) ?_
      refine KW.goRetO lay_ok T15_ok 100 rfl 24 2 rfl rfl rfl ?_ (by simp <;> omega)
      rw [hq, List.take_length]
def T16 : Fns := (152, fLs (fun ls => .e (lV ls.flatten)) fun ls => ls.flatten.length ≤ 1099511627776) ::
  T15
theorem T16_ok : FnsOk Tryz.prog T16 := .cons (T15_ok) Tryz.func152 rfl rfl (fLs_ok fun ls h => concat_does ls h)
theorem plus_does (a b : List Int) : DoesF Tryz.prog 133 [lV a, lV b] [] (.tup [lV (if bothE a b = 0 then limL (minS (a ++ b)) else []), eV (if bothE a b = 0 then limE (minS (a ++ b)) else bothE a b)]) [] := by
  refine DoesF.body _ Tryz.func133 rfl rfl rfl rfl ?_
  refine KW.goIf lay_ok T16_ok 100 rfl (by simp) rfl trivial (fun h => ?_) fun h => ?_
  · refine KW.go lay_ok T16_ok 100 rfl (by simp) ?_
    refine KW.conv 4 (ints []) rfl ⟨rfl, rfl⟩ ?_
    refine KW.fin [] rfl rfl ?_ trivial
    simp [listsE_two] at h
    simp [SV.ren, renL, EV.ren, listsE_two, h]
  · simp [listsE_two] at h
    have h1 : listE a = 0 := by unfold bothE at h; split at h <;> simp_all
    have h2 : listE b = 0 := by unfold bothE at h; split at h <;> simp_all
    have la := listE_len h1
    have lb := listE_len h2
    have va := listE_valid h1
    have vb := listE_valid h2
    refine KW.go lay_ok T16_ok 100 rfl (by simp) ?_
    refine KW.frz1 16 rfl rfl rfl ?_
    refine KW.goRet lay_ok T16_ok 100 rfl rfl ?_ ?_ trivial
    · simp [SV.ren, renL, EV.ren, h, unI_ints]
    · simp only [List.map_cons, List.map_nil, Nat.zero_mul, Nat.one_mul, fill2, unII_rows2, unI_ints, isII_r2, isI_ints, true_and, and_true]
      simp only [List.flatten_cons, List.flatten_nil, List.append_nil, List.length_append]
      refine ⟨by omega, fun x hx => ?_, by omega⟩
      rcases List.mem_append.1 hx with hx | hx
      · exact va x hx
      · exact vb x hx
theorem rplus_does (a b : List Int) : DoesF Tryz.prog 119 [lV a, lV b] [] (.tup [lV (if bothE a b = 0 then limL (leastS (a ++ b)) else []), iV (if bothE a b = 0 then limE (leastS (a ++ b)) else bothE a b)]) [] := by
  refine DoesF.body _ Tryz.func119 rfl rfl rfl rfl ?_
  refine KW.goIf lay_ok T16_ok 100 rfl (by simp) rfl trivial (fun h => ?_) fun h => ?_
  · refine KW.go lay_ok T16_ok 100 rfl (by simp) ?_
    refine KW.conv 4 (ints []) rfl ⟨rfl, rfl⟩ ?_
    refine KW.fin [] rfl rfl ?_ trivial
    simp at h
    simp [SV.ren, renL, EV.ren, h]
  · simp at h
    have h1 : listE a = 0 := by unfold bothE at h; split at h <;> simp_all
    have h2 : listE b = 0 := by unfold bothE at h; split at h <;> simp_all
    have la := listE_len h1
    have lb := listE_len h2
    have hcat : catV (catV (ints []) (ints a)) (ints b) = ints (a ++ b) := by rw [catV_ints, catV_ints]; rfl
    refine KW.go lay_ok T16_ok 100 rfl (by simp; omega) ?_
    refine KW.frz1 17 rfl rfl rfl ?_
    refine KW.goRet lay_ok T16_ok 100 rfl rfl ?_ ?_ trivial
    · rw [hcat]
      simp [SV.ren, renL, EV.ren, h, unI_ints]
    · rw [hcat]
      simp [unI_ints]
      omega
theorem rproduct_does (a b : List Int) : DoesF Tryz.prog 95 [lV a, lV b] [] (.tup [lV (if bothE a b = 0 then limL (leastS (unionsL a b)) else []), iV (if bothE a b = 0 then limE (leastS (unionsL a b)) else bothE a b)]) [] := by
  refine DoesF.body _ Tryz.func95 rfl rfl rfl rfl ?_
  refine KW.goIf lay_ok T16_ok 100 rfl (by simp) rfl trivial (fun h => ?_) fun h => ?_
  · refine KW.go lay_ok T16_ok 100 rfl (by simp) ?_
    refine KW.conv 4 (ints []) rfl ⟨rfl, rfl⟩ ?_
    refine KW.fin [] rfl rfl ?_ trivial
    simp at h
    simp [SV.ren, renL, EV.ren, h]
  · simp at h
    have h1 : listE a = 0 := by unfold bothE at h; split at h <;> simp_all
    have h2 : listE b = 0 := by unfold bothE at h; split at h <;> simp_all
    have la := listE_len h1
    have lb := listE_len h2
    refine KW.go lay_ok T16_ok 100 rfl (by simp) ?_
    refine KW.nilO 7 7 3 (ints []) rfl rfl rfl ?_
    refine KW.lp (I := fun q : Nat => ⟨Tryz.f95.ntmps, [(1, .e (lV b)), (7, .e (.r 7)), (18, .e (lV a)), (19, sI a.length), (20, sI q)], [(7, .own 3 (ints (unionsL (a.take q) b)))]⟩)
      (R := fun q => q ≤ a.length) (m := fun q => a.length - q) 0 (by simp) [(7, 7)] ⟨rfl, rfl, ⟨rfl, rfl, rfl, rfl, rfl, trivial⟩, ⟨rfl, trivial⟩⟩ ?_
    rintro q hq0
    have hUl : (unionsL (a.take q) b).length ≤ 1048576 := by
      rw [unionsL_length]
      have : (a.take q).length * b.length ≤ 1024 * 1024 := Nat.mul_le_mul (by simp; omega) (by omega)
      omega
    refine KW.goIf lay_ok T16_ok 100 rfl (by simp) rfl trivial (fun h3 => ?_) fun h3 => ?_
    · have hq : q < a.length := by simpa using h3
      have hg : a.getD (Int.toNat (q : Int)) 0 = a[q] := by simp [List.getD_eq_getElem?_getD, hq]
      have hsucc : unionsL (a.take (q + 1)) b = unionsL (a.take q) b ++ b.map fun y => ior .i64 a[q] y := by
        unfold unionsL
        rw [List.take_succ_eq_append_getElem hq, List.flatMap_append, List.flatMap_singleton]
      generalize hU : unionsL (a.take q) b = U at hUl hsucc
      refine KW.goLpR lay_ok T16_ok 100 rfl (I := fun p : Nat => ⟨Tryz.f95.ntmps, [(1, .e (lV b)), (7, .e (.r 7)), (9, sI a[q]), (18, .e (lV a)), (19, sI a.length), (20, sI q), (24, .e (lV b)), (25, sI b.length), (26, sI p)], [(7, .own 3 (ints (U ++ (b.take p).map fun y => ior .i64 a[q] y)))]⟩)
        (R := fun p => p ≤ b.length) (m := fun p => b.length - p) 0 [(7, 7)] rfl rfl ⟨rfl, rfl, by rw [← hg]; rfl, rfl, rfl, rfl, rfl, rfl, rfl, trivial⟩ (by simp; omega) (by simp) ⟨own_cat1 _ (by simp), trivial⟩ ?_
      rintro p hp0
      refine KW.goIf lay_ok T16_ok 100 rfl (by simp) rfl trivial (fun h4 => ?_) fun h4 => ?_
      · have hp : p < b.length := by simpa using h4
        have hgp : b.getD (Int.toNat (p : Int)) 0 = b[p] := by simp [List.getD_eq_getElem?_getD, hp]
        have hps : U ++ (b.take (p + 1)).map (fun y => ior .i64 a[q] y) = (U ++ (b.take p).map fun y => ior .i64 a[q] y) ++ [ior .i64 a[q] b[p]] := by
          rw [List.take_succ_eq_append_getElem hp, List.map_append, List.append_assoc]; rfl
        have hVl : (U ++ (b.take p).map fun y => ior .i64 a[q] y).length ≤ 2097152 := by
          simp only [List.length_append, List.length_map, List.length_take]; omega
        generalize U ++ (b.take p).map (fun y => ior .i64 a[q] y) = V at hVl hps
        refine KW.goToR lay_ok T16_ok 100 rfl (p + 1) [(7, 35)] rfl rfl ⟨rfl, rfl, rfl, rfl, rfl, rfl, rfl, rfl, rfl, trivial⟩ (by simp [inK] <;> omega) ⟨by omega, by omega⟩ ⟨own_cat _ ?_, trivial⟩
        rw [hps, hgp]
      · have hp : p = b.length := by simp at h4; omega
        refine KW.goOut lay_ok T16_ok 100 rfl (by simp) ?_
        refine KW.goToR lay_ok T16_ok 100 rfl (q + 1) [(7, 7)] rfl rfl ⟨rfl, rfl, rfl, rfl, rfl, trivial⟩ (by simp [inK] <;> omega) ⟨by omega, by omega⟩ ⟨own_cat1 _ ?_, trivial⟩
        rw [hp, List.take_length, hsucc]
    · have hq : q = a.length := by simp at h3; omega
      have hU : unionsL (a.take q) b = unionsL a b := by rw [hq, List.take_length]
      refine KW.goOut lay_ok T16_ok 100 rfl (by simp) ?_
      refine KW.go lay_ok T16_ok 100 rfl (by simp) ?_
      refine KW.frz 7 [38] rfl rfl rfl ?_
      refine KW.goRet lay_ok T16_ok 100 rfl rfl ?_ ?_ trivial
      · simp [SV.ren, renL, EV.ren, hU, h, unI_ints]
      · simp only [unI_ints, isI_ints, true_and, and_true]
        omega
def T17 : Fns := (133, fLL (fun a b => .tup [lV (if bothE a b = 0 then limL (minS (a ++ b)) else []), eV (if bothE a b = 0 then limE (minS (a ++ b)) else bothE a b)]) fun _ _ => True) ::
  (119, fLL (fun a b => .tup [lV (if bothE a b = 0 then limL (leastS (a ++ b)) else []), iV (if bothE a b = 0 then limE (leastS (a ++ b)) else bothE a b)]) fun _ _ => True) ::
  (95, fLL (fun a b => .tup [lV (if bothE a b = 0 then limL (leastS (unionsL a b)) else []), iV (if bothE a b = 0 then limE (leastS (unionsL a b)) else bothE a b)]) fun _ _ => True) ::
  T16
theorem T17_ok : FnsOk Tryz.prog T17 := .cons (.cons (.cons (T16_ok) Tryz.func95 rfl rfl (fLL_ok fun a b _ => rproduct_does a b)) Tryz.func119 rfl rfl (fLL_ok fun a b _ => rplus_does a b)) Tryz.func133 rfl rfl (fLL_ok fun a b _ => plus_does a b)
end Go.Proofs.YtocnofkagckhkaaGreatDoor
namespace Go.Proofs.YtocnofkagckhkaaGreatDoor
open Go.Sy Go.Pu
variable [Drw]
def T18 : Fns := (17, fVI (fun v c => sB (decide (numV v ≠ 0) && decide (numV v = c))) fun v c => isErr 47 v) ::
  T17
theorem T18_ok : FnsOk Tryz.prog T18 := .cons (T17_ok) Tryz.func17 rfl rfl (fVI_ok fun v c h => is_does v c h)
end Go.Proofs.YtocnofkagckhkaaGreatDoor
namespace Go.Proofs.YtocnofkagckhkaaGreatDoor
open Go.Sy Go.Pu
variable [Drw]
theorem check_does (l : List Int) : DoesF Tryz.prog 24 [lV l] [] (.e (eV (checkE l))) [] := by
  refine DoesF.body _ Tryz.func24 rfl rfl rfl rfl ?_
  refine KW.goIf lay_ok T18_ok 100 rfl (by simp) rfl trivial (fun h => ?_) fun h => ?_
  · refine KW.goRet lay_ok T18_ok 100 rfl rfl ?_ (by simp) trivial
    simp [listsE_one] at h
    simp [SV.ren, EV.ren, listsE_one, checkE, h]
  · simp [listsE_one] at h
    have hlen := listE_len h
    have hv : Val l := listE_valid h
    refine KW.goIf lay_ok T18_ok 100 rfl (by simpa using ⟨hv, by omega⟩) rfl trivial (fun h1 => ?_) fun h1 => ?_
    · refine KW.goRet lay_ok T18_ok 100 rfl rfl ?_ (by simp) trivial
      have : ¬ l = sortedL l := by simpa using h1
      simp [SV.ren, EV.ren, checkE, h, this, errV]
    · have hs : l = sortedL l := by simpa using h1
      refine KW.goIf lay_ok T18_ok 100 rfl (by simpa using ⟨hv, by omega⟩) rfl trivial (fun h2 => ?_) fun h2 => ?_
      · refine KW.goRet lay_ok T18_ok 100 rfl rfl ?_ (by simp) trivial
        have : ¬ (minS l).length = l.length := by simp at h2; omega
        simp [SV.ren, EV.ren, checkE, h, ← hs, this, errV]
      · refine KW.goRet lay_ok T18_ok 100 rfl rfl ?_ (by simp) trivial
        have : (minS l).length = l.length := by simp at h2; omega
        simp [SV.ren, EV.ren, checkE, h, ← hs, this, errV]
end Go.Proofs.YtocnofkagckhkaaGreatDoor
end
section
set_option linter.unusedSectionVars false
set_option linter.unusedVariables false
set_option linter.unusedSimpArgs false
namespace Go.Proofs.YtocnofkagckhkaaGreatDoor
open Go.Sy Go.Pu
variable [Drw]
theorem has_does (s i : Int) : DoesF Tryz.prog 82 [iV s, iV i] [] (sB (hasB s i)) [] := by
  refine DoesF.body _ Tryz.func82 rfl rfl rfl rfl ?_
  refine KW.goRet lay_ok T17_ok 100 rfl rfl rfl ?_ trivial
  simp [bitsI]
  intros; omega
theorem rhas_does (s i : Int) : DoesF Tryz.prog 132 [iV s, iV i] [] (sB (hasB s i)) [] := by
  refine DoesF.body _ Tryz.func132 rfl rfl rfl rfl ?_
  refine KW.goRet lay_ok T17_ok 100 rfl rfl rfl ?_ trivial
  simp [bitsI]
  intros; omega
theorem len_does (x : Int) (h0 : 0 ≤ x) (h1 : x ≤ 18446744073709551615) : DoesF Tryz.prog 126 [.c (.lit (.int .u64 x))] [] (sI (Lib.bitLen x.toNat : Nat)) [] := by
  refine DoesF.ofSame (args := #[.int .u64 x]) rfl (fun o h args w hs => args1 (by exact hs.size) ?_) fun w => Any.bits_Len layLen x w h0 h1
  exact (show RepV o w (.lit (.int .u64 x)) _ from hs.slot 0 (.e (.c (.lit (.int .u64 x)))) rfl).1
def T20 : Fns := (82, fII (fun s i => sB (hasB s i)) fun _ _ => True) ::
  (132, fII (fun s i => sB (hasB s i)) fun _ _ => True) ::
  (126, fU (fun x => sI (Lib.bitLen x.toNat : Nat)) fun x => 0 ≤ x ∧ x ≤ 18446744073709551615) ::
  T17
theorem T20_ok : FnsOk Tryz.prog T20 := .cons (.cons (.cons (T17_ok) Tryz.func126 rfl rfl (fU_ok fun x h => len_does x h.1 h.2)) Tryz.func132 rfl rfl (fII_ok fun s i _ => rhas_does s i)) Tryz.func82 rfl rfl (fII_ok fun s i _ => has_does s i)
theorem elements_does (s : Int) : DoesF Tryz.prog 109 [iV s] [] (.e (lV (elemsS s))) [] := by
  refine DoesF.body _ Tryz.func109 rfl rfl rfl rfl ?_
  refine KW.go lay_ok T20_ok 100 rfl (by simp) ?_
  refine KW.nilO 3 3 3 (ints []) rfl rfl rfl ?_
  refine KW.lp (I := fun q : Nat => ⟨Tryz.f109.ntmps, [(0, sI s), (3, .e (.r 3)), (5, sI q)], [(3, .own 3 (ints (elemsN s q)))]⟩)
    (R := fun q => q ≤ 24) (m := fun q => 24 - q) 0 (by simp) [(3, 3)] ⟨rfl, rfl, ⟨rfl, rfl, rfl, trivial⟩, ⟨rfl, trivial⟩⟩ ?_
  rintro q hq0
  have hlen := elemsN_length s q
  refine KW.goIf lay_ok T20_ok 100 rfl (by simp) rfl trivial (fun h => ?_) fun h => ?_
  · have hq : q < 24 := by simp at h; omega
    refine KW.goIf lay_ok T20_ok 100 rfl (by simp) rfl trivial (fun h1 => ?_) fun h1 => ?_
    · have hb : bit s q = true := by rw [← hasB_nat s hq]; exact h1
      refine KW.goToR lay_ok T20_ok 100 rfl (q + 1) [(3, 14)] rfl rfl ⟨rfl, rfl, rfl, trivial⟩ (by simp [inK] <;> omega) ⟨by omega, by omega⟩ ⟨own_cat _ ?_, trivial⟩
      rw [elemsN_succ, hb]; rfl
    · have hb : bit s q = false := by rw [← hasB_nat s hq]; exact h1
      refine KW.goToR lay_ok T20_ok 100 rfl (q + 1) [(3, 3)] rfl rfl ⟨rfl, rfl, rfl, trivial⟩ (by simp [inK] <;> omega) ⟨by omega, by omega⟩ ⟨own_cat1 _ ?_, trivial⟩
      rw [elemsN_succ, hb]; simp
  · have hq : q = 24 := by simp at h; omega
    subst hq
    refine KW.goOut lay_ok T20_ok 100 rfl (by simp) ?_
    exact KW.goRetO lay_ok T20_ok 100 rfl 3 2 rfl rfl rfl rfl (by simp)
def T21 : Fns := (109, fI (fun s => .e (lV (elemsS s))) fun _ => True) ::
  T20
theorem T21_ok : FnsOk Tryz.prog T21 := .cons (T20_ok) Tryz.func109 rfl rfl (fI_ok fun s _ => elements_does s)
def T22 : Fns := (17, fVI (fun v c => sB (decide (numV v ≠ 0) && decide (numV v = c))) fun v c => isErr 47 v) ::
  T21
theorem T22_ok : FnsOk Tryz.prog T22 := .cons (T21_ok) Tryz.func17 rfl rfl (fVI_ok fun v c h => is_does v c h)
end Go.Proofs.YtocnofkagckhkaaGreatDoor
namespace Go.Proofs.YtocnofkagckhkaaGreatDoor
open Go.Sy Go.Pu
variable [Drw]
theorem one_inK {q : Nat} (hq : q < 24) : 0 ≤ ishl 1 (q : Int) ∧ ishl 1 (q : Int) ≤ 16777215 := validS_iff.1 (one_valid hq)
theorem singles_does (s : Int) : DoesF Tryz.prog 96 [iV s] [] (.e (lV (singS s))) [] := by
  refine DoesF.body _ Tryz.func96 rfl rfl rfl rfl ?_
  have hl24 : (elemsS s).length ≤ 24 := elemsN_length s 24
  refine KW.go lay_ok T22_ok 100 rfl (by simp) ?_
  refine KW.nilO 3 3 3 (ints []) rfl rfl rfl ?_
  refine KW.lp (I := fun q : Nat => ⟨Tryz.f96.ntmps, [(3, .e (.r 3)), (7, .e (lV (elemsS s))), (8, sI (elemsS s).length), (9, sI q)], [(3, .own 3 (ints (((elemsS s).take q).map fun i => ishl 1 i)))]⟩)
    (R := fun q => q ≤ (elemsS s).length) (m := fun q => (elemsS s).length - q) 0 (by simp) [(3, 3)] ⟨rfl, rfl, ⟨rfl, rfl, rfl, rfl, trivial⟩, ⟨rfl, trivial⟩⟩ ?_
  rintro q hq0
  refine KW.goIf lay_ok T22_ok 100 rfl (by simp) rfl trivial (fun h => ?_) fun h => ?_
  · have hq : q < (elemsS s).length := by simpa using h
    have hg : (elemsS s).getD (Int.toNat (q : Int)) 0 = (elemsS s)[q] := by simp [List.getD_eq_getElem?_getD, hq]
    obtain ⟨i, hi, _, hix⟩ := mem_elemsS.1 (List.getElem_mem hq)
    have h1 := one_inK hi
    have h2 : (((elemsS s).take q).map fun i => ishl 1 i).length = q := by simp; omega
    have hge : (elemsS s).getD (Int.toNat (q : Int)) 0 = (i : Int) := hg.trans hix
    refine KW.goToR lay_ok T22_ok 100 rfl (q + 1) [(3, 17)] rfl rfl ⟨rfl, rfl, rfl, rfl, trivial⟩ (by rw [hge]; simp only [inK, bitsI, true_and, and_true, h2]; simp; omega) ⟨by omega, by omega⟩ ⟨own_cat _ ?_, trivial⟩
    rw [List.take_succ_eq_append_getElem hq, List.map_append, hg]; rfl
  · have hq : q = (elemsS s).length := by simp at h; omega
    refine KW.goOut lay_ok T22_ok 100 rfl (by simp) ?_
    refine KW.goRetO lay_ok T22_ok 100 rfl 3 2 rfl rfl rfl ?_ (by simp <;> omega)
    rw [hq, List.take_length, singS_eq]
theorem all_does (l : List Int) : DoesF Tryz.prog 41 [lV l] [] (.tup [lV (if hitE l = 0 then hitL l else []), eV (hitE l)]) [] := by
  refine DoesF.body _ Tryz.func41 rfl rfl rfl rfl ?_
  refine KW.goIf lay_ok T22_ok 100 rfl (by simp) rfl trivial (fun h => ?_) fun h => ?_
  · refine KW.go lay_ok T22_ok 100 rfl (by simp) ?_
    refine KW.conv 2 (ints []) rfl ⟨rfl, rfl⟩ ?_
    refine KW.fin [] rfl rfl ?_ trivial
    simp at h
    simp [SV.ren, renL, EV.ren, hitE, h]
  · simp at h
    have hv : Val l := listE_valid h
    have hml := minS_length l
    have hll := listE_len h
    have hE : hitE l = (allC [0] (minS l)).2 := by simp [hitE, h]
    have hL : hitL l = (allC [0] (minS l)).1 := by simp [hitL, h]
    rw [hE, hL]
    refine KW.go lay_ok T22_ok 100 rfl (by simp) ?_
    refine KW.frz 19 [6] rfl rfl rfl ?_
    simp only [unI_ints, h, if_true]
    generalize minS l = M at hml
    refine KW.lp (I := fun q : List Int × Nat => ⟨Tryz.f41.ntmps, [(6, .e (lV q.1)), (20, .e (lV M)), (21, sI M.length), (22, sI q.2)], []⟩)
      (R := fun q => q.2 ≤ M.length ∧ Fam q.1 ∧ allC q.1 (M.drop q.2) = allC [0] M) (m := fun q => M.length - q.2) ([0], 0) ⟨by simp, Fam.zero, by simp⟩ [] ⟨rfl, rfl, ⟨rfl, rfl, rfl, rfl, trivial⟩, trivial⟩ ?_
    rintro ⟨out, q⟩ ⟨h1, h2, h3⟩
    simp only at h1 h2 h3
    refine KW.goIf lay_ok T22_ok 100 rfl (by simp) rfl trivial (fun h4 => ?_) fun h4 => ?_
    · have hq : q < M.length := by simpa using h4
      have hg : M.getD (Int.toNat (q : Int)) 0 = M[q] := by simp [List.getD_eq_getElem?_getD, hq]
      have hd : M.drop q = M[q] :: M.drop (q + 1) := List.drop_eq_getElem_cons hq
      rw [hd, allC] at h3
      refine KW.go lay_ok T22_ok 100 rfl (by simp; omega) ?_
      refine KW.nilO 9 9 3 (ints []) rfl rfl rfl ?_
      refine KW.lp (I := fun p : Nat => ⟨Tryz.f41.ntmps, [(6, .e (lV out)), (8, sI M[q]), (9, .e (.r 9)), (20, .e (lV M)), (21, sI M.length), (22, sI q), (26, sI p)], [(9, .own 3 (ints (singN M[q] p)))]⟩)
        (R := fun p => p ≤ 24) (m := fun p => 24 - p) 0 (by simp) [(9, 9)] ⟨rfl, rfl, ⟨rfl, by rw [← hg]; rfl, rfl, rfl, rfl, rfl, rfl, trivial⟩, ⟨rfl, trivial⟩⟩ ?_
      rintro p hp0
      have hlen := singN_length M[q] p
      refine KW.goIf lay_ok T22_ok 100 rfl (by simp) rfl trivial (fun h5 => ?_) fun h5 => ?_
      · have hp : p < 24 := by simp at h5; omega
        have h1 := one_inK hp
        refine KW.goIf lay_ok T22_ok 100 rfl (by simp) rfl trivial (fun h6 => ?_) fun h6 => ?_
        · have hb : bit M[q] p = true := by rw [← hasB_nat _ hp]; exact h6
          refine KW.goToR lay_ok T22_ok 100 rfl (p + 1) [(9, 36)] rfl rfl ⟨rfl, rfl, rfl, rfl, rfl, rfl, rfl, trivial⟩ (by simp [inK, bitsI] <;> omega) ⟨by omega, by omega⟩ ⟨own_cat _ ?_, trivial⟩
          rw [singN_succ, hb]; rfl
        · have hb : bit M[q] p = false := by rw [← hasB_nat _ hp]; exact h6
          refine KW.goToR lay_ok T22_ok 100 rfl (p + 1) [(9, 9)] rfl rfl ⟨rfl, rfl, rfl, rfl, rfl, rfl, rfl, trivial⟩ (by simp [inK] <;> omega) ⟨by omega, by omega⟩ ⟨own_cat1 _ ?_, trivial⟩
          rw [singN_succ, hb]; simp
      · have hp : p = 24 := by simp at h5; omega
        subst hp
        refine KW.goOut lay_ok T22_ok 100 rfl (by simp) ?_
        refine KW.go lay_ok T22_ok 100 rfl (by simp) ?_
        refine KW.frz 9 [40] rfl rfl rfl ?_
        refine KW.goIf lay_ok T22_ok 100 rfl (by simp) rfl trivial (fun h7 => ?_) fun h7 => ?_
        · have h7' : ¬ stepA out M[q] = 0 := by
            have e : (!isNilB (errV 47 (stepA out M[q]))) = true := by simp only [unI_ints] at h7; exact h7
            simpa using e
          rw [if_neg h7'] at h3
          refine KW.goOutR lay_ok T22_ok 100 rfl (by simp) ?_
          refine KW.go lay_ok T22_ok 100 rfl (by simp) ?_
          refine KW.conv 2 (ints []) rfl ⟨rfl, rfl⟩ ?_
          refine KW.fin [] rfl rfl ?_ trivial
          rw [← h3]
          simp only [unI_ints, SV.ren, renL, EV.ren]
          rw [if_neg h7']
          rfl
        · have h7' : stepA out M[q] = 0 := by
            have e : (!isNilB (errV 47 (stepA out M[q]))) = false := by simp only [unI_ints] at h7; exact h7
            simpa using e
          rw [if_pos h7'] at h3
          refine KW.goTo lay_ok T22_ok 100 rfl (resA out M[q], q + 1) rfl ⟨by simp only [unI_ints]; rfl, rfl, rfl, rfl, trivial⟩ (by simp [inK] <;> omega) ⟨⟨by simp only; omega, (h2.step h7').1, h3⟩, by simp only; omega⟩ trivial
    · have hq : q = M.length := by simp at h4; omega
      refine KW.goOut lay_ok T22_ok 100 rfl (by simp) ?_
      refine KW.goRet lay_ok T22_ok 100 rfl rfl ?_ (by simp) trivial
      rw [hq, List.drop_length, allC] at h3
      rw [← h3]
      simp [SV.ren, renL, EV.ren, errV]
end Go.Proofs.YtocnofkagckhkaaGreatDoor
namespace Go.Proofs.YtocnofkagckhkaaGreatDoor
open Go.Sy Go.Pu
variable [Drw]
def T23 : Fns := (96, fI (fun s => .e (lV (singS s))) fun _ => True) ::
  (41, fL (fun l => .tup [lV (if hitE l = 0 then hitL l else []), eV (hitE l)]) fun _ => True) ::
  T22
theorem T23_ok : FnsOk Tryz.prog T23 := .cons (.cons (T22_ok) Tryz.func41 rfl rfl (fL_ok fun l _ => all_does l)) Tryz.func96 rfl rfl (fI_ok fun s _ => singles_does s)
theorem rall_does (l : List Int) : DoesF Tryz.prog 51 [lV l] [] (.tup [lV (if hitE l = 0 then hitL l else []), iV (hitE l)]) [] := by
  refine DoesF.body _ Tryz.func51 rfl rfl rfl rfl ?_
  refine KW.goIf lay_ok T23_ok 100 rfl (by simp) rfl trivial (fun h => ?_) fun h => ?_
  · refine KW.go lay_ok T23_ok 100 rfl (by simp) ?_
    refine KW.conv 2 (ints []) rfl ⟨rfl, rfl⟩ ?_
    refine KW.fin [] rfl rfl ?_ trivial
    simp at h
    simp [SV.ren, renL, EV.ren, hitE, h]
  · simp at h
    have hv : Val l := listE_valid h
    have hll := listE_len h
    have hml := minS_length l
    have hE : hitE l = (Pu.allR [0] (leastS l)).2 := by rw [← minS_eq hv, ← all_eq _ Fam.zero]; simp [hitE, h]
    have hL : hitL l = (Pu.allR [0] (leastS l)).1 := by rw [← minS_eq hv, ← all_eq _ Fam.zero]; simp [hitL, h]
    rw [hE, hL]
    rw [minS_eq hv] at hml
    refine KW.go lay_ok T23_ok 100 rfl (by simp; omega) ?_
    refine KW.frz 15 [5] rfl rfl rfl ?_
    simp only [unI_ints]
    generalize leastS l = M at hml
    refine KW.lp (I := fun q : List Int × Nat => ⟨Tryz.f51.ntmps, [(5, .e (lV q.1)), (17, .e (lV M)), (18, sI M.length), (19, sI q.2)], []⟩)
      (R := fun q => q.2 ≤ M.length ∧ Pu.allR q.1 (M.drop q.2) = Pu.allR [0] M) (m := fun q => M.length - q.2) ([0], 0) ⟨by simp, by simp⟩ [] ⟨rfl, rfl, ⟨rfl, rfl, rfl, rfl, trivial⟩, trivial⟩ ?_
    rintro ⟨out, q⟩ ⟨h1, h3⟩
    simp only at h1 h3
    refine KW.goIf lay_ok T23_ok 100 rfl (by simp) rfl trivial (fun h4 => ?_) fun h4 => ?_
    · have hq : q < M.length := by simpa using h4
      have hg : M.getD (Int.toNat (q : Int)) 0 = M[q] := by simp [List.getD_eq_getElem?_getD, hq]
      have hd : M.drop q = M[q] :: M.drop (q + 1) := List.drop_eq_getElem_cons hq
      rw [hd, Pu.allR] at h3
      refine KW.goIf lay_ok T23_ok 100 rfl (by simp; omega) rfl trivial (fun h5 => ?_) fun h5 => ?_
      · simp only [unI_ints, hg] at h5
        have h5' : ¬ stepR out M[q] = 0 := by
          have e : (stepR out M[q] != 0) = true := h5
          simpa using e
        rw [if_neg h5'] at h3
        refine KW.goOutR lay_ok T23_ok 100 rfl (by simp) ?_
        refine KW.go lay_ok T23_ok 100 rfl (by simp) ?_
        refine KW.conv 2 (ints []) rfl ⟨rfl, rfl⟩ ?_
        refine KW.fin [] rfl rfl ?_ trivial
        rw [← h3]
        simp only [unI_ints, hg, SV.ren, renL, EV.ren]
        rw [if_neg h5']
        rfl
      · simp only [unI_ints, hg] at h5
        have h5' : stepR out M[q] = 0 := by
          have e : (stepR out M[q] != 0) = false := h5
          simpa using e
        rw [if_pos h5'] at h3
        refine KW.goTo lay_ok T23_ok 100 rfl (resR out M[q], q + 1) rfl ⟨by simp only [unI_ints, hg]; rfl, rfl, rfl, rfl, trivial⟩ (by simp [inK] <;> omega) ⟨⟨by simp only; omega, h3⟩, by simp only; omega⟩ trivial
    · have hq : q = M.length := by simp at h4; omega
      refine KW.goOut lay_ok T23_ok 100 rfl (by simp) ?_
      refine KW.goRet lay_ok T23_ok 100 rfl rfl ?_ (by simp) trivial
      rw [hq, List.drop_length, Pu.allR] at h3
      rw [← h3]
      simp [SV.ren, renL, EV.ren]
def T24 : Fns := (51, fL (fun l => .tup [lV (if hitE l = 0 then hitL l else []), iV (hitE l)]) fun _ => True) ::
  T23
theorem T24_ok : FnsOk Tryz.prog T24 := .cons (T23_ok) Tryz.func51 rfl rfl (fL_ok fun l _ => rall_does l)
end Go.Proofs.YtocnofkagckhkaaGreatDoor
end
section
set_option linter.unusedSectionVars false
set_option linter.unusedVariables false
set_option linter.unusedSimpArgs false
namespace Go.Pu
open Go.Sy
variable [Drw]
abbrev LS := List Int
def plusP (a b : LS) : LS × Int := if bothE a b = 0 then (limL (minS (a ++ b)), limE (minS (a ++ b))) else ([], bothE a b)
def prodP (a b : LS) : LS × Int := if bothE a b = 0 then (limL (minS (unionsC a b)), limE (minS (unionsC a b))) else ([], bothE a b)
theorem listE_val {l : LS} (h : listE l = 0) : Val l ∧ l.length ≤ 1024 := by
  unfold listE at h
  split at h
  · cases h
  · split at h
    · rename_i h1 h2; exact ⟨fun x hx => (List.all_eq_true.1 h2) x hx, by omega⟩
    · cases h
theorem bothE_val {a b : LS} (h : bothE a b = 0) : (Val a ∧ a.length ≤ 1024) ∧ (Val b ∧ b.length ≤ 1024) := by
  unfold bothE at h
  split at h
  · rename_i h1; exact ⟨listE_val h1, listE_val h⟩
  · rename_i h1; exact absurd h h1
theorem plus_ref (a b : LS) : plusP a b = if bothE a b = 0 then (limL (leastS (a ++ b)), limE (leastS (a ++ b))) else ([], bothE a b) := by
  unfold plusP
  split
  · rename_i h
    obtain ⟨⟨ha, _⟩, hb, _⟩ := bothE_val h
    rw [minS_eq (ha.append hb)]
  · rfl
theorem prod_ref (a b : LS) : prodP a b = if bothE a b = 0 then (limL (leastS (unionsL a b)), limE (leastS (unionsL a b))) else ([], bothE a b) := by
  unfold prodP
  split
  · rename_i h
    obtain ⟨⟨ha, _⟩, hb, _⟩ := bothE_val h
    rw [minS_unionsC ha hb, minS_eq (ha.unionsL hb)]
  · rfl
theorem plus_fam {a b : LS} (h : (plusP a b).2 = 0) : Fam (plusP a b).1 := by
  unfold plusP at h ⊢
  split at h
  · rename_i hb
    rw [if_pos hb]
    obtain ⟨⟨ha, _⟩, hb', _⟩ := bothE_val hb
    obtain ⟨h1, h2⟩ := limL_zero h
    simp only [h1]
    exact ⟨(ha.append hb').minS, h2, (anti_min (ha.append hb')).2.1⟩
  · rename_i hb; exact absurd h hb
theorem prod_fam {a b : LS} (h : (prodP a b).2 = 0) : Fam (prodP a b).1 := by
  unfold prodP at h ⊢
  split at h
  · rename_i hb
    rw [if_pos hb]
    obtain ⟨⟨ha, _⟩, hb', _⟩ := bothE_val hb
    obtain ⟨h1, h2⟩ := limL_zero h
    simp only [h1]
    exact ⟨(ha.unionsC hb').minS, h2, (anti_min (ha.unionsC hb')).2.1⟩
  · rename_i hb; exact absurd h hb
def foldP (op : LS → LS → LS × Int) : List LS → LS → LS × Int
  | [], acc => (acc, 0)
  | r :: rs, acc => if (op acc r).2 = 0 then foldP op rs (op acc r).1 else ([], (op acc r).2)
def voteJ (row : LS) : Nat → List LS → List LS × Int
  | 0, tab => (tab, 0)
  | j + 1, tab => if (prodP (tab.getD j []) row).2 = 0 then
      if (plusP (tab.getD (j + 1) []) (prodP (tab.getD j []) row).1).2 = 0 then voteJ row j (tab.set (j + 1) (plusP (tab.getD (j + 1) []) (prodP (tab.getD j []) row).1).1)
      else ([], (plusP (tab.getD (j + 1) []) (prodP (tab.getD j []) row).1).2)
    else ([], (prodP (tab.getD j []) row).2)
def voteR (k : Nat) : List LS → List LS → List LS × Int
  | [], tab => (tab, 0)
  | r :: rs, tab => if (voteJ r k tab).2 = 0 then voteR k rs (voteJ r k tab).1 else ([], (voteJ r k tab).2)
def tab0 (k : Nat) : List LS := (List.replicate (k + 1) []).set 0 [0]
def voteP (rows : List LS) (k : Nat) : LS × Int := if (voteR k rows (tab0 k)).2 = 0 then ((voteR k rows (tab0 k)).1.getD k [], 0) else ([], (voteR k rows (tab0 k)).2)
def nodePS (kind k : Int) (rows : List LS) : LS × Int :=
  if kind = 0 then (if k = 0 then [0] else [], 0)
  else if kind = 3 then foldP prodP rows [0]
  else if kind = 2 then foldP plusP rows []
  else voteP rows ((rows.length : Int) - k + 1).toNat
def runP : List NodeP → List LS → List LS × Int
  | [], fam => (fam, 0)
  | x :: r, fam => if (nodePS x.kind x.k (x.args.map fun a => fam.getD a.toNat [])).2 = 0 then runP r (fam ++ [(nodePS x.kind x.k (x.args.map fun a => fam.getD a.toNat [])).1])
    else ([], (nodePS x.kind x.k (x.args.map fun a => fam.getD a.toNat [])).2)
theorem runP_append : ∀ (l : List NodeP) (fam : List LS) (x : NodeP), (runP l fam).2 = 0 → runP (l ++ [x]) fam = runP [x] (runP l fam).1
  | [], fam, x, _ => rfl
  | y :: l, fam, x, h => by
    rw [runP] at h
    split at h
    · rename_i h1
      rw [List.cons_append, runP, if_pos h1, runP_append l _ x h]
      rw [show runP (y :: l) fam = _ from by rw [runP, if_pos h1]]
    · rename_i h1; exact absurd h h1
theorem runP_bad : ∀ (l l' : List NodeP) (fam : List LS), ¬ (runP l fam).2 = 0 → runP (l ++ l') fam = runP l fam
  | [], l', fam, h => absurd rfl h
  | y :: l, l', fam, h => by
    rw [List.cons_append, runP]
    rw [runP] at h ⊢
    split
    · rename_i h1; rw [if_pos h1] at h; exact runP_bad l l' _ h
    · rfl
theorem runP_length : ∀ (l : List NodeP) (fam : List LS), (runP l fam).2 = 0 → (runP l fam).1.length = fam.length + l.length
  | [], fam, _ => by simp [runP]
  | x :: l, fam, h => by
    rw [runP] at h ⊢
    split at h
    · rename_i h1
      rw [if_pos h1, runP_length l _ h]; simp; omega
    · rename_i h1; exact absurd h h1
def fam0 (n : Nat) : List LS := (List.range n).map fun i => [one i]
def pathsE (f : FormP) : Int := (runP (trimF f).nodes (fam0 f.vars.toNat)).2
def pathsL (f : FormP) : LS := if pathsE f = 0 then (runP (trimF f).nodes (fam0 f.vars.toNat)).1.getD (trimF f).top.toNat [] else []
def argR (n : Nat) (tab : List LS) (a : Int) : LS := if a < n then [one a.toNat] else tab.getD (a - n).toNat []
def runR (n : Nat) (ns : List NodeP) (m : List Bool) : Nat → List LS × Int
  | 0 => (List.replicate ns.length [], 0)
  | i + 1 => if (runR n ns m i).2 = 0 then
      if m.getD (n + i) false = true then
        if (nodePS (ns.getD i node0).kind (ns.getD i node0).k ((ns.getD i node0).args.map (argR n (runR n ns m i).1))).2 = 0 then ((runR n ns m i).1.set i (nodePS (ns.getD i node0).kind (ns.getD i node0).k ((ns.getD i node0).args.map (argR n (runR n ns m i).1))).1, 0)
        else ([], (nodePS (ns.getD i node0).kind (ns.getD i node0).k ((ns.getD i node0).args.map (argR n (runR n ns m i).1))).2)
      else runR n ns m i
    else runR n ns m i
theorem runP_one (x : NodeP) (fam : List LS) : runP [x] fam = if (nodePS x.kind x.k (x.args.map fun a => fam.getD a.toNat [])).2 = 0 then (fam ++ [(nodePS x.kind x.k (x.args.map fun a => fam.getD a.toNat [])).1], 0) else ([], (nodePS x.kind x.k (x.args.map fun a => fam.getD a.toNat [])).2) := by
  rw [runP]; rfl
theorem runR_succ (n : Nat) (ns : List NodeP) (m : List Bool) (i : Nat) : runR n ns m (i + 1) = if (runR n ns m i).2 = 0 then
      if m.getD (n + i) false = true then
        if (nodePS (ns.getD i node0).kind (ns.getD i node0).k ((ns.getD i node0).args.map (argR n (runR n ns m i).1))).2 = 0 then ((runR n ns m i).1.set i (nodePS (ns.getD i node0).kind (ns.getD i node0).k ((ns.getD i node0).args.map (argR n (runR n ns m i).1))).1, 0)
        else ([], (nodePS (ns.getD i node0).kind (ns.getD i node0).k ((ns.getD i node0).args.map (argR n (runR n ns m i).1))).2)
      else runR n ns m i
    else runR n ns m i := rfl
theorem getD_app_left {α : Type} {l : List α} {x d : α} {i : Nat} (h : i < l.length) : (l ++ [x]).getD i d = l.getD i d := by
  simp [List.getD_eq_getElem?_getD, List.getElem?_append_left h]
theorem getD_app_last {α : Type} {l : List α} {x d : α} {i : Nat} (h : i = l.length) : (l ++ [x]).getD i d = x := by
  subst h; simp [List.getD_eq_getElem?_getD]
theorem getD_set_far {α : Type} {l : List α} {x d : α} {i j : Nat} (h : i ≠ j) : (l.set i x).getD j d = l.getD j d := by
  simp [List.getD_eq_getElem?_getD, List.getElem?_set_ne h]
theorem getD_set_at {α : Type} {l : List α} {x d : α} {i : Nat} (h : i < l.length) : (l.set i x).getD i d = x := by
  simp [List.getD_eq_getElem?_getD, h]
section
variable {n : Nat} {ns : List NodeP} {m : List Bool}
theorem run_eq (hcl : ∀ (i : Nat) (h : i < ns.length), m.getD (n + i) false = true → ∀ a ∈ ns[i].args, m.getD a.toNat false = true ∧ 0 ≤ a ∧ a.toNat < n + i) : ∀ i, i ≤ ns.length →
    (runP (trimN n ns m i).2 (fam0 n)).2 = (runR n ns m i).2 ∧ ((runR n ns m i).2 = 0 → (runR n ns m i).1.length = ns.length ∧
      ∀ j, j < n + i → m.getD j false = true → 0 ≤ (trimN n ns m i).1.getD j 0 ∧ ((trimN n ns m i).1.getD j 0).toNat < n + (trimN n ns m i).2.length ∧ argR n (runR n ns m i).1 j = (runP (trimN n ns m i).2 (fam0 n)).1.getD ((trimN n ns m i).1.getD j 0).toNat [])
  | 0, _ => by
    refine ⟨rfl, fun _ => ⟨by simp [runR], fun j hj _ => ?_⟩⟩
    have hj' : j < n := by omega
    have e : (trimN n ns m 0).1.getD j 0 = (j : Int) := by
      simp [trimN, List.getD_eq_getElem?_getD, show j < n + ns.length by omega, hj']
    rw [e]
    refine ⟨by omega, by simp [trimN]; omega, ?_⟩
    simp [argR, runP, trimN, fam0, List.getD_eq_getElem?_getD, hj']
  | i + 1, hi => by
    obtain ⟨ih1, ih2⟩ := run_eq hcl i (by omega)
    have hi' : i < ns.length := by omega
    have htl := trimN_len n ns m i
    have e1 := trimN_succ n ns m i
    have e2 := runR_succ n ns m i
    have hX : ns.getD i node0 = ns[i] := by simp [List.getD_eq_getElem?_getD, hi']
    by_cases h0 : (runR n ns m i).2 = 0
    · obtain ⟨hlen, hrel⟩ := ih2 h0
      rw [if_pos h0] at e2
      by_cases hm : m.getD (n + i) false = true
      · rw [if_pos hm] at e1 e2
        have hP0 : (runP (trimN n ns m i).2 (fam0 n)).2 = 0 := by rw [ih1, h0]
        have hfl : (runP (trimN n ns m i).2 (fam0 n)).1.length = n + (trimN n ns m i).2.length := by rw [runP_length _ _ hP0]; simp [fam0]
        have hc := hcl i hi' hm
        rw [hX] at e1 e2
        generalize ns[i] = X at hc e1 e2
        generalize hTT : trimN n ns m i = TT at *
        obtain ⟨mv, kept⟩ := TT
        generalize hRR : runR n ns m i = RR at *
        obtain ⟨tab, er⟩ := RR
        simp only at h0 hlen hrel e1 e2 hP0 hfl htl
        generalize hFF : runP kept (fam0 n) = FF at *
        obtain ⟨fam, fe⟩ := FF
        simp only at hP0 hfl hrel
        have hrows : X.args.map (argR n tab) = (X.args.map fun a => mv.getD a.toNat 0).map fun a => fam.getD a.toNat [] := by
          rw [List.map_map]
          refine List.map_congr_left fun a ha => ?_
          obtain ⟨k1, k2, k3⟩ := hc a ha
          have := (hrel a.toNat (by omega) k1).2.2
          rw [Int.toNat_of_nonneg k2] at this
          exact this
        rw [hrows] at e2
        have e3 : runP (trimN n ns m (i + 1)).2 (fam0 n) = runP [⟨X.kind, X.k, X.args.map fun a => mv.getD a.toNat 0⟩] fam := by
          rw [e1]
          have := runP_append kept (fam0 n) ⟨X.kind, X.k, X.args.map fun a => mv.getD a.toNat 0⟩ (by rw [hFF]; exact hP0)
          rw [this, hFF]
        rw [runP_one] at e3
        simp only at e3
        generalize hp : nodePS X.kind X.k ((X.args.map fun a => mv.getD a.toNat 0).map fun a => fam.getD a.toNat []) = p at e2 e3
        by_cases hp0 : p.2 = 0
        · rw [if_pos hp0] at e2 e3
          rw [e1, e2] 
          rw [e1] at e3
          simp only at e3
          rw [e3]
          refine ⟨rfl, fun _ => ⟨by simp [hlen], fun j hj hjm => ?_⟩⟩
          simp only [List.length_append, List.length_cons, List.length_nil]
          by_cases hji : j = n + i
          · subst hji
            have e4 : (mv.set (n + i) ((n : Int) + (kept.length : Int))).getD (n + i) 0 = (n : Int) + (kept.length : Int) := getD_set_at (by omega)
            rw [e4]
            refine ⟨by omega, by omega, ?_⟩
            rw [getD_app_last (by rw [hfl]; omega), argR, if_neg (by omega), show Int.toNat (((n + i : Nat) : Int) - (n : Int)) = i by omega, getD_set_at (by omega)]
          · obtain ⟨k1, k2, k3⟩ := hrel j (by omega) hjm
            have e4 : (mv.set (n + i) ((n : Int) + (kept.length : Int))).getD j 0 = mv.getD j 0 := getD_set_far (Ne.symm hji)
            rw [e4]
            refine ⟨k1, by omega, ?_⟩
            rw [getD_app_left (by rw [hfl]; exact k2), ← k3]
            unfold argR
            by_cases hjn : (j : Int) < n
            · rw [if_pos hjn, if_pos hjn]
            · rw [if_neg hjn, if_neg hjn]
              exact getD_set_far (by omega)
        · rw [if_neg hp0] at e2 e3
          rw [e2, e3]
          exact ⟨rfl, fun h => absurd h hp0⟩
      · rw [if_neg hm] at e1 e2
        rw [e1, e2]
        refine ⟨ih1, fun _ => ⟨hlen, fun j hj hjm => ?_⟩⟩
        by_cases hji : j = n + i
        · subst hji; exact absurd hjm hm
        · exact hrel j (by omega) hjm
    · rw [if_neg h0] at e2
      rw [e2]
      refine ⟨?_, fun h => absurd h h0⟩
      rw [e1]
      split
      · rw [runP_bad _ _ _ (by rw [ih1]; exact h0), ih1]
      · exact ih1
end
end Go.Pu
end
section
set_option linter.unusedSectionVars false
set_option linter.unusedVariables false
set_option linter.unusedSimpArgs false
namespace Go.Proofs.YtocnofkagckhkaaGreatDoor
open Go.Sy Go.Pu
variable [Drw]
theorem plusP_does (a b : List Int) : DoesF Tryz.prog 133 [lV a, lV b] [] (.tup [lV (plusP a b).1, eV (plusP a b).2]) [] := by
  have := plus_does a b
  unfold plusP
  split
  · rename_i h; simpa [h] using this
  · rename_i h; simpa [h] using this
theorem prodP_does (a b : List Int) : DoesF Tryz.prog 83 [lV a, lV b] [] (.tup [lV (prodP a b).1, eV (prodP a b).2]) [] := by
  have := product_does a b
  unfold prodP
  split
  · rename_i h; simpa [h] using this
  · rename_i h; simpa [h] using this
theorem rplusP_does (a b : List Int) : DoesF Tryz.prog 119 [lV a, lV b] [] (.tup [lV (plusP a b).1, iV (plusP a b).2]) [] := by
  have := rplus_does a b
  rw [plus_ref]
  split
  · rename_i h; simpa [h] using this
  · rename_i h; simpa [h] using this
theorem rprodP_does (a b : List Int) : DoesF Tryz.prog 95 [lV a, lV b] [] (.tup [lV (prodP a b).1, iV (prodP a b).2]) [] := by
  have := rproduct_does a b
  rw [prod_ref]
  split
  · rename_i h; simpa [h] using this
  · rename_i h; simpa [h] using this
def J0 : Fns := (133, fLL (fun a b => .tup [lV (plusP a b).1, eV (plusP a b).2]) fun _ _ => True) ::
  (83, fLL (fun a b => .tup [lV (prodP a b).1, eV (prodP a b).2]) fun _ _ => True) ::
  (119, fLL (fun a b => .tup [lV (plusP a b).1, iV (plusP a b).2]) fun _ _ => True) ::
  (95, fLL (fun a b => .tup [lV (prodP a b).1, iV (prodP a b).2]) fun _ _ => True) ::
  T24
theorem J0_ok : FnsOk Tryz.prog J0 := .cons (.cons (.cons (.cons (T24_ok) Tryz.func95 rfl rfl (fLL_ok fun a b _ => rprodP_does a b)) Tryz.func119 rfl rfl (fLL_ok fun a b _ => rplusP_does a b)) Tryz.func83 rfl rfl (fLL_ok fun a b _ => prodP_does a b)) Tryz.func133 rfl rfl (fLL_ok fun a b _ => plusP_does a b)
theorem or_does (rows : List (List Int)) : DoesF Tryz.prog 112 [.c (intss rows)] [] (.tup [lV (foldP prodP rows [0]).1, eV (foldP prodP rows [0]).2]) [] := by
  refine DoesF.body _ Tryz.func112 rfl rfl rfl rfl ?_
  refine KW.go lay_ok J0_ok 100 rfl (by simp) ?_
  refine KW.frz 8 [8, 4] rfl rfl rfl ?_
  refine KW.len 9 rfl rfl fun hbig => ?_
  refine KW.goLpR lay_ok J0_ok 100 rfl (I := fun q : Nat × List Int => ⟨Tryz.f112.ntmps, [(4, .e (lV q.2)), (9, .e (.c (intss rows))), (10, sI rows.length), (11, sI q.1)], []⟩)
    (R := fun q => q.1 ≤ rows.length ∧ foldP prodP (rows.drop q.1) q.2 = foldP prodP rows [0]) (m := fun q => rows.length - q.1) (0, [0]) [] rfl rfl ⟨rfl, rfl, rfl, rfl, trivial⟩ (by simp) ⟨Nat.zero_le _, rfl⟩ trivial ?_
  rintro ⟨q, acc⟩ ⟨g1, g2⟩
  simp only at g1 g2
  refine KW.goIf lay_ok J0_ok 100 rfl (by simp) rfl trivial (fun h => ?_) fun h => ?_
  · have hq : q < rows.length := by simpa using h
    have hg : rows.getD (Int.toNat (q : Int)) [] = rows[q] := by simp [List.getD_eq_getElem?_getD, hq]
    rw [List.drop_eq_getElem_cons hq, foldP] at g2
    generalize rows[q] = r at hg g2
    refine KW.goIf lay_ok J0_ok 100 rfl (by simp [hq, ifcV_errV]) rfl trivial (fun h => ?_) fun h => ?_
    · simp only [unI_ints, hg] at h
      have e : ¬ (prodP acc r).2 = 0 := by
        have e : (!isNilB (errV 47 (prodP acc r).2)) = true := h
        simpa using e
      rw [if_neg e] at g2
      refine KW.goOutR lay_ok J0_ok 100 rfl (by simp) ?_
      refine KW.go lay_ok J0_ok 100 rfl (by simp) ?_
      refine KW.conv 2 (ints []) rfl ⟨rfl, rfl⟩ ?_
      simp only [unI_ints, hg]
      rw [← g2]
      exact KW.fin [] rfl rfl rfl trivial
    · simp only [unI_ints, hg] at h
      have e : (prodP acc r).2 = 0 := by
        have e : (!isNilB (errV 47 (prodP acc r).2)) = false := h
        simpa using e
      rw [if_pos e] at g2
      refine KW.goToR lay_ok J0_ok 100 rfl (q + 1, (prodP acc r).1) [] rfl rfl ⟨?_, rfl, rfl, rfl, trivial⟩ (by simp [inK]; omega) ⟨⟨by simp only; omega, g2⟩, by simp only; omega⟩ trivial
      simp only [unI_ints, hg]; rfl
  · have hq : q = rows.length := by simp at h; omega
    rw [hq, List.drop_length] at g2
    refine KW.goOut lay_ok J0_ok 100 rfl (by simp) ?_
    refine KW.goRet lay_ok J0_ok 100 rfl rfl ?_ (by simp) trivial
    rw [← g2]; rfl
theorem and_does (rows : List (List Int)) : DoesF Tryz.prog 113 [.c (intss rows)] [] (.tup [lV (foldP plusP rows []).1, eV (foldP plusP rows []).2]) [] := by
  refine DoesF.body _ Tryz.func113 rfl rfl rfl rfl ?_
  refine KW.go lay_ok J0_ok 100 rfl (by simp) ?_
  refine KW.conv 4 (ints []) rfl ⟨rfl, rfl⟩ ?_
  refine KW.len 8 rfl rfl fun hbig => ?_
  refine KW.goLpR lay_ok J0_ok 100 rfl (I := fun q : Nat × List Int => ⟨Tryz.f113.ntmps, [(4, .e (lV q.2)), (8, .e (.c (intss rows))), (9, sI rows.length), (10, sI q.1)], []⟩)
    (R := fun q => q.1 ≤ rows.length ∧ foldP plusP (rows.drop q.1) q.2 = foldP plusP rows []) (m := fun q => rows.length - q.1) (0, []) [] rfl rfl ⟨rfl, rfl, rfl, rfl, trivial⟩ (by simp) ⟨Nat.zero_le _, rfl⟩ trivial ?_
  rintro ⟨q, acc⟩ ⟨g1, g2⟩
  simp only at g1 g2
  refine KW.goIf lay_ok J0_ok 100 rfl (by simp) rfl trivial (fun h => ?_) fun h => ?_
  · have hq : q < rows.length := by simpa using h
    have hg : rows.getD (Int.toNat (q : Int)) [] = rows[q] := by simp [List.getD_eq_getElem?_getD, hq]
    rw [List.drop_eq_getElem_cons hq, foldP] at g2
    generalize rows[q] = r at hg g2
    refine KW.goIf lay_ok J0_ok 100 rfl (by simp [hq, ifcV_errV]) rfl trivial (fun h => ?_) fun h => ?_
    · simp only [unI_ints, hg] at h
      have e : ¬ (plusP acc r).2 = 0 := by
        have e : (!isNilB (errV 47 (plusP acc r).2)) = true := h
        simpa using e
      rw [if_neg e] at g2
      refine KW.goOutR lay_ok J0_ok 100 rfl (by simp) ?_
      refine KW.go lay_ok J0_ok 100 rfl (by simp) ?_
      refine KW.conv 2 (ints []) rfl ⟨rfl, rfl⟩ ?_
      simp only [unI_ints, hg]
      rw [← g2]
      exact KW.fin [] rfl rfl rfl trivial
    · simp only [unI_ints, hg] at h
      have e : (plusP acc r).2 = 0 := by
        have e : (!isNilB (errV 47 (plusP acc r).2)) = false := h
        simpa using e
      rw [if_pos e] at g2
      refine KW.goToR lay_ok J0_ok 100 rfl (q + 1, (plusP acc r).1) [] rfl rfl ⟨?_, rfl, rfl, rfl, trivial⟩ (by simp [inK]; omega) ⟨⟨by simp only; omega, g2⟩, by simp only; omega⟩ trivial
      simp only [unI_ints, hg]; rfl
  · have hq : q = rows.length := by simp at h; omega
    rw [hq, List.drop_length] at g2
    refine KW.goOut lay_ok J0_ok 100 rfl (by simp) ?_
    refine KW.goRet lay_ok J0_ok 100 rfl rfl ?_ (by simp) trivial
    rw [← g2]; rfl
end Go.Proofs.YtocnofkagckhkaaGreatDoor
namespace Go.Proofs.YtocnofkagckhkaaGreatDoor
open Go.Sy Go.Pu
variable [Drw]
abbrev lsC (l : List (List Int)) : CV := rows 1 (fun x _ => ints x) [] l
theorem vote_does (rws : List (List Int)) (k : Nat) (hk : k ≤ 1000) : DoesF Tryz.prog 114 [.c (intss rws), iV k] [] (.tup [lV (voteP rws k).1, eV (voteP rws k).2]) [] := by
  refine DoesF.body _ Tryz.func114 rfl rfl rfl rfl ?_
  refine KW.go lay_ok J0_ok 100 rfl (by simp [inK]; omega) ?_
  refine KW.frz 16 [16] rfl rfl rfl ?_
  refine KW.convR 14 (lsC (List.replicate (k + 1) [])) rfl (g := fun e q => ints ((List.replicate (k + 1) ([] : List Int)).getD e [])) ?_ (fun e q he hq => ?_) ?_
  · show rows 1 (fun x _ => ints x) [] (List.replicate (k + 1) []) = _
    rw [rows, List.length_replicate, show Int.toNat ((k : Int) + 1) = k + 1 by omega]
  · have : q = 0 := by omega
    subst this
    have e2 : (List.replicate (k + 1) ([] : List Int)).getD e [] = [] := by
      rw [List.getD_eq_getElem?_getD, List.getElem?_replicate]
      split <;> rfl
    rw [e2]
    exact ⟨rfl, rfl⟩
  refine KW.go lay_ok J0_ok 100 rfl (by simp) ?_
  refine KW.updG 14 [0] rfl rfl (fun q hq => ?_) ?_
  · have : q = 0 := by omega
    subst this
    exact CVEq.refl _
  refine KW.len 18 rfl rfl fun hbig => ?_
  have ht0 : (List.replicate (k + 1) ([] : List Int)).set 0 [0] = tab0 k := rfl
  rw [show Int.toNat (0 : Int) = 0 from rfl, ht0]
  refine KW.goLpR lay_ok J0_ok 100 rfl (I := fun q : Nat × List (List Int) => ⟨Tryz.f114.ntmps, [(1, sI k), (6, .e (.r 6)), (18, .e (.c (intss rws))), (19, sI rws.length), (20, sI q.1)], [(6, .own 25 (lsC q.2))]⟩)
    (R := fun q => q.1 ≤ rws.length ∧ q.2.length = k + 1 ∧ voteR k (rws.drop q.1) q.2 = voteR k rws (tab0 k)) (m := fun q => rws.length - q.1) (0, tab0 k) [(6, 14)] rfl rfl ⟨rfl, rfl, rfl, rfl, rfl, trivial⟩ (by simp) ⟨Nat.zero_le _, by simp [tab0], rfl⟩ ⟨rfl, trivial⟩ ?_
  rintro ⟨q, tab⟩ ⟨g1, g2, g3⟩
  simp only at g1 g2 g3
  have ev : voteP rws k = if (voteR k rws (tab0 k)).2 = 0 then ((voteR k rws (tab0 k)).1.getD k [], 0) else ([], (voteR k rws (tab0 k)).2) := rfl
  refine KW.goIf lay_ok J0_ok 100 rfl (by simp) rfl trivial (fun h => ?_) fun h => ?_
  · have hq : q < rws.length := by simpa using h
    have hg : rws.getD (Int.toNat (q : Int)) [] = rws[q] := by simp [List.getD_eq_getElem?_getD, hq]
    rw [List.drop_eq_getElem_cons hq, voteR] at g3
    generalize rws[q] = r at hg g3
    refine KW.goLpR lay_ok J0_ok 100 rfl (I := fun p : Nat × List (List Int) => ⟨Tryz.f114.ntmps, [(1, sI k), (6, .e (.r 6)), (8, .e (lV r)), (9, sI p.1), (18, .e (.c (intss rws))), (19, sI rws.length), (20, sI q)], [(6, .own 25 (lsC p.2))]⟩)
      (R := fun p => p.1 ≤ k ∧ p.2.length = k + 1 ∧ voteJ r p.1 p.2 = voteJ r k tab) (m := fun p => p.1) (k, tab) [(6, 6)] rfl rfl ⟨rfl, rfl, by rw [← hg]; rfl, rfl, rfl, rfl, rfl, trivial⟩ (by simp [hq]) ⟨Nat.le_refl _, g2, rfl⟩ ⟨rfl, trivial⟩ ?_
    rintro ⟨j, tb⟩ ⟨r1, r2, r3⟩
    simp only at r1 r2 r3
    refine KW.goIf lay_ok J0_ok 100 rfl (by simp) rfl trivial (fun h => ?_) fun h => ?_
    · obtain ⟨j, rfl⟩ : ∃ j', j = j' + 1 := ⟨j - 1, by simp at h; omega⟩
      have hj1 : Int.toNat (((j + 1 : Nat) : Int) - 1) = j := by omega
      rw [voteJ] at r3
      refine KW.goIf lay_ok J0_ok 100 rfl ?_ rfl trivial (fun h => ?_) fun h => ?_
      · simp only [r2, isI_ints, ifcV_errV, inK, true_and, and_true]
        omega
      · simp only [unI_ints, hj1] at h
        have e : ¬ (prodP (tb.getD j []) r).2 = 0 := by
          have e : (!isNilB (errV 47 (prodP (tb.getD j []) r).2)) = true := h
          simpa using e
        rw [if_neg e] at r3
        have e3 : (voteR k rws (tab0 k)) = ([], (prodP (tb.getD j []) r).2) := by
          rw [← g3, ← r3, if_neg e]
        refine KW.goOutR lay_ok J0_ok 100 rfl (by simp) ?_
        refine KW.goOutR lay_ok J0_ok 100 rfl (by simp) ?_
        refine KW.go lay_ok J0_ok 100 rfl (by simp) ?_
        refine KW.conv 4 (ints []) rfl ⟨rfl, rfl⟩ ?_
        simp only [unI_ints, hj1]
        rw [ev, e3, if_neg e]
        exact KW.fin [] rfl rfl rfl trivial
      · simp only [unI_ints, hj1] at h
        have e : (prodP (tb.getD j []) r).2 = 0 := by
          have e : (!isNilB (errV 47 (prodP (tb.getD j []) r).2)) = false := h
          simpa using e
        rw [if_pos e] at r3
        refine KW.goIf lay_ok J0_ok 100 rfl ?_ rfl trivial (fun h => ?_) fun h => ?_
        · simp only [r2, isI_ints, ifcV_errV, inK, true_and, and_true]
          omega
        · simp only [unI_ints, hj1, Int.toNat_natCast] at h
          have e2 : ¬ (plusP (tb.getD (j + 1) []) (prodP (tb.getD j []) r).1).2 = 0 := by
            have e : (!isNilB (errV 47 (plusP (tb.getD (j + 1) []) (prodP (tb.getD j []) r).1).2)) = true := h
            simpa using e
          rw [if_neg e2] at r3
          have e3 : (voteR k rws (tab0 k)) = ([], (plusP (tb.getD (j + 1) []) (prodP (tb.getD j []) r).1).2) := by
            rw [← g3, ← r3, if_neg e2]
          refine KW.goOutR lay_ok J0_ok 100 rfl (by simp) ?_
          refine KW.goOutR lay_ok J0_ok 100 rfl (by simp) ?_
          refine KW.go lay_ok J0_ok 100 rfl (by simp) ?_
          refine KW.conv 4 (ints []) rfl ⟨rfl, rfl⟩ ?_
          simp only [unI_ints, hj1, Int.toNat_natCast]
          rw [ev, e3, if_neg e2]
          exact KW.fin [] rfl rfl rfl trivial
        · simp only [unI_ints, hj1, Int.toNat_natCast] at h
          have e2 : (plusP (tb.getD (j + 1) []) (prodP (tb.getD j []) r).1).2 = 0 := by
            have e : (!isNilB (errV 47 (plusP (tb.getD (j + 1) []) (prodP (tb.getD j []) r).1).2)) = false := h
            simpa using e
          rw [if_pos e2] at r3
          refine KW.go lay_ok J0_ok 100 rfl (by simp [inK]; omega) (KW.updG 6 (plusP (tb.getD (j + 1) []) (prodP (tb.getD j []) r).1).1 rfl rfl (fun p hp => ?_) (KW.to (j, tb.set (j + 1) (plusP (tb.getD (j + 1) []) (prodP (tb.getD j []) r).1).1) ⟨⟨by simp only; omega, by simp only [List.length_set]; exact r2, r3⟩, by simp only; omega⟩ [(6, 6)] ⟨rfl, rfl, ⟨rfl, rfl, rfl, ?_, rfl, rfl, rfl, trivial⟩, ⟨?_, trivial⟩⟩))
          · have : p = 0 := by omega
            subst this
            simp only [unI_ints, hj1, Int.toNat_natCast]
            exact CVEq.refl _
          · rw [show (((j : Nat) : Int)) = ((j + 1 : Nat) : Int) - 1 by omega]; rfl
          · rfl
    · have hj : j = 0 := by simp at h; omega
      subst hj
      replace r3 : (tb, (0 : Int)) = voteJ r k tab := r3
      rw [← r3, if_pos rfl] at g3
      refine KW.goOut lay_ok J0_ok 100 rfl (by simp) ?_
      exact KW.goToR lay_ok J0_ok 100 rfl (q + 1, tb) [(6, 6)] rfl rfl ⟨rfl, rfl, rfl, rfl, rfl, trivial⟩ (by simp [inK]; omega) ⟨⟨by simp only; omega, r2, g3⟩, by simp only; omega⟩ ⟨rfl, trivial⟩
  · have hq : q = rws.length := by simp at h; omega
    rw [hq, List.drop_length] at g3
    replace g3 : (tab, (0 : Int)) = voteR k rws (tab0 k) := g3
    refine KW.goOut lay_ok J0_ok 100 rfl (by simp) ?_
    refine KW.goRet lay_ok J0_ok 100 rfl rfl ?_ (by simp; omega) trivial
    rw [ev, ← g3, if_pos rfl]
    simp only [SV.ren, renL, EV.ren, Int.toNat_natCast]
    rfl
end Go.Proofs.YtocnofkagckhkaaGreatDoor
namespace Go.Pu
open Go.Sy
variable [Drw]
def nodeK (x : NodeP) : List CV := [.lit (.int .i64 x.kind), .lit (.int .i64 x.k), ints x.args]
def fLsI (g : List (List Int) → Int → SV) (p : List (List Int) → Int → Prop) : List EV → Option (SV × Prop)
  | [.c x, .c (.lit (.int .i64 k))] => some (g (unII x) k, isII x ∧ p (unII x) k)
  | _ => none
def fNLs (g : NodeP → List (List Int) → SV) (p : NodeP → List (List Int) → Prop) : List EV → Option (SV × Prop)
  | [.ag [.lit (.int .i64 k), .lit (.int .i64 kk), x], .c y] => some (g ⟨k, kk, unI x⟩ (unII y), isI x ∧ isII y ∧ p ⟨k, kk, unI x⟩ (unII y))
  | _ => none
section
variable {P : Program} {f : FuncId}
theorem fLsI_ok {g : List (List Int) → Int → SV} {p : List (List Int) → Int → Prop} (h : ∀ a k, p a k → DoesF P f [.c (intss a), iV k] [] (g a k) []) : ∀ ys y φ, fLsI g p ys = some (y, φ) → φ → DoesF P f ys [] y [] := by
  intro ys y φ he hφ
  unfold fLsI at he
  split at he
  · simp only [Option.some.injEq, Prod.mk.injEq] at he
    obtain ⟨rfl, rfl⟩ := he
    refine DoesF.conv ?_ (h _ _ hφ.2)
    exact ⟨hφ.1, CVEq.refl _, trivial⟩
  · cases he
theorem fNLs_ok {g : NodeP → List (List Int) → SV} {p : NodeP → List (List Int) → Prop} (h : ∀ x l, p x l → DoesF P f [.ag (nodeK x), .c (intss l)] [] (g x l) []) : ∀ ys y φ, fNLs g p ys = some (y, φ) → φ → DoesF P f ys [] y [] := by
  intro ys y φ he hφ
  unfold fNLs at he
  split at he
  · rename_i k kk x l
    simp only [Option.some.injEq, Prod.mk.injEq] at he
    obtain ⟨rfl, rfl⟩ := he
    refine DoesF.conv ?_ (h _ _ hφ.2.2)
    refine ⟨⟨rfl, fun q y z hy hz => ?_⟩, hφ.2.1, trivial⟩
    match q, hy, hz with
    | 0, hy, hz => simp [nodeK] at hy hz; subst hy; subst hz; exact CVEq.refl _
    | 1, hy, hz => simp [nodeK] at hy hz; subst hy; subst hz; exact CVEq.refl _
    | 2, hy, hz => simp [nodeK] at hy hz; subst hy; subst hz; exact hφ.1
    | q + 3, hy, hz => simp at hy
  · cases he
end
def voteIn (x : NodeP) (l : List (List Int)) : Prop := l.length ≤ 1000 ∧ -1000 ≤ x.k ∧ x.k ≤ 1000 ∧ (x.kind = 0 ∨ x.kind = 2 ∨ x.kind = 3 ∨ (0 ≤ (l.length : Int) - x.k + 1 ∧ (l.length : Int) - x.k + 1 ≤ 1000))
end Go.Pu
namespace Go.Proofs.YtocnofkagckhkaaGreatDoor
open Go.Sy Go.Pu
variable [Drw]
def J1 : Fns := (112, fLs (fun l => .tup [lV (foldP prodP l [0]).1, eV (foldP prodP l [0]).2]) fun _ => True) ::
  (113, fLs (fun l => .tup [lV (foldP plusP l []).1, eV (foldP plusP l []).2]) fun _ => True) ::
  (114, fLsI (fun l k => .tup [lV (voteP l k.toNat).1, eV (voteP l k.toNat).2]) fun l k => 0 ≤ k ∧ k ≤ 1000) ::
  J0
theorem J1_ok : FnsOk Tryz.prog J1 := .cons (.cons (.cons (J0_ok) Tryz.func114 rfl rfl (fLsI_ok fun l k h => by have := vote_does l k.toNat (by omega); rwa [Int.toNat_of_nonneg h.1] at this)) Tryz.func113 rfl rfl (fLs_ok fun l _ => and_does l)) Tryz.func112 rfl rfl (fLs_ok fun l _ => or_does l)
theorem pnode_does (x : NodeP) (l : List (List Int)) (hv : voteIn x l) : DoesF Tryz.prog 79 [.ag (nodeK x), .c (intss l)] [] (.tup [lV (nodePS x.kind x.k l).1, eV (nodePS x.kind x.k l).2]) [] := by
  refine DoesF.body _ Tryz.func79 rfl rfl rfl rfl ?_
  obtain ⟨kind, kk, args⟩ := x
  obtain ⟨v1, v2, v3, v4⟩ := hv
  simp only at v2 v3 v4 ⊢
  refine KW.goIf lay_ok J1_ok 100 rfl (by simp) rfl trivial (fun h => ?_) fun h => ?_
  · have k0 : kind = 0 := by simpa using h
    subst k0
    refine KW.goIf lay_ok J1_ok 100 rfl (by simp) rfl trivial (fun h => ?_) fun h => ?_
    · have k1 : kk = 0 := by simpa using h
      subst k1
      refine KW.go lay_ok J1_ok 100 rfl (by simp) ?_
      refine KW.frz 13 [4] rfl rfl rfl ?_
      exact KW.fin [] rfl rfl rfl trivial
    · have k1 : ¬ kk = 0 := by simpa using h
      refine KW.go lay_ok J1_ok 100 rfl (by simp) ?_
      refine KW.conv 4 (ints []) rfl ⟨rfl, rfl⟩ ?_
      have e : nodePS 0 kk l = ([], 0) := by simp [nodePS, k1]
      rw [e]
      exact KW.fin [] rfl rfl rfl trivial
  have k0 : ¬ kind = 0 := by simpa using h
  refine KW.goIf lay_ok J1_ok 100 rfl (by simp) rfl trivial (fun h => ?_) fun h => ?_
  · have k3 : kind = 3 := by simpa using h
    subst k3
    refine KW.goRet lay_ok J1_ok 100 rfl rfl ?_ (by simp [ifcV_errV]) trivial
    simp only [unII_intss]; rfl
  have k3 : ¬ kind = 3 := by simpa using h
  refine KW.goIf lay_ok J1_ok 100 rfl (by simp) rfl trivial (fun h => ?_) fun h => ?_
  · have k2 : kind = 2 := by simpa using h
    subst k2
    refine KW.goRet lay_ok J1_ok 100 rfl rfl ?_ (by simp [ifcV_errV]) trivial
    simp only [unII_intss]; rfl
  have k2 : ¬ kind = 2 := by simpa using h
  have e : nodePS kind kk l = voteP l ((l.length : Int) - kk + 1).toNat := by simp [nodePS, k0, k2, k3]
  refine KW.goRet lay_ok J1_ok 100 rfl rfl ?_ (by simp [ifcV_errV, inK]; omega) trivial
  simp only [unII_intss, e]
  rfl
theorem trim_len2 (f : FormP) (ok : FormOk f) : (trimF f).nodes.length ≤ 128 := Nat.le_trans (trimN_len f.vars.toNat f.nodes (belowF f) f.nodes.length).2 ok.len
theorem below_closed {f : FormP} (ok : FormOk f) : ∀ (i : Nat) (h : i < f.nodes.length), (belowF f).getD (f.vars.toNat + i) false = true → ∀ a ∈ f.nodes[i].args, (belowF f).getD a.toNat false = true ∧ 0 ≤ a ∧ a.toNat < f.vars.toNat + i := fun i h hm a ha => by
  have h1 := (ok.nodes i h).args a ha
  exact ⟨marksF_closed ok (fun _ _ => true) h hm ha rfl, h1.1, ok.args_lt i h a ha⟩
theorem trim_nodes {f : FormP} (ok : FormOk f) (hc : cohF f = true) : ∀ i, i ≤ f.nodes.length → (∀ j, j < f.vars.toNat + i → (belowF f).getD j false = true → 0 ≤ (trimN f.vars.toNat f.nodes (belowF f) i).1.getD j 0 ∧ ((trimN f.vars.toNat f.nodes (belowF f) i).1.getD j 0).toNat < f.vars.toNat + (trimN f.vars.toNat f.nodes (belowF f) i).2.length) ∧
    ∀ (q : Nat) (h : q < (trimN f.vars.toNat f.nodes (belowF f) i).2.length), (∀ a ∈ (trimN f.vars.toNat f.nodes (belowF f) i).2[q].args, 0 ≤ a ∧ a.toNat < f.vars.toNat + q) ∧ (trimN f.vars.toNat f.nodes (belowF f) i).2[q].args.length ≤ 16 ∧
      -1000 ≤ (trimN f.vars.toNat f.nodes (belowF f) i).2[q].k ∧ (trimN f.vars.toNat f.nodes (belowF f) i).2[q].k ≤ 1000 ∧ ((trimN f.vars.toNat f.nodes (belowF f) i).2[q].kind = 0 ∨ (trimN f.vars.toNat f.nodes (belowF f) i).2[q].kind = 2 ∨ (trimN f.vars.toNat f.nodes (belowF f) i).2[q].kind = 3 ∨ (0 ≤ ((trimN f.vars.toNat f.nodes (belowF f) i).2[q].args.length : Int) - (trimN f.vars.toNat f.nodes (belowF f) i).2[q].k + 1 ∧ ((trimN f.vars.toNat f.nodes (belowF f) i).2[q].args.length : Int) - (trimN f.vars.toNat f.nodes (belowF f) i).2[q].k + 1 ≤ 1000))
  | 0, _ => by
    refine ⟨fun j hj _ => ?_, fun q h => by simp [trimN] at h⟩
    have hj' : j < f.vars.toNat := by omega
    have e : (trimN f.vars.toNat f.nodes (belowF f) 0).1.getD j 0 = (j : Int) := by
      simp [trimN, List.getD_eq_getElem?_getD, show j < f.vars.toNat + f.nodes.length by omega, hj']
      try omega
    rw [e]
    exact ⟨by omega, by simp [trimN]; omega⟩
  | i + 1, hi => by
    obtain ⟨ih1, ih2⟩ := trim_nodes ok hc i (by omega)
    have hi' : i < f.nodes.length := by omega
    have htl := trimN_len f.vars.toNat f.nodes (belowF f) i
    have e1 := trimN_succ f.vars.toNat f.nodes (belowF f) i
    have hX : f.nodes.getD i node0 = f.nodes[i] := by simp [List.getD_eq_getElem?_getD, hi']
    by_cases hm : (belowF f).getD (f.vars.toNat + i) false = true
    · rw [if_pos hm, hX] at e1
      have hcl := below_closed ok i hi' hm
      have okX := ok.nodes i hi'
      have hkd := coh_node hc hi' hm
      generalize f.nodes[i] = X at e1 hcl okX hkd
      generalize hTT : trimN f.vars.toNat f.nodes (belowF f) i = TT at *
      obtain ⟨mv, kept⟩ := TT
      simp only at ih1 ih2 e1 htl
      rw [e1]
      refine ⟨fun j hj hjm => ?_, fun q h => ?_⟩
      · simp only [List.length_append, List.length_cons, List.length_nil]
        by_cases hji : j = f.vars.toNat + i
        · subst hji
          rw [getD_set_at (by omega)]
          exact ⟨by omega, by omega⟩
        · rw [getD_set_far (Ne.symm hji)]
          have := ih1 j (by omega) hjm
          exact ⟨this.1, by omega⟩
      · simp only at h ⊢
        simp only [List.length_append, List.length_cons, List.length_nil] at h
        by_cases hq : q < kept.length
        · rw [List.getElem_append_left hq]; exact ih2 q hq
        · have hq2 : q = kept.length := by omega
          subst hq2
          simp only [List.getElem_concat_length]
          refine ⟨fun a ha => ?_, by simpa using argsB_le okX.cnt, ?_⟩
          · obtain ⟨b, hb, rfl⟩ := List.mem_map.1 ha
            obtain ⟨c1, c2, c3⟩ := hcl b hb
            exact ih1 b.toNat (by omega) c1
          · have hk := okX.k
            have h16 := argsB_le okX.cnt
            have hkk := okX.kind
            unfold kE at hk
            simp only [List.length_map]
            split at hk
            · rename_i h0
              split at hk
              · cases hk
              · rename_i h1; omega
            · split at hk
              · split at hk
                · cases hk
                · omega
              · split at hk
                · cases hk
                · omega
    · rw [if_neg hm] at e1
      rw [e1]
      refine ⟨fun j hj hjm => ?_, ih2⟩
      by_cases hji : j = f.vars.toNat + i
      · subst hji; exact absurd hjm hm
      · exact ih1 j (by omega) hjm
end Go.Proofs.YtocnofkagckhkaaGreatDoor
namespace Go.Pu
open Go.Sy
variable [Drw]
theorem limL_len (l : LS) : (limL l).length ≤ 1024 := by
  unfold limL
  split
  · simp
  · omega
theorem plusP_len (a b : LS) : (plusP a b).1.length ≤ 1024 := by
  unfold plusP
  split
  · exact limL_len _
  · simp
theorem prodP_len (a b : LS) : (prodP a b).1.length ≤ 1024 := by
  unfold prodP
  split
  · exact limL_len _
  · simp
theorem foldP_len {op : LS → LS → LS × Int} (hop : ∀ a b, (op a b).1.length ≤ 1024) : ∀ (rs : List LS) {acc : LS}, acc.length ≤ 1024 → (foldP op rs acc).1.length ≤ 1024
  | [], acc, h => h
  | r :: rs, acc, h => by
    rw [foldP]
    split
    · exact foldP_len hop rs (hop _ _)
    · simp
theorem voteJ_len (row : LS) : ∀ (j : Nat) {tab : List LS}, (∀ l ∈ tab, l.length ≤ 1024) → ∀ l ∈ (voteJ row j tab).1, l.length ≤ 1024
  | 0, tab, h => h
  | j + 1, tab, h => by
    rw [voteJ]
    split
    · split
      · refine voteJ_len row j fun l hl => ?_
        rcases List.mem_or_eq_of_mem_set hl with hl | rfl
        · exact h l hl
        · exact plusP_len _ _
      · simp
    · simp
theorem voteR_len (k : Nat) : ∀ (rs : List LS) {tab : List LS}, (∀ l ∈ tab, l.length ≤ 1024) → ∀ l ∈ (voteR k rs tab).1, l.length ≤ 1024
  | [], tab, h => h
  | r :: rs, tab, h => by
    rw [voteR]
    split
    · exact voteR_len k rs (voteJ_len r k h)
    · simp
theorem getD_len {tab : List LS} (h : ∀ l ∈ tab, l.length ≤ 1024) (k : Nat) : (tab.getD k []).length ≤ 1024 := by
  rw [List.getD_eq_getElem?_getD]
  cases e : tab[k]? with
  | none => simp
  | some x => exact h x (List.mem_of_getElem? e)
theorem nodePS_len (kind k : Int) (rows : List LS) : (nodePS kind k rows).1.length ≤ 1024 := by
  unfold nodePS
  split
  · split <;> simp
  · split
    · exact foldP_len prodP_len rows (by simp)
    · split
      · exact foldP_len plusP_len rows (by simp)
      · unfold voteP
        split
        · refine getD_len (voteR_len _ _ fun l hl => ?_) _
          rcases List.mem_or_eq_of_mem_set hl with hl | rfl
          · rw [List.eq_of_mem_replicate hl]; simp
          · simp
        · simp
theorem fam0_len (n : Nat) : ∀ l ∈ fam0 n, l.length ≤ 1024 := fun l hl => by
  obtain ⟨i, _, rfl⟩ := List.mem_map.1 hl
  simp
end Go.Pu
namespace Go.Proofs.YtocnofkagckhkaaGreatDoor
open Go.Sy Go.Pu
variable [Drw]
def J2 : Fns := (79, fNLs (fun x l => .tup [lV (nodePS x.kind x.k l).1, eV (nodePS x.kind x.k l).2]) fun x l => voteIn x l) ::
  (78, fF (fun f => .e (eV (pathE f))) FormIn) ::
  (70, fF (fun f => .tup [.ag (formC (trimF f)), .c (.lit .nilIface)]) fun f => FormIn f ∧ formE f = 0) ::
  J1
theorem J2_ok : FnsOk Tryz.prog J2 := .cons (.cons (.cons (J1_ok) Tryz.func70 rfl rfl (fF_ok fun f h => trim_good f h.1 h.2)) Tryz.func78 rfl rfl (fF_ok fun f h => pcheck_does f h)) Tryz.func79 rfl rfl (fNLs_ok fun x l h => pnode_does x l h)
def pathsV (f : FormP) : LS × Int := if pathE f = 0 then (pathsL f, pathsE f) else ([], pathE f)
theorem paths_does (f : FormP) (hin : FormIn f) : DoesF Tryz.prog 40 [.ag (formC f)] [] (.tup [lV (pathsV f).1, eV (pathsV f).2]) [] := by
  refine DoesF.body _ Tryz.func40 rfl rfl rfl rfl ?_
  obtain ⟨vars, ns, top⟩ := f
  refine KW.goIf lay_ok J2_ok 100 rfl (by simp only [unN_nodesC, isN_nodesC, true_and, and_true, ifcV_errV]; exact hin) rfl trivial (fun h => ?_) fun h => ?_
  · simp only [unN_nodesC] at h
    have h1 : ¬ pathE ⟨vars, ns, top⟩ = 0 := by
      have e : (!isNilB (errV 47 (pathE ⟨vars, ns, top⟩))) = true := h
      simpa using e
    refine KW.go lay_ok J2_ok 100 rfl (by simp) ?_
    refine KW.conv 2 (ints []) rfl ⟨rfl, rfl⟩ ?_
    rw [pathsV, if_neg h1]
    simp only [unN_nodesC]
    exact KW.fin [] rfl rfl rfl trivial
  · simp only [unN_nodesC] at h
    have h1 : pathE ⟨vars, ns, top⟩ = 0 := by
      have e : (!isNilB (errV 47 (pathE ⟨vars, ns, top⟩))) = false := h
      simpa using e
    have h02 : formE ⟨vars, ns, top⟩ = 0 ∧ cohF ⟨vars, ns, top⟩ = true := by
      unfold pathE at h1
      split at h1
      · rename_i h0
        split at h1
        · rename_i hc; exact ⟨h0, hc⟩
        · cases h1
      · rename_i h0; exact absurd h1 h0
    obtain ⟨h0, hc⟩ := h02
    have ok := formE_ok h0
    have hv := ok.vars
    simp only at hv
    obtain ⟨n, rfl⟩ := Int.eq_ofNat_of_zero_le hv.1
    have hn24 : n ≤ 24 := by omega
    rw [pathsV, if_pos h1]
    have hTl := trim_len2 ⟨n, ns, top⟩ ok
    have hTn := trim_nodes ok hc ns.length (Nat.le_refl _)
    have hTv : (trimF ⟨n, ns, top⟩).vars = (n : Int) := rfl
    have htop := ok.top
    have hTt := hTn.1 top.toNat (by simp only at htop ⊢; omega) (marksF_top ok _)
    have hTa := hTn.2
    have ePE : pathsE ⟨n, ns, top⟩ = (runP (trimF ⟨n, ns, top⟩).nodes (fam0 n)).2 := rfl
    have ePL : pathsL ⟨n, ns, top⟩ = if pathsE ⟨n, ns, top⟩ = 0 then (runP (trimF ⟨n, ns, top⟩).nodes (fam0 n)).1.getD (trimF ⟨n, ns, top⟩).top.toNat [] else [] := rfl
    have eT1 : (trimF ⟨n, ns, top⟩).nodes = (trimN (FormP.vars ⟨n, ns, top⟩).toNat (FormP.nodes ⟨n, ns, top⟩) (belowF ⟨n, ns, top⟩) ns.length).2 := rfl
    have eT2 : (trimF ⟨n, ns, top⟩).top = (trimN (FormP.vars ⟨n, ns, top⟩).toNat (FormP.nodes ⟨n, ns, top⟩) (belowF ⟨n, ns, top⟩) ns.length).1.getD top.toNat 0 := rfl
    rw [← eT2, ← eT1] at hTt
    rw [← eT1] at hTa
    simp only [Int.toNat_natCast] at hTt hTa
    refine KW.goIf lay_ok J2_ok 100 rfl (by simp only [unN_nodesC, isN_nodesC, true_and, and_true]; simp [hin, h0, ifcV]) rfl trivial (fun h => absurd h (by decide)) fun h => ?_
    simp only [unN_nodesC]
    generalize trimF ⟨n, ns, top⟩ = T at *
    obtain ⟨tv, tn, tt⟩ := T
    simp only at hTl hTv hTt hTa ePE ePL
    subst hTv
    refine KW.go lay_ok J2_ok 100 rfl (by simp [inK]; omega) ?_
    refine KW.convR 35 (lsC []) rfl (g := fun e q => ints (([] : List (List Int)).getD e [])) rfl (fun e q he hq => absurd he (Nat.not_lt_zero _)) ?_
    refine KW.goLpR lay_ok J2_ok 100 rfl (I := fun q : Nat => ⟨Tryz.f40.ntmps, [(5, .e (.r 5)), (7, .e (.r 7)), (37, sI n), (38, sI q)], [(5, .box 24 [iV n, .c (nodesC tn), iV tt] none), (7, .own 25 (lsC (fam0 q)))]⟩)
      (R := fun q => q ≤ n) (m := fun q => n - q) 0 [(5, 5), (7, 35)] rfl rfl ⟨rfl, rfl, rfl, rfl, trivial⟩ (by simp) (Nat.zero_le _) ⟨rfl, rfl, trivial⟩ ?_
    rintro q hq0
    refine KW.goIf lay_ok J2_ok 100 rfl (by simp) rfl trivial (fun h => ?_) fun h => ?_
    · have hq : q < n := by simpa using h
      have hor := validS_iff.1 (one_valid (show q < 24 by omega))
      have hone : ishl 1 (q : Int) = Go.Pu.one q := rfl
      refine KW.go lay_ok J2_ok 100 rfl (by simp [inK, bitsI]; rw [hone]; omega) ?_
      refine KW.frz1 44 rfl rfl rfl ?_
      refine KW.go lay_ok J2_ok 100 rfl (by simp [inK, fam0]; omega) (KW.catG 46 [Go.Pu.one q] rfl (fun p hp => ?_) (KW.to (q + 1) ⟨by omega, by omega⟩ [(5, 5), (7, 46)] ⟨rfl, rfl, ⟨rfl, rfl, rfl, rfl, trivial⟩, ⟨rfl, ?_, trivial⟩⟩))
      · have : p = 0 := by omega
        subst this
        exact CVEq.refl _
      · have e : fam0 (q + 1) = fam0 q ++ [[Go.Pu.one q]] := by simp [fam0, List.range_succ]
        rw [e]; rfl
    have hq : q = n := by simp at h; omega
    subst hq
    refine KW.goOut lay_ok J2_ok 100 rfl (by simp) ?_
    refine KW.goLpR lay_ok J2_ok 100 rfl (I := fun p : Nat × List (List Int) => ⟨Tryz.f40.ntmps, [(5, .e (.r 5)), (7, .e (.r 7)), (49, .e (.c (nodesC tn))), (50, sI tn.length), (51, sI p.1)], [(5, .box 24 [iV q, .c (nodesC tn), iV tt] none), (7, .own 25 (lsC p.2))]⟩)
      (R := fun p => p.1 ≤ tn.length ∧ p.2.length = q + p.1 ∧ runP (tn.drop p.1) p.2 = runP tn (fam0 q) ∧ ∀ l ∈ p.2, l.length ≤ 1024) (m := fun p => tn.length - p.1) (0, fam0 q) [(5, 5), (7, 7)] rfl rfl ⟨rfl, rfl, rfl, rfl, rfl, trivial⟩ (by simp) ⟨Nat.zero_le _, by simp [fam0], rfl, fam0_len q⟩ ⟨rfl, rfl, trivial⟩ ?_
    rintro ⟨i, fam⟩ ⟨g1, g2, g3, g4⟩
    simp only at g1 g2 g3 g4
    refine KW.goIf lay_ok J2_ok 100 rfl (by simp) rfl trivial (fun h => ?_) fun h => ?_
    · have hi : i < tn.length := by simpa using h
      have hX : tn.getD (Int.toNat (i : Int)) node0 = tn[i] := by simp [List.getD_eq_getElem?_getD, hi]
      have hXa := hTa i hi
      rw [List.drop_eq_getElem_cons hi, runP] at g3
      generalize tn[i] = X at hX hXa g3
      obtain ⟨x1, x2, x3⟩ := hXa
      refine KW.go lay_ok J2_ok 100 rfl (by simp [hi]) ?_
      refine KW.nilO 11 202 25 (lsC []) rfl rfl rfl ?_
      refine KW.goLpR lay_ok J2_ok 100 rfl (I := fun j : Nat => ⟨Tryz.f40.ntmps, [(5, .e (.r 5)), (7, .e (.r 7)), (10, .e (.r 10)), (11, .e (.r 202)), (49, .e (.c (nodesC tn))), (50, sI tn.length), (51, sI i), (56, .e (lV X.args)), (57, sI X.args.length), (58, sI j)],
          [(5, .box 24 [iV q, .c (nodesC tn), iV tt] none), (7, .own 25 (lsC fam)), (10, .box 66 [iV X.kind, iV X.k, .c (ints X.args)] none), (202, .own 25 (lsC ((X.args.take j).map fun a => fam.getD a.toNat [])))]⟩)
        (R := fun j => j ≤ X.args.length) (m := fun j => X.args.length - j) 0 [(5, 5), (7, 7), (10, 10), (202, 202)] rfl rfl ⟨rfl, rfl, rfl, rfl, rfl, rfl, rfl, by rw [← hX]; rfl, by rw [← hX]; rfl, rfl, trivial⟩ (by simp) (Nat.zero_le _) ⟨rfl, rfl, by rw [← hX]; rfl, rfl, trivial⟩ ?_
      rintro j hj0
      refine KW.goIf lay_ok J2_ok 100 rfl (by simp) rfl trivial (fun h => ?_) fun h => ?_
      · have hj : j < X.args.length := by simpa using h
        have hg : X.args.getD (Int.toNat (j : Int)) 0 = X.args[j] := by simp [List.getD_eq_getElem?_getD, hj]
        have ha := x1 _ (List.getElem_mem hj)
        have htk : X.args.take (j + 1) = X.args.take j ++ [X.args[j]] := by rw [List.take_add_one, List.getElem?_eq_getElem hj]; rfl
        generalize X.args[j] = a at hg ha htk
        refine KW.go lay_ok J2_ok 100 rfl (by simp only [hg, g2]; simp [inK, List.length_take]; omega) (KW.catG 68 (fam.getD a.toNat []) rfl (fun p hp => ?_) (KW.to (j + 1) ⟨by omega, by omega⟩ [(5, 5), (7, 7), (10, 10), (202, 68)] ⟨rfl, rfl, ⟨rfl, rfl, rfl, rfl, rfl, rfl, rfl, rfl, rfl, rfl, trivial⟩, ⟨rfl, rfl, rfl, ?_, trivial⟩⟩))
        · have : p = 0 := by omega
          subst this
          simp only [hg]
          exact CVEq.refl _
        · rw [htk, List.map_append]; rfl
      have hj : j = X.args.length := by simp at h; omega
      subst hj
      refine KW.goOut lay_ok J2_ok 100 rfl (by simp) ?_
      refine KW.frz 202 [11] rfl rfl rfl ?_
      simp only [List.take_length]
      refine KW.conv 11 (intss (X.args.map fun a => fam.getD a.toNat [])) rfl (CVEq.refl _) ?_
      refine KW.goIf lay_ok J2_ok 100 rfl ?_ rfl trivial (fun h => ?_) fun h => ?_
      · simp only [isI_ints, unI_ints, isII_intss, unII_intss, true_and, and_true, ifcV_errV]
        refine ⟨by simp; omega, x3.1, x3.2.1, ?_⟩
        simpa using x3.2.2
      · simp only [unI_ints, unII_intss] at h
        have e : ¬ (nodePS X.kind X.k (X.args.map fun a => fam.getD a.toNat [])).2 = 0 := by
          have e : (!isNilB (errV 47 (nodePS X.kind X.k (X.args.map fun a => fam.getD a.toNat [])).2)) = true := h
          simpa using e
        rw [if_neg e] at g3
        have eE : pathsE ⟨q, ns, top⟩ = (nodePS X.kind X.k (X.args.map fun a => fam.getD a.toNat [])).2 := by rw [ePE, ← g3]
        have eL : pathsL ⟨q, ns, top⟩ = [] := by rw [ePL, eE, if_neg e]
        refine KW.goOutR lay_ok J2_ok 100 rfl (by simp) ?_
        refine KW.go lay_ok J2_ok 100 rfl (by simp) ?_
        refine KW.conv 2 (ints []) rfl ⟨rfl, rfl⟩ ?_
        simp only [unI_ints, unII_intss]
        rw [eE, eL]
        exact KW.fin [] rfl rfl rfl trivial
      · simp only [unI_ints, unII_intss] at h
        have e : (nodePS X.kind X.k (X.args.map fun a => fam.getD a.toNat [])).2 = 0 := by
          have e : (!isNilB (errV 47 (nodePS X.kind X.k (X.args.map fun a => fam.getD a.toNat [])).2)) = false := h
          simpa using e
        rw [if_pos e] at g3
        refine KW.go lay_ok J2_ok 100 rfl (by simp [inK, g2]; omega) (KW.catG 82 (nodePS X.kind X.k (X.args.map fun a => fam.getD a.toNat [])).1 rfl (fun p hp => ?_) (KW.to (i + 1, fam ++ [(nodePS X.kind X.k (X.args.map fun a => fam.getD a.toNat [])).1]) ⟨⟨by simp only; omega, by simp only [List.length_append, List.length_cons, List.length_nil]; omega, g3, fun l hl => (List.mem_append.1 hl).elim (g4 l) fun hl => by rw [List.mem_singleton.1 hl]; exact nodePS_len _ _ _⟩, by simp only; omega⟩ [(5, 5), (7, 82)] ⟨rfl, rfl, ⟨rfl, rfl, rfl, rfl, rfl, trivial⟩, ⟨rfl, rfl, trivial⟩⟩))
        have : p = 0 := by omega
        subst this
        simp only [unI_ints, unII_intss]
        exact CVEq.refl _
    · have hi : i = tn.length := by simp at h; omega
      rw [hi, List.drop_length] at g3
      replace g3 : (fam, (0 : Int)) = runP tn (fam0 q) := g3
      have eE : pathsE ⟨q, ns, top⟩ = 0 := by rw [ePE, ← g3]
      have eL : pathsL ⟨q, ns, top⟩ = fam.getD tt.toNat [] := by rw [ePL, if_pos eE, ← g3]
      rw [eE, eL]
      refine KW.goOut lay_ok J2_ok 100 rfl (by simp) ?_
      refine KW.go lay_ok J2_ok 100 rfl (by simp; omega) ?_
      refine KW.callO0 (clone_does (fam.getD tt.toNat []) (Nat.le_trans (getD_len g4 _) (by decide))) (enters Tryz.func80 rfl rfl) [] (.inl rfl) rfl rfl rfl rfl rfl trivial ⟨⟨_, _, rfl, trivial, .conv (CVEq.refl _)⟩, trivial⟩ rfl (.inl rfl) ?_
      refine KW.go lay_ok J2_ok 100 rfl (by simp) ?_
      refine KW.frz 89 [2] rfl rfl rfl ?_
      exact KW.fin [] rfl rfl rfl trivial
end Go.Proofs.YtocnofkagckhkaaGreatDoor
end
section
set_option linter.unusedSectionVars false
set_option linter.unusedVariables false
set_option linter.unusedSimpArgs false
namespace Go.Pu
open Go.Sy
variable [Drw]
end Go.Pu
namespace Go.Proofs.YtocnofkagckhkaaGreatDoor
open Go.Sy Go.Pu
variable [Drw]
theorem ex_fam : fam0 3 = [[1], [2], [4]] := by decide +kernel
end Go.Proofs.YtocnofkagckhkaaGreatDoor
namespace Go.Proofs.YtocnofkagckhkaaGreatDoor
open Go.Sy Go.Pu
variable [Drw]
def J3 : Fns := (40, fF (fun f => .tup [lV (pathsV f).1, eV (pathsV f).2]) FormIn) ::
  J2
theorem J3_ok : FnsOk Tryz.prog J3 := .cons (J2_ok) Tryz.func40 rfl rfl (fF_ok fun f h => paths_does f h)
end Go.Proofs.YtocnofkagckhkaaGreatDoor
namespace Go.Proofs.YtocnofkagckhkaaGreatDoor
open Go.Sy Go.Pu
variable [Drw]
def J4 : Fns := (26, fF (fun f => sI (formE f)) FormIn) ::
  (62, fF (fun f => sB (cohF f)) fun f => FormIn f ∧ formE f = 0) ::
  (91, fF (fun f => .e (blV (belowF f))) fun f => FormIn f ∧ formE f = 0) ::
  (63, fFI (fun f s => sB (setB f s)) fun f s => 0 ≤ f.vars ∧ f.vars ≤ 24) ::
  J3
theorem J4_ok : FnsOk Tryz.prog J4 := .cons (.cons (.cons (.cons (J3_ok) Tryz.func63 rfl rfl (fFI_ok fun f s h => set_does f s h)) Tryz.func91 rfl rfl (fF_ok fun f h => rbelow_does f h.1 h.2)) Tryz.func62 rfl rfl (fF_ok fun f h => rsyntax_does f h.1 h.2)) Tryz.func26 rfl rfl (fF_ok fun f h => rcheckF_does f h)
theorem rerror34_does (f : FormP) (hin : FormIn f) : DoesF Tryz.prog 31 [.ag (formC f)] [] (sI (pathE f)) [] := by
  refine DoesF.body _ Tryz.func31 rfl rfl rfl rfl ?_
  obtain ⟨vars, ns, top⟩ := f
  refine KW.goIf lay_ok J4_ok 100 rfl (by simp [hin]) rfl trivial (fun h => ?_) fun h => ?_
  · simp only [unN_nodesC] at h
    have h1 : ¬ formE ⟨vars, ns, top⟩ = 0 := by
      have e : (formE ⟨vars, ns, top⟩ != 0) = true := h
      simpa using e
    refine KW.goRet lay_ok J4_ok 100 rfl rfl ?_ (by simp) trivial
    simp only [unN_nodesC, pathE, if_neg h1]; rfl
  · simp only [unN_nodesC] at h
    have h1 : formE ⟨vars, ns, top⟩ = 0 := by
      have e : (formE ⟨vars, ns, top⟩ != 0) = false := h
      simpa using e
    refine KW.goIf lay_ok J4_ok 100 rfl (by simp [hin, h1]) rfl trivial (fun h => ?_) fun h => ?_
    · simp only [unN_nodesC] at h
      have h2 : cohF ⟨vars, ns, top⟩ = false := by
        have e : (!cohF ⟨vars, ns, top⟩) = true := h
        simpa using e
      refine KW.goRet lay_ok J4_ok 100 rfl rfl ?_ (by simp) trivial
      simp only [pathE, if_pos h1, h2]; rfl
    · simp only [unN_nodesC] at h
      have h2 : cohF ⟨vars, ns, top⟩ = true := by
        have e : (!cohF ⟨vars, ns, top⟩) = false := h
        simpa using e
      refine KW.goRet lay_ok J4_ok 100 rfl rfl ?_ (by simp) trivial
      simp only [pathE, if_pos h1, h2]; rfl
def J5 : Fns := (31, fF (fun f => sI (pathE f)) FormIn) ::
  J4
theorem J5_ok : FnsOk Tryz.prog J5 := .cons (J4_ok) Tryz.func31 rfl rfl (fF_ok fun f h => rerror34_does f h)
theorem rerrorOf34_does (f : FormP) (s : Int) (hin : FormIn f) : DoesF Tryz.prog 107 [.ag (formC f), iV s] [] (sI (pathSE f s)) [] := by
  refine DoesF.body _ Tryz.func107 rfl rfl rfl rfl ?_
  obtain ⟨vars, ns, top⟩ := f
  refine KW.goIf lay_ok J5_ok 100 rfl (by simp [hin]) rfl trivial (fun h => ?_) fun h => ?_
  · simp only [unN_nodesC] at h
    have h1 : ¬ pathE ⟨vars, ns, top⟩ = 0 := by
      have e : (pathE ⟨vars, ns, top⟩ != 0) = true := h
      simpa using e
    refine KW.goRet lay_ok J5_ok 100 rfl rfl ?_ (by simp) trivial
    simp only [unN_nodesC, pathSE, if_neg h1]; rfl
  · simp only [unN_nodesC] at h
    have h1 : pathE ⟨vars, ns, top⟩ = 0 := by
      have e : (pathE ⟨vars, ns, top⟩ != 0) = false := h
      simpa using e
    have h0 : formE ⟨vars, ns, top⟩ = 0 := by
      unfold pathE at h1
      split at h1
      · assumption
      · exact h1
    have hv := (formE_ok h0).vars
    simp only at hv
    have hsb : setB ⟨vars, ns, top⟩ s = decide (0 ≤ s ∧ s < ishl 1 vars) := by
      simp [setB]
    refine KW.goIf lay_ok J5_ok 100 rfl (by simp [hv]) rfl trivial (fun h => ?_) fun h => ?_
    · simp only [unN_nodesC] at h
      have h2 : ¬ (0 ≤ s ∧ s < ishl 1 vars) := by
        have e : (!setB ⟨vars, ns, top⟩ s) = true := h
        rw [hsb] at e; simp at e; omega
      refine KW.goRet lay_ok J5_ok 100 rfl rfl ?_ (by simp) trivial
      simp only [pathSE, if_pos h1]; rw [if_neg h2]; rfl
    · simp only [unN_nodesC] at h
      have h2 : 0 ≤ s ∧ s < ishl 1 vars := by
        have e : (!setB ⟨vars, ns, top⟩ s) = false := h
        rw [hsb] at e; simpa using e
      refine KW.goRet lay_ok J5_ok 100 rfl rfl ?_ (by simp) trivial
      simp only [pathSE, if_pos h1]; rw [if_pos h2]; rfl
end Go.Proofs.YtocnofkagckhkaaGreatDoor
namespace Go.Pu
open Go.Sy
variable [Drw]
def brA : List NodeP → Int
  | [] => 0
  | x :: r => x.args.length + brA r
def brV : List NodeP → Int
  | [] => 0
  | x :: r => (if x.kind = 4 then (x.args.length : Int) * ((x.args.length : Int) - x.k + 1) else 0) + brV r
def broadF (f : FormP) : Bool := decide (80 < brA f.nodes) || decide (130 < brV f.nodes)
end Go.Pu
namespace Go.Proofs.YtocnofkagckhkaaGreatDoor
open Go.Sy Go.Pu
variable [Drw]
def J6 : Fns := J5
theorem J6_ok : FnsOk Tryz.prog J6 := J5_ok
def J7 : Fns := J6
theorem J7_ok : FnsOk Tryz.prog J7 := J6_ok
end Go.Proofs.YtocnofkagckhkaaGreatDoor
end
