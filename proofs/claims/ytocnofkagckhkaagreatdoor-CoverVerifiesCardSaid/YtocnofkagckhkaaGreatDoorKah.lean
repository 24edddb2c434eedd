/-
  CvD, CvE, CvF, CvG, CvH, CvJ, TrL, StR, Shelf4, StP, StQ, TrT, CvI, CvK, TopA, TopB, TopT, TopU, TopF, TopV, TopX, TopP, CvL, CvM, CvN, one text.
-/
import Derived.Test.YtocnofkagckhkaaGreatDoorKag
import Derived.Shelf.Strconv.Itoa3
import Derived.Shelf.Strconv.Atoi
import Derived.Lib.SmallJoins
import Derived.Lib.LaidTab
import Derived.Shelf.Strings.Builder1
import Derived.Shelf.LaysM
import Derived.Test.YtocnofkagckhkaaGreatDoorProg
import Derived.KernelRfl
import Derived.Lib.AppendStr
import Derived.Lib.UnsafeStr
import Derived.Lib.Builder
import Derived.Laws.Pointers
import Derived.Laws.Externs
import Derived.Lib.AppendIntMem
import Derived.ProofKit
import Derived.OpenShut
import Derived.ShutString
import Derived.ChangeOld
import Derived.Below
import Derived.Deep.Strs
import Derived.Test.YtocnofkagckhkaaGreatDoorRows
import Derived.HandedShaped
import Derived.LaidSub
import Derived.MakeChecks
import Derived.Shelf.Vars
section
set_option linter.unusedSectionVars false
set_option linter.unusedVariables false
set_option linter.unusedSimpArgs false
namespace Go.Proofs.YtocnofkagckhkaaGreatDoor
open Go.Sy Go.Pu Go.Proofs.YtocnofkagckhkaaGreatDoor.Tr
variable [Drw]
theorem rsets36_does (f : FormP) (l : List Int) (hv : 0 ≤ f.vars ∧ f.vars ≤ 24) : DoesF Tryz.prog 32 [.ag (formC f), lV l] [] (sI (setE f.vars l)) [] := by
  refine DoesF.body _ Tryz.func32 rfl rfl rfl rfl ?_
  obtain ⟨vars, ns, top⟩ := f
  simp only at hv
  refine KW.goIf lay_ok Y1_ok 100 rfl (by simp) rfl trivial (fun h => ?_) fun h => ?_
  · have h1 : 1024 < l.length := by simp at h; omega
    refine KW.goRet lay_ok Y1_ok 100 rfl rfl ?_ (by simp) trivial
    rw [setE, if_pos h1]; rfl
  have h1 : ¬ 1024 < l.length := by simp at h; omega
  simp only [setE, if_neg h1]
  refine KW.goLpR lay_ok Y1_ok 100 rfl (I := fun q : Nat => ⟨Tryz.f32.ntmps, [(2, .e (.r 2)), (10, .e (lV l)), (11, sI l.length), (12, sI q)], [(2, .box 24 [iV vars, .c (nodesC ns), iV top] none)]⟩)
    (R := fun q => q ≤ l.length ∧ (l.take q).all (fun s => decide (0 ≤ s) && decide (s < ishl 1 vars)) = true) (m := fun q => l.length - q) 0 [(2, 2)] rfl rfl ⟨rfl, rfl, rfl, rfl, trivial⟩ (by simp) ⟨Nat.zero_le _, rfl⟩ ⟨rfl, trivial⟩ ?_
  rintro q ⟨hq0, hall⟩
  refine KW.goIf lay_ok Y1_ok 100 rfl (by simp) rfl trivial (fun h => ?_) fun h => ?_
  · have hq : q < l.length := by simp at h; omega
    have hg : l.getD (Int.toNat (q : Int)) 0 = l[q] := by simp [List.getD_eq_getElem?_getD, hq]
    have htk : l.take (q + 1) = l.take q ++ [l[q]] := by rw [List.take_add_one, List.getElem?_eq_getElem hq]; rfl
    refine KW.goIf lay_ok Y1_ok 100 rfl ?_ rfl trivial (fun h => ?_) fun h => ?_
    · simp only [unN_nodesC, isN_nodesC, true_and, and_true]
      simp
      omega
    · have h3 : (decide (0 ≤ l[q]) && decide (l[q] < ishl 1 vars)) = false := by
        rw [hg] at h; rw [Bool.not_eq_true'] at h; exact h
      have h4 : (l.all fun s => decide (0 ≤ s) && decide (s < ishl 1 vars)) = false := by
        rw [List.all_eq_false]
        exact ⟨_, List.getElem_mem hq, by rw [h3]; decide⟩
      refine KW.goOutR lay_ok Y1_ok 100 rfl (by simp) ?_
      refine KW.goRet lay_ok Y1_ok 100 rfl rfl ?_ (by simp) trivial
      rw [h4]; rfl
    · have h3 : (decide (0 ≤ l[q]) && decide (l[q] < ishl 1 vars)) = true := by
        rw [hg] at h; rw [Bool.not_eq_false'] at h; exact h
      refine KW.goToR lay_ok Y1_ok 100 rfl (q + 1) [(2, 2)] rfl rfl ⟨rfl, rfl, rfl, rfl, trivial⟩ (by simp [inK]; omega) ⟨⟨by omega, ?_⟩, by omega⟩ ⟨rfl, trivial⟩
      rw [htk, List.all_append, hall]
      simp only [List.all_cons, List.all_nil, Bool.and_true, h3, Bool.true_and]
  · have hq : q = l.length := by simp at h; omega
    refine KW.goOut lay_ok Y1_ok 100 rfl (by simp) ?_
    refine KW.goRet lay_ok Y1_ok 100 rfl rfl ?_ (by simp) trivial
    rw [hq, List.take_length] at hall
    rw [hall]; rfl
theorem rcheck36_does (f : FormP) (c : CovP) (hin : FormIn f) : DoesF Tryz.prog 11 [.ag (formC f), .ag (covC c)] [] (sI (covE f c)) [] := by
  refine DoesF.body _ Tryz.func11 rfl rfl rfl rfl ?_
  obtain ⟨vars, ns, top⟩ := f
  obtain ⟨cuts, paths, t⟩ := c
  refine KW.goIf lay_ok Y1_ok 100 rfl (by simp only [unN_nodesC, isN_nodesC, true_and, and_true]; exact hin) rfl trivial (fun h => ?_) fun h => ?_
  · have h1 : pathE ⟨vars, ns, top⟩ ≠ 0 := by simpa [unN_nodesC] using h
    refine KW.goRet lay_ok Y1_ok 100 rfl rfl ?_ (by simp) trivial
    rw [covE, if_neg h1]; simp only [unN_nodesC]; rfl
  have h1 : pathE ⟨vars, ns, top⟩ = 0 := by simpa [unN_nodesC] using h
  have hv := (formE_ok (pathE_ok h1).1).vars
  simp only at hv
  rw [covE, if_pos h1]
  refine KW.go lay_ok Y1_ok 100 rfl (by simp) ?_
  refine KW.callV0 (rsets36_does ⟨vars, ns, top⟩ cuts hv) (enters Tryz.func32 rfl rfl) [] (.inl rfl) rfl rfl rfl rfl rfl trivial
    ⟨⟨_, _, rfl, trivial, (show Mt _ _ _ (EV.ren [] (.ag (formC ⟨vars, ns, top⟩))) (.ag (formC ⟨vars, ns, top⟩)) from .same)⟩, ⟨_, _, rfl, trivial, .conv (CVEq.refl _)⟩, trivial⟩ rfl (.inl rfl) ?_
  simp only
  refine KW.goIf lay_ok Y1_ok 100 rfl (by simp) rfl trivial (fun h => ?_) fun h => ?_
  · have h2 : setE vars cuts ≠ 0 := by simpa using h
    refine KW.goRet lay_ok Y1_ok 100 rfl rfl ?_ (by simp) trivial
    rw [if_neg h2]; rfl
  have h2 : setE vars cuts = 0 := by simpa using h
  rw [if_pos h2]
  refine KW.go lay_ok Y1_ok 100 rfl (by simp) ?_
  refine KW.callV0 (rsets36_does ⟨vars, ns, top⟩ paths hv) (enters Tryz.func32 rfl rfl) [] (.inl rfl) rfl rfl rfl rfl rfl trivial
    ⟨⟨_, _, rfl, trivial, (show Mt _ _ _ (EV.ren [] (.ag (formC ⟨vars, ns, top⟩))) (.ag (formC ⟨vars, ns, top⟩)) from .same)⟩, ⟨_, _, rfl, trivial, .conv (CVEq.refl _)⟩, trivial⟩ rfl (.inl rfl) ?_
  refine KW.goIf lay_ok Y1_ok 100 rfl (by simp) rfl trivial (fun h => ?_) fun h => ?_
  · have h2 : setE vars paths ≠ 0 := by simpa using h
    refine KW.goRet lay_ok Y1_ok 100 rfl rfl ?_ (by simp) trivial
    rw [if_neg h2]; rfl
  have h3 : setE vars paths = 0 := by simpa using h
  rw [if_pos h3]
  refine KW.goRet lay_ok Y1_ok 100 rfl rfl ?_ (by simp [unTr_cells]) trivial
  simp only [unTr_cells]; rfl
theorem names_does (c : CovP) (l : LeafP) (hr : inK .i64 l.reason) (hr2 : l.reason ≠ -9223372036854775808 ∨ True) (hcl : c.cuts.length ≤ 1024) (hpl : c.paths.length ≤ 1024) : DoesF Tryz.prog 77 [.ag (covC c), .ag (leafL l)] [] (sB (showsB c.cuts c.paths l)) [] := by
  refine DoesF.body _ Tryz.func77 rfl rfl rfl rfl ?_
  obtain ⟨cuts, paths, t⟩ := c
  obtain ⟨yes, no, r⟩ := l
  simp only [inK] at hr hcl hpl
  refine KW.goIf lay_ok Y1_ok 100 rfl (by simp) rfl trivial (fun h => ?_) fun h => ?_
  · have h0 : 0 ≤ r := by simpa using h
    rw [showsB, if_pos h0]
    refine KW.goDV lay_ok Y1_ok rfl 100 rfl 19 30 0 rfl (by decide +kernel) (by decide +kernel) rfl rfl rfl (by simp) ?_ ?_
    · simp +contextual [inK, h0]
    refine KW.goRet lay_ok Y1_ok 100 rfl rfl rfl (by simp) trivial
  have h0 : ¬ 0 ≤ r := by simpa using h
  rw [showsB, if_neg h0, show -1 - r = -(r + 1) by omega]
  refine KW.go lay_ok Y1_ok 100 rfl (by simp [inK]; omega) ?_
  refine KW.goDV lay_ok Y1_ok rfl 100 rfl 17 30 0 rfl (by decide +kernel) (by decide +kernel) rfl rfl rfl (by simp) ?_ ?_
  · simp +contextual [inK, h0]
    omega
  exact KW.goRet lay_ok Y1_ok 100 rfl rfl rfl (by simp) trivial
set_option maxHeartbeats 6400000 in
theorem rfault36_does (f : FormP) (c : CovP) (hin : FormIn f) (hct : c.tree.In) (h0 : covE f c = 0) : DoesF Tryz.prog 39 [.ag (formC f), .ag (covC c)] [] (.e (faV (faultV f c))) [] := by
  refine DoesF.bodyC lay_ok _ Tryz.func39 rfl rfl rfl rfl ?_
  obtain ⟨e1, e2, e3, e4⟩ := covE_zero h0
  obtain ⟨hf0, hcoh⟩ := pathE_ok e1
  have hv := (formE_ok hf0).vars
  obtain ⟨n, hn⟩ := Int.eq_ofNat_of_zero_le (show 0 ≤ f.vars by omega)
  have hn24 : n ≤ 24 := by omega
  have hnn : f.vars.toNat = n := by omega
  obtain ⟨c1, c2⟩ := setE_zero hn24 (hn ▸ e2)
  obtain ⟨p1, p2⟩ := setE_zero hn24 (hn ▸ e3)
  have hsc : ∀ i, i < c.cuts.length → pathSE f (c.cuts.getD i 0) = 0 := fun i hi => pathSE_in e1 hn hn24 (c2 _ (getD_mem hi))
  have hsp : ∀ i, i < c.paths.length → pathSE f (c.paths.getD i 0) = 0 := fun i hi => pathSE_in e1 hn hn24 (p2 _ (getD_mem hi))
  obtain ⟨cuts, paths, t⟩ := c
  obtain ⟨vars, ns, top⟩ := f
  simp only at hsc hsp c1 p1 e4 hct
  refine KW.goLpR lay_ok Y1_ok 200 rfl (I := fun q : Nat => ⟨Tryz.f39.ntmps, [(2, .e (.r 2)), (3, .e (.r 3)), (4, .e (.r 4)), (24, .e (lV cuts)), (25, sI cuts.length), (26, sI q)], [(2, .box 24 [iV vars, .c (nodesC ns), iV top] none), (3, .box 30 [lV cuts, lV paths, iV t.v, .c t.ks, iV t.r] none), (4, .box 35 [iV 0, iV 0] none)]⟩)
    (R := fun q => q ≤ cuts.length ∧ ∀ j, j < q → bad1 ⟨vars, ns, top⟩ ⟨cuts, paths, t⟩ j = false) (m := fun q => cuts.length - q) 0 [(2, 2), (3, 3), (4, 4)] rfl rfl ⟨rfl, rfl, rfl, rfl, rfl, rfl, trivial⟩ (by simp) ⟨Nat.zero_le _, fun j hj => absurd hj (by omega)⟩ ⟨rfl, rfl, rfl, trivial⟩ ?_
  rintro q ⟨hq0, hz⟩
  refine KW.goIf lay_ok Y1_ok 100 rfl (by simp) rfl trivial (fun h => ?_) fun h => ?_
  · have hq : q < cuts.length := by simp at h; omega
    have hgi : cuts.getD (Int.toNat (q : Int)) 0 = cuts.getD q 0 := by rw [Int.toNat_natCast]
    have hs := hsc q hq
    have hbad : (!isV ⟨vars, unN (nodesC ns), top⟩ (cuts.getD (Int.toNat (q : Int)) 0) false) = bad1 ⟨vars, ns, top⟩ ⟨cuts, paths, t⟩ q := by
      simp [isV, bad1, bad3, unN_nodesC, hgi, hs, -List.getD_eq_getElem?_getD]
    refine KW.goIf lay_ok Y1_ok 100 rfl ?_ rfl trivial (fun h => ?_) fun h => ?_
    · simp only [unN_nodesC, isN_nodesC, hgi, hs, true_and, and_true]
      simp +contextual [hin, inK, -List.getD_eq_getElem?_getD]
      omega
    · have hb : bad1 ⟨vars, ns, top⟩ ⟨cuts, paths, t⟩ q = true := hbad.symm.trans h
      have e : faultV ⟨vars, ns, top⟩ ⟨cuts, paths, t⟩ = (1, (q : Int)) := by rw [faultV, firstB_some hq hb hz]
      refine KW.goOutR lay_ok Y1_ok 100 rfl (by simp) ?_
      refine KW.goRetC lay_ok Y1_ok 100 rfl rfl ?_ (by simp) trivial
      rw [e]; rfl
    have hb : bad1 ⟨vars, ns, top⟩ ⟨cuts, paths, t⟩ q = false := hbad.symm.trans h
    refine KW.goToR lay_ok Y1_ok 100 rfl (q + 1) [(2, 2), (3, 3), (4, 4)] rfl rfl ⟨rfl, rfl, rfl, rfl, rfl, rfl, trivial⟩ (by simp [inK]; omega) ⟨⟨by omega, fun j hj => ?_⟩, by omega⟩ ⟨rfl, rfl, rfl, trivial⟩
    by_cases hjq : j = q
    · rw [hjq]; exact hb
    · exact hz j (by omega)
  have hz1 : ∀ j, j < cuts.length → bad1 ⟨vars, ns, top⟩ ⟨cuts, paths, t⟩ j = false := fun j hj => hz j (by simp at h; omega)
  have hn1 := firstB_none.2 hz1
  clear h hz hq0
  refine KW.goOut lay_ok Y1_ok 100 rfl (by simp) ?_
  refine KW.goLpR lay_ok Y1_ok 200 rfl (I := fun q : Nat => ⟨Tryz.f39.ntmps, [(2, .e (.r 2)), (3, .e (.r 3)), (4, .e (.r 4)), (43, .e (lV cuts)), (44, sI cuts.length), (45, sI q)], [(2, .box 24 [iV vars, .c (nodesC ns), iV top] none), (3, .box 30 [lV cuts, lV paths, iV t.v, .c t.ks, iV t.r] none), (4, .box 35 [iV 0, iV 0] none)]⟩)
    (R := fun q => q ≤ cuts.length ∧ ∀ j, j < q → bad2 ⟨vars, ns, top⟩ ⟨cuts, paths, t⟩ j = false) (m := fun q => cuts.length - q) 0 [(2, 2), (3, 3), (4, 4)] rfl rfl ⟨rfl, rfl, rfl, rfl, rfl, rfl, trivial⟩ (by simp) ⟨Nat.zero_le _, fun j hj => absurd hj (by omega)⟩ ⟨rfl, rfl, rfl, trivial⟩ ?_
  rintro q ⟨hq0, hz⟩
  refine KW.goIf lay_ok Y1_ok 100 rfl (by simp) rfl trivial (fun h => ?_) fun h => ?_
  · have hq : q < cuts.length := by simp at h; omega
    have hgi : cuts.getD (Int.toNat (q : Int)) 0 = cuts.getD q 0 := by rw [Int.toNat_natCast]
    have hs := hsc q hq
    have htk : isI (.sl q 1 fun e _ => .lit (.int .i64 (cuts.getD e 0))) ∧ unI (.sl q 1 fun e _ => .lit (.int .i64 (cuts.getD e 0))) = cuts.take q := isI_drop cuts q 0 (by omega)
    have hM : minV ⟨vars, ns, top⟩ (cuts.getD q 0) false = minP ⟨vars, ns, top⟩ (cuts.getD q 0) false vars.toNat := by rw [minV, hs, decide_eq_true rfl, Bool.true_and]
    have hb2 : bad2 ⟨vars, ns, top⟩ ⟨cuts, paths, t⟩ q = !(minP ⟨vars, ns, top⟩ (cuts.getD q 0) false vars.toNat && !((cuts.take q).contains (cuts.getD q 0))) := rfl
    generalize hv0 : cuts.getD q 0 = v at *
    refine KW.goLpR lay_ok Y1_ok 200 rfl (I := fun p : Nat => ⟨Tryz.f39.ntmps, [(2, .e (.r 2)), (3, .e (.r 3)), (4, .e (.r 4)), (9, sI q), (10, sI v), (11, sB (minV ⟨vars, ns, top⟩ v false && !((cuts.take p).contains v))), (43, .e (lV cuts)), (44, sI cuts.length), (45, sI q), (59, .e (.c (.sl q 1 fun e _ => .lit (.int .i64 (cuts.getD e 0))))), (60, sI q), (61, sI p)], [(2, .box 24 [iV vars, .c (nodesC ns), iV top] none), (3, .box 30 [lV cuts, lV paths, iV t.v, .c t.ks, iV t.r] none), (4, .box 35 [iV 0, iV 0] none)]⟩)
      (R := fun p => p ≤ q) (m := fun p => q - p) 0 [(2, 2), (3, 3), (4, 4)] rfl rfl ⟨rfl, rfl, rfl, rfl, by rw [← hgi]; rfl, ?_, rfl, rfl, rfl, rfl, rfl, rfl, trivial⟩ ?_ (Nat.zero_le _) ⟨rfl, rfl, rfl, trivial⟩ ?_
    · have e : (minV ⟨vars, ns, top⟩ v false && !((cuts.take 0).contains v)) = minV ⟨vars, unN (nodesC ns), top⟩ (cuts.getD (Int.toNat (q : Int)) 0) false := by
        rw [unN_nodesC, hgi]; simp
      rw [e]; rfl
    · simp only [unN_nodesC, isN_nodesC, hgi, true_and, and_true]
      simp [hin, inK]
      omega
    · intro p hp
      refine KW.goIf lay_ok Y1_ok 100 rfl (by simp) rfl trivial (fun h => ?_) fun h => ?_
      · have hpq : p < q := by simp at h; omega
        have hgp : cuts.getD (Int.toNat (p : Int)) 0 = cuts[p] := by simp [List.getD_eq_getElem?_getD, show p < cuts.length by omega]
        have htk1 : cuts.take (p + 1) = cuts.take p ++ [cuts[p]] := by rw [List.take_add_one, List.getElem?_eq_getElem (by omega)]; rfl
        refine KW.goToR lay_ok Y1_ok 100 rfl (p + 1) [(2, 2), (3, 3), (4, 4)] rfl rfl ⟨rfl, rfl, rfl, rfl, rfl, ?_, rfl, rfl, rfl, rfl, rfl, rfl, trivial⟩ ?_ ⟨by omega, by omega⟩ ⟨rfl, rfl, rfl, trivial⟩
        · have e2 : ((minV ⟨vars, ns, top⟩ v false && !((cuts.take p).contains v)) && (cuts.getD (Int.toNat (p : Int)) 0 != v)) = (minV ⟨vars, ns, top⟩ v false && !((cuts.take (p + 1)).contains v)) := by
            rw [hgp, htk1]
            have : (cuts.take p ++ [cuts[p]]).contains v = ((cuts.take p).contains v || (cuts[p] == v)) := by
              rw [Bool.eq_iff_iff, Bool.or_eq_true, List.contains_iff_mem, List.contains_iff_mem, List.mem_append, List.mem_singleton, beq_iff_eq, eq_comm (a := v)]
            rw [this, Bool.not_or, Bool.and_assoc]; rfl
          rw [← e2]; rfl
        · simp +contextual [inK]
          omega
      have hpe : p = q := by simp at h; omega
      subst hpe
      refine KW.goOut lay_ok Y1_ok 100 rfl (by simp) ?_
      have hbad : (!(minV ⟨vars, ns, top⟩ v false && !((cuts.take p).contains v))) = bad2 ⟨vars, ns, top⟩ ⟨cuts, paths, t⟩ p := by rw [hb2, hM]
      refine KW.goIf lay_ok Y1_ok 100 rfl (by simp) rfl trivial (fun h => ?_) fun h => ?_
      · have hb : bad2 ⟨vars, ns, top⟩ ⟨cuts, paths, t⟩ p = true := hbad.symm.trans h
        have e : faultV ⟨vars, ns, top⟩ ⟨cuts, paths, t⟩ = (2, (p : Int)) := by rw [faultV, hn1, firstB_some hq hb hz]
        refine KW.goOutR lay_ok Y1_ok 100 rfl (by simp) ?_
        refine KW.goRetC lay_ok Y1_ok 100 rfl rfl ?_ (by simp) trivial
        rw [e]; rfl
      have hb : bad2 ⟨vars, ns, top⟩ ⟨cuts, paths, t⟩ p = false := hbad.symm.trans h
      refine KW.goToR lay_ok Y1_ok 100 rfl (p + 1) [(2, 2), (3, 3), (4, 4)] rfl rfl ⟨rfl, rfl, rfl, rfl, rfl, rfl, trivial⟩ (by simp [inK]; omega) ⟨⟨by omega, fun j hj => ?_⟩, by omega⟩ ⟨rfl, rfl, rfl, trivial⟩
      by_cases hjq : j = p
      · rw [hjq]; exact hb
      · exact hz j (by omega)
  have hz2 : ∀ j, j < cuts.length → bad2 ⟨vars, ns, top⟩ ⟨cuts, paths, t⟩ j = false := fun j hj => hz j (by simp at h; omega)
  have hn2 := firstB_none.2 hz2
  clear h hz hq0
  refine KW.goOut lay_ok Y1_ok 100 rfl (by simp) ?_
  refine KW.goLpR lay_ok Y1_ok 200 rfl (I := fun q : Nat => ⟨Tryz.f39.ntmps, [(2, .e (.r 2)), (3, .e (.r 3)), (4, .e (.r 4)), (78, .e (lV paths)), (79, sI paths.length), (80, sI q)], [(2, .box 24 [iV vars, .c (nodesC ns), iV top] none), (3, .box 30 [lV cuts, lV paths, iV t.v, .c t.ks, iV t.r] none), (4, .box 35 [iV 0, iV 0] none)]⟩)
    (R := fun q => q ≤ paths.length ∧ ∀ j, j < q → bad3 ⟨vars, ns, top⟩ ⟨cuts, paths, t⟩ j = false) (m := fun q => paths.length - q) 0 [(2, 2), (3, 3), (4, 4)] rfl rfl ⟨rfl, rfl, rfl, rfl, rfl, rfl, trivial⟩ (by simp) ⟨Nat.zero_le _, fun j hj => absurd hj (by omega)⟩ ⟨rfl, rfl, rfl, trivial⟩ ?_
  rintro q ⟨hq0, hz⟩
  refine KW.goIf lay_ok Y1_ok 100 rfl (by simp) rfl trivial (fun h => ?_) fun h => ?_
  · have hq : q < paths.length := by simp at h; omega
    have hgi : paths.getD (Int.toNat (q : Int)) 0 = paths.getD q 0 := by rw [Int.toNat_natCast]
    have hs := hsp q hq
    have hbad : (!isV ⟨vars, unN (nodesC ns), top⟩ (paths.getD (Int.toNat (q : Int)) 0) true) = bad3 ⟨vars, ns, top⟩ ⟨cuts, paths, t⟩ q := by
      simp [isV, bad1, bad3, unN_nodesC, hgi, hs, -List.getD_eq_getElem?_getD]
    refine KW.goIf lay_ok Y1_ok 100 rfl ?_ rfl trivial (fun h => ?_) fun h => ?_
    · simp only [unN_nodesC, isN_nodesC, hgi, hs, true_and, and_true]
      simp +contextual [hin, inK, -List.getD_eq_getElem?_getD]
      omega
    · have hb : bad3 ⟨vars, ns, top⟩ ⟨cuts, paths, t⟩ q = true := hbad.symm.trans h
      have e : faultV ⟨vars, ns, top⟩ ⟨cuts, paths, t⟩ = (3, (q : Int)) := by rw [faultV, hn1, hn2, firstB_some hq hb hz]
      refine KW.goOutR lay_ok Y1_ok 100 rfl (by simp) ?_
      refine KW.goRetC lay_ok Y1_ok 100 rfl rfl ?_ (by simp) trivial
      rw [e]; rfl
    have hb : bad3 ⟨vars, ns, top⟩ ⟨cuts, paths, t⟩ q = false := hbad.symm.trans h
    refine KW.goToR lay_ok Y1_ok 100 rfl (q + 1) [(2, 2), (3, 3), (4, 4)] rfl rfl ⟨rfl, rfl, rfl, rfl, rfl, rfl, trivial⟩ (by simp [inK]; omega) ⟨⟨by omega, fun j hj => ?_⟩, by omega⟩ ⟨rfl, rfl, rfl, trivial⟩
    by_cases hjq : j = q
    · rw [hjq]; exact hb
    · exact hz j (by omega)
  have hz3 : ∀ j, j < paths.length → bad3 ⟨vars, ns, top⟩ ⟨cuts, paths, t⟩ j = false := fun j hj => hz j (by simp at h; omega)
  have hn3 := firstB_none.2 hz3
  clear h hz hq0
  refine KW.goOut lay_ok Y1_ok 100 rfl (by simp) ?_
  refine KW.go lay_ok Y1_ok 200 rfl (by simp [unTr_cells]) ?_
  have hL : splL t vars = lvs t 0 0 := by rw [splL, if_pos e4]
  obtain ⟨hg, hc4⟩ := splE_g e4
  have hli := lvs_in t hg hct 0 0
  have hll := lvs_len t 0 0
  have hsz := szT_rng t
  simp only [unTr_cells, hL]
  have hb4 : ∀ j, bad4 ⟨cuts, paths, t⟩ j = !showsB cuts paths ((lvs t 0 0).getD j leaf0) := fun j => rfl
  have hfv : ∀ x, firstB (bad4 ⟨cuts, paths, t⟩) (lvs t 0 0).length = x → faultV ⟨vars, ns, top⟩ ⟨cuts, paths, t⟩ = match x with
    | some i => (4, (i : Int))
    | none => (0, 0) := fun x hx => by rw [faultV, hn1, hn2, hn3, hx]; cases x <;> rfl
  generalize lvs t 0 0 = L at *
  refine KW.goLpR lay_ok Y1_ok 200 rfl (I := fun q : Nat => ⟨Tryz.f39.ntmps, [(3, .e (.r 3)), (4, .e (.r 4)), (104, .e (lvV L)), (105, sI L.length), (106, sI q)], [(3, .box 30 [lV cuts, lV paths, iV t.v, .c t.ks, iV t.r] none), (4, .box 35 [iV 0, iV 0] none)]⟩)
    (R := fun q => q ≤ L.length ∧ ∀ j, j < q → bad4 ⟨cuts, paths, t⟩ j = false) (m := fun q => L.length - q) 0 [(3, 3), (4, 4)] rfl rfl ⟨rfl, rfl, rfl, rfl, rfl, trivial⟩ (by simp) ⟨Nat.zero_le _, fun j hj => absurd hj (by omega)⟩ ⟨rfl, rfl, trivial⟩ ?_
  rintro q ⟨hq0, hz⟩
  refine KW.goIf lay_ok Y1_ok 100 rfl (by simp) rfl trivial (fun h => ?_) fun h => ?_
  · have hq : q < L.length := by simp at h; omega
    have hgi : L.getD (Int.toNat (q : Int)) leaf0 = L.getD q leaf0 := by rw [Int.toNat_natCast]
    have hX : inK .i64 (L.getD q leaf0).reason := hli _ (by rw [List.getD_eq_getElem?_getD, List.getElem?_eq_getElem hq]; exact List.getElem_mem hq)
    refine KW.go lay_ok Y1_ok 100 rfl (by simp; omega) ?_
    refine KW.callV0 (names_does ⟨cuts, paths, t⟩ (L.getD (Int.toNat (q : Int)) leaf0) (by rw [hgi]; exact hX) (.inr trivial) c1 p1) (enters Tryz.func77 rfl rfl) [] (.inl rfl) rfl rfl rfl rfl rfl trivial
      ⟨⟨_, _, rfl, trivial, (show Mt _ _ _ (EV.ren [] (.ag (covC ⟨cuts, paths, t⟩))) (.ag (covC ⟨cuts, paths, t⟩)) from .same)⟩, ⟨_, _, rfl, trivial, (show Mt _ _ _ (EV.ren [] (.ag (leafL (L.getD (Int.toNat (q : Int)) leaf0)))) (.ag (leafL (L.getD (Int.toNat (q : Int)) leaf0))) from .same)⟩, trivial⟩ rfl (.inl rfl) ?_
    refine KW.goIf lay_ok Y1_ok 100 rfl (by simp) rfl trivial (fun h => ?_) fun h => ?_
    · have hb : bad4 ⟨cuts, paths, t⟩ q = true := by rw [hb4, ← hgi]; exact h
      refine KW.goOutR lay_ok Y1_ok 100 rfl (by simp) ?_
      refine KW.goRetC lay_ok Y1_ok 100 rfl rfl ?_ (by simp) trivial
      rw [hfv _ (firstB_some hq hb hz)]; rfl
    have hb : bad4 ⟨cuts, paths, t⟩ q = false := by rw [hb4, ← hgi]; exact h
    refine KW.goToR lay_ok Y1_ok 100 rfl (q + 1) [(3, 3), (4, 4)] rfl rfl ⟨rfl, rfl, rfl, rfl, rfl, trivial⟩ (by simp [inK]; omega) ⟨⟨by omega, fun j hj => ?_⟩, by omega⟩ ⟨rfl, rfl, trivial⟩
    by_cases hjq : j = q
    · rw [hjq]; exact hb
    · exact hz j (by omega)
  refine KW.goOut lay_ok Y1_ok 100 rfl (by simp) ?_
  refine KW.goRetC lay_ok Y1_ok 100 rfl rfl ?_ (by simp) trivial
  rw [hfv _ (firstB_none.2 fun j hj => hz j (by simp at h; omega))]; rfl
theorem fault_pair (f : FormP) (c : CovP) : decide ([(faultV f c).1, (faultV f c).2] = [0, 0]) = decide ((faultV f c).1 = 0) := by
  by_cases h : (faultV f c).1 = 0
  · rw [fault_zero' h]; rfl
  · simp [h]
set_option maxHeartbeats 1600000 in
theorem rverify36_does (f : FormP) (c : CovP) (hin : FormIn f) (hct : c.tree.In) : DoesF Tryz.prog 15 [.ag (formC f), .ag (covC c)] [] (.tup [bV (decide (covE f c = 0) && decide ((faultV f c).1 = 0)), faV (if covE f c = 0 then faultV f c else (0, 0)), iV (covE f c)]) [] := by
  refine DoesF.bodyC lay_ok _ Tryz.func15 rfl rfl rfl rfl ?_
  refine KW.go lay_ok Y1_ok 100 rfl (by simp) ?_
  refine KW.callV0 (rcheck36_does f c hin) (enters Tryz.func11 rfl rfl) [] (.inl rfl) rfl rfl rfl rfl rfl trivial
    ⟨⟨_, _, rfl, trivial, (show Mt _ _ _ (EV.ren [] (.ag (formC f))) (.ag (formC f)) from .same)⟩, ⟨_, _, rfl, trivial, (show Mt _ _ _ (EV.ren [] (.ag (covC c))) (.ag (covC c)) from .same)⟩, trivial⟩ rfl (.inl rfl) ?_
  refine KW.goIf lay_ok Y1_ok 100 rfl (by simp) rfl trivial (fun h => ?_) fun h => ?_
  · have h1 : covE f c ≠ 0 := by simpa using h
    refine KW.goRetC lay_ok Y1_ok 100 rfl rfl ?_ (by simp) trivial
    rw [if_neg h1, decide_eq_false h1, Bool.false_and]; rfl
  have h1 : covE f c = 0 := by simpa using h
  rw [if_pos h1, decide_eq_true h1, Bool.true_and, h1]
  refine KW.go lay_ok Y1_ok 100 rfl (by simp) ?_
  refine KW.callV0 (rfault36_does f c hin hct h1) (enters Tryz.func39 rfl rfl) [] (.inl rfl) rfl rfl rfl rfl rfl trivial
    ⟨⟨_, _, rfl, trivial, (show Mt _ _ _ (EV.ren [] (.ag (formC f))) (.ag (formC f)) from .same)⟩, ⟨_, _, rfl, trivial, (show Mt _ _ _ (EV.ren [] (.ag (covC c))) (.ag (covC c)) from .same)⟩, trivial⟩ rfl (.inl rfl) ?_
  refine KW.phases lay_ok Y1_ok rfl 100 rfl (by simp) ?_
  refine KA.phase lay_ok Y1_ok [0, 1, 2, 3, 4] 5 (by decide +kernel) (by decide +kernel) rfl rfl (by simp) (cs := [#[true, true, true, true, true, false, false]]) (by decide +kernel) ?_ (ds := []) (by decide +kernel) (fun L h => nomatch h)
  intro L hL
  obtain rfl : L = #[true, true, true, true, true, false, false] := by simpa using hL
  refine ⟨_, rfl, KW.go lay_ok Y1_ok 10 rfl (by simp) (KW.stop ⟨rfl, ?_⟩)⟩
  refine KA.phase lay_ok Y1_ok [6] 7 (by decide +kernel) (by decide +kernel) rfl rfl (by simp) (cs := []) (by decide +kernel) (fun L h => nomatch h) (ds := [#[true, true, true, true, true, true, true]]) (by decide +kernel) ?_
  intro L hL
  obtain rfl : L = #[true, true, true, true, true, true, true] := by simpa using hL
  refine KW.goRetC lay_ok Y1_ok 100 rfl rfl ?_ (by simp) trivial
  rw [← fault_pair]; rfl
end Go.Proofs.YtocnofkagckhkaaGreatDoor
end
section
set_option linter.unusedSectionVars false
set_option linter.unusedVariables false
set_option linter.unusedSimpArgs false
namespace Go.Proofs.YtocnofkagckhkaaGreatDoor
open Go.Sy Go.Pu Go.Proofs.YtocnofkagckhkaaGreatDoor.Tr
variable [Drw]
theorem pathsV_zero {f : FormP} (h : (pathsV f).2 = 0) : (pathsV f).1 = pathsL f ∧ pathE f = 0 ∧ pathsE f = 0 := by
  unfold pathsV at h ⊢
  split at h
  · rename_i h1
    rw [if_pos h1]
    exact ⟨rfl, h1, h⟩
  · rename_i h1; exact absurd h h1
set_option maxHeartbeats 1600000 in
theorem cmake_does (f : FormP) (hin : FormIn f) : DoesF Tryz.prog 16 [.ag (formC f)] [] (.tup [.ag (covC (makeC f)), eV (makeE f)]) [] := by
  refine DoesF.bodyC lay_ok _ Tryz.func16 rfl rfl rfl rfl ?_
  obtain ⟨vars, ns, top⟩ := f
  refine KW.goIf lay_ok Y1_ok 100 rfl (by simp only [unN_nodesC, isN_nodesC, true_and, and_true, ifcV_errV]; exact hin) rfl trivial (fun h => ?_) fun h => ?_
  · have h1 : (pathsV ⟨vars, ns, top⟩).2 ≠ 0 := by simpa [unN_nodesC] using h
    refine KW.go lay_ok Y1_ok 100 rfl (by simp) ?_
    refine KW.convB 2 0 (ints []) rfl rfl ⟨rfl, rfl⟩ ?_
    refine KW.convB 2 1 (ints []) rfl rfl ⟨rfl, rfl⟩ ?_
    refine KW.convB 2 3 Tr.no.ks rfl rfl ⟨rfl, rfl⟩ ?_
    refine KW.finC [] rfl rfl ?_ trivial
    have e : makeE ⟨vars, ns, top⟩ = (pathsV ⟨vars, ns, top⟩).2 := by rw [makeE, if_neg h1]
    simp only [unN_nodesC, makeC, e, if_neg h1]; rfl
  have h1 : (pathsV ⟨vars, ns, top⟩).2 = 0 := by simpa [unN_nodesC] using h
  obtain ⟨p1, p2, p3⟩ := pathsV_zero h1
  have hv := (formE_ok (pathE_ok p2).1).vars
  obtain ⟨n, hn⟩ := Int.eq_ofNat_of_zero_le (show 0 ≤ vars from hv.1)
  have hn24 : n ≤ 24 := by simp only at hv; omega
  have hmk : makeE ⟨vars, ns, top⟩ = if hitE (pathsL ⟨vars, ns, top⟩) = 0 then (makeG ⟨vars, ns, top⟩).2.2 else hitE (pathsL ⟨vars, ns, top⟩) := by rw [makeE, if_pos h1]
  simp only [unN_nodesC, p1]
  refine KW.goIf lay_ok Y1_ok 100 rfl (by simp) rfl trivial (fun h => ?_) fun h => ?_
  · have h2 : hitE (pathsL ⟨vars, ns, top⟩) ≠ 0 := by simpa using h
    refine KW.go lay_ok Y1_ok 100 rfl (by simp) ?_
    refine KW.convB 2 0 (ints []) rfl rfl ⟨rfl, rfl⟩ ?_
    refine KW.convB 2 1 (ints []) rfl rfl ⟨rfl, rfl⟩ ?_
    refine KW.convB 2 3 Tr.no.ks rfl rfl ⟨rfl, rfl⟩ ?_
    refine KW.finC [] rfl rfl ?_ trivial
    rw [if_neg h2] at hmk
    simp only [unI_ints, makeC, hmk, if_neg h2]; rfl
  have h2 : hitE (pathsL ⟨vars, ns, top⟩) = 0 := by simpa using h
  rw [if_pos h2] at hmk
  simp only [unI_ints, if_pos h2]
  obtain ⟨_, hpf⟩ := path_facts p2 hn
  obtain ⟨f1, f2, f3⟩ := hpf p3
  have hin2 := hit_in hn p2 p3 h2
  have hfam := (hit_facts p2 hn p3 h2).2.1
  refine KW.go lay_ok Y1_ok 100 rfl (by simp) ?_
  refine KW.name 7 rfl fun b => ?_
  have D := cgrow_all (hitL (pathsL ⟨vars, ns, top⟩)) (pathsL ⟨vars, ns, top⟩) hn24 (fun x hx => (hin2 x hx).1) hfam.len f1.1.len 25 0 0 0 b (Nat.lt_succ_of_le (free_le 0 0)) (by decide) (by decide)
  rw [show growP (hitL (pathsL ⟨vars, ns, top⟩)) (pathsL ⟨vars, ns, top⟩) 25 0 0 0 = makeG ⟨vars, ns, top⟩ from rfl] at D
  have hmc : makeC ⟨vars, ns, top⟩ = if makeE ⟨vars, ns, top⟩ = 0 then ⟨hitL (pathsL ⟨vars, ns, top⟩), pathsL ⟨vars, ns, top⟩, (makeG ⟨vars, ns, top⟩).1⟩ else ⟨[], [], .no⟩ := rfl
  rw [hmk] at hmc ⊢
  rw [hmc]
  generalize makeG ⟨vars, ns, top⟩ = G at *
  generalize hitL (pathsL ⟨vars, ns, top⟩) = H at *
  generalize pathsL ⟨vars, ns, top⟩ = P at *
  refine KW.call0 D (enters Tryz.func42 rfl rfl) [(0, 7)] [(0, 7)] [] (.inl rfl) rfl rfl rfl rfl rfl trivial
    ⟨⟨_, _, rfl, trivial, (show Mt _ _ _ (EV.ren [(0, 7)] (.r 0)) (.r 0) from .same)⟩, ⟨_, _, rfl, trivial, (show Mt _ _ _ (EV.ren [(0, 7)] (cuV 0 0)) (cuV 0 0) from .same)⟩, trivial⟩ rfl ⟨rfl, trivial⟩ rfl ⟨.inr ⟨rfl, .inr ⟨_, _, _, _, b, rfl, rfl⟩⟩, trivial⟩ rfl rfl (.inl rfl) ?_
  refine KW.goIf lay_ok Y1_ok 100 rfl (by simp) rfl trivial (fun h => ?_) fun h => ?_
  · have h3 : G.2.2 ≠ 0 := by simpa using h
    refine KW.go lay_ok Y1_ok 100 rfl (by simp) ?_
    refine KW.convB 2 0 (ints []) rfl rfl ⟨rfl, rfl⟩ ?_
    refine KW.convB 2 1 (ints []) rfl rfl ⟨rfl, rfl⟩ ?_
    refine KW.convB 2 3 Tr.no.ks rfl rfl ⟨rfl, rfl⟩ ?_
    refine KW.finC [] rfl rfl ?_ trivial
    rw [if_neg h3]; rfl
  have h3 : G.2.2 = 0 := by simpa using h
  rw [if_pos h3, h3]
  exact KW.goRetC lay_ok Y1_ok 100 rfl rfl rfl (by simp) trivial
end Go.Proofs.YtocnofkagckhkaaGreatDoor
end
section
set_option linter.unusedSectionVars false
set_option linter.unusedVariables false
set_option linter.unusedSimpArgs false
namespace Go.Proofs.YtocnofkagckhkaaGreatDoor
open Go.Sy Go.Pu Go.Proofs.YtocnofkagckhkaaGreatDoor.Tr
variable [Drw]
def headE (l : List Int) : Int := l.headD (-1)
theorem headE_none (s : Int) : ∀ k, (∀ i, i < k → bit s i = false) → elemsN s k = []
  | 0, _ => rfl
  | k + 1, h => by rw [elemsN_succ, headE_none s k fun i hi => h i (by omega), h k (by omega)]; rfl
theorem headE_at (s : Int) (c : Nat) (h : ∀ i, i < c → bit s i = false) (hc : bit s c = true) : ∀ k, c < k → headE (elemsN s k) = c
  | 0, hk => by omega
  | k + 1, hk => by
    rw [elemsN_succ]
    by_cases e : c = k
    · subst e
      rw [headE_none s c h, hc]; rfl
    · have := headE_at s c h hc k (by omega)
      unfold headE at this ⊢
      cases hl : elemsN s k with
      | nil => rw [hl] at this; simp at this
      | cons x r => rw [hl] at this; simpa using this
theorem headE_low {s : Int} (hs : validS s = true) (h : s ≠ 0) : headE (elemsS s) = lowB s := by
  obtain ⟨h1, h2, h3⟩ := lowB_spec hs h
  exact headE_at s (lowB s) h3 h2 24 h1
theorem rleastE_does (s : Int) : DoesF Tryz.prog 97 [iV s] [] (sI (headE (elemsS s))) [] := by
  refine DoesF.body _ Tryz.func97 rfl rfl rfl rfl ?_
  refine KW.goLpR lay_ok Y1_ok 100 rfl (I := fun q : Nat => ⟨Tryz.f97.ntmps, [(6, .e (lV (elemsS s))), (7, sI (elemsS s).length), (8, sI q)], []⟩)
    (R := fun q => q = 0) (m := fun q => 0) 0 [] rfl rfl ⟨rfl, rfl, rfl, trivial⟩ (by simp) rfl trivial ?_
  rintro q rfl
  refine KW.goIf lay_ok Y1_ok 100 rfl (by simp) rfl trivial (fun h => ?_) fun h => ?_
  · have hq : 0 < (elemsS s).length := by have := of_decide_eq_true h; omega
    refine KW.goOutR lay_ok Y1_ok 100 rfl (by simpa using hq) ?_
    refine KW.goRet lay_ok Y1_ok 100 rfl rfl ?_ (by simp) trivial
    cases hl : elemsS s with
    | nil => rw [hl] at hq; exact absurd hq (Nat.lt_irrefl 0)
    | cons x r => rfl
  · have hq : (elemsS s).length = 0 := by have := of_decide_eq_false h; omega
    refine KW.goOut lay_ok Y1_ok 100 rfl (by simp) ?_
    refine KW.goRet lay_ok Y1_ok 100 rfl rfl ?_ (by simp) trivial
    rw [List.length_eq_zero_iff.1 hq]; rfl
theorem growR_rng (cuts paths : List Int) : ∀ (f : Nat) (yes no l : Int), (growR cuts paths f yes no l).2 ≤ l ∧ (0 < l → -(f : Int) - 1 ≤ (growR cuts paths f yes no l).2) ∧ (l ≤ 0 → l - 1 ≤ (growR cuts paths f yes no l).2)
  | 0, _, _, l => by
    rw [growR]; exact ⟨Int.le_refl _, fun h => by simp only; omega, fun h => by simp only; omega⟩
  | f + 1, yes, no, l => by
    rw [growR]
    by_cases hbig : l - 1 < 0
    · rw [if_pos hbig]; exact ⟨by simp only; omega, fun h => by simp only; omega, fun h => by simp only; omega⟩
    rw [if_neg hbig]
    cases hy : inYes cuts yes with
    | some i => exact ⟨by simp only; omega, fun h => by simp only; omega, fun h => by simp only; omega⟩
    | none =>
    cases hp : inYes paths no with
    | some i => exact ⟨by simp only; omega, fun h => by simp only; omega, fun h => by simp only; omega⟩
    | none =>
    cases ho : offNo cuts no with
    | none => exact ⟨by simp only; omega, fun h => by simp only; omega, fun h => by simp only; omega⟩
    | some i =>
      dsimp only
      have ia := growR_rng cuts paths f yes (ior .i64 no (Go.Pu.one (nextV cuts yes i))) (l - 1)
      generalize growR cuts paths f yes (ior .i64 no (Go.Pu.one (nextV cuts yes i))) (l - 1) = A at *
      have ib := growR_rng cuts paths f (ior .i64 yes (Go.Pu.one (nextV cuts yes i))) no A.2
      generalize growR cuts paths f (ior .i64 yes (Go.Pu.one (nextV cuts yes i))) no A.2 = B at *
      obtain ⟨a1, a2, a3⟩ := ia
      obtain ⟨b1, b2, b3⟩ := ib
      refine ⟨by omega, fun h => ?_, fun h => by omega⟩
      by_cases hl1 : 0 < l - 1
      · have := a2 hl1
        by_cases hA : 0 < A.2
        · have := b2 hA; omega
        · have := b3 (by omega); omega
      · have := a3 (by omega)
        by_cases hA : 0 < A.2
        · have := b2 hA; omega
        · have := b3 (by omega); omega
def growF (cuts paths : List Int) (f : Nat) : List EV → Option (SV × Prop)
  | [.c a, .c b, .ag [.lit (.int .i64 yes), .lit (.int .i64 no)], .c (.lit (.int .i64 l))] => some (.tup [trV (growR cuts paths f yes no l).1, iV (growR cuts paths f yes no l).2], CVEq a (ints cuts) ∧ CVEq b (ints paths) ∧ freeC yes no < f ∧ -100 ≤ l ∧ l ≤ 4096)
  | _ => none
def rgrowOk (cuts paths : List Int) (f : Nat) : Prop := ∀ (yes no l : Int), freeC yes no < f → -100 ≤ l → l ≤ 4096 → DoesF Tryz.prog 52 [lV cuts, lV paths, cuV yes no, iV l] [] (.tup [trV (growR cuts paths f yes no l).1, iV (growR cuts paths f yes no l).2]) []
theorem growF_ok {cuts paths : List Int} {f : Nat} (h : rgrowOk cuts paths f) : ∀ ys y φ, growF cuts paths f ys = some (y, φ) → φ → DoesF Tryz.prog 52 ys [] y [] := by
  intro ys y φ he hφ
  unfold growF at he
  split at he
  · simp only [Option.some.injEq, Prod.mk.injEq] at he
    obtain ⟨rfl, rfl⟩ := he
    obtain ⟨h1, h2, h3, h4, h5⟩ := hφ
    refine DoesF.conv ?_ (h _ _ _ h3 h4 h5)
    exact ⟨h1, h2, ⟨rfl, fun q x y hx hy => by rw [hx] at hy; cases hy; exact CVEq.refl _⟩, CVEq.refl _, trivial⟩
  · cases he
set_option maxHeartbeats 6400000 in
theorem rgrow_does (cuts paths : List Int) {n : Nat} (hn24 : n ≤ 24) (hcn : ∀ x ∈ cuts, inN n x) (hcl : cuts.length ≤ 1024) (hpl : paths.length ≤ 1024) (f : Nat) (hf25 : f ≤ 25) (hf : rgrowOk cuts paths f) : rgrowOk cuts paths (f + 1) := by
  intro yes no l hfree hl0 hl1
  have hcv : ∀ x ∈ cuts, validS x = true := fun x hx => (hcn x hx).1
  have T_ok : FnsOk Tryz.prog ((52, growF cuts paths f) :: (97, fI (fun s => sI (headE (elemsS s))) fun _ => True) :: Y1) :=
    .cons (.cons Y1_ok Tryz.func97 rfl rfl (fI_ok fun s _ => rleastE_does s)) Tryz.func52 rfl rfl (growF_ok hf)
  refine DoesF.bodyC lay_ok _ Tryz.func52 rfl rfl rfl rfl ?_
  refine KW.goIf lay_ok T_ok 100 rfl (by simp [inK]; omega) rfl trivial (fun h => ?_) fun h => ?_
  · have h1 : l - 1 < 0 := by simpa using h
    rw [growR, if_pos h1]
    refine KW.go lay_ok T_ok 100 rfl (by simp) ?_
    refine KW.convB 8 1 Tr.no.ks rfl rfl ⟨rfl, rfl⟩ ?_
    exact KW.finC [] rfl rfl rfl trivial
  have h1 : ¬ l - 1 < 0 := by simpa using h
  rw [growR, if_neg h1]
  refine KW.goLpR lay_ok T_ok 100 rfl (I := fun q : Nat => ⟨Tryz.f52.ntmps, [(0, .e (lV cuts)), (1, .e (lV paths)), (3, sI (l - 1)), (6, .e (.r 6)), (8, .e (.r 8)), (26, .e (lV cuts)), (27, sI cuts.length), (28, sI q)], [(6, .box 54 [iV yes, iV no] none), (8, .box 28 [iV 0, .c (.lit (.slice none 0 0)), iV 0] none)]⟩)
    (R := fun q => q ≤ cuts.length ∧ ∀ j, j < q → (iandNot .i64 (cuts.getD j 0) yes == 0) = false) (m := fun q => cuts.length - q) 0 [(6, 6), (8, 8)] rfl rfl ⟨rfl, rfl, rfl, rfl, rfl, rfl, rfl, rfl, trivial⟩ (by simp [inK]) ⟨Nat.zero_le _, fun j hj => absurd hj (by omega)⟩ ⟨rfl, rfl, trivial⟩ ?_
  rintro q ⟨hq0, hz⟩
  refine KW.goIf lay_ok T_ok 100 rfl (by simp) rfl trivial (fun h => ?_) fun h => ?_
  · have hq : q < cuts.length := by simp at h; omega
    have hgi : cuts.getD (Int.toNat (q : Int)) 0 = cuts.getD q 0 := by rw [Int.toNat_natCast]
    refine KW.goIf lay_ok T_ok 100 rfl (by simp; omega) rfl trivial (fun h => ?_) fun h => ?_
    · have hb : (iandNot .i64 (cuts.getD q 0) yes == 0) = true := by rw [← hgi]; exact h
      rw [show inYes cuts yes = some q from firstB_some hq hb hz]
      refine KW.goOutR lay_ok T_ok 100 rfl (by simp) ?_
      refine KW.go lay_ok T_ok 100 rfl (by simp) ?_
      refine KW.convB 8 1 (Tr.lf q).ks rfl rfl ⟨rfl, rfl⟩ ?_
      exact KW.finC [] rfl rfl rfl trivial
    have hb : (iandNot .i64 (cuts.getD q 0) yes == 0) = false := by rw [← hgi]; exact h
    refine KW.goToR lay_ok T_ok 100 rfl (q + 1) [(6, 6), (8, 8)] rfl rfl ⟨rfl, rfl, rfl, rfl, rfl, rfl, rfl, rfl, trivial⟩ (by simp [inK]; omega) ⟨⟨by omega, fun j hj => ?_⟩, by omega⟩ ⟨rfl, rfl, trivial⟩
    by_cases hjq : j = q
    · rw [hjq]; exact hb
    · exact hz j (by omega)
  have hy : inYes cuts yes = none := firstB_none.2 fun j hj => hz j (by simp at h; omega)
  rw [hy]
  clear h hz hq0
  refine KW.goOut lay_ok T_ok 100 rfl (by simp) ?_
  refine KW.goLpR lay_ok T_ok 100 rfl (I := fun q : Nat => ⟨Tryz.f52.ntmps, [(0, .e (lV cuts)), (1, .e (lV paths)), (3, sI (l - 1)), (6, .e (.r 6)), (8, .e (.r 8)), (42, .e (lV paths)), (43, sI paths.length), (44, sI q)], [(6, .box 54 [iV yes, iV no] none), (8, .box 28 [iV 0, .c (.lit (.slice none 0 0)), iV 0] none)]⟩)
    (R := fun q => q ≤ paths.length ∧ ∀ j, j < q → (iandNot .i64 (paths.getD j 0) no == 0) = false) (m := fun q => paths.length - q) 0 [(6, 6), (8, 8)] rfl rfl ⟨rfl, rfl, rfl, rfl, rfl, rfl, rfl, rfl, trivial⟩ (by simp [inK]) ⟨Nat.zero_le _, fun j hj => absurd hj (by omega)⟩ ⟨rfl, rfl, trivial⟩ ?_
  rintro q ⟨hq0, hz⟩
  refine KW.goIf lay_ok T_ok 100 rfl (by simp) rfl trivial (fun h => ?_) fun h => ?_
  · have hq : q < paths.length := by simp at h; omega
    have hgi : paths.getD (Int.toNat (q : Int)) 0 = paths.getD q 0 := by rw [Int.toNat_natCast]
    refine KW.goIf lay_ok T_ok 100 rfl (by simp; omega) rfl trivial (fun h => ?_) fun h => ?_
    · have hb : (iandNot .i64 (paths.getD q 0) no == 0) = true := by rw [← hgi]; exact h
      rw [show inYes paths no = some q from firstB_some hq hb hz]
      refine KW.goOutR lay_ok T_ok 100 rfl (by simp [inK]; omega) ?_
      refine KW.go lay_ok T_ok 100 rfl (by simp) ?_
      refine KW.convB 8 1 (Tr.lf (-1 - (q : Int))).ks rfl rfl ⟨rfl, rfl⟩ ?_
      exact KW.finC [] rfl rfl rfl trivial
    have hb : (iandNot .i64 (paths.getD q 0) no == 0) = false := by rw [← hgi]; exact h
    refine KW.goToR lay_ok T_ok 100 rfl (q + 1) [(6, 6), (8, 8)] rfl rfl ⟨rfl, rfl, rfl, rfl, rfl, rfl, rfl, rfl, trivial⟩ (by simp [inK]; omega) ⟨⟨by omega, fun j hj => ?_⟩, by omega⟩ ⟨rfl, rfl, trivial⟩
    by_cases hjq : j = q
    · rw [hjq]; exact hb
    · exact hz j (by omega)
  have hp : inYes paths no = none := firstB_none.2 fun j hj => hz j (by simp at h; omega)
  rw [hp]
  clear h hz hq0
  refine KW.goOut lay_ok T_ok 100 rfl (by simp) ?_
  refine KW.goLpR lay_ok T_ok 100 rfl (I := fun q : Nat => ⟨Tryz.f52.ntmps, [(0, .e (lV cuts)), (1, .e (lV paths)), (3, sI (l - 1)), (6, .e (.r 6)), (8, .e (.r 8)), (59, .e (lV cuts)), (60, sI cuts.length), (61, sI q)], [(6, .box 54 [iV yes, iV no] none), (8, .box 28 [iV 0, .c (.lit (.slice none 0 0)), iV 0] none)]⟩)
    (R := fun q => q ≤ cuts.length ∧ ∀ j, j < q → (iand .i64 (cuts.getD j 0) no == 0) = false) (m := fun q => cuts.length - q) 0 [(6, 6), (8, 8)] rfl rfl ⟨rfl, rfl, rfl, rfl, rfl, rfl, rfl, rfl, trivial⟩ (by simp [inK]) ⟨Nat.zero_le _, fun j hj => absurd hj (by omega)⟩ ⟨rfl, rfl, trivial⟩ ?_
  rintro q ⟨hq0, hz⟩
  refine KW.goIf lay_ok T_ok 100 rfl (by simp) rfl trivial (fun h => ?_) fun h => ?_
  · have hq : q < cuts.length := by simp at h; omega
    have hgi : cuts.getD (Int.toNat (q : Int)) 0 = cuts.getD q 0 := by rw [Int.toNat_natCast]
    refine KW.goIf lay_ok T_ok 100 rfl (by simp; omega) rfl trivial (fun h => ?_) fun h => ?_
    · have hb : (iand .i64 (cuts.getD q 0) no == 0) = false := by rw [← hgi]; rw [bne, Bool.not_eq_true'] at h; exact h
      refine KW.goToR lay_ok T_ok 100 rfl (q + 1) [(6, 6), (8, 8)] rfl rfl ⟨rfl, rfl, rfl, rfl, rfl, rfl, rfl, rfl, trivial⟩ (by simp [inK]; omega) ⟨⟨by omega, fun j hj => ?_⟩, by omega⟩ ⟨rfl, rfl, trivial⟩
      by_cases hjq : j = q
      · rw [hjq]; exact hb
      · exact hz j (by omega)
    have hb : (iand .i64 (cuts.getD q 0) no == 0) = true := by rw [← hgi]; rw [bne, Bool.not_eq_false'] at h; exact h
    have ho : offNo cuts no = some q := firstB_some hq hb hz
    rw [ho]
    dsimp only
    obtain ⟨v1, v2, v3⟩ := next_spec hn24 hcn hy ho
    have fa := free_no (yes := yes) (no := no) (by omega) v2 v3
    have fb := free_yes (yes := yes) (no := no) (by omega) v2 v3
    have hlow : headE (elemsS (iandNot .i64 (cuts.getD (Int.toNat (q : Int)) 0) yes)) = (nextV cuts yes q : Int) := by
      rw [hgi]
      exact headE_low (valid_iandNot (hcv _ (getD_mem hq))) (inYes_none hy _ (getD_mem hq))
    have hsh := shl_rng24 (v := (nextV cuts yes q : Int)) (by omega) (by omega)
    have hone : Go.Pu.one (nextV cuts yes q) = ishl 1 (nextV cuts yes q : Int) := rfl
    rw [hone] at fa fb ⊢
    have hA := growR_rng cuts paths f yes (ior .i64 no (ishl 1 (nextV cuts yes q : Int))) (l - 1)
    refine KW.goDV lay_ok T_ok rfl 100 rfl 17 16 17 rfl (by decide +kernel) (by decide +kernel) rfl rfl rfl ?_ ?_ ?_
    · simp
    · have hc1 := CVEq.refl (ints cuts)
      have hc2 := CVEq.refl (ints paths)
      simp only [hlow, hc1, hc2, true_and, and_true, inK, bitsI]
      omega
    simp only [hlow]
    generalize growR cuts paths f yes (ior .i64 no (ishl 1 (nextV cuts yes q : Int))) (l - 1) = A at *
    have hA2 : -100 ≤ A.2 := by
      obtain ⟨a1, a2, a3⟩ := hA
      by_cases hl2 : 0 < l - 1
      · have := a2 hl2; omega
      · have := a3 (by omega); omega
    have hA3 := hA.1
    refine KW.goDV lay_ok T_ok rfl 100 rfl 17 16 19 rfl (by decide +kernel) (by decide +kernel) rfl rfl rfl ?_ ?_ ?_
    · simp
    · have hc1 := CVEq.refl (ints cuts)
      have hc2 := CVEq.refl (ints paths)
      simp only [hlow, hc1, hc2, true_and, and_true, inK, bitsI]
      omega
    generalize growR cuts paths f (ior .i64 yes (ishl 1 (nextV cuts yes q : Int))) no A.2 = B at *
    refine KW.go lay_ok T_ok 100 rfl (by simp) ?_
    refine KW.frz 108 [108] rfl rfl rfl ?_
    refine KW.goOutR lay_ok T_ok 100 rfl (by simp) ?_
    refine KW.go lay_ok T_ok 100 rfl (by simp) ?_
    refine KW.convB 8 1 (Tr.two (nextV cuts yes q : Int) A.1 B.1).ks rfl rfl ?_ ?_
    · exact two_rows _ _ _
    exact KW.finC [] rfl rfl rfl trivial
  have ho : offNo cuts no = none := firstB_none.2 fun j hj => hz j (by simp at h; omega)
  rw [ho]
  refine KW.goOut lay_ok T_ok 100 rfl (by simp) ?_
  refine KW.go lay_ok T_ok 100 rfl (by simp) ?_
  refine KW.convB 8 1 Tr.no.ks rfl rfl ⟨rfl, rfl⟩ ?_
  exact KW.finC [] rfl rfl rfl trivial
theorem rgrow_all (cuts paths : List Int) {n : Nat} (hn24 : n ≤ 24) (hcn : ∀ x ∈ cuts, inN n x) (hcl : cuts.length ≤ 1024) (hpl : paths.length ≤ 1024) : ∀ f, f ≤ 26 → rgrowOk cuts paths f
  | 0, _ => fun _ _ _ h => absurd h (Nat.not_lt_zero _)
  | f + 1, hf => rgrow_does cuts paths hn24 hcn hcl hpl f (by omega) (rgrow_all cuts paths hn24 hcn hcl hpl f (by omega))
set_option maxHeartbeats 1600000 in
theorem rmake36_does (f : FormP) (hin : FormIn f) : DoesF Tryz.prog 22 [.ag (formC f)] [] (.tup [.ag (covC (makeC f)), iV (makeE f)]) [] := by
  refine DoesF.bodyC lay_ok _ Tryz.func22 rfl rfl rfl rfl ?_
  obtain ⟨vars, ns, top⟩ := f
  refine KW.goIf lay_ok Y1_ok 100 rfl (by simp only [unN_nodesC, isN_nodesC, true_and, and_true]; exact hin) rfl trivial (fun h => ?_) fun h => ?_
  · have h1 : (pathsV ⟨vars, ns, top⟩).2 ≠ 0 := by simpa [unN_nodesC] using h
    refine KW.go lay_ok Y1_ok 100 rfl (by simp) ?_
    refine KW.convB 2 0 (ints []) rfl rfl ⟨rfl, rfl⟩ ?_
    refine KW.convB 2 1 (ints []) rfl rfl ⟨rfl, rfl⟩ ?_
    refine KW.convB 2 3 Tr.no.ks rfl rfl ⟨rfl, rfl⟩ ?_
    refine KW.finC [] rfl rfl ?_ trivial
    have e : makeE ⟨vars, ns, top⟩ = (pathsV ⟨vars, ns, top⟩).2 := by rw [makeE, if_neg h1]
    simp only [unN_nodesC, makeC, e, if_neg h1]; rfl
  have h1 : (pathsV ⟨vars, ns, top⟩).2 = 0 := by simpa [unN_nodesC] using h
  obtain ⟨p1, p2, p3⟩ := pathsV_zero h1
  have hv := (formE_ok (pathE_ok p2).1).vars
  obtain ⟨n, hn⟩ := Int.eq_ofNat_of_zero_le (show 0 ≤ vars from hv.1)
  have hn24 : n ≤ 24 := by simp only at hv; omega
  have hmk : makeE ⟨vars, ns, top⟩ = if hitE (pathsL ⟨vars, ns, top⟩) = 0 then (makeG ⟨vars, ns, top⟩).2.2 else hitE (pathsL ⟨vars, ns, top⟩) := by rw [makeE, if_pos h1]
  simp only [unN_nodesC, p1]
  refine KW.goIf lay_ok Y1_ok 100 rfl (by simp) rfl trivial (fun h => ?_) fun h => ?_
  · have h2 : hitE (pathsL ⟨vars, ns, top⟩) ≠ 0 := by simpa using h
    refine KW.go lay_ok Y1_ok 100 rfl (by simp) ?_
    refine KW.convB 2 0 (ints []) rfl rfl ⟨rfl, rfl⟩ ?_
    refine KW.convB 2 1 (ints []) rfl rfl ⟨rfl, rfl⟩ ?_
    refine KW.convB 2 3 Tr.no.ks rfl rfl ⟨rfl, rfl⟩ ?_
    refine KW.finC [] rfl rfl ?_ trivial
    rw [if_neg h2] at hmk
    simp only [unI_ints, makeC, hmk, if_neg h2]; rfl
  have h2 : hitE (pathsL ⟨vars, ns, top⟩) = 0 := by simpa using h
  rw [if_pos h2] at hmk
  simp only [unI_ints, if_pos h2]
  obtain ⟨_, hpf⟩ := path_facts p2 hn
  obtain ⟨f1, f2, f3⟩ := hpf p3
  have hin2 := hit_in hn p2 p3 h2
  have hfam := (hit_facts p2 hn p3 h2).2.1
  have hr := grow_ref (paths := pathsL ⟨vars, ns, top⟩) hn24 (fun x hx => (hin2 x hx).1) (make_off hn p2 p3 h2) 25 0 0 0 (by decide) (by decide) (Nat.lt_succ_of_le (free_le 0 0))
  rw [show growP (hitL (pathsL ⟨vars, ns, top⟩)) (pathsL ⟨vars, ns, top⟩) 25 0 0 0 = makeG ⟨vars, ns, top⟩ from rfl] at hr
  refine KW.go lay_ok Y1_ok 100 rfl (by simp) ?_
  have D := rgrow_all (hitL (pathsL ⟨vars, ns, top⟩)) (pathsL ⟨vars, ns, top⟩) hn24 (fun x hx => (hin2 x hx).1) hfam.len f1.1.len 25 (by decide) 0 0 4096 (Nat.lt_succ_of_le (free_le 0 0)) (by decide) (by decide)
  have hmc : makeC ⟨vars, ns, top⟩ = if makeE ⟨vars, ns, top⟩ = 0 then ⟨hitL (pathsL ⟨vars, ns, top⟩), pathsL ⟨vars, ns, top⟩, (makeG ⟨vars, ns, top⟩).1⟩ else ⟨[], [], .no⟩ := rfl
  rw [hmk] at hmc ⊢
  rw [hmc]
  have e0 : (4096 : Int) - 0 = 4096 := by decide
  rw [e0] at hr
  generalize hRe : growR (hitL (pathsL ⟨vars, ns, top⟩)) (pathsL ⟨vars, ns, top⟩) 25 0 0 4096 = R at *
  generalize makeG ⟨vars, ns, top⟩ = G at *
  generalize hitL (pathsL ⟨vars, ns, top⟩) = H at *
  generalize pathsL ⟨vars, ns, top⟩ = P at *
  refine KW.callV0 D (enters Tryz.func52 rfl rfl) [] (.inl rfl) rfl rfl rfl rfl rfl trivial
    ⟨⟨_, _, rfl, trivial, .conv (CVEq.refl _)⟩, ⟨_, _, rfl, trivial, .conv (CVEq.refl _)⟩, ⟨_, _, rfl, trivial, (show Mt _ _ _ (EV.ren [] (cuV 0 0)) (cuV 0 0) from .same)⟩, ⟨_, _, rfl, trivial, .conv (CVEq.refl _)⟩, trivial⟩ rfl (.inl rfl) ?_
  refine KW.goIf lay_ok Y1_ok 100 rfl (by simp) rfl trivial (fun h => ?_) fun h => ?_
  · have h3 : R.2 < 0 := by simpa using h
    have h4 : G.2.2 = 4 := by
      rcases hr with ⟨_, _, r3, r4⟩ | ⟨r1, _⟩
      · rw [r4] at h3; simp only at h3; omega
      · exact r1
    refine KW.go lay_ok Y1_ok 100 rfl (by simp) ?_
    refine KW.convB 2 0 (ints []) rfl rfl ⟨rfl, rfl⟩ ?_
    refine KW.convB 2 1 (ints []) rfl rfl ⟨rfl, rfl⟩ ?_
    refine KW.convB 2 3 Tr.no.ks rfl rfl ⟨rfl, rfl⟩ ?_
    refine KW.finC [] rfl rfl ?_ trivial
    rw [h4, if_neg (by decide)]; rfl
  have h3 : ¬ R.2 < 0 := by simpa using h
  obtain ⟨h4, h5⟩ : G.2.2 = 0 ∧ R.1 = G.1 := by
    rcases hr with ⟨r1, _, r3, r4⟩ | ⟨_, _, _, r4⟩
    · exact ⟨r1, by rw [r4]⟩
    · exact absurd r4 h3
  rw [if_pos h4, h4, ← h5]
  exact KW.goRetC lay_ok Y1_ok 100 rfl rfl rfl (by simp) trivial
theorem rsame36_does (a b : CovP) : DoesF Tryz.prog 23 [.ag (covC a), .ag (covC b)] [] (sB (decide (a.cuts = b.cuts) && decide (a.paths = b.paths) && sameT a.tree b.tree)) [] := by
  refine DoesF.body _ Tryz.func23 rfl rfl rfl rfl ?_
  obtain ⟨c1, p1, t1⟩ := a
  obtain ⟨c2, p2, t2⟩ := b
  refine KW.goRet lay_ok Y1_ok 100 rfl rfl ?_ (by simp +contextual [unTr_cells]) trivial
  simp [SV.ren, EV.ren, unTr_cells]
end Go.Proofs.YtocnofkagckhkaaGreatDoor
end
section
set_option linter.unusedSectionVars false
set_option linter.unusedVariables false
set_option linter.unusedSimpArgs false
namespace Go.Proofs.YtocnofkagckhkaaGreatDoor
open Go.Sy Go.Pu Go.Proofs.YtocnofkagckhkaaGreatDoor.Tr
variable [Drw]
theorem broad36_does (f : FormP) (hin : FormIn f) (h0 : formE f = 0) : DoesF Tryz.prog 27 [.ag (formC f)] [] (sB (broadF f)) [] := by
  refine DoesF.body _ Tryz.func27 rfl rfl rfl rfl ?_
  have ok := formE_ok h0
  obtain ⟨vars, ns, top⟩ := f
  have hl := ok.len
  have hns := ok.nodes
  simp only at hl hns
  refine KW.goLpR lay_ok Y1_ok 100 rfl (I := fun q : Nat × Int × Int => ⟨Tryz.f27.ntmps, [(3, sI q.2.1), (4, sI q.2.2), (8, .e (.c (nodesC ns))), (9, sI ns.length), (10, sI q.1)], []⟩)
    (R := fun q => q.1 ≤ ns.length ∧ q.2.1 + brA (ns.drop q.1) = brA ns ∧ q.2.2 + brV (ns.drop q.1) = brV ns ∧ 0 ≤ q.2.1 ∧ q.2.1 ≤ 16 * q.1 ∧ -300 * q.1 ≤ q.2.2 ∧ q.2.2 ≤ 300 * q.1) (m := fun q => ns.length - q.1) (0, 0, 0) [] rfl rfl ⟨rfl, rfl, rfl, rfl, rfl, trivial⟩ (by simp) ⟨Nat.zero_le _, by simp, by simp, by simp, by simp, by simp, by simp⟩ trivial ?_
  rintro ⟨q, a, b⟩ ⟨g1, g2, g3, g4, g5, g6, g7⟩
  simp only at g1 g2 g3 g4 g5 g6 g7
  refine KW.goIf lay_ok Y1_ok 100 rfl (by simp) rfl trivial (fun h => ?_) fun h => ?_
  · have hq : q < ns.length := by simpa using h
    have hX : ns.getD (Int.toNat (q : Int)) node0 = ns[q] := by simp [List.getD_eq_getElem?_getD, hq]
    have okX := hns q hq
    rw [List.drop_eq_getElem_cons hq, brA] at g2
    rw [List.drop_eq_getElem_cons hq, brV] at g3
    generalize ns[q] = X at hX okX g2 g3
    have h16 := argsB_le okX.cnt
    have hk := okX.k
    refine KW.goIf lay_ok Y1_ok 100 rfl (by simp only [hX]; simp [hq, inK]; omega) rfl trivial (fun h => ?_) fun h => ?_
    · have k4 : X.kind = 4 := by
        simp only [hX] at h
        simpa using h
      have hkr : 1 ≤ X.k ∧ X.k ≤ X.args.length := by
        unfold kE at hk
        rw [k4] at hk
        simp only [Int.reduceEq, if_false, if_true] at hk
        split at hk
        · cases hk
        · omega
      rw [if_pos k4] at g3
      have p1 : (0 : Int) ≤ (X.args.length : Int) * ((X.args.length : Int) - X.k + 1) := Int.mul_nonneg (by omega) (by omega)
      have p2 : (X.args.length : Int) * ((X.args.length : Int) - X.k + 1) ≤ 16 * 16 := Int.mul_le_mul (by omega) (by omega) (by omega) (by omega)
      refine KW.goToR lay_ok Y1_ok 100 rfl (q + 1, a + X.args.length, b + (X.args.length : Int) * ((X.args.length : Int) - X.k + 1)) [] rfl rfl ⟨by simp only [← hX]; rfl, by simp only [← hX]; rfl, rfl, rfl, rfl, trivial⟩ ?_ ⟨⟨by simp only; omega, by simp only; omega, by simp only; omega, by simp only; omega, by simp only; omega, by simp only; omega, by simp only; omega⟩, by simp only; omega⟩ trivial
      simp only [hX]
      generalize (X.args.length : Int) * ((X.args.length : Int) - X.k + 1) = P at *
      simp [inK]
      omega
    · have k4 : ¬ X.kind = 4 := by
        simp only [hX] at h
        simpa using h
      rw [if_neg k4] at g3
      exact KW.goToR lay_ok Y1_ok 100 rfl (q + 1, a + X.args.length, b) [] rfl rfl ⟨by simp only [← hX]; rfl, rfl, rfl, rfl, rfl, trivial⟩ (by simp [inK]; omega) ⟨⟨by simp only; omega, by simp only; omega, by simp only; omega, by simp only; omega, by simp only; omega, by simp only; omega, by simp only; omega⟩, by simp only; omega⟩ trivial
  · have hq : q = ns.length := by simp at h; omega
    rw [hq, List.drop_length] at g2 g3
    simp only [brA, brV, Int.add_zero] at g2 g3
    refine KW.goOut lay_ok Y1_ok 100 rfl (by simp) ?_
    refine KW.goRet lay_ok Y1_ok 100 rfl rfl ?_ (by simp) trivial
    simp only [SV.ren, EV.ren, broadF, ← g2, ← g3]
def Y2 : Fns := (27, fF (fun f => sB (broadF f)) fun f => FormIn f ∧ formE f = 0) ::
  Y1
theorem Y2_ok : FnsOk Tryz.prog Y2 := .cons (Y1_ok) Tryz.func27 rfl rfl (fF_ok fun f h => broad36_does f h.1 h.2)
def litL (l : List Int) : Bool := (decide (60 < l.length) && decide (l.length ≤ 1024)) || decide (1200 < l.length)
def light36A (f : FormP) (c : CovP) : Bool := decide (200 < f.nodes.length) || litL c.cuts || litL c.paths || !fwB c.tree 300
def light36B (f : FormP) : Bool := (f.nodes.all fun x => decide (x.args.length ≤ 40)) && (decide (formE f ≠ 0) || (decide (f.vars ≤ 8) && decide (f.nodes.length ≤ 20) && !broadF f))
def light36F (f : FormP) (c : CovP) : Bool := !light36A f c && light36B f
set_option maxHeartbeats 1600000 in
theorem light36_does (f : FormP) (c : CovP) (hin : FormIn f) : DoesF Tryz.prog 9 [.ag (formC f), .ag (covC c)] [] (sB (light36F f c)) [] := by
  refine DoesF.body _ Tryz.func9 rfl rfl rfl rfl ?_
  obtain ⟨vars, ns, top⟩ := f
  obtain ⟨cuts, paths, t⟩ := c
  refine KW.goIf lay_ok Y2_ok 200 rfl ?_ rfl trivial (fun h => ?_) fun h => ?_
  · simp +contextual [unTr_cells]
    omega
  · have hA : light36A ⟨vars, ns, top⟩ ⟨cuts, paths, t⟩ = true := by
      cases hfw : fwB t 300 <;> simp [hfw, unTr_cells, light36A, litL] at h ⊢ <;> omega
    refine KW.goRet lay_ok Y2_ok 100 rfl rfl ?_ (by simp) trivial
    simp [SV.ren, EV.ren, light36F, hA]
  have hA : light36A ⟨vars, ns, top⟩ ⟨cuts, paths, t⟩ = false := by
    cases hfw : fwB t 300 <;> simp [hfw, unTr_cells, light36A, litL] at h ⊢ <;> omega
  have h200 : ns.length ≤ 200 := by
    have := hA
    simp [light36A] at this
    omega
  have e : light36F ⟨vars, ns, top⟩ ⟨cuts, paths, t⟩ = light36B ⟨vars, ns, top⟩ := by rw [light36F, hA]; rfl
  rw [e]
  refine KW.goLpR lay_ok Y2_ok 100 rfl (I := fun q : Nat => ⟨Tryz.f9.ntmps, [(2, .e (.r 2)), (54, .e (.c (nodesC ns))), (55, sI ns.length), (56, sI q)], [(2, .box 24 [iV vars, .c (nodesC ns), iV top] none)]⟩)
    (R := fun q => q ≤ ns.length ∧ (ns.drop q).all (fun x => decide (x.args.length ≤ 40)) = ns.all fun x => decide (x.args.length ≤ 40)) (m := fun q => ns.length - q) 0 [(2, 2)] rfl rfl ⟨rfl, rfl, rfl, rfl, trivial⟩ (by simp) ⟨by simp, by simp⟩ ⟨rfl, trivial⟩ ?_
  rintro q ⟨g1, g2⟩
  refine KW.goIf lay_ok Y2_ok 100 rfl (by simp) rfl trivial (fun h => ?_) fun h => ?_
  · have hq : q < ns.length := by simpa using h
    have hX : ns.getD (Int.toNat (q : Int)) node0 = ns[q] := by simp [List.getD_eq_getElem?_getD, hq]
    rw [List.drop_eq_getElem_cons hq, List.all_cons] at g2
    generalize ns[q] = X at hX g2
    refine KW.goIf lay_ok Y2_ok 100 rfl (by simp; omega) rfl trivial (fun h => ?_) fun h => ?_
    · have h2 : ¬ X.args.length ≤ 40 := by
        have e : decide ((40 : Int) < ((ns.getD (Int.toNat (q : Int)) node0).args.length : Int)) = true := h
        rw [hX, decide_eq_true_eq] at e; omega
      rw [decide_eq_false h2, Bool.false_and] at g2
      refine KW.goOutR lay_ok Y2_ok 100 rfl (by simp) ?_
      refine KW.goRet lay_ok Y2_ok 100 rfl rfl ?_ (by simp) trivial
      simp only [SV.ren, EV.ren, light36B, ← g2, Bool.false_and]
    · have h2 : X.args.length ≤ 40 := by
        have e : decide ((40 : Int) < ((ns.getD (Int.toNat (q : Int)) node0).args.length : Int)) = false := h
        rw [hX, decide_eq_false_iff_not] at e; omega
      rw [decide_eq_true h2, Bool.true_and] at g2
      exact KW.goToR lay_ok Y2_ok 100 rfl (q + 1) [(2, 2)] rfl rfl ⟨rfl, rfl, rfl, rfl, trivial⟩ (by simp [inK]; omega) ⟨⟨by omega, g2⟩, by omega⟩ ⟨rfl, trivial⟩
  · have hq : q = ns.length := by simp at h; omega
    rw [hq, List.drop_length] at g2
    refine KW.goOut lay_ok Y2_ok 100 rfl (by simp) ?_
    refine KW.goRet lay_ok Y2_ok 100 rfl rfl ?_ (by simp only [unN_nodesC, isN_nodesC, true_and, and_true, hin]; simp +contextual) trivial
    simp only [SV.ren, EV.ren, light36B, ← g2, unN_nodesC]
    simp only [List.all_nil, Bool.true_and]
    congr 5
    · rw [Bool.eq_iff_iff]; simp
    · rw [show decide ((ns.length : Int) ≤ 20) = decide (ns.length ≤ 20) by rw [Bool.eq_iff_iff]; simp; omega]
def ex36N : List NodeP := [⟨2, 0, [1, 2]⟩, ⟨3, 0, [0, 3]⟩]
def ex36 : FormP := ⟨3, ex36N, 4⟩
theorem example36_does : DoesF Tryz.prog 28 [] [] (.e (.ag (formC ex36))) [] := by
  refine DoesF.bodyC lay_ok _ Tryz.func28 rfl rfl rfl rfl ?_
  refine KW.go lay_ok Y2_ok 100 rfl (by simp) ?_
  refine KW.frz1 1 rfl rfl rfl ?_
  refine KW.go lay_ok Y2_ok 100 rfl (by simp) ?_
  refine KW.frz1 3 rfl rfl rfl ?_
  refine KW.go lay_ok Y2_ok 100 rfl (by simp) ?_
  refine KW.frz1 5 rfl rfl rfl ?_
  refine KW.conv 5 (nodesC ex36N) rfl ?_ ?_
  · refine ⟨rfl, .inr ⟨rfl, fun e q he hq => ?_⟩⟩
    rcases (by omega : e = 0 ∨ e = 1) with rfl | rfl <;> rcases (by omega : q = 0 ∨ q = 1 ∨ q = 2) with rfl | rfl | rfl <;> exact CVEq.refl _
  exact KW.goRetC lay_ok Y2_ok 100 rfl rfl rfl (by simp) trivial
theorem ex36_in : FormIn ex36 := by
  have hk : ∀ n : Int, 0 ≤ n ∧ n ≤ 9 → inK .i64 n := fun n h => by simp only [inK]; omega
  refine ⟨hk 3 (by decide), hk 4 (by decide), fun x hx => ?_⟩
  simp only [ex36, ex36N, List.mem_cons, List.not_mem_nil, or_false] at hx
  rcases hx with rfl | rfl
  · exact ⟨hk 2 (by decide), hk 0 (by decide), fun a ha => hk a (by simp at ha; omega)⟩
  · exact ⟨hk 3 (by decide), hk 0 (by decide), fun a ha => hk a (by simp at ha; omega)⟩
end Go.Proofs.YtocnofkagckhkaaGreatDoor
end
section
set_option linter.unusedSectionVars false
set_option linter.unusedVariables false
set_option linter.unusedSimpArgs false
namespace Go.Proofs.YtocnofkagckhkaaGreatDoor
open Go.Sy Go.Pu Go.Proofs.YtocnofkagckhkaaGreatDoor.Tr
variable [Drw]
theorem e36a : plusP [] [2] = ([2], 0) := by rw [plus_ref]; decide +kernel
theorem e36b : plusP [2] [4] = ([2, 4], 0) := by rw [plus_ref]; decide +kernel
theorem e36c : prodP [0] [1] = ([1], 0) := by rw [prod_ref]; decide +kernel
theorem e36d : prodP [1] [2, 4] = ([3, 5], 0) := by rw [prod_ref]; decide +kernel
theorem ex36_run : runP ex36N (fam0 3) = ([[1], [2], [4], [2, 4], [3, 5]], 0) := by
  rw [ex_fam]
  simp [runP, ex36N, nodePS, foldP, e36a, e36b, e36c, e36d]
theorem ex36_pathE : pathE ex36 = 0 := by decide +kernel
theorem ex36_trim : trimF ex36 = ex36 := rfl
theorem ex36_paths : pathsE ex36 = 0 ∧ pathsL ex36 = [3, 5] ∧ pathsV ex36 = ([3, 5], 0) := by
  have e : pathsE ex36 = 0 := by
    unfold pathsE; rw [ex36_trim]
    show (runP ex36N (fam0 3)).2 = 0
    rw [ex36_run]
  have e2 : pathsL ex36 = [3, 5] := by
    rw [pathsL, if_pos e, ex36_trim]
    show (runP ex36N (fam0 3)).1.getD 4 [] = _
    rw [ex36_run]; rfl
  exact ⟨e, e2, by rw [pathsV, if_pos ex36_pathE, e, e2]⟩
theorem m35 : minS [3, 5] = [3, 5] := minS_of (by unfold Val; decide +kernel) (by unfold Val; decide +kernel) (by unfold Asc; decide +kernel) (by decide +kernel) (by decide +kernel) (by decide +kernel)
theorem m1536 : minS [1, 5, 3, 6] = [1, 6] := minS_of (by unfold Val; decide +kernel) (by unfold Val; decide +kernel) (by unfold Asc; decide +kernel) (by decide +kernel) (by decide +kernel) (by decide +kernel)
theorem s35 : singS 3 = [1, 2] ∧ singS 5 = [1, 4] ∧ listE [3, 5] = 0 := by decide +kernel
theorem u5 : unionsC [1, 2] [1, 4] = [1, 5, 3, 6] := by
  have e14 : minS [1, 4] = [1, 4] := minS_of (by unfold Val; decide +kernel) (by unfold Val; decide +kernel) (by unfold Asc; decide +kernel) (by decide +kernel) (by decide +kernel) (by decide +kernel)
  unfold unionsC
  rw [ex2, e14]
  decide +kernel
theorem all35 : allC [0] [3, 5] = ([1, 6], 0) := by
  have s1 : stepA [0] 3 = 0 ∧ resA [0] 3 = [1, 2] := by
    unfold stepA resA
    rw [s35.1, u3, ex2]
    decide +kernel
  have s2 : stepA [1, 2] 5 = 0 ∧ resA [1, 2] 5 = [1, 6] := by
    unfold stepA resA
    rw [s35.2.1, u5, m1536]
    decide +kernel
  simp only [allC, s1.1, s1.2, s2.1, s2.2, if_true]
theorem hit35 : hitE [3, 5] = 0 ∧ hitL [3, 5] = [1, 6] := by
  unfold hitE hitL
  rw [m35, all35]
  simp [s35.2.2]
def ex36T : Tr := .two 0 (.two 1 (.lf (-1)) (.two 2 (.lf (-2)) (.lf 1))) (.lf 0)
theorem ex36_grow : (growP [1, 6] [3, 5] 25 0 0 0).2.2 = 0 := by decide +kernel
theorem ex36_make : makeE ex36 = 0 ∧ (makeC ex36).cuts = [1, 6] ∧ (makeC ex36).paths = [3, 5] ∧ (makeC ex36).tree = (growP [1, 6] [3, 5] 25 0 0 0).1 := by
  obtain ⟨e1, e2, e3⟩ := ex36_paths
  have h : makeE ex36 = 0 := by
    rw [makeE, e3, e2, hit35.1, makeG, e2, hit35.2]
    exact ex36_grow
  refine ⟨h, ?_, ?_, ?_⟩
  · rw [makeC, if_pos h, e2]; exact hit35.2
  · rw [makeC, if_pos h]; exact e2
  · rw [makeC, if_pos h, makeG, e2, hit35.2]
theorem ex36_tree : sameT (growP [1, 6] [3, 5] 25 0 0 0).1 ex36T = true ∧ splE (growP [1, 6] [3, 5] 25 0 0 0).1 3 = 0 := by decide +kernel
theorem ex36_less : covE ex36 ⟨[1], [3, 5], (growP [1, 6] [3, 5] 25 0 0 0).1⟩ = 0 ∧ faultV ex36 ⟨[1], [3, 5], (growP [1, 6] [3, 5] 25 0 0 0).1⟩ = (4, 2) := by decide +kernel
end Go.Proofs.YtocnofkagckhkaaGreatDoor
end
section
set_option linter.unusedSectionVars false
set_option linter.unusedVariables false
set_option linter.unusedSimpArgs false
namespace Go.Proofs.YtocnofkagckhkaaGreatDoor
open Go.Sy Go.Pu Go.Proofs.YtocnofkagckhkaaGreatDoor.Tr
variable [Drw]
def fFC (g : FormP → CovP → SV) (p : FormP → CovP → Prop) : List EV → Option (SV × Prop)
  | [.ag [.lit (.int .i64 a), x, .lit (.int .i64 b)], .ag [c, d, .lit (.int .i64 v), k, .lit (.int .i64 r)]] => some (g ⟨a, unN x, b⟩ ⟨unI c, unI d, unTr v k r⟩, isN x ∧ (isI c ∧ isI d ∧ isKs k) ∧ p ⟨a, unN x, b⟩ ⟨unI c, unI d, unTr v k r⟩)
  | _ => none
theorem cov_eq {c d k : CV} {v r : Int} (h1 : isI c) (h2 : isI d) (h3 : isKs k) : EvEq (.ag [c, d, .lit (.int .i64 v), k, .lit (.int .i64 r)]) (.ag (covC ⟨unI c, unI d, unTr v k r⟩)) := by
  have ht := tr_eq (a := v) (b := r) h3
  refine ⟨rfl, fun q y z hy hz => ?_⟩
  match q, hy, hz with
  | 0, hy, hz => simp [covC] at hy hz; subst hy; subst hz; exact h1
  | 1, hy, hz => simp [covC] at hy hz; subst hy; subst hz; exact h2
  | q + 2, hy, hz => exact ht.2 q y z (by simpa using hy) (by simpa [covC] using hz)
theorem fFC_ok {P : Program} {f : FuncId} {g : FormP → CovP → SV} {p : FormP → CovP → Prop} (h : ∀ x c, p x c → DoesF P f [.ag (formC x), .ag (covC c)] [] (g x c) []) : ∀ ys y φ, fFC g p ys = some (y, φ) → φ → DoesF P f ys [] y [] := by
  intro ys y φ he hφ
  unfold fFC at he
  split at he
  · simp only [Option.some.injEq, Prod.mk.injEq] at he
    obtain ⟨rfl, rfl⟩ := he
    obtain ⟨h1, ⟨h2, h3, h4⟩, h5⟩ := hφ
    refine DoesF.conv ?_ (h _ _ h5)
    exact ⟨form_eq h1, cov_eq h2 h3 h4, trivial⟩
  · cases he
def covSm (c : CovP) : Prop := c.tree.In ∧ c.cuts.length ≤ 1099511627776 ∧ c.paths.length ≤ 1099511627776
def Y3 : Fns := (28, f0 (.e (.ag (formC ex36))) True) ::
  (16, fF (fun f => .tup [.ag (covC (makeC f)), eV (makeE f)]) FormIn) ::
  (22, fF (fun f => .tup [.ag (covC (makeC f)), iV (makeE f)]) FormIn) ::
  (14, fFC (fun f c => .e (eV (covE f c))) fun f c => FormIn f ∧ covSm c) ::
  (12, fFC (fun f c => .tup [bV (decide (covE f c = 0) && decide ((faultV f c).1 = 0)), faV (if covE f c = 0 then faultV f c else (0, 0)), eV (covE f c)]) fun f c => FormIn f ∧ covSm c) ::
  (11, fFC (fun f c => sI (covE f c)) fun f c => FormIn f) ::
  (15, fFC (fun f c => .tup [bV (decide (covE f c = 0) && decide ((faultV f c).1 = 0)), faV (if covE f c = 0 then faultV f c else (0, 0)), iV (covE f c)]) fun f c => FormIn f ∧ c.tree.In) ::
  (9, fFC (fun f c => sB (light36F f c)) fun f c => FormIn f) ::
  Y2
theorem Y3_ok : FnsOk Tryz.prog Y3 := .cons (.cons (.cons (.cons (.cons (.cons (.cons (.cons (Y2_ok) Tryz.func9 rfl rfl (fFC_ok fun f c h => light36_does f c h)) Tryz.func15 rfl rfl (fFC_ok fun f c h => rverify36_does f c h.1 h.2)) Tryz.func11 rfl rfl (fFC_ok fun f c h => rcheck36_does f c h)) Tryz.func12 rfl rfl (fFC_ok fun f c h => cverify_does f c h.1 h.2.1 h.2.2.1 h.2.2.2)) Tryz.func14 rfl rfl (fFC_ok fun f c h => ccheck_does f c h.1 h.2.1 h.2.2.1 h.2.2.2)) Tryz.func22 rfl rfl (fF_ok fun f h => rmake36_does f h)) Tryz.func16 rfl rfl (fF_ok fun f h => cmake_does f h)) Tryz.func28 rfl rfl (f0_ok fun _ => example36_does)
end Go.Proofs.YtocnofkagckhkaaGreatDoor
end
section
set_option linter.unusedSectionVars false
set_option linter.unusedVariables false
set_option linter.unusedSimpArgs false
namespace Go.Pu
open Go.Sy
variable [Drw]
theorem itoa_size {n : Int} (h0 : -9223372036854775808 ≤ n) (h1 : n ≤ 9223372036854775807) : (Lib.itoa n).length ≤ 20 := by
  have hl : (Lib.decDigits n.natAbs).length = Lib.nDigits n.natAbs := Lib.decDigits_length _
  have := nDig_le 18 n.natAbs (by omega)
  by_cases hneg : n < 0
  · rw [show Lib.itoa n = 45 :: Lib.decDigits n.natAbs by rw [Lib.itoa, if_pos hneg], List.length_cons]; omega
  · rw [show Lib.itoa n = Lib.decDigits n.natAbs by rw [Lib.itoa, if_neg hneg]; congr 1; omega]; omega
theorem showT_size (t : Tr) : gT t → t.In → ((showT t).length : Int) ≤ 30 * cntN t := by
  induction t using Tr.ind with
  | h t ih =>
    rw [gT_eq, Tr.in_iff, showT_eq, cntN_eq]
    rintro hg ⟨i1, i2, i3⟩
    simp only [inK] at i1 i2
    split at hg
    · rename_i h2
      rw [if_pos h2, if_pos h2]
      obtain ⟨_, _, _, g0, g1⟩ := hg
      have h0 := ih 0 (by omega) g0 (i3 0 (by omega))
      have h1 := ih 1 (by omega) g1 (i3 1 (by omega))
      have hv := itoa_size (n := t.v) (by omega) (by omega)
      simp only [List.length_cons, List.length_append, List.length_nil]
      omega
    · rename_i h2
      rw [if_neg h2, if_neg h2]
      have := itoa_size (n := t.r) (by omega) (by omega)
      omega
end Go.Pu
end
section
set_option linter.unusedSectionVars false
set_option linter.unusedVariables false
set_option linter.unusedSimpArgs false
namespace Go.Sy
open Go.Sort Go.Lib Go.Shelf Go.Proofs
abbrev strV (s : ByteArray) : EV := .c (.lit (.string s))
theorem below_ext {o : Nat → Tag} {w w' : World} (h : Go.RowKit.Below w.heap.size w w') : @Ext drwNo o w o w' :=
  letI : Drw := drwNo
  ⟨h.size, h.os, h.tape, h.output, Nat.le_refl _, fun b hb hl => ⟨hb, h.block b hl⟩, fun b hb hl => ⟨hb, h.block b hl⟩⟩
end Go.Sy
attribute [local instance] Go.Sy.drwNo
namespace Go.Sy
open Go.Sort Go.Lib Go.Shelf Go.Proofs
end Go.Sy
namespace Go.Pu
open Go.Sy
def strL (l : List UInt8) : ByteArray := ⟨l.toArray⟩
@[simp] theorem strL_size (l : List UInt8) : (strL l).size = l.length := by simp [strL, ByteArray.size]
@[simp] theorem strL_data (l : List UInt8) : (strL l).data.toList = l := by simp [strL]
@[simp] theorem strL_getD (l : List UInt8) (i : Nat) : (strL l).data.getD i 0 = l.getD i 0 := by simp [strL, List.getD_eq_getElem?_getD, Array.getD_eq_getD_getElem?]
theorem strL_append (a b : List UInt8) : strL a ++ strL b = strL (a ++ b) := by
  apply ByteArray.ext
  apply Array.ext'
  simp [strL]
end Go.Pu
namespace Go.Sy
end Go.Sy
end
section
namespace Go.Proofs.YtocnofkagckhkaaGreatDoor
open Go.Shelf
def layItoaT_ren : Go.Shelf.Ren := ⟨fun | 171 => 103 | 243 => 130 | 246 => 149 | 283 => 162 | 284 => 163 | 285 => 164 | 286 => 165 | 129 => 145 | 317 => 168 | 318 => 169 | 319 => 170 | 320 => 171 | 337 => 172 | 338 => 173 | n => n, fun | 3 => 3 | 9 => 9 | 2 => 2 | 4 => 4 | 171 => 178 | 0 => 0 | 53 => 166 | 37 => 107 | 5 => 5 | 173 => 180 | 212 => 186 | 51 => 164 | 20 => 20 | 213 => 187 | 46 => 154 | 232 => 188 | 233 => 189 | n => n, fun | 17 => 0 | 18 => 1 | 19 => 2 | n => n⟩
theorem layItoaT : Go.Proofs.LaysM.n171 Tryz.prog layItoaT_ren := {
  mixed := by kernel_rfl
  f129 := Tryz.func145.trans (congrArg some (by kernel_rfl))
  f171 := Tryz.func103.trans (congrArg some (by kernel_rfl))
  f243 := Tryz.func130.trans (congrArg some (by kernel_rfl))
  f246 := Tryz.func149.trans (congrArg some (by kernel_rfl))
  f283 := Tryz.func162.trans (congrArg some (by kernel_rfl))
  f284 := Tryz.func163.trans (congrArg some (by kernel_rfl))
  f285 := Tryz.func164.trans (congrArg some (by kernel_rfl))
  f286 := Tryz.func165.trans (congrArg some (by kernel_rfl))
  f317 := Tryz.func168.trans (congrArg some (by kernel_rfl))
  f318 := Tryz.func169.trans (congrArg some (by kernel_rfl))
  f319 := Tryz.func170.trans (congrArg some (by kernel_rfl))
  f320 := Tryz.func171.trans (congrArg some (by kernel_rfl))
  f337 := Tryz.func172.trans (congrArg some (by kernel_rfl))
  f338 := Tryz.func173.trans (congrArg some (by kernel_rfl))
  t0 := Tryz.underlying0
  a0 := Tryz.isAgg0
  z0 := Tryz.sizeOf0
  v0 := Tryz.zeroValue0
  t2 := Tryz.underlying2
  a2 := Tryz.isAgg2
  z2 := Tryz.sizeOf2
  v2 := Tryz.zeroValue2
  t3 := Tryz.underlying3
  a3 := Tryz.isAgg3
  z3 := Tryz.sizeOf3
  v3 := Tryz.zeroValue3
  t4 := Tryz.underlying4
  a4 := Tryz.isAgg4
  z4 := Tryz.sizeOf4
  v4 := Tryz.zeroValue4
  t5 := Tryz.underlying5
  a5 := Tryz.isAgg5
  z5 := Tryz.sizeOf5
  v5 := Tryz.zeroValue5
  t9 := Tryz.underlying9
  a9 := Tryz.isAgg9
  z9 := Tryz.sizeOf9
  v9 := Tryz.zeroValue9
  t20 := Tryz.underlying20
  a20 := Tryz.isAgg20
  z20 := Tryz.sizeOf20
  v20 := Tryz.zeroValue20
  t37 := Tryz.underlying107
  a37 := Tryz.isAgg107
  z37 := Tryz.sizeOf107
  v37 := Tryz.zeroValue107
  t46 := Tryz.underlying154
  a46 := Tryz.isAgg154
  z46 := Tryz.sizeOf154
  v46 := Tryz.zeroValue154
  t51 := Tryz.underlying164
  a51 := Tryz.isAgg164
  z51 := Tryz.sizeOf164
  v51 := Tryz.zeroValue164
  t53 := Tryz.underlying166
  a53 := Tryz.isAgg166
  z53 := Tryz.sizeOf166
  v53 := Tryz.zeroValue166
  t171 := Tryz.underlying178
  a171 := Tryz.isAgg178
  z171 := Tryz.sizeOf178
  v171 := Tryz.zeroValue178
  t173 := Tryz.underlying180
  a173 := Tryz.isAgg180
  z173 := Tryz.sizeOf180
  v173 := Tryz.zeroValue180
  t212 := Tryz.underlying186
  a212 := Tryz.isAgg186
  z212 := Tryz.sizeOf186
  v212 := Tryz.zeroValue186
  t213 := Tryz.underlying187
  a213 := Tryz.isAgg187
  z213 := Tryz.sizeOf187
  t232 := Tryz.underlying188
  a232 := Tryz.isAgg188
  z232 := Tryz.sizeOf188
  v232 := Tryz.zeroValue188
  t233 := Tryz.underlying189
  a233 := Tryz.isAgg189
  z233 := Tryz.sizeOf189
  v233 := Tryz.zeroValue189
  g17 := by kernel_rfl
  g18 := by kernel_rfl
  g19 := by kernel_rfl
  i0 := by kernel_rfl
  i2 := by kernel_rfl
  i3 := by kernel_rfl
  i4 := by kernel_rfl
  i5 := by kernel_rfl
  i9 := by kernel_rfl
  i20 := by kernel_rfl
  i37 := by kernel_rfl
  i46 := by kernel_rfl
  i51 := by kernel_rfl
  i53 := by kernel_rfl
  i171 := by kernel_rfl
  i173 := by kernel_rfl
  i212 := by kernel_rfl
  i232 := by kernel_rfl
  i233 := by kernel_rfl
  m17 := by kernel_rfl
  m18 := by kernel_rfl
  m19 := by kernel_rfl }
def layString_ren : Go.Shelf.Ren := ⟨fun | 169 => 61 | n => n, fun | 70 => 106 | 9 => 9 | 0 => 0 | 72 => 109 | 37 => 107 | 127 => 143 | 3 => 3 | 5 => 5 | n => n, fun | n => n⟩
theorem layString : Go.Proofs.Lays.n169 Tryz.prog layString_ren := {
  mixed := by kernel_rfl
  f169 := Tryz.func61.trans (congrArg some (by kernel_rfl))
  t0 := Tryz.underlying0
  a0 := Tryz.isAgg0
  z0 := Tryz.sizeOf0
  v0 := Tryz.zeroValue0
  t3 := Tryz.underlying3
  a3 := Tryz.isAgg3
  z3 := Tryz.sizeOf3
  v3 := Tryz.zeroValue3
  t9 := Tryz.underlying9
  a9 := Tryz.isAgg9
  z9 := Tryz.sizeOf9
  v9 := Tryz.zeroValue9
  t37 := Tryz.underlying107
  a37 := Tryz.isAgg107
  z37 := Tryz.sizeOf107
  v37 := Tryz.zeroValue107
  t70 := Tryz.underlying106
  a70 := Tryz.isAgg106
  z70 := Tryz.sizeOf106
  v70 := Tryz.zeroValue106
  t72 := Tryz.underlying109
  a72 := Tryz.isAgg109
  z72 := Tryz.sizeOf109
  v72 := Tryz.zeroValue109
  t127 := Tryz.underlying143
  a127 := Tryz.isAgg143
  z127 := Tryz.sizeOf143
  v127 := Tryz.zeroValue143 }
theorem extraString : Builder.Extra Tryz.prog layString_ren := {
  sizeBuilder := by kernel_rfl
  liesBuilder := by kernel_rfl
  t5 := Tryz.underlying5
  a5 := Tryz.isAgg5
  z5 := Tryz.sizeOf5
  v5 := Tryz.zeroValue5
  infoByte := by kernel_rfl
  cellsByte := by kernel_rfl
  sizeByte := by kernel_rfl
  neB5 := by decide }
end Go.Proofs.YtocnofkagckhkaaGreatDoor
end
section
set_option linter.unusedSectionVars false
set_option linter.unusedVariables false
set_option linter.unusedSimpArgs false
namespace Go.Sy
open Go.Lib Go.Shelf
variable [Drw]
def bytesC (bs : List UInt8) : CV := .sl bs.length 1 fun e _ => .lit (.int .u8 ((bs.getD e 0).toNat : Int))
def byteV (b : UInt8) : Value := .int .u8 (b.toNat : Int)
section
variable {P : Program} {lay : Lay} {o o' : Nat → Tag} {h h' : Nat → Value} {A A' : St} {tm : Array Value} {w w' : World} {Q : Exit → St → Prop} {k : List K} {e : Exit}
theorem strCells_eq (s : ByteArray) : strCells s = s.data.toList.map byteV := rfl
theorem bytes_vs {i E : Nat} {bs : List UInt8} (hs : Sat o h A tm w) (hi : lk A.rs i = some (.own E (bytesC bs))) : w.ownsRow 0 E 1 (h i) bs.length (bs.map byteV) ∧ ∀ b, (h i).ownBlock = some b → o b = .hd i := by
  obtain ⟨vs, hown, htag, hvs⟩ := hs.res i _ hi
  have e : vs = bs.map byteV := by
    refine List.ext_getElem? fun j => ?_
    by_cases hj : j < bs.length
    · obtain ⟨u, hu, hr⟩ := hvs j 0 hj (by omega)
      have h1 : u = byteV (bs.getD j 0) := hr.1
      rw [Nat.mul_one, Nat.add_zero] at hu
      rw [hu, h1, List.getElem?_map, List.getElem?_eq_getElem hj]
      simp [List.getD_eq_getElem?_getD, hj]
    · have hl := hown.1
      rw [List.getElem?_eq_none (by omega), List.getElem?_eq_none (by simp; omega)]
  subst e
  exact ⟨hown, htag⟩
theorem bytes_rep {vs : List Value} {bs : List UInt8} (hv : vs = bs.map byteV) : ∀ e q, e < bs.length → q < 1 → ∃ u, vs[e * 1 + q]? = some u ∧ RepV o w (.lit (byteV (bs.getD e 0))) u := by
  intro e q he hq
  obtain rfl : q = 0 := by omega
  refine ⟨byteV (bs.getD e 0), ?_, rfl, rfl⟩
  rw [hv, Nat.mul_one, Nat.add_zero, List.getElem?_map, List.getElem?_eq_getElem he]
  simp [List.getD_eq_getElem?_getD, he]
theorem appS_step (hl : LayOk P lay) {op : Oper} {c : Call} {d i E t u sz : Nat} {ag : Bool} {zz zu : List Value} {sl x : Operand} {p q : Prop} {bs : List UInt8} {s : ByteArray}
    (ho : op.op = .call c) (hd : op.dst = some d) (hlt : Nat.blt d A.n = true) (hf : freshB A d = true) (hc : c.callee = .builtin .append) (ha : c.args = #[sl, x]) (hta : c.argTypes = #[t, u])
    (hT : lk lay t = some ⟨sz, ag, .sl E 1 1, zz⟩) (hE : lk lay E = some ⟨1, false, .int .u8, [.int .u8 0]⟩) (hU : lk lay u = some ⟨1, false, .str, zu⟩)
    (hr : rd A sl = some (.r i, p)) (hp : p) (hi : lk A.rs i = some (.own E (bytesC bs))) (hx : rd A x = some (.c (.lit (.string s)), q)) (hq : q) (hlen : bs.length + s.size ≤ 140737488355328) :
    OpStep P op A ⟨A.n, (d, .e (.r d)) :: A.sl, (d, .own E (bytesC (bs ++ s.data.toList))) :: (i, .gone) :: A.rs⟩ := by
  intro o h tm w hs
  have hlt : d < A.n := by simpa [Nat.blt, Nat.succ_le_iff] using hlt
  have hsv : evl tm sl = h i := rd_ok hs hr hp
  have hxv : evl tm x = .string s := (rd_ok hs hx hq).1
  obtain ⟨hu, hes, i0, hinfo, hisz, hiby⟩ := sl_elem hl hT
  obtain ⟨iE, z, hiE, hszE, hzE, hzcE, _, hz1⟩ := (hl _ _ hE).info
  rw [hinfo] at hiE
  cases hiE
  have hz0 : z = .int .u8 0 := by
    have e1 := hz1 rfl
    simp only [e1] at hzcE
    simpa using hzcE
  subst hz0
  have hus : P.underlying u = some .string := by
    obtain ⟨du, g1, g2⟩ := (hl _ _ hU).td
    rw [g1]
    cases du <;> simp [tdB] at g2 ⊢
  have hrun : ∀ {v w'}, (Builtin.append_ #[t, u] op.type #[h i, .string s]).run P w = .ok v w' → (∃ o' h', Sat o' h' ⟨A.n, (d, .e (.r d)) :: A.sl, (d, .own E (bytesC (bs ++ s.data.toList))) :: (i, .gone) :: A.rs⟩ (tm.setIfInBounds d v) w' ∧ Ext o w o' w') →
      ∃ x v w' o' h', (execOp (evl tm) op).run P w = .ok x w' ∧ (x = .value v ∨ (x = .skip ∧ v = undef)) ∧ Sat o' h' ⟨A.n, (d, .e (.r d)) :: A.sl, (d, .own E (bytesC (bs ++ s.data.toList))) :: (i, .gone) :: A.rs⟩ ((⟨tm, []⟩ : Act).put op.dst v).tmps w' ∧ Ext o w o' w' := by
    rintro v w' hr ⟨o', h', h1, h2⟩
    refine ⟨_, v, w', o', h', ?_, .inl rfl, by simpa only [Act.put, hd] using h1, h2⟩
    simp only [execOp, ho, resolve, hc, invoke, builtin, ha, hta]
    simp [hsv, hxv, hr]
  obtain ⟨hown, htag⟩ := bytes_vs hs hi
  have hlenS : s.data.toList.length = s.size := by rw [Array.length_toList]; rfl
  have hnm : (bs ++ s.data.toList).length = bs.length + s.size := by rw [List.length_append, hlenS]
  have hbC : bytesC (bs ++ s.data.toList) = .sl (bs.length + s.size) 1 fun e q => .lit (byteV ((bs ++ s.data.toList).getD e 0)) := by rw [← hnm]; rfl
  have hvs : (bs ++ s.data.toList).map byteV = bs.map byteV ++ strCells s := by rw [List.map_append]; rfl
  have grow : ∀ old : Nat, (∃ o' h', Sat o' h' ⟨A.n, (d, .e (.r d)) :: A.sl, (d, .own E (bytesC (bs ++ s.data.toList))) :: (i, .gone) :: A.rs⟩ (tm.setIfInBounds d (.slice (some ⟨w.heap.size, 0, none⟩) (bs.length + s.size) (grownCap w (bs.length + s.size) old E)))
      (w.drew.alloc (.cells ((bs.map byteV).toArray ++ (strCells s).toArray ++ Builtin.zeroCells (Value.int .u8 0).cells (grownCap w (bs.length + s.size) old E - (bs.length + s.size))) E)) ∧ Ext o w o' (w.drew.alloc (.cells ((bs.map byteV).toArray ++ (strCells s).toArray ++ Builtin.zeroCells (Value.int .u8 0).cells (grownCap w (bs.length + s.size) old E - (bs.length + s.size))) E))) := by
    intro old
    have hge := grownCap_ge w (bs.length + s.size) old E
    have hcm := grownCap_le_maxLen w (bs.length + s.size) old E (by simp only [maxLen]; omega)
    generalize grownCap w (bs.length + s.size) old E = G at *
    have hl1 : (bs.map byteV ++ strCells s).length = bs.length + s.size := by rw [List.length_append, List.length_map, strCells_length]
    obtain ⟨o', h', hs', hx'⟩ := Sat.newRow (hs.drew) hlt hf (E := E) (k := 1) (n := bs.length + s.size) (cap := G) (cur := (bs.map byteV).toArray ++ (strCells s).toArray ++ Builtin.zeroCells (Value.int .u8 0).cells (G - (bs.length + s.size)))
      (f := fun e q => .lit (byteV ((bs ++ s.data.toList).getD e 0))) hge hcm (by
        have hz1 : (Value.int IntKind.u8 0).cells.size = 1 := rfl
        simp only [Array.size_append, List.size_toArray, size_zeroCells, hz1, strCells_length, List.length_map]
        omega) (fun e q he hq => by
        obtain ⟨u, hu, hx⟩ := bytes_rep (o := o) (w := w) hvs.symm e q (by rw [hnm]; exact he) hq
        refine ⟨u, ?_, hx.drew⟩
        rw [← Array.getElem?_toList]
        simp only [Array.toList_append]
        rw [List.getElem?_append_left (by rw [List.length_append, List.length_map, strCells_length]; omega)]
        exact hu)
    rw [hbC]
    exact ⟨o', h', hs'.gone i rfl, (Ext.drew o w).trans hx'⟩
  rcases hown.2 with ⟨h0, hn0⟩ | ⟨g, cap, cur, h0, _, hg, hnc, hcm, hcs, htake⟩
  · have hb0 : bs = [] := List.length_eq_zero_iff.1 hn0
    by_cases hm : s.size = 0
    · have e2 : s.data.toList = [] := List.length_eq_zero_iff.1 (by omega)
      refine hrun (v := .slice none 0 0) (w' := w) ?_ ?_
      · rw [h0]
        have hf' := run_firstCells_string (P := P) w i0.size s
        rw [hm, strCells_eq, e2] at hf'
        have hk0 : (Builtin.firstCells i0.size 0 (.string s)).run P w = .ok #[] w := hf'
        simp [Builtin.append_, run_underlying hu, run_underlying hus, sizeOf, typeInfo, hinfo, hisz, Builtin.lenOf, hm, Builtin.firstCells]
      · rw [← h0, e2, List.append_nil]
        exact Sat.rename hs hlt hf hi fun e q _ _ => rfl
    · have hr := run_append_nil_string (P := P) w t u op.type E i0 (.int .u8 0) hu hus hinfo hzE s (by omega) (by omega) (by rw [hiby]; omega)
      have hgr := grow 0
      rw [hb0] at hgr
      rw [hb0]
      simp only [List.map_nil, List.length_nil, Nat.zero_add, Array.empty_append] at hgr ⊢
      have e1 : (s.data.map fun b => Value.int .u8 b.toNat) = (strCells s).toArray := by
        apply Array.ext'
        simp [strCells]
      rw [e1] at hr
      rw [hb0] at hrun
      refine hrun (by rw [h0]; exact hr) hgr
  · by_cases hroom : bs.length + s.size ≤ cap
    · have hcs' : cur.size = cap := by simpa using hcs
      have hr := run_append_room_string (P := P) w t u op.type E i0 hu hus hinfo hisz g bs.length cap cur hg s hroom (by omega)
      refine hrun (by rw [h0]; exact hr) ?_
      rw [hbC]
      have ht' : cur.toList.take bs.length = bs.map byteV := by simpa using htake
      refine Sat.inPlace hs hlt hf hg (htag g (by rw [h0]; rfl)) hroom hcm ?_ fun e q he hq => ?_
      · simp only [List.size_toArray, List.length_append, List.length_take, List.length_drop, Array.length_toList, strCells_length]
        omega
      · obtain ⟨u, hu, hx⟩ := bytes_rep (o := o) (w := w) hvs.symm e q (by rw [hnm]; exact he) hq
        refine ⟨u, ?_, hx⟩
        rw [List.getElem?_toArray, ht', List.getElem?_append_left (by rw [List.length_append, List.length_map, strCells_length]; omega)]
        exact hu
    · have holds : ∀ j u, (bs.map byteV)[j]? = some u → w.cell? ((⟨g, 0, none⟩ : Addr).add j) = some u := hown.cells (g := g) (by rw [h0]; rfl)
      have hr := run_append_grow_string (P := P) w t u op.type E i0 (.int .u8 0) hu hus hinfo hzE ⟨g, 0, none⟩ bs.length cap (bs.map byteV) (by rw [hisz]; simp) holds s (by omega) (by omega) (by rw [hiby]; exact growslice_fits (by omega) (by omega))
      exact hrun (by rw [h0]; exact hr) (grow cap)
theorem KW.appS (hl : LayOk P lay) {all : Array Oper} {op : Oper} {rest : List Oper} {c : Call} {d i E t u sz : Nat} {ag : Bool} {zz zu : List Value} {sl x : Operand} {p q : Prop} {bs : List UInt8} {s : ByteArray}
    (hg : op.guard = none) (ho : op.op = .call c) (hd : op.dst = some d) (hlt : Nat.blt d A.n = true) (hf : freshB A d = true) (hc : c.callee = .builtin .append) (ha : c.args = #[sl, x]) (hta : c.argTypes = #[t, u])
    (hT : lk lay t = some ⟨sz, ag, .sl E 1 1, zz⟩) (hE : lk lay E = some ⟨1, false, .int .u8, [.int .u8 0]⟩) (hU : lk lay u = some ⟨1, false, .str, zu⟩)
    (hr : rd A sl = some (.r i, p)) (hp : p) (hi : lk A.rs i = some (.own E (bytesC bs))) (hx : rd A x = some (.c (.lit (.string s)), q)) (hq : q) (hlen : bs.length + s.size ≤ 140737488355328)
    (hn : KW P (.ops all rest :: k) .normal ⟨A.n, (d, .e (.r d)) :: A.sl, (d, .own E (bytesC (bs ++ s.data.toList))) :: (i, .gone) :: A.rs⟩ Q) : KW P (.ops all (op :: rest) :: k) .normal A Q :=
  KW.op hg (appS_step hl ho hd hlt hf hc ha hta hT hE hU hr hp hi hx hq hlen) hn
theorem argsOne {args : Array Value} {a : Value} (hs : args.size = 1) (h0 : args.getD 0 undef = a) : args = #[a] := by
  match args, hs with
  | ⟨[x]⟩, _ => simp at h0; subst h0; rfl
theorem KW.runV {all : Array Oper} {op : Oper} {rest : List Oper} {d : Nat} (sv : SV) (hg : op.guard = none) (hd : op.dst = some d) (hlt : Nat.blt d A.n = true)
    (hr : ∀ o h tm w, Sat o h A tm w → ∃ v, (execOp (evl tm) op).run P w = .ok (.value v) w ∧ SvOk o h w sv v) (hn : KW P (.ops all rest :: k) .normal ⟨A.n, (d, sv) :: A.sl, A.rs⟩ Q) : KW P (.ops all (op :: rest) :: k) .normal A Q := by
  refine KW.op hg (fun o h tm w hs => ?_) hn
  obtain ⟨v, h1, h2⟩ := hr o h tm w hs
  have hlt : d < A.n := by simpa [Nat.blt, Nat.succ_le_iff] using hlt
  refine ⟨_, v, w, o, h, h1, .inl rfl, ?_, Ext.refl o w⟩
  simp only [Act.put, hd]
  exact hs.put hlt h2
theorem run_exec_eqnil {op : Oper} {T T2 : TypeId} {x : Operand} {p : Option Addr} (ho : op.op = .binOp .eql T x (.const (.pointer none)) T2) (hx : evl tm x = .pointer p) (hT : P.underlying T = some (.pointer (P.pointee T))) :
    (execOp (evl tm) op).run P w = .ok (.value (.bool p.isNone)) w := by
  simp only [execOp, ho, hx]
  refine value_of ?_
  have hgd : (eqGuard .eql T x (.const (.pointer none)) (.pointer p) (.pointer none)).run P w = .ok () w := by
    unfold eqGuard; split <;> first | rfl | simp_all
  have hc : evl tm (.const (.pointer none)) = .pointer none := rfl
  simp only [hc, Sem.run_bind, hgd, Result.andThen_ok]
  exact run_eql_pointer_nil w T p hT
theorem run_exec_neqsame {op : Oper} {T T2 te : TypeId} {j : TypeInfo} {x y : Operand} {a : Addr} (ho : op.op = .binOp .neq T x y T2) (hx : evl tm x = .pointer (some a)) (hy : evl tm y = .pointer (some a)) (hp : P.underlying T = some (.pointer te)) (hte : P.info? te = some j) :
    (execOp (evl tm) op).run P w = .ok (.value (.bool false)) w := by
  simp only [execOp, ho, hx, hy]
  refine value_of ?_
  have hgd : (eqGuard .neq T x y (.pointer (some a)) (.pointer (some a))).run P w = .ok () w := by
    unfold eqGuard; split <;> first | rfl | simp_all
  simp only [Sem.run_bind, hgd, Result.andThen_ok]
  exact run_neq_ptr_same w a hp hte
theorem Sat.shape (hs : Sat o h A tm w) {i T : Nat} {cs : List EV} {bk : Option Nat} (hi : lk A.rs i = some (.box T cs bk)) : ∃ b, h i = .pointer (some ⟨b, 0, none⟩) ∧ w.shape? b = some (T, cs.length) := by
  obtain ⟨b, vs, h0, h1, h2, h3, h4, h5⟩ := hs.res i _ hi
  exact ⟨b, h1, by simp [World.shape?, h2, h4]⟩
open Go.RowKit Go.Proofs in
set_option maxHeartbeats 1000000 in
set_option maxRecDepth 100000 in
theorem string_raw {ρ : Ren} (L : Go.Proofs.Lays.n169 P ρ) (X : Go.Proofs.Builder.Extra P ρ) {b g cap : Nat} {p : Value} {cur : Array Value} {l : List UInt8} (h0 : l ≠ []) (hbk : w.heap[b]? = some (.cells #[p, .slice (some ⟨g, 0, none⟩) l.length cap] (ρ.t 72) (0, 0)))
    (hg : w.heap[g]? = some (.cells cur (ρ.t 5) (0, 0))) (hnc : l.length ≤ cap) (hcm : cap ≤ maxLen) (hcs : cur.size = cap) (hrow : ∀ (j : Nat) x, l[j]? = some x → w.cell? ((⟨g, 0, none⟩ : Addr).add j) = some (byteV x)) :
    Calls P (ρ.f 169) #[.pointer (some ⟨b, 0, none⟩)] w fun e w' => e = .returned (.string ⟨l.toArray⟩) ∧ w' = w.drew.freeze ⟨g, 0, none⟩ l.length := by
  have hl0 : l.length ≠ 0 := by simpa using h0
  have c1 : w.drew.cell? ⟨b, 1, none⟩ = some (.slice (some ⟨g, 0, none⟩) l.length cap) := by
    rw [cell_of_heap (w := w.drew) hbk]; rfl
  have hSD : (Builtin.unsafeSliceData_ #[ρ.t 37] (ρ.t 127) #[.slice (some ⟨g, 0, none⟩) l.length cap]).run P w.drew = .ok (.pointer (some ⟨g, 0, none⟩)) w.drew := run_unsafeSliceData_row _ _ _ _ _ _ (by omega)
  have hUS := run_unsafeString_row (P := P) w.drew (ρ.t 127) (ρ.t 3) (ρ.t 9) (ρ.t 5) L.t127 X.cellsByte g cur.size (by have e : w.drew.heap[g]? = some (.cells cur (ρ.t 5) (0, 0)) := hg; simp [World.shape?, e]) l h0 (by omega) (by unfold maxLen at hcm; omega) hrow
  have mixed := L.mixed
  have a72 := L.a72; have z72 := L.z72; have v72 := L.v72; have u72 := run_underlying L.t72
  have a70 := L.a70; have z70 := L.z70; have v70 := L.v70; have u70 := run_underlying L.t70
  have a37 := L.a37; have z37 := L.z37; have v37 := L.v37; have u37 := run_underlying L.t37
  have a127 := L.a127; have z127 := L.z127; have v127 := L.v127; have u127 := run_underlying L.t127
  have a3 := L.a3; have z3 := L.z3; have v3 := L.v3; have u3 := run_underlying L.t3
  have a9 := L.a9; have z9 := L.z9; have v9 := L.v9; have u9 := run_underlying L.t9
  have a5 := X.a5; have z5 := X.z5; have v5 := X.v5; have u5 := run_underlying X.t5
  have t72 := L.t72; have t70 := L.t70; have t37 := L.t37; have t127 := L.t127; have t3 := L.t3; have t9 := L.t9; have t5 := X.t5
  go_enter L.f169, Body.n169_ntmps ρ
  go_wp2
  go_region_o
  all_goals (go_wp2; go_ret; exact ⟨rfl, rfl⟩)
theorem string_does {ρ : Ren} (L : Go.Proofs.Lays.n169 P ρ) (X : Go.Proofs.Builder.Extra P ρ) {F T E : Nat} (hF : ρ.f 169 = F) (hT : ρ.t 72 = T) (hE : ρ.t 5 = E) {bs : List UInt8} (h0 : bs ≠ []) (y : EV) (bk : Option Nat) :
    DoesF P F [.r 0] [(0, .box T [y, .r 1] bk), (1, .own E (bytesC bs))] (.e (.c (.lit (.string ⟨bs.toArray⟩)))) [] := by
  subst hF; subst hT; subst hE
  intro o h args w hs
  obtain ⟨b, vs, hbk0, h1, h2, h3, h4, h5⟩ := hs.res 0 (.box (ρ.t 72) [y, .r 1] bk) rfl
  have a0 : args.getD 0 undef = h 0 := hs.slot 0 (.e (.r 0)) rfl
  have hargs := argsOne (by exact hs.size) (a0.trans h1)
  subst hargs
  obtain ⟨hown, htag⟩ := bytes_vs hs (i := 1) (E := ρ.t 5) (bs := bs) rfl
  obtain ⟨u0, hu0, _, _⟩ := h5 0 _ rfl
  obtain ⟨u1, hu1, _, he1⟩ := h5 1 _ rfl
  have he1 : u1 = h 1 := he1
  subst he1
  have hvs : vs = #[u0, h 1] := by
    have hsz : vs.size = 2 := h4
    refine Array.ext_getElem? fun j => ?_
    match j with
    | 0 => rw [hu0]; rfl
    | 1 => rw [hu1]; rfl
    | j + 2 => rw [Array.getElem?_eq_none (by omega), Array.getElem?_eq_none (by simp)]
  subst hvs
  rcases hown.2 with ⟨_, hn0⟩ | ⟨g, cap, cur, hv, _, hg, hnc, hcm, hcs, htake⟩
  · exact absurd (List.length_eq_zero_iff.1 hn0) h0
  · rw [hv] at h2 hown
    have htg := htag g (by rw [hv]; rfl)
    refine (string_raw L X h0 h2 hg hnc hcm (by simpa using hcs) fun j x hx => hown.cells (g := g) rfl j _ (by rw [List.getElem?_map, hx]; rfl)).mono ?_
    rintro e w' ⟨rfl, rfl⟩
    have hoth : ∀ b', b' ≠ g → (w.drew.freeze ⟨g, 0, none⟩ bs.length).heap[b']? = w.heap[b']? := fun b' hne => by
      have hl0 : bs.length ≠ 0 := by simpa using h0
      unfold World.freeze
      rw [if_neg hl0]
      show (w.heap.modify g _)[b']? = _
      simp [Array.getElem?_modify, Ne.symm hne]
    have hsz : (w.drew.freeze ⟨g, 0, none⟩ bs.length).heap.size = w.heap.size := by
      have hl0 : bs.length ≠ 0 := by simpa using h0
      unfold World.freeze
      rw [if_neg hl0]
      show (w.heap.modify g _).size = _
      simp
    have hfz : w.drew.freeze ⟨g, 0, none⟩ bs.length = { w.drew with heap := (w.drew.freeze ⟨g, 0, none⟩ bs.length).heap } := by
      have hl0 : bs.length ≠ 0 := by simpa using h0
      unfold World.freeze
      rw [if_neg hl0]
    have hsh : ∀ b', o b' = .sh → b' ≠ g := by rintro b' hb' rfl; rw [htg] at hb'; cases hb'
    have hno : ∀ b', o b' = .no → b' ≠ g := by rintro b' hb' rfl; rw [htg] at hb'; cases hb'
    refine ⟨_, o, h, rfl, ⟨rfl, fun b' => by rw [hsz]; exact hs.tags b', fun s x hl => ?_, fun i r hl => by simp [lk] at hl⟩, ⟨by rw [hsz]; exact Nat.le_refl _, by rw [hfz]; rfl, by rw [hfz]; rfl, by rw [hfz]; rfl, by rw [hfz]; exact Drw.mono _ _ (Nat.le_succ w.drawn), fun b' hb' _ => ⟨hb', hoth b' (hsh b' hb')⟩, fun b' hb' _ => ⟨hb', hoth b' (hno b' hb')⟩⟩⟩
    rw [lk_cons] at hl
    split at hl
    · rename_i e; subst e; cases hl; exact ⟨rfl, rfl⟩
    · simp [lk] at hl
end
end Go.Sy
end
section
set_option linter.unusedSectionVars false
set_option linter.unusedVariables false
set_option linter.unusedSimpArgs false
namespace Go.Proofs.YtocnofkagckhkaaGreatDoor.Tr
open Go.Sy Go.Pu
section
variable [Drw]
abbrev buR (p : EV) (X : CV) (b : Nat) : List (Nat × Res) := [(0, .box 109 [p, .r 1] (some b)), (1, .own 5 X)]
theorem ptrB {p : EV} {b : Nat} (s : Nat) (A : St) (hr : lk A.rs 0 = some (.box 109 [p, .r 1] (some b))) (hl : lk A.sl s = some (.e (.r 0))) (o h tm w) (hs : Sat o h A tm w) : ∃ b', h 0 = .pointer (some ⟨b', 0, none⟩) ∧ evl tm (.tmp s) = .pointer (some ⟨b', 0, none⟩) ∧ w.shape? b' = some (109, 2) := by
  obtain ⟨b', hb, hsh⟩ := hs.shape hr
  exact ⟨b', hb, (show evl tm (.tmp s) = h 0 from hs.slot s _ hl).trans hb, hsh⟩
theorem infoB : ∃ j, Tryz.prog.info? 109 = some j ∧ j.size = 2 := by
  have h2 : (Tryz.prog.info? 109).map (·.size) = some 2 := by kernel_rfl
  obtain ⟨j, h3, h4⟩ := Option.map_eq_some_iff.1 h2
  exact ⟨j, h3, h4⟩
theorem checkF_does (n : Nat) (f : Nat → Nat → CV) (b : Nat) : DoesF Tryz.prog 129 [.r 0] (buR (.c (.lit (.pointer none))) (.sl n 1 f) b) (.tup []) (buR (.r 0) (.sl n 1 f) b) := by
  refine DoesF.body _ Tryz.func129 rfl rfl rfl rfl ?_
  refine KW.go lay_ok (.nil _) 100 rfl (by simp) ?_
  refine KW.runV (sB true) rfl rfl rfl (fun o h tm w hs => ⟨_, run_exec_eqnil (p := none) rfl (show RepV o w (.lit (.pointer none)) (evl tm (.tmp 5)) from hs.slot 5 (.e (.c (.lit (.pointer none)))) rfl).1 (by kernel_rfl), rfl, rfl⟩) ?_
  refine KW.goIf lay_ok (.nil _) 100 rfl (by simp) rfl trivial (fun h => ?_) fun h => by cases h
  refine KW.go lay_ok (.nil _) 100 rfl (by simp) ?_
  obtain ⟨j, hj, hjs⟩ := infoB
  refine KW.runV (.e (.r 0)) rfl rfl rfl (fun o h tm w hs => ?_) ?_
  · obtain ⟨b', hb, hx, hsh⟩ := ptrB 8 _ rfl rfl o h tm w hs
    refine ⟨_, ?_, hb.symm⟩
    simp only [execOp, hx]
    exact value_of (Go.Lib.run_to_unsafe w ⟨b', 0, none⟩ (by kernel_rfl) (by kernel_rfl) hj (by rw [hjs]; decide) hsh (Nat.zero_lt_succ 1))
  refine KW.runV (.e (.r 0)) rfl rfl rfl (fun o h tm w hs => ?_) ?_
  · obtain ⟨b', hb, hx, hsh⟩ := ptrB 9 _ rfl rfl o h tm w hs
    refine ⟨_, ?_, hb.symm⟩
    have hcall := run_callFunc_extern (P := Tryz.prog) Tryz.func148 (by kernel_rfl) (by kernel_rfl) (by kernel_rfl) (e := Extern.AbiNoEscape.same) (by kernel_rfl) #[.pointer (some ⟨b', 0, none⟩)] w
    rw [Go.Lib.run_noEscape] at hcall
    have hfv : evl tm (.func 148) = .func (.func 148) #[] #[] := rfl
    simp only [execOp, resolve, hfv]
    simp only [Deferred.ofValue, Sem.run_bind, Sem.run_pure, Result.andThen_ok, invoke, Array.empty_append, Array.append_empty]
    simp only [List.map_toArray, List.map_cons, List.map_nil, hx]
    exact hcall
  refine KW.runV (.e (.r 0)) rfl rfl rfl (fun o h tm w hs => ?_) ?_
  · obtain ⟨b', hb, hx, hsh⟩ := ptrB 10 _ rfl rfl o h tm w hs
    refine ⟨_, ?_, hb.symm⟩
    simp only [execOp, hx]
    exact value_of (Go.Lib.run_from_unsafe w ⟨b', 0, none⟩ (by kernel_rfl) (by kernel_rfl) hj hsh (by kernel_rfl))
  refine KW.go lay_ok (.nil _) 100 rfl (by simp) ?_
  exact KW.finN [(0, 0), (1, 1)] rfl rfl rfl (by exact ⟨rfl, rfl, trivial⟩)
theorem checkU_does (n : Nat) (f : Nat → Nat → CV) (b : Nat) : DoesF Tryz.prog 129 [.r 0] (buR (.r 0) (.sl n 1 f) b) (.tup []) (buR (.r 0) (.sl n 1 f) b) := by
  refine DoesF.body _ Tryz.func129 rfl rfl rfl rfl ?_
  refine KW.go lay_ok (.nil _) 100 rfl (by simp) ?_
  refine KW.runV (sB false) rfl rfl rfl (fun o h tm w hs => ?_) ?_
  · obtain ⟨b', hb, hx, hsh⟩ := ptrB 5 _ rfl rfl o h tm w hs
    exact ⟨_, run_exec_eqnil (p := some ⟨b', 0, none⟩) rfl hx (by kernel_rfl), rfl, rfl⟩
  refine KW.goIf lay_ok (.nil _) 100 rfl (by simp) rfl trivial (fun h => by cases h) fun h => ?_
  refine KW.go lay_ok (.nil _) 100 rfl (by simp) ?_
  obtain ⟨j, hj, hjs⟩ := infoB
  refine KW.runV (sB false) rfl rfl rfl (fun o h tm w hs => ?_) ?_
  · obtain ⟨b', hb, hx, hsh⟩ := ptrB 17 _ rfl rfl o h tm w hs
    obtain ⟨b2, hb2, hx2, _⟩ := ptrB 18 _ rfl rfl o h tm w hs
    rw [hb] at hb2
    cases hb2
    exact ⟨_, run_exec_neqsame rfl hx hx2 (by kernel_rfl) hj, rfl, rfl⟩
  refine KW.goIf lay_ok (.nil _) 100 rfl (by simp) rfl trivial (fun h => by cases h) fun h => ?_
  refine KW.go lay_ok (.nil _) 100 rfl (by simp) ?_
  exact KW.finN [(0, 0), (1, 1)] rfl rfl rfl (by exact ⟨rfl, rfl, trivial⟩)
end
end Go.Proofs.YtocnofkagckhkaaGreatDoor.Tr
end
section
set_option linter.unusedSectionVars false
set_option linter.unusedVariables false
set_option linter.unusedSimpArgs false
attribute [local instance] Go.Sy.drwNo
namespace Go.Proofs.YtocnofkagckhkaaGreatDoor.Tr
open Go.Sy Go.Pu Go.Sort Go.Lib Go.Shelf
def powVs : List Value := Lib.pow10Tab.map fun z => Value.int .u64 z
def gloP (i T : Nat) : Nat × Res := (i, .glo 0 T powVs)
theorem itoa_does (n : Int) (hn : inK .i64 n) (T : Nat) : DoesF Tryz.prog 103 [iV n] [gloP 0 T] (.e (strV (strL (Lib.itoa n)))) [] := by
  intro o h args w hs
  have h1 : args.getD 0 undef = .int .i64 n := (show RepV o w (.lit (.int .i64 n)) _ from hs.slot 0 (sI n) rfl).1
  have hargs := args1 (by exact hs.size) h1
  subst hargs
  have hg : o 0 = .sh ∧ w.heap[0]? = some (.cells powVs.toArray T (0, 0)) := hs.res 0 (.glo 0 T powVs) rfl
  have hT : Lib.TabIs Tryz.prog w "internal/strconv.uint64pow10" .u64 Lib.pow10Tab := by
    unfold Lib.TabIs World.var?
    rw [show Tryz.prog.globalNamed "internal/strconv.uint64pow10" = some 0 by kernel_rfl]
    simp only [Option.bind_some, hg.2]; rfl
  simp only [inK] at hn
  refine (Any.strconv_Itoa layItoaT n (by omega) (by omega) w hT).mono ?_
  rintro e w' ⟨rfl, k, os, rfl⟩
  have hb := below_grow w.heap.size w (Nat.le_refl _) k os
  refine ⟨_, o, h, rfl, ⟨rfl, fun b => ⟨fun i hk => Nat.lt_of_lt_of_le ((hs.tags b).1 i hk) hb.size, fun hk => Nat.lt_of_lt_of_le ((hs.tags b).2 hk) hb.size⟩, fun s x hl => ?_, fun i r hl => by simp [lk] at hl⟩, below_ext hb⟩
  rw [lk_cons] at hl
  split at hl
  · rename_i e; subst e; cases hl; exact ⟨rfl, rfl⟩
  · simp [lk] at hl
abbrev nilP : EV := .c (.lit (.pointer none))
theorem wsF_does (bs l : List UInt8) (b : Nat) (hlen : bs.length + l.length ≤ 140737488355328) : DoesF Tryz.prog 102 [.r 0, strV (strL l)] (buR nilP (bytesC bs) b) (.tup [iV l.length, .c (.lit .nilIface)]) (buR (.r 0) (bytesC (bs ++ l)) b) := by
  refine DoesF.body _ Tryz.func102 rfl rfl rfl rfl ?_
  refine KW.go lay_ok U7_ok 100 rfl (by simp) ?_
  refine KW.call0 (checkF_does bs.length (fun e _ => CV.lit (Value.int IntKind.u8 ((bs.getD e 0).toNat : Int))) b) (enters Tryz.func129 rfl rfl) [(0, 0), (1, 1)] [(0, 0), (1, 201)] [] (.inl rfl) rfl rfl rfl rfl rfl trivial
    ⟨⟨_, _, rfl, trivial, (show Mt _ _ _ (EV.ren [(0, 0), (1, 1)] (.r 0)) (.r 0) from .same)⟩, trivial⟩ rfl ⟨rfl, rfl, trivial⟩ rfl ⟨.inr ⟨rfl, .inr ⟨_, _, _, _, b, rfl, rfl⟩⟩, .inl rfl, trivial⟩ rfl rfl (.inl rfl) ?_
  refine KW.go lay_ok U7_ok 100 rfl (by simp) ?_
  refine KW.appS (bs := bs) (s := strL l) lay_ok rfl rfl rfl rfl rfl rfl rfl rfl rfl rfl rfl rfl trivial rfl rfl trivial (by rw [strL_size]; exact hlen) ?_
  refine KW.goRetR lay_ok U7_ok 100 rfl [(0, 0), (1, 14)] rfl rfl ?_ (by simp) (by exact ⟨rfl, by rw [strL_data]; rfl, trivial⟩)
  rw [strL_size]; rfl
theorem wsU_does (bs l : List UInt8) (b : Nat) (hlen : bs.length + l.length ≤ 140737488355328) : DoesF Tryz.prog 102 [.r 0, strV (strL l)] (buR (.r 0) (bytesC bs) b) (.tup [iV l.length, .c (.lit .nilIface)]) (buR (.r 0) (bytesC (bs ++ l)) b) := by
  refine DoesF.body _ Tryz.func102 rfl rfl rfl rfl ?_
  refine KW.go lay_ok U7_ok 100 rfl (by simp) ?_
  refine KW.call0 (checkU_does bs.length (fun e _ => CV.lit (Value.int IntKind.u8 ((bs.getD e 0).toNat : Int))) b) (enters Tryz.func129 rfl rfl) [(0, 0), (1, 1)] [(0, 0), (1, 201)] [] (.inl rfl) rfl rfl rfl rfl rfl trivial
    ⟨⟨_, _, rfl, trivial, (show Mt _ _ _ (EV.ren [(0, 0), (1, 1)] (.r 0)) (.r 0) from .same)⟩, trivial⟩ rfl ⟨rfl, rfl, trivial⟩ rfl ⟨.inr ⟨rfl, .inr ⟨_, _, _, _, b, rfl, rfl⟩⟩, .inl rfl, trivial⟩ rfl rfl (.inl rfl) ?_
  refine KW.go lay_ok U7_ok 100 rfl (by simp) ?_
  refine KW.appS (bs := bs) (s := strL l) lay_ok rfl rfl rfl rfl rfl rfl rfl rfl rfl rfl rfl rfl trivial rfl rfl trivial (by rw [strL_size]; exact hlen) ?_
  refine KW.goRetR lay_ok U7_ok 100 rfl [(0, 0), (1, 14)] rfl rfl ?_ (by simp) (by exact ⟨rfl, by rw [strL_data]; rfl, trivial⟩)
  rw [strL_size]; rfl
def buG (p : EV) (X : CV) (b T : Nat) : List (Nat × Res) := [(0, .box 109 [p, .r 1] (some b)), (1, .own 5 X), gloP 2 T]
set_option maxHeartbeats 1600000 in
theorem writeU_does (T : Nat) (t : Tr) : gT t → t.In → ∀ (bs : List UInt8) (b : Nat), (bs.length : Int) + 30 * cntN t ≤ 1000000 → DoesF Tryz.prog 60 [.r 0, trV t] (buG (.r 0) (bytesC bs) b T) (.tup []) (buR (.r 0) (bytesC (bs ++ showT t)) b) := by
  induction t using Tr.ind with
  | h t ih =>
    have ihU : ∀ t' : Tr, (∃ i, i < t.n ∧ t' = t.k i) → gT t' → t'.In → ∀ (bs : List UInt8) (b : Nat), (bs.length : Int) + 30 * cntN t' ≤ 1000000 → DoesF Tryz.prog 60 [.r 0, trV t'] (buG (.r 0) (bytesC bs) b T) (.tup []) (buR (.r 0) (bytesC (bs ++ showT t')) b) := fun t' h => by
      obtain ⟨i, hi, rfl⟩ := h
      exact ih i hi
    intro hg hin bs b hlen
    obtain ⟨iv, ir, ik⟩ := (Tr.in_iff t).1 hin
    simp only [inK] at iv ir
    refine DoesF.body _ Tryz.func60 rfl rfl rfl rfl ?_
    refine KW.open 1 t rfl ?_
    refine KW.goIf lay_ok U7_ok 100 rfl (by simp) rfl trivial (fun h => ?_) fun h => ?_
    · have h0 : t.n = 0 := by simpa using h
      have hl := itoa_size (n := t.r) (by omega) (by omega)
      have pc := cntN_pos t
      rw [showT_eq, if_neg (by omega)]
      refine KW.go lay_ok U7_ok 100 rfl (by simp) ?_
      refine KW.dupG 2 300 rfl ?_
      refine KW.call0 (itoa_does t.r (by simp only [inK]; omega) T) (enters Tryz.func103 rfl rfl) [(0, 300)] [] [] (.inl rfl) rfl rfl rfl rfl rfl trivial ⟨⟨_, _, rfl, trivial, .conv (CVEq.refl _)⟩, trivial⟩ rfl ⟨rfl, trivial⟩ rfl trivial rfl rfl (.inl rfl) ?_
      refine KW.go lay_ok U7_ok 100 rfl (by simp) ?_
      refine KW.call0 (wsU_does bs (Lib.itoa t.r) b (by omega)) (enters Tryz.func102 rfl rfl) [(0, 0), (1, 1)] [(0, 0), (1, 201)] [] (.inl rfl) rfl rfl rfl rfl rfl trivial
        ⟨⟨_, _, rfl, trivial, (show Mt _ _ _ (EV.ren [(0, 0), (1, 1)] (.r 0)) (.r 0) from .same)⟩, ⟨_, _, rfl, trivial, .conv (CVEq.refl _)⟩, trivial⟩ rfl ⟨rfl, rfl, trivial⟩ rfl ⟨.inr ⟨rfl, .inr ⟨_, _, _, _, b, rfl, rfl⟩⟩, .inl rfl, trivial⟩ rfl rfl (.inl rfl) ?_
      exact KW.goRetR lay_ok U7_ok 100 rfl [(0, 0), (1, 201)] rfl rfl rfl (by simp) (by exact ⟨rfl, rfl, trivial⟩)
    · have h0 : t.n ≠ 0 := by simpa using h
      obtain ⟨h2, _, _, _, g0, g1⟩ := gT_kids hg h0
      have hl := itoa_size (n := t.v) (by omega) (by omega)
      have p0 := cntN_pos (t.k 0)
      have p1 := cntN_pos (t.k 1)
      have s0 := showT_size (t.k 0) g0 (ik 0 (by omega))
      have s1 := showT_size (t.k 1) g1 (ik 1 (by omega))
      have cc := cntN_eq t
      rw [if_pos h2] at cc
      rw [showT_eq, if_pos h2]
      refine KW.go lay_ok U7_ok 100 rfl (by simp) ?_
      refine KW.dupG 2 300 rfl ?_
      refine KW.call0 (itoa_does t.v (by simp only [inK]; omega) T) (enters Tryz.func103 rfl rfl) [(0, 300)] [] [] (.inl rfl) rfl rfl rfl rfl rfl trivial ⟨⟨_, _, rfl, trivial, .conv (CVEq.refl _)⟩, trivial⟩ rfl ⟨rfl, trivial⟩ rfl trivial rfl rfl (.inl rfl) ?_
      refine KW.go lay_ok U7_ok 100 rfl (by simp [show (⟨#[91]⟩ : ByteArray).size = 1 from rfl, show (⟨#[32]⟩ : ByteArray).size = 1 from rfl]; omega) ?_
      refine KW.call0 (wsU_does bs (91 :: (Lib.itoa t.v ++ [32])) b (by simp only [List.length_append, List.length_cons, List.length_nil]; omega)) (enters Tryz.func102 rfl rfl) [(0, 0), (1, 1)] [(0, 0), (1, 201)] [] (.inl rfl) rfl rfl rfl rfl rfl trivial
        ⟨⟨_, _, rfl, trivial, (show Mt _ _ _ (EV.ren [(0, 0), (1, 1)] (.r 0)) (.r 0) from .same)⟩, ⟨_, _, rfl, trivial, .conv (show Value.string ((strL [91] ++ strL (Lib.itoa t.v)) ++ strL [32]) = Value.string _ by rw [strL_append, strL_append]; simp)⟩, trivial⟩ rfl ⟨rfl, rfl, trivial⟩ rfl ⟨.inr ⟨rfl, .inr ⟨_, _, _, _, b, rfl, rfl⟩⟩, .inl rfl, trivial⟩ rfl rfl (.inl rfl) ?_
      refine KW.go lay_ok U7_ok 100 rfl (by simp; omega) ?_
      refine KW.dupG 2 300 rfl ?_
      refine KW.call0 (ihU (t.k 0) ⟨0, by omega, rfl⟩ g0 (ik 0 (by omega)) (bs ++ (91 :: (Lib.itoa t.v ++ [32]))) b (by simp only [List.length_append, List.length_cons, List.length_nil, Int.natCast_add, Int.natCast_one]; omega)) (enters Tryz.func60 rfl rfl) [(0, 0), (1, 201), (2, 300)] [(0, 0), (1, 202)] [] (.inl rfl) rfl rfl rfl rfl rfl trivial
        ⟨⟨_, _, rfl, trivial, (show Mt _ _ _ (EV.ren [(0, 0), (1, 201), (2, 300)] (.r 0)) (.r 0) from .same)⟩, ⟨_, _, rfl, trivial, (show Mt _ _ _ (EV.ren [(0, 0), (1, 201), (2, 300)] (trV (t.k 0))) (trV (t.k 0)) from .same)⟩, trivial⟩ rfl ⟨rfl, rfl, rfl, trivial⟩ rfl ⟨.inr ⟨rfl, .inr ⟨_, _, _, _, b, rfl, rfl⟩⟩, .inl rfl, trivial⟩ rfl rfl (.inl rfl) ?_
      refine KW.go lay_ok U7_ok 100 rfl (by simp) ?_
      refine KW.call0 (wsU_does ((bs ++ (91 :: (Lib.itoa t.v ++ [32]))) ++ showT (t.k 0)) [32] b (by simp only [List.length_append, List.length_cons, List.length_nil]; omega)) (enters Tryz.func102 rfl rfl) [(0, 0), (1, 202)] [(0, 0), (1, 203)] [] (.inl rfl) rfl rfl rfl rfl rfl trivial
        ⟨⟨_, _, rfl, trivial, (show Mt _ _ _ (EV.ren [(0, 0), (1, 202)] (.r 0)) (.r 0) from .same)⟩, ⟨_, _, rfl, trivial, .conv (CVEq.refl _)⟩, trivial⟩ rfl ⟨rfl, rfl, trivial⟩ rfl ⟨.inr ⟨rfl, .inr ⟨_, _, _, _, b, rfl, rfl⟩⟩, .inl rfl, trivial⟩ rfl rfl (.inl rfl) ?_
      refine KW.go lay_ok U7_ok 100 rfl (by simp; omega) ?_
      refine KW.dupG 2 300 rfl ?_
      refine KW.call0 (ihU (t.k 1) ⟨1, by omega, rfl⟩ g1 (ik 1 (by omega)) (((bs ++ (91 :: (Lib.itoa t.v ++ [32]))) ++ showT (t.k 0)) ++ [32]) b (by simp only [List.length_append, List.length_cons, List.length_nil, Int.natCast_add, Int.natCast_one]; omega)) (enters Tryz.func60 rfl rfl) [(0, 0), (1, 203), (2, 300)] [(0, 0), (1, 204)] [] (.inl rfl) rfl rfl rfl rfl rfl trivial
        ⟨⟨_, _, rfl, trivial, (show Mt _ _ _ (EV.ren [(0, 0), (1, 203), (2, 300)] (.r 0)) (.r 0) from .same)⟩, ⟨_, _, rfl, trivial, (show Mt _ _ _ (EV.ren [(0, 0), (1, 203), (2, 300)] (trV (t.k 1))) (trV (t.k 1)) from .same)⟩, trivial⟩ rfl ⟨rfl, rfl, rfl, trivial⟩ rfl ⟨.inr ⟨rfl, .inr ⟨_, _, _, _, b, rfl, rfl⟩⟩, .inl rfl, trivial⟩ rfl rfl (.inl rfl) ?_
      refine KW.go lay_ok U7_ok 100 rfl (by simp) ?_
      refine KW.call0 (wsU_does ((((bs ++ (91 :: (Lib.itoa t.v ++ [32]))) ++ showT (t.k 0)) ++ [32]) ++ showT (t.k 1)) [93] b (by simp only [List.length_append, List.length_cons, List.length_nil]; omega)) (enters Tryz.func102 rfl rfl) [(0, 0), (1, 204)] [(0, 0), (1, 205)] [] (.inl rfl) rfl rfl rfl rfl rfl trivial
        ⟨⟨_, _, rfl, trivial, (show Mt _ _ _ (EV.ren [(0, 0), (1, 204)] (.r 0)) (.r 0) from .same)⟩, ⟨_, _, rfl, trivial, .conv (CVEq.refl _)⟩, trivial⟩ rfl ⟨rfl, rfl, trivial⟩ rfl ⟨.inr ⟨rfl, .inr ⟨_, _, _, _, b, rfl, rfl⟩⟩, .inl rfl, trivial⟩ rfl rfl (.inl rfl) ?_
      refine KW.go lay_ok U7_ok 100 rfl (by simp) ?_
      exact KW.finN [(0, 0), (1, 205)] rfl rfl rfl (by exact ⟨rfl, by simp only [List.append_assoc, List.cons_append, List.nil_append]; rfl, trivial⟩)
set_option maxHeartbeats 1600000 in
theorem writeF_does (T : Nat) (t : Tr) : gT t → t.In → ∀ (bs : List UInt8) (b : Nat), (bs.length : Int) + 30 * cntN t ≤ 1000000 → DoesF Tryz.prog 60 [.r 0, trV t] (buG nilP (bytesC bs) b T) (.tup []) (buR (.r 0) (bytesC (bs ++ showT t)) b) := by
  intro hg hin bs b hlen
  obtain ⟨iv, ir, ik⟩ := (Tr.in_iff t).1 hin
  simp only [inK] at iv ir
  refine DoesF.body _ Tryz.func60 rfl rfl rfl rfl ?_
  refine KW.open 1 t rfl ?_
  refine KW.goIf lay_ok U7_ok 100 rfl (by simp) rfl trivial (fun h => ?_) fun h => ?_
  · have h0 : t.n = 0 := by simpa using h
    have hl := itoa_size (n := t.r) (by omega) (by omega)
    have pc := cntN_pos t
    rw [showT_eq, if_neg (by omega)]
    refine KW.go lay_ok U7_ok 100 rfl (by simp) ?_
    refine KW.dupG 2 300 rfl ?_
    refine KW.call0 (itoa_does t.r (by simp only [inK]; omega) T) (enters Tryz.func103 rfl rfl) [(0, 300)] [] [] (.inl rfl) rfl rfl rfl rfl rfl trivial ⟨⟨_, _, rfl, trivial, .conv (CVEq.refl _)⟩, trivial⟩ rfl ⟨rfl, trivial⟩ rfl trivial rfl rfl (.inl rfl) ?_
    refine KW.go lay_ok U7_ok 100 rfl (by simp) ?_
    refine KW.call0 (wsF_does bs (Lib.itoa t.r) b (by omega)) (enters Tryz.func102 rfl rfl) [(0, 0), (1, 1)] [(0, 0), (1, 201)] [] (.inl rfl) rfl rfl rfl rfl rfl trivial
      ⟨⟨_, _, rfl, trivial, (show Mt _ _ _ (EV.ren [(0, 0), (1, 1)] (.r 0)) (.r 0) from .same)⟩, ⟨_, _, rfl, trivial, .conv (CVEq.refl _)⟩, trivial⟩ rfl ⟨rfl, rfl, trivial⟩ rfl ⟨.inr ⟨rfl, .inr ⟨_, _, _, _, b, rfl, rfl⟩⟩, .inl rfl, trivial⟩ rfl rfl (.inl rfl) ?_
    exact KW.goRetR lay_ok U7_ok 100 rfl [(0, 0), (1, 201)] rfl rfl rfl (by simp) (by exact ⟨rfl, rfl, trivial⟩)
  · have h0 : t.n ≠ 0 := by simpa using h
    obtain ⟨h2, _, _, _, g0, g1⟩ := gT_kids hg h0
    have hl := itoa_size (n := t.v) (by omega) (by omega)
    have p0 := cntN_pos (t.k 0)
    have p1 := cntN_pos (t.k 1)
    have s0 := showT_size (t.k 0) g0 (ik 0 (by omega))
    have s1 := showT_size (t.k 1) g1 (ik 1 (by omega))
    have cc := cntN_eq t
    rw [if_pos h2] at cc
    rw [showT_eq, if_pos h2]
    refine KW.go lay_ok U7_ok 100 rfl (by simp) ?_
    refine KW.dupG 2 300 rfl ?_
    refine KW.call0 (itoa_does t.v (by simp only [inK]; omega) T) (enters Tryz.func103 rfl rfl) [(0, 300)] [] [] (.inl rfl) rfl rfl rfl rfl rfl trivial ⟨⟨_, _, rfl, trivial, .conv (CVEq.refl _)⟩, trivial⟩ rfl ⟨rfl, trivial⟩ rfl trivial rfl rfl (.inl rfl) ?_
    refine KW.go lay_ok U7_ok 100 rfl (by simp [show (⟨#[91]⟩ : ByteArray).size = 1 from rfl, show (⟨#[32]⟩ : ByteArray).size = 1 from rfl]; omega) ?_
    refine KW.call0 (wsF_does bs (91 :: (Lib.itoa t.v ++ [32])) b (by simp only [List.length_append, List.length_cons, List.length_nil]; omega)) (enters Tryz.func102 rfl rfl) [(0, 0), (1, 1)] [(0, 0), (1, 201)] [] (.inl rfl) rfl rfl rfl rfl rfl trivial
      ⟨⟨_, _, rfl, trivial, (show Mt _ _ _ (EV.ren [(0, 0), (1, 1)] (.r 0)) (.r 0) from .same)⟩, ⟨_, _, rfl, trivial, .conv (show Value.string ((strL [91] ++ strL (Lib.itoa t.v)) ++ strL [32]) = Value.string _ by rw [strL_append, strL_append]; simp)⟩, trivial⟩ rfl ⟨rfl, rfl, trivial⟩ rfl ⟨.inr ⟨rfl, .inr ⟨_, _, _, _, b, rfl, rfl⟩⟩, .inl rfl, trivial⟩ rfl rfl (.inl rfl) ?_
    refine KW.go lay_ok U7_ok 100 rfl (by simp; omega) ?_
    refine KW.dupG 2 300 rfl ?_
    refine KW.call0 (writeU_does T (t.k 0) g0 (ik 0 (by omega)) (bs ++ (91 :: (Lib.itoa t.v ++ [32]))) b (by simp only [List.length_append, List.length_cons, List.length_nil, Int.natCast_add, Int.natCast_one]; omega)) (enters Tryz.func60 rfl rfl) [(0, 0), (1, 201), (2, 300)] [(0, 0), (1, 202)] [] (.inl rfl) rfl rfl rfl rfl rfl trivial
      ⟨⟨_, _, rfl, trivial, (show Mt _ _ _ (EV.ren [(0, 0), (1, 201), (2, 300)] (.r 0)) (.r 0) from .same)⟩, ⟨_, _, rfl, trivial, (show Mt _ _ _ (EV.ren [(0, 0), (1, 201), (2, 300)] (trV (t.k 0))) (trV (t.k 0)) from .same)⟩, trivial⟩ rfl ⟨rfl, rfl, rfl, trivial⟩ rfl ⟨.inr ⟨rfl, .inr ⟨_, _, _, _, b, rfl, rfl⟩⟩, .inl rfl, trivial⟩ rfl rfl (.inl rfl) ?_
    refine KW.go lay_ok U7_ok 100 rfl (by simp) ?_
    refine KW.call0 (wsU_does ((bs ++ (91 :: (Lib.itoa t.v ++ [32]))) ++ showT (t.k 0)) [32] b (by simp only [List.length_append, List.length_cons, List.length_nil]; omega)) (enters Tryz.func102 rfl rfl) [(0, 0), (1, 202)] [(0, 0), (1, 203)] [] (.inl rfl) rfl rfl rfl rfl rfl trivial
      ⟨⟨_, _, rfl, trivial, (show Mt _ _ _ (EV.ren [(0, 0), (1, 202)] (.r 0)) (.r 0) from .same)⟩, ⟨_, _, rfl, trivial, .conv (CVEq.refl _)⟩, trivial⟩ rfl ⟨rfl, rfl, trivial⟩ rfl ⟨.inr ⟨rfl, .inr ⟨_, _, _, _, b, rfl, rfl⟩⟩, .inl rfl, trivial⟩ rfl rfl (.inl rfl) ?_
    refine KW.go lay_ok U7_ok 100 rfl (by simp; omega) ?_
    refine KW.dupG 2 300 rfl ?_
    refine KW.call0 (writeU_does T (t.k 1) g1 (ik 1 (by omega)) (((bs ++ (91 :: (Lib.itoa t.v ++ [32]))) ++ showT (t.k 0)) ++ [32]) b (by simp only [List.length_append, List.length_cons, List.length_nil, Int.natCast_add, Int.natCast_one]; omega)) (enters Tryz.func60 rfl rfl) [(0, 0), (1, 203), (2, 300)] [(0, 0), (1, 204)] [] (.inl rfl) rfl rfl rfl rfl rfl trivial
      ⟨⟨_, _, rfl, trivial, (show Mt _ _ _ (EV.ren [(0, 0), (1, 203), (2, 300)] (.r 0)) (.r 0) from .same)⟩, ⟨_, _, rfl, trivial, (show Mt _ _ _ (EV.ren [(0, 0), (1, 203), (2, 300)] (trV (t.k 1))) (trV (t.k 1)) from .same)⟩, trivial⟩ rfl ⟨rfl, rfl, rfl, trivial⟩ rfl ⟨.inr ⟨rfl, .inr ⟨_, _, _, _, b, rfl, rfl⟩⟩, .inl rfl, trivial⟩ rfl rfl (.inl rfl) ?_
    refine KW.go lay_ok U7_ok 100 rfl (by simp) ?_
    refine KW.call0 (wsU_does ((((bs ++ (91 :: (Lib.itoa t.v ++ [32]))) ++ showT (t.k 0)) ++ [32]) ++ showT (t.k 1)) [93] b (by simp only [List.length_append, List.length_cons, List.length_nil]; omega)) (enters Tryz.func102 rfl rfl) [(0, 0), (1, 204)] [(0, 0), (1, 205)] [] (.inl rfl) rfl rfl rfl rfl rfl trivial
      ⟨⟨_, _, rfl, trivial, (show Mt _ _ _ (EV.ren [(0, 0), (1, 204)] (.r 0)) (.r 0) from .same)⟩, ⟨_, _, rfl, trivial, .conv (CVEq.refl _)⟩, trivial⟩ rfl ⟨rfl, rfl, trivial⟩ rfl ⟨.inr ⟨rfl, .inr ⟨_, _, _, _, b, rfl, rfl⟩⟩, .inl rfl, trivial⟩ rfl rfl (.inl rfl) ?_
    refine KW.go lay_ok U7_ok 100 rfl (by simp) ?_
    exact KW.finN [(0, 0), (1, 205)] rfl rfl rfl (by exact ⟨rfl, by simp only [List.append_assoc, List.cons_append, List.nil_append]; rfl, trivial⟩)
def textL (t : Tr) (vars : Int) : List UInt8 := if splE t vars = 0 then showT t else []
theorem text_does (t : Tr) (hin : t.In) (vars : Int) (T : Nat) : DoesF Tryz.prog 30 [trV t, iV vars] [gloP 0 T] (.tup [strV (strL (textL t vars)), eV (splE t vars)]) [] := by
  refine DoesF.body _ Tryz.func30 rfl rfl rfl rfl ?_
  refine KW.goIf lay_ok U7_ok 100 rfl (by simp) rfl trivial (fun h => ?_) fun h => ?_
  · have h0 : splE t vars ≠ 0 := by simpa using h
    refine KW.goRet lay_ok U7_ok 100 rfl rfl ?_ (by simp) trivial
    simp only [textL, if_neg h0, unTr_cells]; rfl
  · have h0 : splE t vars = 0 := by simpa using h
    obtain ⟨hg, hc⟩ := splE_g h0
    have hl := showT_len t
    have e : textL t vars = showT t := by rw [textL, if_pos h0]
    rw [e, h0]
    refine KW.go lay_ok U7_ok 100 rfl (by simp) ?_
    refine KW.name 7 rfl fun b => ?_
    refine KW.nilB 7 1 200 5 (bytesC []) rfl rfl rfl rfl rfl ?_
    refine KW.call0 (writeF_does T t hg hin [] b (by simp only [List.length_nil]; omega)) (enters Tryz.func60 rfl rfl) [(0, 7), (1, 200), (2, 0)] [(0, 7), (1, 201)] [] (.inl rfl) rfl rfl rfl rfl rfl trivial
      ⟨⟨_, _, rfl, trivial, (show Mt _ _ _ (EV.ren [(0, 7), (1, 200), (2, 0)] (.r 0)) (.r 0) from .same)⟩, ⟨_, _, rfl, trivial, (show Mt _ _ _ (EV.ren [(0, 7), (1, 200), (2, 0)] (trV t)) (trV t) from .same)⟩, trivial⟩ rfl ⟨rfl, rfl, rfl, trivial⟩ rfl ⟨.inr ⟨rfl, .inr ⟨_, _, _, _, b, rfl, rfl⟩⟩, .inl rfl, trivial⟩ rfl rfl (.inl rfl) ?_
    rw [List.nil_append]
    refine KW.go lay_ok U7_ok 100 rfl (by simp) ?_
    refine KW.call0 (string_does layString extraString rfl rfl rfl (bs := showT t) (fun e => by rw [e] at hl; exact absurd hl (by decide)) (.r 0) (some b)) (enters Tryz.func61 rfl rfl) [(0, 7), (1, 201)] [] [] (.inl rfl) rfl rfl rfl rfl rfl trivial
      ⟨⟨_, _, rfl, trivial, (show Mt _ _ _ (EV.ren [(0, 7), (1, 201)] (.r 0)) (.r 0) from .same)⟩, trivial⟩ rfl ⟨rfl, rfl, trivial⟩ rfl trivial rfl rfl (.inl rfl) ?_
    exact KW.goRet lay_ok U7_ok 100 rfl rfl rfl (by simp) trivial
end Go.Proofs.YtocnofkagckhkaaGreatDoor.Tr
end
section
set_option linter.unusedSectionVars false
set_option linter.unusedVariables false
set_option linter.unusedSimpArgs false
attribute [local instance] Go.Sy.drwNo
namespace Go.Proofs.YtocnofkagckhkaaGreatDoor
open Go.Sy Go.Pu Go.Proofs.YtocnofkagckhkaaGreatDoor.Tr
theorem ex36_text : textL (growP [1, 6] [3, 5] 25 0 0 0).1 3 = [91, 48, 32, 91, 49, 32, 45, 49, 32, 91, 50, 32, 45, 50, 32, 49, 93, 93, 32, 48, 93] := by
  rw [textL, if_pos ex36_tree.2]
  decide +kernel
theorem lf_in {r : Int} (h : inK .i64 r) : (Tr.lf r).In := (Tr.in_iff _).2 ⟨by simp [inK], h, fun i hi => absurd hi (Nat.not_lt_zero _)⟩
theorem two_in {v : Int} {a b : Tr} (h : inK .i64 v) (ha : a.In) (hb : b.In) : (Tr.two v a b).In := (Tr.in_iff _).2 ⟨h, by simp [inK], fun i hi => match i, hi with
  | 0, _ => ha
  | 1, _ => hb⟩
theorem ex36_tin : (growP [1, 6] [3, 5] 25 0 0 0).1.In := by
  have e : (growP [1, 6] [3, 5] 25 0 0 0).1 = ex36T := by kernel_rfl
  rw [e]
  exact two_in (by simp [inK]) (two_in (by simp [inK]) (lf_in (by simp [inK])) (two_in (by simp [inK]) (lf_in (by simp [inK])) (lf_in (by simp [inK])))) (lf_in (by simp [inK]))
def ex36C : CovP := ⟨[1, 6], [3, 5], (growP [1, 6] [3, 5] 25 0 0 0).1⟩
theorem ex36_mk : makeC ex36 = ex36C := by
  obtain ⟨h1, h2, h3, h4⟩ := ex36_make
  cases h : makeC ex36 with
  | mk a b t => rw [h] at h2 h3 h4; simp only at h2 h3 h4; rw [h2, h3, h4]; rfl
set_option maxHeartbeats 3200000 in
theorem awake36_does (T : Nat) : DoesF Tryz.prog 10 [] [gloP 0 T] (sB true) [] := by
  refine DoesF.body _ Tryz.func10 rfl rfl rfl rfl ?_
  refine KW.go lay_ok Y3_ok 100 rfl ?_ ?_
  · simp only [unN_nodesC, isN_nodesC, true_and, and_true, ifcV_errV, show (⟨ex36.vars, ex36.nodes, ex36.top⟩ : FormP) = ex36 from rfl]
    simp [ex36_in]
  simp only [unN_nodesC, show (⟨ex36.vars, ex36.nodes, ex36.top⟩ : FormP) = ex36 from rfl, ex36_mk, ex36_make.1]
  refine KW.guardT rfl rfl (by simp) ?_
  refine KW.go lay_ok Y3_ok 100 rfl (by simp) ?_
  refine KW.frz1 21 rfl rfl rfl ?_
  refine KW.go lay_ok Y3_ok 100 rfl (by simp [ex36C]) ?_
  refine KW.guardT rfl rfl (by simp [ex36C]) ?_
  refine KW.go lay_ok Y3_ok 100 rfl (by simp) ?_
  refine KW.frz1 28 rfl rfl rfl ?_
  refine KW.goIf lay_ok Y3_ok 100 rfl (by simp [ex36C]) rfl trivial (fun h => absurd h (by simp [ex36C])) fun h => ?_
  refine KW.go lay_ok Y3_ok 100 rfl (by simp) ?_
  refine KW.dupG 0 300 rfl ?_
  refine KW.call0 (Tr.text_does ex36C.tree ex36_tin 3 T) (enters Tryz.func30 rfl rfl) [(0, 300)] [] [] (.inl rfl) rfl rfl rfl rfl rfl trivial
    ⟨⟨_, _, rfl, trivial, (show Mt _ _ _ (EV.ren [(0, 300)] (trV ex36C.tree)) (trV ex36C.tree) from .same)⟩, ⟨_, _, rfl, trivial, .conv (CVEq.refl _)⟩, trivial⟩ rfl ⟨rfl, trivial⟩ rfl trivial rfl rfl (.inl rfl) ?_
  refine KW.go lay_ok Y3_ok 100 rfl (by simp) ?_
  refine KW.join (I := fun _ : Unit => ⟨Tryz.f10.ntmps, [(1, .e (.r 1)), (3, .e (strV (strL (textL ex36C.tree 3)))), (4, .e (eV (splE ex36C.tree 3))), (5, sB (decide (covE ex36 ex36C = 0) && decide ((faultV ex36 ex36C).1 = 0))), (7, .e (eV (covE ex36 ex36C)))], [(1, .box 30 [lV [1, 6], lV [3, 5], iV ex36C.tree.v, .c ex36C.tree.ks, iV ex36C.tree.r] none)]⟩) (R := fun _ => True) ?_ ?_
  · refine KW.phases lay_ok Y3_ok rfl 100 rfl (by simp) ?_
    refine KA.phase lay_ok Y3_ok [0, 1, 2, 3, 4, 5, 6, 7, 8] 9 (by decide +kernel) (by decide +kernel) rfl rfl ?_ (cs := [#[true, true, true, true, true, true, false, true, true, false, false], #[true, true, true, true, true, true, true, true, true, false, false]]) (by decide +kernel) ?_ (ds := []) (by decide +kernel) (fun L h => nomatch h)
    · simp only [unN_nodesC, isN_nodesC, unI_ints, isI_ints, unTr_cells, isKs_ks, true_and, and_true]
      exact ⟨ex36_in, ex36_tin, by decide, by decide⟩
    intro L hL
    simp only [List.mem_cons, List.not_mem_nil, or_false] at hL
    rcases hL with rfl | rfl
    · refine ⟨_, rfl, KW.go lay_ok Y3_ok 10 rfl (by simp) (KW.stop ⟨rfl, ?_⟩)⟩
      refine KA.phase lay_ok Y3_ok [6, 10] 11 (by decide +kernel) (by decide +kernel) rfl rfl (by simp) (cs := []) (by decide +kernel) (fun L h => nomatch h) (ds := [#[true, true, true, true, true, true, true, true, true, true, true]]) (by decide +kernel) ?_
      intro L hL
      obtain rfl : L = #[true, true, true, true, true, true, true, true, true, true, true] := by simpa using hL
      refine KW.goToR lay_ok Y3_ok 100 rfl () [(1, 1)] rfl rfl ⟨rfl, rfl, rfl, ?_, ?_, trivial⟩ (by simp) trivial ⟨rfl, trivial⟩
      · simp only [unN_nodesC, unI_ints, unTr_cells]; rfl
      · simp only [unN_nodesC, unI_ints, unTr_cells]; rfl
    · refine ⟨_, rfl, KW.go lay_ok Y3_ok 10 rfl (by simp) (KW.stop ⟨rfl, ?_⟩)⟩
      refine KA.phase lay_ok Y3_ok [10] 11 (by decide +kernel) (by decide +kernel) rfl rfl (by simp) (cs := []) (by decide +kernel) (fun L h => nomatch h) (ds := [#[true, true, true, true, true, true, true, true, true, true, true]]) (by decide +kernel) ?_
      intro L hL
      obtain rfl : L = #[true, true, true, true, true, true, true, true, true, true, true] := by simpa using hL
      refine KW.goToR lay_ok Y3_ok 100 rfl () [(1, 1)] rfl rfl ⟨rfl, rfl, rfl, ?_, ?_, trivial⟩ (by simp) trivial ⟨rfl, trivial⟩
      · simp only [unN_nodesC, unI_ints, unTr_cells]; rfl
      · simp only [unN_nodesC, unI_ints, unTr_cells]; rfl
  rintro _ _
  refine KW.go lay_ok Y3_ok 100 rfl (by simp) ?_
  refine KW.frzB 1 0 45 rfl rfl rfl rfl ?_
  refine KW.join (I := fun _ : Unit => ⟨Tryz.f10.ntmps, [(3, .e (strV (strL (textL ex36C.tree 3)))), (4, .e (eV (splE ex36C.tree 3))), (5, sB (decide (covE ex36 ex36C = 0) && decide ((faultV ex36 ex36C).1 = 0))), (7, .e (eV (covE ex36 ex36C))), (8, sB (decide (covE ex36 ⟨[1], [3, 5], ex36C.tree⟩ = 0) && decide ((faultV ex36 ⟨[1], [3, 5], ex36C.tree⟩).1 = 0))), (9, .e (.r 9)), (10, .e (eV (covE ex36 ⟨[1], [3, 5], ex36C.tree⟩)))], [(9, .box 35 [iV (if covE ex36 ⟨[1], [3, 5], ex36C.tree⟩ = 0 then faultV ex36 ⟨[1], [3, 5], ex36C.tree⟩ else (0, 0)).1, iV (if covE ex36 ⟨[1], [3, 5], ex36C.tree⟩ = 0 then faultV ex36 ⟨[1], [3, 5], ex36C.tree⟩ else (0, 0)).2] none)]⟩) (R := fun _ => True) ?_ ?_
  · refine KW.phases lay_ok Y3_ok rfl 100 rfl (by simp) ?_
    refine KA.phase lay_ok Y3_ok [0, 1, 2, 3, 4, 5, 6, 7, 8] 9 (by decide +kernel) (by decide +kernel) rfl rfl ?_ (cs := [#[true, true, true, true, true, true, false, true, true, false, false], #[true, true, true, true, true, true, true, true, true, false, false]]) (by decide +kernel) ?_ (ds := []) (by decide +kernel) (fun L h => nomatch h)
    · simp only [unN_nodesC, isN_nodesC, unI_ints, isI_ints, unTr_cells, isKs_ks, true_and, and_true]
      exact ⟨ex36_in, ex36_tin, by simp, by simp⟩
    intro L hL
    simp only [List.mem_cons, List.not_mem_nil, or_false] at hL
    rcases hL with rfl | rfl
    · refine ⟨_, rfl, KW.go lay_ok Y3_ok 10 rfl (by simp) (KW.stop ⟨rfl, ?_⟩)⟩
      refine KA.phase lay_ok Y3_ok [6, 10] 11 (by decide +kernel) (by decide +kernel) rfl rfl (by simp) (cs := []) (by decide +kernel) (fun L h => nomatch h) (ds := [#[true, true, true, true, true, true, true, true, true, true, true]]) (by decide +kernel) ?_
      intro L hL
      obtain rfl : L = #[true, true, true, true, true, true, true, true, true, true, true] := by simpa using hL
      simp only [unN_nodesC, unI_ints, unTr_cells]
      exact KW.goToR lay_ok Y3_ok 100 rfl () [(9, 9)] rfl rfl ⟨rfl, rfl, rfl, rfl, rfl, rfl, rfl, trivial⟩ (by simp) trivial ⟨rfl, trivial⟩
    · refine ⟨_, rfl, KW.go lay_ok Y3_ok 10 rfl (by simp) (KW.stop ⟨rfl, ?_⟩)⟩
      refine KA.phase lay_ok Y3_ok [10] 11 (by decide +kernel) (by decide +kernel) rfl rfl (by simp) (cs := []) (by decide +kernel) (fun L h => nomatch h) (ds := [#[true, true, true, true, true, true, true, true, true, true, true]]) (by decide +kernel) ?_
      intro L hL
      obtain rfl : L = #[true, true, true, true, true, true, true, true, true, true, true] := by simpa using hL
      simp only [unN_nodesC, unI_ints, unTr_cells]
      exact KW.goToR lay_ok Y3_ok 100 rfl () [(9, 9)] rfl rfl ⟨rfl, rfl, rfl, rfl, rfl, rfl, rfl, trivial⟩ (by simp) trivial ⟨rfl, trivial⟩
  rintro _ _
  have hC := make_ok (n := 3) (f := ex36) rfl ex36_make.1
  rw [ex36_mk] at hC
  have hL : covE ex36 ⟨[1], [3, 5], ex36C.tree⟩ = 0 ∧ faultV ex36 ⟨[1], [3, 5], ex36C.tree⟩ = (4, 2) := ex36_less
  have hT : textL ex36C.tree 3 = [91, 48, 32, 91, 49, 32, 45, 49, 32, 91, 50, 32, 45, 50, 32, 49, 93, 93, 32, 48, 93] := ex36_text
  have hS : splE ex36C.tree 3 = 0 := ex36_tree.2
  rw [hT, hS, hC.1, hC.2, hL.1, hL.2]
  refine KW.goRet lay_ok Y3_ok 200 rfl rfl ?_ (by simp) trivial
  refine congrArg (fun b => SV.e (.c (.lit (.bool b)))) (?_ : _ = true)
  decide +kernel
end Go.Proofs.YtocnofkagckhkaaGreatDoor
end
section
set_option linter.unusedSectionVars false
set_option linter.unusedVariables false
set_option linter.unusedSimpArgs false
attribute [local instance] Go.Sy.drwNo
namespace Go.Proofs.YtocnofkagckhkaaGreatDoor
open Go.Sy Go.Pu Go.Proofs.YtocnofkagckhkaaGreatDoor.Tr
theorem light_sm {f : FormP} {c : CovP} (h : light36F f c = true) (ht : c.tree.In) : covSm c := by
  have hA : light36A f c = false := by
    unfold light36F at h
    rw [Bool.and_eq_true, Bool.not_eq_true'] at h
    exact h.1
  have hl : ∀ l : List Int, litL l = false → l.length ≤ 1099511627776 := fun l h => by
    unfold litL at h
    simp at h
    omega
  unfold light36A at hA
  simp only [Bool.or_eq_false_iff] at hA
  exact ⟨ht, hl _ hA.1.1.2, hl _ hA.1.2⟩
set_option maxHeartbeats 1600000 in
theorem lawCoverChecks_does (f : FormP) (c : CovP) (hin : FormIn f) (ht : c.tree.In) (T : Nat) : DoesF Tryz.prog 3 [.ag (formC f), .ag (covC c)] [gloP 0 T] (sB true) [] := by
  refine DoesF.body _ Tryz.func3 rfl rfl rfl rfl ?_
  obtain ⟨vars, ns, top⟩ := f
  obtain ⟨cuts, paths, t⟩ := c
  refine KW.go lay_ok Y3_ok 100 rfl ?_ ?_
  · simp only [unN_nodesC, isN_nodesC, unI_ints, isI_ints, unTr_cells, isKs_ks, true_and, and_true]
    exact hin
  simp only [unN_nodesC, unI_ints, unTr_cells]
  cases hl : light36F ⟨vars, ns, top⟩ ⟨cuts, paths, t⟩ with
  | false =>
    refine KW.skipD (bV true) rfl rfl (by first | rfl | simp) rfl rfl ?_
    refine KW.goIf lay_ok Y3_ok 100 rfl (by simp) rfl trivial (fun h => ?_) fun h => absurd h (by simp)
    refine KW.go lay_ok Y3_ok 100 rfl (by simp) ?_
    refine KW.call0 (awake36_does T) (enters Tryz.func10 rfl rfl) [(0, 0)] [] [] (.inl rfl) rfl rfl rfl rfl rfl trivial trivial rfl ⟨rfl, trivial⟩ rfl trivial rfl rfl (.inl rfl) ?_
    exact KW.goRet lay_ok Y3_ok 100 rfl rfl rfl (by simp) trivial
  | true =>
    have hc := light_sm hl ht
    refine KW.dupG 0 300 rfl ?_
    refine KW.call0 (awake36_does T) (enters Tryz.func10 rfl rfl) [(0, 300)] [] [] (.inr ⟨4, false, _, rfl, rfl, by first | rfl | simp⟩) rfl rfl rfl rfl rfl trivial trivial rfl ⟨rfl, trivial⟩ rfl trivial rfl rfl (.inl rfl) ?_
    refine KW.goIf lay_ok Y3_ok 100 rfl (by simp) rfl trivial (fun h => absurd h (by simp)) fun h => ?_
    refine KW.goRet lay_ok Y3_ok 200 rfl rfl ?_ ?_ trivial
    · simp only [SV.ren, EV.ren, unN_nodesC, unI_ints, unTr_cells]
      by_cases h0 : covE ⟨vars, ns, top⟩ ⟨cuts, paths, t⟩ = 0 <;> simp [h0]
    · simp only [unN_nodesC, isN_nodesC, unI_ints, isI_ints, unTr_cells, isKs_ks, true_and, and_true, ifcV_errV]
      simp +contextual [hin, hc]
set_option maxHeartbeats 1600000 in
theorem lawCoverVerifies_does (f : FormP) (c : CovP) (hin : FormIn f) (ht : c.tree.In) (T : Nat) : DoesF Tryz.prog 4 [.ag (formC f), .ag (covC c)] [gloP 0 T] (sB true) [] := by
  refine DoesF.body _ Tryz.func4 rfl rfl rfl rfl ?_
  obtain ⟨vars, ns, top⟩ := f
  obtain ⟨cuts, paths, t⟩ := c
  refine KW.go lay_ok Y3_ok 100 rfl ?_ ?_
  · simp only [unN_nodesC, isN_nodesC, unI_ints, isI_ints, unTr_cells, isKs_ks, true_and, and_true]
    simp +contextual [hin]
  simp only [unN_nodesC, unI_ints, unTr_cells]
  cases hl : (light36F ⟨vars, ns, top⟩ ⟨cuts, paths, t⟩ && decide (covE ⟨vars, ns, top⟩ ⟨cuts, paths, t⟩ = 0)) with
  | false =>
    have hl' : light36F ⟨vars, ns, top⟩ ⟨cuts, paths, t⟩ = true → ¬ covE ⟨vars, ns, top⟩ ⟨cuts, paths, t⟩ = 0 := fun h => by simpa [h] using hl
    refine KW.skipD (bV true) rfl rfl (by simp; exact hl') rfl rfl ?_
    refine KW.goIf lay_ok Y3_ok 100 rfl (by simp) rfl trivial (fun h => ?_) fun h => absurd h (by simp; intro h1; simp [hl' h1])
    refine KW.go lay_ok Y3_ok 100 rfl (by simp) ?_
    refine KW.call0 (awake36_does T) (enters Tryz.func10 rfl rfl) [(0, 0)] [] [] (.inl rfl) rfl rfl rfl rfl rfl trivial trivial rfl ⟨rfl, trivial⟩ rfl trivial rfl rfl (.inl rfl) ?_
    exact KW.goRet lay_ok Y3_ok 100 rfl rfl rfl (by simp) trivial
  | true =>
    have hl1 : light36F ⟨vars, ns, top⟩ ⟨cuts, paths, t⟩ = true ∧ covE ⟨vars, ns, top⟩ ⟨cuts, paths, t⟩ = 0 := by simpa using hl
    have hc := light_sm hl1.1 ht
    refine KW.dupG 0 300 rfl ?_
    refine KW.call0 (awake36_does T) (enters Tryz.func10 rfl rfl) [(0, 300)] [] [] (.inr ⟨10, false, _, rfl, rfl, by simp [hl1]⟩) rfl rfl rfl rfl rfl trivial trivial rfl ⟨rfl, trivial⟩ rfl trivial rfl rfl (.inl rfl) ?_
    refine KW.goIf lay_ok Y3_ok 100 rfl (by simp) rfl trivial (fun h => absurd h (by simp [hl1])) fun h => ?_
    refine KW.goRet lay_ok Y3_ok 200 rfl rfl ?_ ?_ trivial
    · simp only [SV.ren, EV.ren, unN_nodesC, unI_ints, unTr_cells]
      simp [hl1.2]
    · simp only [unN_nodesC, isN_nodesC, unI_ints, isI_ints, unTr_cells, isKs_ks, true_and, and_true, ifcV_errV]
      simp +contextual [hin, hc, hc.1]
end Go.Proofs.YtocnofkagckhkaaGreatDoor
end
section
set_option linter.unusedSectionVars false
set_option linter.unusedVariables false
namespace Go.Sy
open Go.ChangeShapes Go.WideShapes Go.ChangeAt Go.RowKit
variable [Drw]
open Go.ChangeMaps (open_string shut_string)
def oldO (W : World) : Nat → Tag := fun b => if b < W.heap.size then .sh else .no
theorem ext_below {W w' : World} {o' : Nat → Tag} (h : Ext (oldO W) W o' w') : Below W.heap.size W w' :=
  ⟨h.os, h.tape, h.output, h.size, fun k hk => (h.sh k (by simp [oldO, hk]) hk).2⟩
section
variable {H : Type} {enc : TypeId × Value → H} {P : Program} {W : World}
theorem op_int {t : TypeId} {k : IntKind} {v : Value} {d : DataW H} {ps : List MemPlace} (ht : P.underlying t = some (.int k)) (hval : Value.okWide P W .any 0 t v) (hd : DataW.Trod enc P W 0 (fun _ => true) true t v d ps) :
    ∃ n, v = .int k n ∧ inK k n := by
  obtain ⟨n, rfl, _, _, hw⟩ := open_int ht hval hd
  refine ⟨n, rfl, ?_⟩
  cases k
  · exact bounds_i8 hw
  · exact bounds_i16 hw
  · exact bounds_i32 hw
  · exact bounds_i64 hw
  · exact bounds_u8 hw
  · exact bounds_u16 hw
  · exact bounds_u32 hw
  · exact bounds_u64 hw
theorem addr_eta {a : Addr} {w : World} {u : Value} (h : w.cell? a = some u) : a = ⟨a.block, a.off, none⟩ ∧ a.block < w.heap.size := by
  unfold World.cell? at h
  cases hb : w.heap[a.block]? with
  | none => simp [hb] at h
  | some ob =>
    have hlt : a.block < w.heap.size := by
      rcases Nat.lt_or_ge a.block w.heap.size with h' | h'
      · exact h'
      · simp [Array.getElem?_eq_none h'] at hb
    refine ⟨?_, hlt⟩
    cases ob with
    | cells c _ _ =>
      simp only [hb] at h
      split at h
      · cases h
      · rename_i hs
        obtain ⟨b, o, s⟩ := a
        cases s with
        | none => rfl
        | some _ => simp at hs
    | _ => simp [hb] at h
theorem rep_ints {a : Option Addr} {len cap : Nat} {zs : List Int} (h0 : len = 0 ∨ ∃ x, a = some x ∧ len ≤ zs.length ∧ (∀ i, i < zs.length → W.cell? (x.add i) = some (.int .i64 (zs.getD i 0)))) (hl : len ≤ cap) (hm : cap ≤ maxLen) (hz : (zs.take len).length = len) :
    RepV (oldO W) W (ints (zs.take len)) (.slice a len cap) := by
  refine ⟨a, cap, by rw [hz], by rw [hz]; exact hl, hm, ?_⟩
  rcases Nat.eq_zero_or_pos len with h00 | hpos
  · exact .inl (by rw [hz]; exact h00)
  · right
    rcases h0 with h0 | ⟨x, rfl, hlz, hc⟩
    · omega
    · have h1 := hc 0 (by omega)
      simp only [Addr.add, if_true] at h1
      obtain ⟨hx, hb⟩ := addr_eta h1
      refine ⟨x.block, x.off, by rw [hx], by simp [oldO, hb], fun e q he hq => ?_⟩
      have hq0 : q = 0 := by omega
      subst hq0
      rw [hz] at he
      have h2 := hc e (by omega)
      rw [hx, addr_add] at h2
      refine ⟨_, by simpa using h2, ?_, rfl⟩
      simp [List.getD_eq_getElem?_getD, he]
end
end Go.Sy
namespace Go.Sy
instance drwDef : Drw := drwNo
end Go.Sy
end
section
set_option linter.unusedVariables false
namespace Go.Sy
open Go.ChangeShapes Go.WideShapes Go.ChangeAt Go.RowKit Go.Pu
section
variable {H : Type} {enc : TypeId × Value → H} {P : Program} {W : World}
theorem open_row {t e : TypeId} {fuel : Nat} {cs : List Value} {x : DataW H × List MemPlace} (ht : P.underlying t = some (.slice e)) (he : P.underlying e = some (.int .i64)) (hc : P.cellsOf e = 1) (hf : DataW.trod enc P W 0 (fun _ => true) true fuel t cs = some x) :
    ∃ (v : Value) (xs : List Int), cs = [v] ∧ RepV (oldO W) W (ints xs) v ∧ ∀ x ∈ xs, inK .i64 x := by
  rcases open_ints ht he hc hf with ⟨rfl, _⟩ | ⟨x, l, c, zs, rfl, _, hl, hm, hz, _, hcell, hwz⟩
  · exact ⟨_, [], rfl, rep_ints (zs := []) (.inl rfl) (Nat.le_refl _) (Nat.zero_le _) rfl, by simp⟩
  · simp only [if_true] at hz
    exact ⟨_, zs.take l, rfl, rep_ints (.inr ⟨x, rfl, by omega, hcell⟩) hl hm (by simp; omega), fun y hy => bounds_i64 (hwz y (List.mem_of_mem_take hy))⟩
theorem cell_at {cs : List Value} {o : Nat} {v : Value} (h : (cs.drop o).take 1 = [v]) : cs[o]? = some v := by
  have e := congrArg (fun l : List Value => l[0]?) h
  simpa [List.getElem?_take, List.getElem?_drop] using e
structure NodeLay (P : Program) (tn : TypeId) : Prop where
  lay : ∃ f0 f1 f2 e, P.underlying tn = some (.struct #[f0, f1, f2]) ∧ (f0.offset = 0 ∧ f1.offset = 1 ∧ f2.offset = 2) ∧ P.underlying f0.type = some (.int .i64) ∧ P.underlying f1.type = some (.int .i64) ∧ P.underlying f2.type = some (.slice e) ∧ P.underlying e = some (.int .i64) ∧
    (P.cellsOf tn = 3 ∧ P.cellsOf f0.type = 1 ∧ P.cellsOf f1.type = 1 ∧ P.cellsOf f2.type = 1 ∧ P.cellsOf e = 1)
structure FormLay (P : Program) (t : TypeId) : Prop where
  lay : ∃ g0 g1 g2 tn, P.underlying t = some (.struct #[g0, g1, g2]) ∧ (g0.offset = 0 ∧ g1.offset = 1 ∧ g2.offset = 2) ∧ P.underlying g0.type = some (.int .i64) ∧ P.underlying g1.type = some (.slice tn) ∧ P.underlying g2.type = some (.int .i64) ∧
    (P.cellsOf t = 3 ∧ P.cellsOf g0.type = 1 ∧ P.cellsOf g1.type = 1 ∧ P.cellsOf g2.type = 1) ∧ NodeLay P tn
theorem open_node {tn : TypeId} (L : NodeLay P tn) {fuel : Nat} {cs : List Value} {y : DataW H × List MemPlace} (h : DataW.trod enc P W 0 (fun _ => true) true fuel tn cs = some y) :
    ∃ x : NodeP, NodeIn x ∧ ∀ q, q < 3 → ∃ u, cs[q]? = some u ∧ RepV (oldO W) W (nodeC x q) u := by
  obtain ⟨f0, f1, f2, e, hn, ⟨o0, o1, o2⟩, h0, h1, h2, he, c, c0, c1, c2, ce⟩ := L.lay
  obtain ⟨y0, y1, y2, n, _, hl, t0, t1, t2⟩ := Go.Deep.trod_struct3 hn h
  rw [o0, c0] at t0
  rw [o1, c1] at t1
  rw [o2, c2] at t2
  obtain ⟨a, ha, _, wa⟩ := DataW.trod_int h0 t0
  obtain ⟨b, hb, _, wb⟩ := DataW.trod_int h1 t1
  obtain ⟨v, xs, hv, hr, hin⟩ := open_row h2 he ce t2
  refine ⟨⟨a, b, xs⟩, ⟨bounds_i64 wa, bounds_i64 wb, hin⟩, fun q hq => ?_⟩
  match q, hq with
  | 0, _ => exact ⟨_, cell_at ha, rfl, rfl⟩
  | 1, _ => exact ⟨_, cell_at hb, rfl, rfl⟩
  | 2, _ => exact ⟨_, cell_at hv, hr⟩
theorem op_form {t : TypeId} {v : Value} {d : DataW H} {ps : List MemPlace} (L : FormLay P t) (hval : Value.okWide P W .any 0 t v) (hd : DataW.Trod enc P W 0 (fun _ => true) true t v d ps) :
    ∃ f : FormP, FormIn f ∧ EvOk (oldO W) (fun _ => undef) W (.ag (formC f)) v := by
  obtain ⟨g0, g1, g2, tn, ht, ⟨o0, o1, o2⟩, h0, h1, h2, ⟨c, c0, c1, c2⟩, LN⟩ := L.lay
  have hv : ∃ cs, v = .agg cs ∧ cs.size = P.cellsOf t ∧ Row.okWide P W .any 0 t cs := by
    unfold Value.okWide at hval
    rw [ht] at hval
    exact hval
  obtain ⟨cs, rfl, hsz, _⟩ := hv
  obtain ⟨fuel, hf⟩ := hd
  obtain ⟨y0, y1, y2, n, _, hl, t0, t1, t2⟩ := Go.Deep.trod_struct3 ht hf
  simp only [Value.cells] at t0 t1 t2
  rw [o0, c0] at t0
  rw [o1, c1] at t1
  rw [o2, c2] at t2
  obtain ⟨a, ha, _, wa⟩ := DataW.trod_int h0 t0
  obtain ⟨b, hb, _, wb⟩ := DataW.trod_int h2 t2
  have hnodes : ∃ (u : Value) (ns : List NodeP), (cs.toList.drop 1).take 1 = [u] ∧ RepV (oldO W) W (nodesC ns) u ∧ ∀ x ∈ ns, NodeIn x := by
    obtain ⟨_, _, _, _, _, _, _, _, _, _, c3, _⟩ := LN.lay
    rcases DataW.trod_slice h1 t1 with ⟨e, _⟩ | ⟨ad, len, cap, elems, rest, m, _, e, _, _, hlc, hm, hlen, hel, _, _⟩
    · exact ⟨_, [], e, ⟨none, 0, rfl, Nat.le_refl _, Nat.zero_le _, .inl rfl⟩, by simp⟩
    · have each : ∀ i, i < len → ∃ x : NodeP, NodeIn x ∧ ∀ q, q < 3 → ∃ u, W.cell? (ad.add (i * 3 + q)) = some u ∧ RepV (oldO W) W (nodeC x q) u := fun i hi => by
        have h3 := hel i hi
        rw [List.getElem?_eq_getElem (by omega), Option.bind_eq_some_iff] at h3
        obtain ⟨c', hc', hy'⟩ := h3
        obtain ⟨x, hx, hq⟩ := open_node LN hy'
        obtain ⟨_, hcl, hcc⟩ := World.cells?_some hc'
        refine ⟨x, hx, fun q hq3 => ?_⟩
        obtain ⟨u, hu, hr⟩ := hq q hq3
        refine ⟨u, ?_, hr⟩
        have h4 := hcc q (by omega)
        rw [hu] at h4
        have h5 : (ad.add (i * P.cellsOf tn)).add q = ad.add (i * 3 + q) := by
          rw [c3]
          unfold Addr.add
          split <;> split <;> simp_all <;> omega
        rw [h5] at h4
        exact h4
      have hch : ∃ g : Nat → NodeP, ∀ i, i < len → NodeIn (g i) ∧ ∀ q, q < 3 → ∃ u, W.cell? (ad.add (i * 3 + q)) = some u ∧ RepV (oldO W) W (nodeC (g i) q) u :=
        ⟨fun i => if h : i < len then Classical.choose (each i h) else node0, fun i hi => by
          simp only [hi, dif_pos]
          exact Classical.choose_spec (each i hi)⟩
      obtain ⟨g, hg⟩ := hch
      refine ⟨_, (List.range len).map g, e, ?_, fun x hx => ?_⟩
      · refine ⟨some ad, cap, by simp, by simpa using hlc, hm, ?_⟩
        rcases Nat.eq_zero_or_pos len with h00 | hpos
        · left; simpa using h00
        · right
          obtain ⟨u0, hu0, _⟩ := (hg 0 hpos).2 0 (by decide)
          have e0 : ad.add (0 * 3 + 0) = ad := by unfold Addr.add; split <;> simp_all
          rw [e0] at hu0
          obtain ⟨hx, hb'⟩ := addr_eta hu0
          refine ⟨ad.block, ad.off, by rw [hx], by simp [oldO, hb'], fun e q he hq => ?_⟩
          have he' : e < len := by simpa using he
          obtain ⟨u, hu, hr⟩ := (hg e he').2 q hq
          rw [hx, addr_add] at hu
          refine ⟨u, hu, ?_⟩
          have e2 : ((List.range len).map g).getD e node0 = g e := by simp [List.getD_eq_getElem?_getD, he']
          show RepV (oldO W) W (nodeC (((List.range len).map g).getD e node0) q) u
          rw [e2]; exact hr
      · obtain ⟨i, hi, rfl⟩ := List.mem_map.1 hx
        exact (hg i (by simpa using hi)).1
  obtain ⟨u, ns, hu, hr, hin⟩ := hnodes
  refine ⟨⟨a, ns, b⟩, ⟨bounds_i64 wa, bounds_i64 wb, hin⟩, cs, rfl, hsz.trans c, fun q x hq => ?_⟩
  have g0' := cell_at ha
  have g1' := cell_at hu
  have g2' := cell_at hb
  rw [Array.getElem?_toList] at g0' g1' g2'
  match q, hq with
  | 0, hq => simp [formC] at hq; subst hq; exact ⟨_, g0', rfl, rfl⟩
  | 1, hq => simp [formC] at hq; subst hq; exact ⟨_, g1', hr⟩
  | 2, hq => simp [formC] at hq; subst hq; exact ⟨_, g2', rfl, rfl⟩
  | q + 3, hq => simp [formC] at hq
end
end Go.Sy
end
section
set_option linter.unusedVariables false
namespace Go.Sy
open Go.ChangeShapes Go.WideShapes Go.ChangeAt Go.RowKit Go.Pu
section
variable {H : Type} {enc : TypeId × Value → H} {P : Program} {W : World}
structure TreeLay (P : Program) (t : TypeId) : Prop where
  lay : ∃ g0 g1 g2, P.underlying t = some (.struct #[g0, g1, g2]) ∧ (g0.offset = 0 ∧ g1.offset = 1 ∧ g2.offset = 2) ∧ P.underlying g0.type = some (.int .i64) ∧ P.underlying g1.type = some (.slice t) ∧ P.underlying g2.type = some (.int .i64) ∧
    (P.cellsOf t = 3 ∧ P.cellsOf g0.type = 1 ∧ P.cellsOf g1.type = 1 ∧ P.cellsOf g2.type = 1)
theorem trod_st3 {t : TypeId} {f0 f1 f2 : Field} {fuel : Nat} {cs : List Value} {x : DataW H × List MemPlace} (ht : P.underlying t = some (.struct #[f0, f1, f2])) (h : DataW.trod enc P W 0 (fun _ => true) true fuel t cs = some x) :
    ∃ y0 y1 y2 n, fuel = n + 1 ∧ cs.length = P.cellsOf t ∧ DataW.trod enc P W 0 (fun _ => true) true n f0.type ((cs.drop f0.offset).take (P.cellsOf f0.type)) = some y0 ∧
      DataW.trod enc P W 0 (fun _ => true) true n f1.type ((cs.drop f1.offset).take (P.cellsOf f1.type)) = some y1 ∧ DataW.trod enc P W 0 (fun _ => true) true n f2.type ((cs.drop f2.offset).take (P.cellsOf f2.type)) = some y2 := by
  obtain ⟨xs, n, e, _, hl, hlen, hf⟩ := DataW.trod_struct ht h
  match xs, hlen with
  | [y0, y1, y2], _ => exact ⟨y0, y1, y2, n, e, hl, by simpa using hf 0 f0 rfl, by simpa using hf 1 f1 rfl, by simpa using hf 2 f2 rfl⟩
theorem open_tree {t : TypeId} (L : TreeLay P t) : ∀ (fuel : Nat) {cs : List Value} {y : DataW H × List MemPlace}, DataW.trod enc P W 0 (fun _ => true) true fuel t cs = some y →
    ∃ x : Tr, x.In ∧ ∀ q, q < 3 → ∃ u, cs[q]? = some u ∧ RepV (oldO W) W (x.cell q) u := by
  intro fuel
  induction fuel using Nat.strongRecOn with
  | ind fuel ih =>
  intro cs y hf
  obtain ⟨g0, g1, g2, ht, ⟨o0, o1, o2⟩, h0, h1, h2, ⟨c, c0, c1, c2⟩⟩ := L.lay
  obtain ⟨y0, y1, y2, n, hfu, hl, t0, t1, t2⟩ := trod_st3 ht hf
  rw [o0, c0] at t0
  rw [o1, c1] at t1
  rw [o2, c2] at t2
  obtain ⟨a, ha, _, wa⟩ := DataW.trod_int h0 t0
  obtain ⟨b, hb, _, wb⟩ := DataW.trod_int h2 t2
  have hkids : ∃ (u : Value) (m : Nat) (g : Nat → Tr), (cs.drop 1).take 1 = [u] ∧ RepV (oldO W) W (.sl m 3 fun e q => (g e).cell q) u ∧ ∀ i, i < m → (g i).In := by
    rcases DataW.trod_slice h1 t1 with ⟨e, _⟩ | ⟨ad, len, cap, elems, rest, m, hm1, e, _, _, hlc, hm, hlen, hel, _, _⟩
    · exact ⟨_, 0, fun _ => .no, e, ⟨none, 0, rfl, Nat.le_refl _, Nat.zero_le _, .inl rfl⟩, fun i hi => by omega⟩
    · have each : ∀ i, i < len → ∃ x : Tr, x.In ∧ ∀ q, q < 3 → ∃ u, W.cell? (ad.add (i * 3 + q)) = some u ∧ RepV (oldO W) W (x.cell q) u := fun i hi => by
        have h3 := hel i hi
        rw [List.getElem?_eq_getElem (by omega), Option.bind_eq_some_iff] at h3
        obtain ⟨c', hc', hy'⟩ := h3
        obtain ⟨x, hx, hq⟩ := ih m (by omega) hy'
        obtain ⟨_, hcl, hcc⟩ := World.cells?_some hc'
        refine ⟨x, hx, fun q hq3 => ?_⟩
        obtain ⟨u, hu, hr⟩ := hq q hq3
        refine ⟨u, ?_, hr⟩
        have h4 := hcc q (by omega)
        rw [hu] at h4
        have h5 : (ad.add (i * P.cellsOf t)).add q = ad.add (i * 3 + q) := by
          rw [c]
          unfold Addr.add
          split <;> split <;> simp_all <;> omega
        rw [h5] at h4
        exact h4
      have hch : ∃ g : Nat → Tr, ∀ i, i < len → (g i).In ∧ ∀ q, q < 3 → ∃ u, W.cell? (ad.add (i * 3 + q)) = some u ∧ RepV (oldO W) W ((g i).cell q) u :=
        ⟨fun i => if h : i < len then Classical.choose (each i h) else .no, fun i hi => by
          simp only [hi, dif_pos]
          exact Classical.choose_spec (each i hi)⟩
      obtain ⟨g, hg⟩ := hch
      refine ⟨_, len, g, e, ⟨some ad, cap, rfl, hlc, hm, ?_⟩, fun i hi => (hg i hi).1⟩
      rcases Nat.eq_zero_or_pos len with h00 | hpos
      · exact .inl h00
      · right
        obtain ⟨u0, hu0, _⟩ := (hg 0 hpos).2 0 (by decide)
        have e0 : ad.add (0 * 3 + 0) = ad := by unfold Addr.add; split <;> simp_all
        rw [e0] at hu0
        obtain ⟨hx, hb'⟩ := addr_eta hu0
        refine ⟨ad.block, ad.off, by rw [hx], by simp [oldO, hb'], fun e q he hq => ?_⟩
        obtain ⟨u, hu, hr⟩ := (hg e he).2 q hq
        rw [hx, addr_add] at hu
        exact ⟨u, hu, hr⟩
  obtain ⟨u, m, g, hu, hr, hin⟩ := hkids
  refine ⟨Tr.of a b m g, (Tr.in_iff _).2 ⟨bounds_i64 wa, bounds_i64 wb, fun i hi => by rw [Tr.k_of (show i < m from hi)]; exact hin i hi⟩, fun q hq => ?_⟩
  match q, hq with
  | 0, _ => exact ⟨_, cell_at ha, rfl, rfl⟩
  | 1, _ => exact ⟨_, cell_at hu, RepV.conv Tr.of_ks hr⟩
  | 2, _ => exact ⟨_, cell_at hb, rfl, rfl⟩
theorem cells_st {t : TypeId} {fs : Array Field} {v : Value} (ht : P.underlying t = some (.struct fs)) (hval : Value.okWide P W .any 0 t v) : ∃ cs, v = .agg cs ∧ cs.size = P.cellsOf t := by
  unfold Value.okWide at hval
  rw [ht] at hval
  obtain ⟨cs, h1, h2, _⟩ := hval
  exact ⟨cs, h1, h2⟩
end
end Go.Sy
end
section
set_option linter.unusedVariables false
namespace Go.Proofs.YtocnofkagckhkaaGreatDoor
open Go.Sy
theorem treeLay : TreeLay Tryz.prog 28 := ⟨⟨_, _, _, Tryz.underlying28, ⟨rfl, rfl, rfl⟩, Tryz.underlying3, Tryz.underlying26, Tryz.underlying3, ⟨by kernel_rfl, by kernel_rfl, by kernel_rfl, by kernel_rfl⟩⟩⟩
end Go.Proofs.YtocnofkagckhkaaGreatDoor
end
section
set_option linter.unusedVariables false
namespace Go.Proofs.YtocnofkagckhkaaGreatDoor
open Go.Sy
theorem nodeLay : NodeLay Tryz.prog 66 := ⟨⟨_, _, _, _, Tryz.underlying66, ⟨rfl, rfl, rfl⟩, Tryz.underlying3, Tryz.underlying3, Tryz.underlying25, Tryz.underlying3, ⟨by kernel_rfl, by kernel_rfl, by kernel_rfl, by kernel_rfl, by kernel_rfl⟩⟩⟩
theorem formLay : FormLay Tryz.prog 24 := ⟨⟨_, _, _, _, Tryz.underlying24, ⟨rfl, rfl, rfl⟩, Tryz.underlying3, Tryz.underlying22, Tryz.underlying3, ⟨by kernel_rfl, by kernel_rfl, by kernel_rfl, by kernel_rfl⟩, nodeLay⟩⟩
end Go.Proofs.YtocnofkagckhkaaGreatDoor
end
section
set_option linter.unusedVariables false
set_option linter.unusedSectionVars false
namespace Go.Proofs.YtocnofkagckhkaaGreatDoor
open Go.Sy Go.ChangeShapes Go.WideShapes Go.ChangeAt Go.RowKit Go.Pu
section
variable {H : Type} {enc : TypeId × Value → H} {P : Program} {W : World}
theorem cell_far {cs : List Value} {o n q : Nat} {u : Value} (h : ((cs.drop o).take n)[q]? = some u) : cs[o + q]? = some u := by
  rw [List.getElem?_take] at h
  split at h
  · rw [List.getElem?_drop] at h; exact h
  · cases h
structure CovLay (P : Program) (t : TypeId) : Prop where
  lay : ∃ g0 g1 g2 e e', P.underlying t = some (.struct #[g0, g1, g2]) ∧ (g0.offset = 0 ∧ g1.offset = 1 ∧ g2.offset = 2) ∧ P.underlying g0.type = some (.slice e) ∧ P.underlying e = some (.int .i64) ∧ P.underlying g1.type = some (.slice e') ∧ P.underlying e' = some (.int .i64) ∧ TreeLay P g2.type ∧
    (P.cellsOf t = 5 ∧ P.cellsOf g0.type = 1 ∧ P.cellsOf g1.type = 1 ∧ P.cellsOf g2.type = 3 ∧ P.cellsOf e = 1 ∧ P.cellsOf e' = 1)
theorem op_cover {t : TypeId} {v : Value} {d : DataW H} {ps : List MemPlace} (L : CovLay P t) (hval : Value.okWide P W .any 0 t v) (hd : DataW.Trod enc P W 0 (fun _ => true) true t v d ps) :
    ∃ c : CovP, c.tree.In ∧ EvOk (oldO W) (fun _ => undef) W (.ag (covC c)) v := by
  obtain ⟨g0, g1, g2, e, e', ht, ⟨o0, o1, o2⟩, h0, he, h1, he', LT, ⟨c, c0, c1, c2, ce, ce'⟩⟩ := L.lay
  obtain ⟨cs, rfl, hsz⟩ := cells_st ht hval
  obtain ⟨fuel, hf⟩ := hd
  obtain ⟨y0, y1, y2, n, _, hl, t0, t1, t2⟩ := Go.Deep.trod_struct3 ht hf
  simp only [Value.cells] at t0 t1 t2
  rw [o0, c0] at t0
  rw [o1, c1] at t1
  rw [o2, c2] at t2
  obtain ⟨u, xs, hu, hr, hin⟩ := open_row h0 he ce t0
  obtain ⟨u', xs', hu', hr', hin'⟩ := open_row h1 he' ce' t1
  obtain ⟨x, hx, hq⟩ := open_tree LT n t2
  have g0' := cell_at hu
  have g1' := cell_at hu'
  rw [Array.getElem?_toList] at g0' g1'
  have k : ∀ q, q < 3 → ∃ w, cs[2 + q]? = some w ∧ RepV (oldO W) W (x.cell q) w := fun q hq3 => by
    obtain ⟨w, hw, hrw⟩ := hq q hq3
    have := cell_far hw
    rw [Array.getElem?_toList] at this
    exact ⟨w, this, hrw⟩
  refine ⟨⟨xs, xs', x⟩, hx, cs, rfl, hsz.trans c, fun q y hq => ?_⟩
  match q, hq with
  | 0, hq => simp [covC] at hq; subst hq; exact ⟨_, g0', hr⟩
  | 1, hq => simp [covC] at hq; subst hq; exact ⟨_, g1', hr'⟩
  | 2, hq => simp [covC, trC] at hq; subst hq; exact k 0 (by decide)
  | 3, hq => simp [covC, trC] at hq; subst hq; exact k 1 (by decide)
  | 4, hq => simp [covC, trC] at hq; subst hq; exact k 2 (by decide)
  | q + 5, hq => simp [covC, trC] at hq
end
theorem coverLay : CovLay Tryz.prog 30 := ⟨⟨_, _, _, _, _, Tryz.underlying30, ⟨rfl, rfl, rfl⟩, Tryz.underlying25, Tryz.underlying3, Tryz.underlying25, Tryz.underlying3, treeLay, ⟨by kernel_rfl, by kernel_rfl, by kernel_rfl, by kernel_rfl, by kernel_rfl, by kernel_rfl⟩⟩⟩
end Go.Proofs.YtocnofkagckhkaaGreatDoor
end
section
set_option linter.unusedVariables false
set_option linter.unusedSectionVars false
attribute [local instance] Go.Sy.drwNo
namespace Go.Proofs.YtocnofkagckhkaaGreatDoor
open Go.Sy Go.ChangeShapes Go.WideShapes Go.ChangeAt Go.RowKit
theorem walk_glos {P : Program} {f : FuncId} {ys : List EV} {rs : List (Nat × Res)} {args : Array Value} {W : World} (hg : ∀ i r, lk rs i = some r → ∃ g T vs, r = .glo g T vs ∧ W.heap[g]? = some (.cells vs.toArray T (0, 0))) (D : DoesF P f ys rs (sB true) []) (hsz : args.size = ys.length)
    (ha : ∀ (j : Nat) y, ys[j]? = some y → EvOk (oldO W) (fun _ => undef) W y (args.getD j undef)) : Calls P f args W fun e w' => e = .returned (.bool true) ∧ Below W.heap.size W w' := by
  refine (D (oldO W) (fun _ => undef) args W ⟨hsz, fun b => ⟨fun i h => ?_, fun h => ?_⟩, fun s x hl => ?_, fun i r hl => ?_⟩).mono ?_
  · simp only [oldO] at h; split at h <;> cases h
  · simp only [oldO] at h; split at h
    · assumption
    · cases h
  · obtain ⟨_, _, y, hy, rfl⟩ := idx_lt ys 0 s x hl
    exact ha s y (by simpa using hy)
  · obtain ⟨g, T, vs, rfl, h1⟩ := hg i r hl
    have hlt : g < W.heap.size := by
      refine Classical.byContradiction fun h => ?_
      rw [Array.getElem?_eq_none (by omega)] at h1; cases h1
    exact ⟨by simp only [oldO, if_pos hlt], h1⟩
  · rintro e w' ⟨v, o', h', rfl, hs, hx⟩
    have hv : RepV o' w' (.lit (.bool true)) v := hs.slot 0 (sB true) (by rw [lk_cons, if_pos rfl])
    exact ⟨by rw [hv.1], ext_below hx⟩
theorem glo1 {W : World} {i g T : Nat} {vs : List Value} (h : W.heap[g]? = some (.cells vs.toArray T (0, 0))) : ∀ j r, lk [(i, Res.glo g T vs)] j = some r → ∃ g T vs, r = Res.glo g T vs ∧ W.heap[g]? = some (.cells vs.toArray T (0, 0)) := fun j r hl => by
  rw [lk_cons] at hl
  split at hl
  · cases hl; exact ⟨_, _, _, rfl, h⟩
  · simp [lk] at hl
end Go.Proofs.YtocnofkagckhkaaGreatDoor
end
section
set_option linter.unusedVariables false
set_option linter.unusedSectionVars false
attribute [local instance] Go.Sy.drwNo
namespace Go.Proofs.YtocnofkagckhkaaGreatDoor
open Go.Sy Go.Pu Go.ChangeShapes Go.WideShapes Go.ChangeAt Go.RowKit Go.Proofs.YtocnofkagckhkaaGreatDoor.Tr
theorem pow_laid {l : List (String × DataW Unit)} {W : World} (e : (l.filter fun x => x.1 == "internal/strconv.uint64pow10") = [("internal/strconv.uint64pow10", Lib.tabData .u64 Lib.pow10Tab)]) (h : laidMetH Tryz.prog l W) : ∃ T, W.heap[0]? = some (.cells powVs.toArray T (0, 0)) := by
  have h1 := h.filter fun x => x.1 == "internal/strconv.uint64pow10"
  rw [e, MakeChecks.laidMetH_plain _ _ _ (by kernel_rfl)] at h1
  have hg1 : Tryz.prog.globalNamed "internal/strconv.uint64pow10" = some 0 := by kernel_rfl
  have ht := Lib.tabIs_of_head (g := 0) (t := 186) (e := 166) (n := 20) hg1 (by kernel_rfl) (by kernel_rfl) (by kernel_rfl) (by kernel_rfl) (by kernel_rfl) h1
  obtain ⟨ps, ⟨g, t, cs, fuel, p, q, hg, hty, hv, hd, _, rfl⟩, _, hcell⟩ := h1
  obtain rfl := Option.some.inj (hg1.symm.trans hg)
  unfold Lib.TabIs at ht
  obtain rfl := Option.some.inj (hv.symm.trans ht)
  have hm := (hcell 0 0 (List.mem_append_left _ (List.mem_append_left _ (by simp [MemPlace.row]; decide)))).1
  obtain ⟨c, t', hc⟩ := hm
  have hv2 := hv
  unfold World.var? at hv2
  rw [hg1] at hv2
  simp only [Option.bind_some, hc, Option.some.injEq] at hv2
  refine ⟨t', ?_⟩
  rw [hc, hv2, powVs]
end Go.Proofs.YtocnofkagckhkaaGreatDoor
end
section
set_option linter.unusedSectionVars false
set_option linter.unusedVariables false
set_option linter.unusedSimpArgs false
attribute [local instance] Go.Sy.drwNo
namespace Go.Proofs.YtocnofkagckhkaaGreatDoor
open Go.Sy Go.Pu Go.Proofs.YtocnofkagckhkaaGreatDoor.Tr
theorem no_in : Tr.no.In := (Tr.in_iff _).2 ⟨by simp [inK, Tr.no, Tr.v], by simp [inK, Tr.no, Tr.r], fun i hi => absurd hi (Nat.not_lt_zero _)⟩
theorem lowB_lt (s : Int) : lowB s < 24 := by
  unfold lowB
  cases h : firstB (bit s) 24 with
  | none => decide
  | some i => exact (firstB_spec h).1
theorem growP_in (cuts paths : List Int) (hcl : cuts.length ≤ 1024) (hpl : paths.length ≤ 1024) : ∀ (f : Nat) (yes no c : Int), (growP cuts paths f yes no c).1.In
  | 0, _, _, _ => no_in
  | f + 1, yes, no, c => by
    rw [growP]
    by_cases hbig : 4096 < c + 1
    · rw [if_pos hbig]; exact no_in
    rw [if_neg hbig]
    cases hy : inYes cuts yes with
    | some i => have := (inYes_some hy).1; exact lf_in (by simp only [inK]; omega)
    | none =>
    cases hp : inYes paths no with
    | some i => have := (inYes_some hp).1; exact lf_in (by simp only [inK]; omega)
    | none =>
    cases ho : offNo cuts no with
    | none => exact no_in
    | some i =>
      dsimp only
      split
      · have := lowB_lt (iandNot .i64 (cuts.getD i 0) yes)
        exact two_in (by simp only [inK, nextV]; omega) (growP_in cuts paths hcl hpl f _ _ _) (growP_in cuts paths hcl hpl f _ _ _)
      · exact no_in
theorem makeC_sm (f : FormP) : covSm (makeC f) := by
  by_cases h : makeE f = 0
  · obtain ⟨h1, h2, h3, h4⟩ := makeE_zero h
    have hv := (formE_ok (pathE_ok h1).1).vars
    obtain ⟨n, hn⟩ := Int.eq_ofNat_of_zero_le (show 0 ≤ f.vars by omega)
    obtain ⟨_, hpf⟩ := path_facts h1 hn
    obtain ⟨f1, f2, f3⟩ := hpf h2
    have hfam := (hit_facts h1 hn h2 h3).2.1
    have e : makeC f = ⟨hitL (pathsL f), pathsL f, (makeG f).1⟩ := by rw [makeC, if_pos h]
    rw [e]
    exact ⟨growP_in _ _ hfam.len f1.1.len 25 0 0 0, Nat.le_trans hfam.len (by decide), Nat.le_trans f1.1.len (by decide)⟩
  · have e : makeC f = ⟨[], [], .no⟩ := by rw [makeC, if_neg h]
    rw [e]
    exact ⟨no_in, Nat.zero_le _, Nat.zero_le _⟩
theorem unTr_nil : unTr 0 (.lit (.slice none 0 0)) 0 = Tr.no := Tr.ext rfl rfl rfl fun i hi => absurd hi (Nat.not_lt_zero _)
theorem isKs_nil : isKs (.lit (.slice none 0 0)) := ⟨rfl, rfl⟩
theorem fam_check {l : List Int} (h : Fam l) : checkE l = 0 := by
  have hl0 : listE l = 0 := listE_zero h.len h.val
  obtain ⟨a1, a2, _, _⟩ := anti_min h.val
  rw [h.min] at a1
  rw [checkE, if_pos hl0, if_pos a1.symm, if_pos (by rw [h.min])]
theorem make_facts {f : FormP} (h : makeE f = 0) : covE f (makeC f) = 0 ∧ (faultV f (makeC f)).1 = 0 ∧ checkE (makeC f).cuts = 0 := by
  obtain ⟨h1, h2, h3, h4⟩ := makeE_zero h
  have hv := (formE_ok (pathE_ok h1).1).vars
  obtain ⟨n, hn⟩ := Int.eq_ofNat_of_zero_le (show 0 ≤ f.vars by omega)
  have hfam := (hit_facts h1 hn h2 h3).2.1
  have e : makeC f = ⟨hitL (pathsL f), pathsL f, (makeG f).1⟩ := by rw [makeC, if_pos h]
  refine ⟨(make_ok hn h).1, (make_ok hn h).2, ?_⟩
  rw [e]
  exact fam_check hfam
def cov0 : CovP := ⟨[], [], .no⟩
set_option maxHeartbeats 1600000 in
theorem lawCoverMakes_does (f : FormP) (hin : FormIn f) (T : Nat) : DoesF Tryz.prog 8 [.ag (formC f)] [gloP 0 T] (sB true) [] := by
  refine DoesF.body _ Tryz.func8 rfl rfl rfl rfl ?_
  obtain ⟨vars, ns, top⟩ := f
  refine KW.go lay_ok Y3_ok 100 rfl ?_ ?_
  · simp only [unN_nodesC, isN_nodesC, unI_nil, isI_nil, unTr_nil, isKs_nil, true_and, and_true]
    exact hin
  simp only [unN_nodesC, unI_nil, unTr_nil]
  rw [show (⟨[], [], Tr.no⟩ : CovP) = cov0 from rfl]
  cases hl : light36F ⟨vars, ns, top⟩ cov0 with
  | false =>
    refine KW.skipD (bV true) rfl rfl (by first | rfl | simp) rfl rfl ?_
    refine KW.goIf lay_ok Y3_ok 100 rfl (by simp) rfl trivial (fun h => ?_) fun h => absurd h (by simp)
    refine KW.go lay_ok Y3_ok 100 rfl (by simp) ?_
    refine KW.call0 (awake36_does T) (enters Tryz.func10 rfl rfl) [(0, 0)] [] [] (.inl rfl) rfl rfl rfl rfl rfl trivial trivial rfl ⟨rfl, trivial⟩ rfl trivial rfl rfl (.inl rfl) ?_
    exact KW.goRet lay_ok Y3_ok 100 rfl rfl rfl (by simp) trivial
  | true =>
    refine KW.dupG 0 300 rfl ?_
    refine KW.call0 (awake36_does T) (enters Tryz.func10 rfl rfl) [(0, 300)] [] [] (.inr ⟨4, false, _, rfl, rfl, by first | rfl | simp⟩) rfl rfl rfl rfl rfl trivial trivial rfl ⟨rfl, trivial⟩ rfl trivial rfl rfl (.inl rfl) ?_
    refine KW.goIf lay_ok Y3_ok 100 rfl (by simp) rfl trivial (fun h => absurd h (by simp)) fun h => ?_
    refine KW.go lay_ok Y3_ok 100 rfl ?_ ?_
    · simp only [unN_nodesC, isN_nodesC, true_and, and_true, ifcV_errV]
      simp [hin]
    simp only [unN_nodesC]
    have hsm := makeC_sm ⟨vars, ns, top⟩
    refine KW.callV0 (rsame36_does (makeC ⟨vars, ns, top⟩) (makeC ⟨vars, ns, top⟩)) (enters Tryz.func23 rfl rfl) [] (.inr ⟨4, false, _, rfl, rfl, by simp⟩) rfl rfl rfl rfl rfl trivial
      ⟨⟨_, _, rfl, by simp, (show Mt _ _ _ (EV.ren [] (.ag (covC (makeC ⟨vars, ns, top⟩)))) (.ag (covC (makeC ⟨vars, ns, top⟩))) from .same)⟩, ⟨_, _, rfl, by simp, (show Mt _ _ _ (EV.ren [] (.ag (covC (makeC ⟨vars, ns, top⟩)))) (.ag (covC (makeC ⟨vars, ns, top⟩))) from .same)⟩, trivial⟩ rfl (.inl rfl) ?_
    refine KW.goIf lay_ok Y3_ok 100 rfl (by simp) rfl trivial (fun h => absurd h (by simp)) fun h => ?_
    cases he : decide (makeE ⟨vars, ns, top⟩ = 0) with
    | false =>
      have he' : makeE ⟨vars, ns, top⟩ ≠ 0 := of_decide_eq_false he
      refine KW.goIf lay_ok Y3_ok 100 rfl (by simp) rfl trivial (fun h => ?_) fun h => absurd h (by simp [he'])
      exact KW.goRet lay_ok Y3_ok 100 rfl rfl rfl (by simp) trivial
    | true =>
      have he' : makeE ⟨vars, ns, top⟩ = 0 := of_decide_eq_true he
      refine KW.goIf lay_ok Y3_ok 100 rfl (by simp) rfl trivial (fun h => absurd h (by simp [he'])) fun h => ?_
      have hfac : covE ⟨vars, ns, top⟩ (makeC ⟨vars, ns, top⟩) = 0 ∧ (faultV ⟨vars, ns, top⟩ (makeC ⟨vars, ns, top⟩)).1 = 0 ∧ checkE (makeC ⟨vars, ns, top⟩).cuts = 0 := make_facts he'
      generalize makeC ⟨vars, ns, top⟩ = C at hsm hfac
      obtain ⟨cu, pa, tr⟩ := C
      obtain ⟨k1, k2, k3⟩ := hfac
      simp only [] at k3
      refine KW.goRet lay_ok Y3_ok 200 rfl rfl ?_ ?_ trivial
      · simp only [SV.ren, EV.ren, unN_nodesC, unI_ints, unTr_cells]
        simp [k1, k2, k3]
      · simp only [unN_nodesC, isN_nodesC, unI_ints, isI_ints, unTr_cells, isKs_ks, true_and, and_true, ifcV_errV]
        simp +contextual [hin, hsm]
end Go.Proofs.YtocnofkagckhkaaGreatDoor
end
section
set_option linter.unusedSectionVars false
set_option linter.unusedVariables false
set_option linter.unusedSimpArgs false
attribute [local instance] Go.Sy.drwNo
namespace Go.Proofs.YtocnofkagckhkaaGreatDoor
open Go.Sy Go.Pu Go.Proofs.YtocnofkagckhkaaGreatDoor.Tr
theorem cov_facts {f : FormP} {c : CovP} (h : covE f c = 0) (ha : (faultV f c).1 = 0) : ∃ n : Nat, f.vars = n ∧ n ≤ 24 ∧ pathE f = 0 ∧ formE f = 0 ∧ splE c.tree f.vars = 0 ∧ c.cuts.length ≤ 1024 ∧ c.paths.length ≤ 1024 ∧ (∀ x ∈ c.cuts, inN n x) := by
  obtain ⟨e1, e2, e3, e4⟩ := covE_zero h
  have h0 := (pathE_ok e1).1
  have hv := (formE_ok h0).vars
  obtain ⟨n, hn⟩ := Int.eq_ofNat_of_zero_le (show 0 ≤ f.vars by omega)
  have hn24 : n ≤ 24 := by omega
  rw [hn] at e2 e3
  exact ⟨n, hn, hn24, e1, h0, e4, (setE_zero hn24 e2).1, (setE_zero hn24 e3).1, (setE_zero hn24 e2).2⟩
theorem in_mask {n : Nat} (hn : n ≤ 24) (s : Int) : inN n (iand .i64 s (ishl 1 (n : Int) - 1)) := by
  have eA : ishl 1 (n : Int) - 1 = allN n := by have := Nat.two_pow_pos n; rw [ishl_one, allN]; omega
  rw [eA]
  have := inN_iand (y := s) hn (inN_allN hn)
  have e : iand .i64 s (allN n) = iand .i64 (allN n) s := rng_ext (by simp) (by simp) fun i _ => by simp only [bit_iand]; exact Bool.and_comm _ _
  rw [e]; exact this
set_option maxHeartbeats 1600000 in
theorem lawCoverShows_does (f : FormP) (c : CovP) (s : Int) (hin : FormIn f) (ht : c.tree.In) (T : Nat) : DoesF Tryz.prog 7 [.ag (formC f), .ag (covC c), iV s] [gloP 0 T] (sB true) [] := by
  refine DoesF.body _ Tryz.func7 rfl rfl rfl rfl ?_
  obtain ⟨vars, ns, top⟩ := f
  obtain ⟨cuts, paths, t⟩ := c
  refine KW.go lay_ok Y3_ok 100 rfl ?_ ?_
  · simp only [unN_nodesC, isN_nodesC, unI_ints, isI_ints, unTr_cells, isKs_ks, true_and, and_true]
    simp +contextual [hin]
  simp only [unN_nodesC, unI_ints, unTr_cells]
  cases hl : (light36F ⟨vars, ns, top⟩ ⟨cuts, paths, t⟩ && decide (covE ⟨vars, ns, top⟩ ⟨cuts, paths, t⟩ = 0)) with
  | false =>
    have hl' : light36F ⟨vars, ns, top⟩ ⟨cuts, paths, t⟩ = true → ¬ covE ⟨vars, ns, top⟩ ⟨cuts, paths, t⟩ = 0 := fun h => by simpa [h] using hl
    refine KW.skipD (bV true) rfl rfl (by simp; exact hl') rfl rfl ?_
    refine KW.goIf lay_ok Y3_ok 100 rfl (by simp) rfl trivial (fun h => ?_) fun h => absurd h (by simp; intro h1; simp [hl' h1])
    refine KW.go lay_ok Y3_ok 100 rfl (by simp) ?_
    refine KW.call0 (awake36_does T) (enters Tryz.func10 rfl rfl) [(0, 0)] [] [] (.inl rfl) rfl rfl rfl rfl rfl trivial trivial rfl ⟨rfl, trivial⟩ rfl trivial rfl rfl (.inl rfl) ?_
    exact KW.goRet lay_ok Y3_ok 100 rfl rfl rfl (by simp) trivial
  | true =>
    have hl1 : light36F ⟨vars, ns, top⟩ ⟨cuts, paths, t⟩ = true ∧ covE ⟨vars, ns, top⟩ ⟨cuts, paths, t⟩ = 0 := by simpa using hl
    have hc := light_sm hl1.1 ht
    refine KW.dupG 0 300 rfl ?_
    refine KW.call0 (awake36_does T) (enters Tryz.func10 rfl rfl) [(0, 300)] [] [] (.inr ⟨10, false, _, rfl, rfl, by simp [hl1]⟩) rfl rfl rfl rfl rfl trivial trivial rfl ⟨rfl, trivial⟩ rfl trivial rfl rfl (.inl rfl) ?_
    refine KW.goIf lay_ok Y3_ok 100 rfl (by simp) rfl trivial (fun h => absurd h (by simp [hl1])) fun h => ?_
    refine KW.goIf lay_ok Y3_ok 100 rfl ?_ rfl trivial (fun h => absurd h ?_) fun h => ?_
    · simp only [unN_nodesC, isN_nodesC, unI_ints, isI_ints, unTr_cells, isKs_ks, true_and, and_true, ifcV_errV]
      simp [hin, hc]
    · simp only [unN_nodesC, unI_ints, unTr_cells]
      simp [hl1.2]
    simp only [unN_nodesC, unI_ints, unTr_cells]
    cases hf : decide ((faultV ⟨vars, ns, top⟩ ⟨cuts, paths, t⟩).1 = 0) with
    | false =>
      refine KW.goIf lay_ok Y3_ok 100 rfl (by simp) rfl trivial (fun h => ?_) fun h => absurd h (by simp)
      exact KW.goRet lay_ok Y3_ok 100 rfl rfl rfl (by simp) trivial
    | true =>
      refine KW.goIf lay_ok Y3_ok 100 rfl (by simp) rfl trivial (fun h => absurd h (by simp [hl1])) fun h => ?_
      have ha := of_decide_eq_true hf
      obtain ⟨n, hn, hn24, q1, q2, q3, q4, q5, q6⟩ := cov_facts hl1.2 ha
      have hR := cov_right hn hl1.2 ha
      simp only at hn q3 q4 q5
      subst hn
      have hS := in_mask hn24 s
      have hst : stateE ⟨n, ns, top⟩ (iand .i64 s (ishl 1 (n : Int) - 1)) = 0 := by
        have := cmpl_state (f := ⟨n, ns, top⟩) q2 rfl hS false
        exact this
      have hval : valV ⟨n, ns, top⟩ (iand .i64 s (ishl 1 (n : Int) - 1)) = valueF ⟨n, ns, top⟩ (iand .i64 s (ishl 1 (n : Int) - 1)) := by simp [valV, hst]
      have hsh := shl_v (vars := (n : Int)) (by omega) (by omega)
      obtain ⟨hg, _⟩ := splE_g q3
      obtain ⟨r1, r2, r3⟩ := hR.2.2.1 _ hS
      have hat : atE t n (iand .i64 s (ishl 1 (n : Int) - 1)) = 0 := by
        rw [atE, if_pos q3, if_neg]
        have := (inN_iff hn24).1 hS
        rw [ishl_one] at *
        omega
      have hatV : atV t n (iand .i64 s (ishl 1 (n : Int) - 1)) = atT (iand .i64 s (ishl 1 (n : Int) - 1)) t 0 0 := by rw [atV, if_pos hat]
      have hm := atT_mem hg (iand .i64 s (ishl 1 (n : Int) - 1))
      have hri := lvs_in t hg ht 0 0 _ hm.1
      have hli := (leafIn_iff _ _).1 hm.2
      have hcv : ∀ x ∈ cuts, validS x = true := fun x hx => (q6 x hx).1
      have hpv : ∀ x ∈ paths, validS x = true := fun x hx => by
        have := (setE_zero hn24 (covE_zero hl1.2).2.2.1).2 x hx
        exact this.1
      refine KW.goIf lay_ok Y3_ok 100 rfl ?_ rfl trivial (fun h => absurd h ?_) fun h => ?_
      · simp only [unTr_cells, unN_nodesC, isN_nodesC, isKs_ks, true_and, and_true, ifcV_errV, hat, hst]
        simp [hin, inK, bitsI]
        omega
      · simp only [unTr_cells, unN_nodesC, hat, hst]
        simp
      clear h
      simp only [unTr_cells, unN_nodesC, hat, hst, hval, hatV]
      generalize hLe : atT (iand .i64 s (ishl 1 (n : Int) - 1)) t 0 0 = L at *
      generalize hSe : iand .i64 s (ishl 1 (n : Int) - 1) = S at *
      obtain ⟨yes, no, r⟩ := L
      simp only [showsB] at r1 r2 r3 hri hli
      simp only [inK] at hri
      refine KW.goIf lay_ok Y3_ok 100 rfl (by simp) rfl trivial (fun h => ?_) fun h => ?_
      · have h0 : 0 ≤ r := by simpa using h
        rw [if_pos h0, Bool.and_eq_true, decide_eq_true_iff, beq_iff_eq] at r1
        have hlt : r.toNat < cuts.length := by omega
        have hx := getD_mem hlt
        have hz : iandNot .i64 (cuts.getD r.toNat 0) S = 0 := by
          rw [nz_part (hcv _ hx)]
          exact ((nz_part (hcv _ hx)).1 r1.2).trans fun i hi => hli.1 i (bit_lt hi) hi
        refine KW.goRet lay_ok Y3_ok 100 rfl rfl ?_ ?_ trivial
        · simp only [SV.ren, EV.ren, hz, r2 h0]
          simp [r1.1]
        · simp [inK, h0]
      have h0 : ¬ 0 ≤ r := by simpa using h
      rw [if_neg h0, Bool.and_eq_true, decide_eq_true_iff, beq_iff_eq] at r1
      have hlt : (-1 - r).toNat < paths.length := by omega
      have hx := getD_mem hlt
      have hz : iand .i64 (paths.getD (-1 - r).toNat 0) S = 0 := iand_zero.2 fun i hi hb => hli.2 i hi ((nz_part (hpv _ hx)).1 r1.2 i hb)
      have er : -(r + 1) = -1 - r := by omega
      refine KW.goRet lay_ok Y3_ok 100 rfl rfl ?_ ?_ trivial
      · simp only [SV.ren, EV.ren, er, hz, r3 (show r < 0 by omega)]
        simp [r1.1]
      · simp only [er]
        simp [inK]
        omega
end Go.Proofs.YtocnofkagckhkaaGreatDoor
end
section
set_option linter.unusedSectionVars false
set_option linter.unusedVariables false
set_option linter.unusedSimpArgs false
attribute [local instance] Go.Sy.drwNo
namespace Go.Proofs.YtocnofkagckhkaaGreatDoor
open Go.Sy Go.Pu Go.Proofs.YtocnofkagckhkaaGreatDoor.Tr
set_option maxHeartbeats 1600000 in
theorem lawCoverRight_does (f : FormP) (c : CovP) (s : Int) (hin : FormIn f) (ht : c.tree.In) (T : Nat) : DoesF Tryz.prog 6 [.ag (formC f), .ag (covC c), iV s] [gloP 0 T] (sB true) [] := by
  refine DoesF.body _ Tryz.func6 rfl rfl rfl rfl ?_
  obtain ⟨vars, ns, top⟩ := f
  obtain ⟨cuts, paths, t⟩ := c
  refine KW.go lay_ok Y3_ok 100 rfl ?_ ?_
  · simp only [unN_nodesC, isN_nodesC, unI_ints, isI_ints, unTr_cells, isKs_ks, true_and, and_true]
    simp +contextual [hin]
  simp only [unN_nodesC, unI_ints, unTr_cells]
  cases hl : (light36F ⟨vars, ns, top⟩ ⟨cuts, paths, t⟩ && decide (covE ⟨vars, ns, top⟩ ⟨cuts, paths, t⟩ = 0)) with
  | false =>
    have hl' : light36F ⟨vars, ns, top⟩ ⟨cuts, paths, t⟩ = true → ¬ covE ⟨vars, ns, top⟩ ⟨cuts, paths, t⟩ = 0 := fun h => by simpa [h] using hl
    refine KW.skipD (bV true) rfl rfl (by simp; exact hl') rfl rfl ?_
    refine KW.goIf lay_ok Y3_ok 100 rfl (by simp) rfl trivial (fun h => ?_) fun h => absurd h (by simp; intro h1; simp [hl' h1])
    refine KW.go lay_ok Y3_ok 100 rfl (by simp) ?_
    refine KW.call0 (awake36_does T) (enters Tryz.func10 rfl rfl) [(0, 0)] [] [] (.inl rfl) rfl rfl rfl rfl rfl trivial trivial rfl ⟨rfl, trivial⟩ rfl trivial rfl rfl (.inl rfl) ?_
    exact KW.goRet lay_ok Y3_ok 100 rfl rfl rfl (by simp) trivial
  | true =>
    have hl1 : light36F ⟨vars, ns, top⟩ ⟨cuts, paths, t⟩ = true ∧ covE ⟨vars, ns, top⟩ ⟨cuts, paths, t⟩ = 0 := by simpa using hl
    have hc := light_sm hl1.1 ht
    refine KW.dupG 0 300 rfl ?_
    refine KW.call0 (awake36_does T) (enters Tryz.func10 rfl rfl) [(0, 300)] [] [] (.inr ⟨10, false, _, rfl, rfl, by simp [hl1]⟩) rfl rfl rfl rfl rfl trivial trivial rfl ⟨rfl, trivial⟩ rfl trivial rfl rfl (.inl rfl) ?_
    refine KW.goIf lay_ok Y3_ok 100 rfl (by simp) rfl trivial (fun h => absurd h (by simp [hl1])) fun h => ?_
    refine KW.goIf lay_ok Y3_ok 100 rfl ?_ rfl trivial (fun h => absurd h ?_) fun h => ?_
    · simp only [unN_nodesC, isN_nodesC, unI_ints, isI_ints, unTr_cells, isKs_ks, true_and, and_true, ifcV_errV]
      simp [hin, hc]
    · simp only [unN_nodesC, unI_ints, unTr_cells]
      simp [hl1.2]
    simp only [unN_nodesC, unI_ints, unTr_cells]
    cases hf : decide ((faultV ⟨vars, ns, top⟩ ⟨cuts, paths, t⟩).1 = 0) with
    | false =>
      refine KW.goIf lay_ok Y3_ok 100 rfl (by simp) rfl trivial (fun h => ?_) fun h => ?_
      · exact KW.goRet lay_ok Y3_ok 100 rfl rfl rfl (by simp) trivial
      · exact absurd h (by simp)
    | true =>
      refine KW.goIf lay_ok Y3_ok 100 rfl (by simp) rfl trivial (fun h => absurd h (by simp [hl1])) fun h => ?_
      have ha := of_decide_eq_true hf
      obtain ⟨n, hn, hn24, q1, q2, q3, q4, q5, q6⟩ := cov_facts hl1.2 ha
      obtain ⟨R1, R2, R3, R4, R5⟩ := cov_right hn hl1.2 ha
      simp only at hn q3 q4 q5 q6 R1 R2 R4 R5
      subst hn
      have hS := in_mask hn24 s
      have hsh := shl_v (vars := (n : Int)) (by omega) (by omega)
      have hst : stateE ⟨n, ns, top⟩ (iand .i64 s (ishl 1 (n : Int) - 1)) = 0 := by
        have := cmpl_state (f := ⟨n, ns, top⟩) q2 rfl hS false
        exact this
      have hval : valV ⟨n, ns, top⟩ (iand .i64 s (ishl 1 (n : Int) - 1)) = valueF ⟨n, ns, top⟩ (iand .i64 s (ishl 1 (n : Int) - 1)) := by simp [valV, hst]
      have hpS := pathSE_in q1 rfl hn24 hS
      have hminS : minV ⟨n, ns, top⟩ (iand .i64 s (ishl 1 (n : Int) - 1)) false = minP ⟨n, ns, top⟩ (iand .i64 s (ishl 1 (n : Int) - 1)) false n := by simp [minV, hpS]
      have hR4 := R4 _ hS
      have hR5 := R5 _ hS
      have hxs : ∀ q, q < cuts.length → pathSE ⟨n, ns, top⟩ (cuts.getD q 0) = 0 ∧ minV ⟨n, ns, top⟩ (cuts.getD q 0) false = true := fun q hq => by
        have hm := getD_mem hq
        obtain ⟨x1, x2⟩ := R1 _ hm
        have := pathSE_in (f := ⟨n, ns, top⟩) q1 rfl hn24 x1
        refine ⟨this, ?_⟩
        simp [minV, this, -List.getD_eq_getElem?_getD]
        exact x2
      have hvl : Val cuts := fun x hx => (q6 x hx).1
      generalize hSe : iand .i64 s (ishl 1 (n : Int) - 1) = S at *
      refine KW.goLpR lay_ok Y3_ok 100 rfl (I := fun q : Nat × Nat => ⟨Tryz.f6.ntmps, [(2, sI S), (3, .e (.r 3)), (4, .e (.r 4)), (10, sI q.2), (54, .e (lV cuts)), (55, sI cuts.length), (56, sI q.1)], [(3, .box 24 [iV n, .c (nodesC ns), iV top] none), (4, .box 30 [lV cuts, lV paths, iV t.v, .c t.ks, iV t.r] none)]⟩)
        (R := fun q => q.1 ≤ cuts.length ∧ q.2 = ((cuts.take q.1).filter fun x => x == S).length) (m := fun q => cuts.length - q.1) (0, 0) [(3, 3), (4, 4)] rfl rfl ⟨by rw [← hSe]; rfl, rfl, rfl, rfl, rfl, rfl, rfl, trivial⟩ ?_ ⟨Nat.zero_le _, rfl⟩ ⟨rfl, rfl, trivial⟩ ?_
      · simp [inK, bitsI]
        omega
      rintro ⟨q, k⟩ ⟨hq0, hk⟩
      simp only at hq0 hk
      refine KW.goIf lay_ok Y3_ok 100 rfl (by simp) rfl trivial (fun h => ?_) fun h => ?_
      · have hq : q < cuts.length := by simp at h; omega
        obtain ⟨x1, x2⟩ := hxs q hq
        have hgi : cuts.getD (Int.toNat (q : Int)) 0 = cuts.getD q 0 := by rw [Int.toNat_natCast]
        have htk : cuts.take (q + 1) = cuts.take q ++ [cuts.getD q 0] := by rw [List.take_add_one, List.getD_eq_getElem?_getD, List.getElem?_eq_getElem hq]; rfl
        have hkl : k ≤ q := by
          rw [hk]
          exact Nat.le_trans (List.length_filter_le _ _) (by simp; omega)
        refine KW.goIf lay_ok Y3_ok 100 rfl ?_ rfl trivial (fun h => absurd h ?_) fun h => ?_
        · simp only [unN_nodesC, isN_nodesC, hgi, x1, true_and, and_true, ifcV_errV]
          simp [hin, hq, inK, -List.getD_eq_getElem?_getD]
        · simp only [unN_nodesC, hgi, x1, x2]
          simp
        clear h
        simp only [unN_nodesC, hgi, x1, x2]
        generalize cuts.getD q 0 = x at *
        refine KW.goIf lay_ok Y3_ok 100 rfl (by simp) rfl trivial (fun h => ?_) fun h => ?_
        · refine KW.goToR lay_ok Y3_ok 100 rfl (q + 1, k + 1) [(3, 3), (4, 4)] rfl rfl ⟨rfl, rfl, rfl, rfl, rfl, rfl, rfl, trivial⟩ (by simp [inK]; omega) ⟨⟨by simp only; omega, ?_⟩, by simp only; omega⟩ ⟨rfl, rfl, trivial⟩
          have hb : (x == S) = true := h
          simp only [htk, List.filter_append, List.filter_cons, hb, if_true, List.length_append, ← hk]
          rfl
        · refine KW.goToR lay_ok Y3_ok 100 rfl (q + 1, k) [(3, 3), (4, 4)] rfl rfl ⟨rfl, rfl, rfl, rfl, rfl, rfl, rfl, trivial⟩ (by simp [inK]; omega) ⟨⟨by simp only; omega, ?_⟩, by simp only; omega⟩ ⟨rfl, rfl, trivial⟩
          have hb : (x == S) = false := h
          simp only [htk, List.filter_append, List.filter_cons, hb, List.length_append, ← hk]
          simp
      have hq : q = cuts.length := by simp at h; omega
      subst hq
      rw [List.take_length] at hk
      have hcnt := count_one (p := fun x => x == S) (a := S) R2 (fun c _ => by simp)
      rw [← hk] at hcnt
      refine KW.goOut lay_ok Y3_ok 100 rfl (by simp) ?_
      have hE : listE cuts = 0 := listE_zero q4 hvl
      have hany : (cuts.any fun t => subS t S) = valueF ⟨n, ns, top⟩ S := by
        rw [Bool.eq_iff_iff, any_cov hvl S]
        exact hR4.symm
      have hk2 : k = if minP ⟨n, ns, top⟩ S false n = true then 1 else 0 := by
        rw [hcnt]
        by_cases hm : minP ⟨n, ns, top⟩ S false n = true
        · rw [if_pos hm, if_pos (hR5 hm)]
        · rw [if_neg hm, if_neg fun h => hm (R1 _ h).2]
      have hkr : k ≤ 1 := by rw [hk2]; split <;> omega
      refine KW.goRet lay_ok Y3_ok 100 rfl rfl ?_ ?_ trivial
      · simp only [SV.ren, EV.ren, unN_nodesC, unI_ints, hpS, hminS, hst, hval, hE, hS.1, hany]
        rw [hk2]
        cases minP ⟨n, ns, top⟩ S false n <;> simp
      · simp only [unN_nodesC, isN_nodesC, unI_ints, isI_ints, hpS, hminS, hst, hval, hE, hS.1, true_and, and_true, ifcV_errV]
        simp +contextual [hin, inK, hany]
        cases minP ⟨n, ns, top⟩ S false n <;> simp
end Go.Proofs.YtocnofkagckhkaaGreatDoor
end
