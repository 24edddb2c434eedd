/-
  The reference's path sets of a formula: the same as the program's; and the law PathsAll.
-/
import Derived.Test.YtpjhpcclbenfbaaFqI
set_option linter.unusedVariables false
set_option linter.unusedSimpArgs false
namespace Go.Pu
open Go.Sy
theorem markN_low (n : Nat) (ns : List NodeP) (c : Nat → Int → Bool) : ∀ (i : Nat) {m : List Bool}, (∀ q, q < i → m.getD (n + q) false = false) → markN n ns c i m = m
  | 0, m, _ => rfl
  | i + 1, m, h => by
    rw [markN, if_neg (by rw [h i (by omega)]; simp), markN_low n ns c i fun q hq => h q (by omega)]
theorem below_low {f : FormP} (ok : FormOk f) (ht : f.top < f.vars) : ∀ q, (belowF f).getD (f.vars.toNat + q) false = false := fun q => by
  have h1 := ok.top
  have h2 := ok.vars
  have h0 : ∀ q, (mark0 f).getD (f.vars.toNat + q) false = false := fun q => by
    rw [mark0, List.getD_eq_getElem?_getD, List.getElem?_set_ne (by omega), List.getElem?_replicate]
    split <;> rfl
  rw [belowF, marksF, markN_low _ _ _ _ fun q _ => h0 q]
  exact h0 q
theorem runR_low {n : Nat} {ns : List NodeP} {m : List Bool} (h : ∀ q, m.getD (n + q) false = false) : ∀ i, runR n ns m i = (List.replicate ns.length [], 0)
  | 0 => rfl
  | i + 1 => by rw [runR_succ, runR_low h i, if_pos rfl, if_neg (by rw [h i]; simp)]
theorem runR_bad {n : Nat} {ns : List NodeP} {m : List Bool} {i : Nat} (h : ¬ (runR n ns m i).2 = 0) : ∀ j, runR n ns m (i + j) = runR n ns m i
  | 0 => rfl
  | j + 1 => by rw [← Nat.add_assoc, runR_succ, runR_bad h j, if_neg h]
end Go.Pu
namespace Go.Proofs.Ytpjhpcclbenfbaa
open Go.Sy Go.Pu

/-- the program's way and the reference's -/
theorem paths_run {f : FormP} (ok : FormOk f) (hc : cohF f = true) (h0 : formE f = 0) : pathsE f = (runR f.vars.toNat f.nodes (belowF f) f.nodes.length).2 ∧
    ((runR f.vars.toNat f.nodes (belowF f) f.nodes.length).2 = 0 → pathsL f = argR f.vars.toNat (runR f.vars.toNat f.nodes (belowF f) f.nodes.length).1 f.top) := by
  have htop := ok.top
  have hv := ok.vars
  obtain ⟨r1, r2⟩ := run_eq (below_closed ok) f.nodes.length (Nat.le_refl _)
  refine ⟨r1, fun hz => ?_⟩
  obtain ⟨_, r3⟩ := r2 hz
  obtain ⟨k1, k2, k3⟩ := r3 f.top.toNat (by omega) (marksF_top ok _)
  rw [Int.toNat_of_nonneg htop.1] at k3
  rw [k3, pathsL, if_pos (by rw [← hz, ← r1]; rfl)]
  rfl

theorem rpaths34_does (f : FormP) (hin : FormIn f) : DoesF Try.prog 35 [.ag (formC f)] [] (.tup [lV (pathsV f).1, iV (pathsV f).2]) [] := by
  refine DoesF.body _ Try.func35 rfl rfl rfl rfl ?_
  obtain ⟨vars, ns, top⟩ := f
  refine KW.goIf lay_ok J7_ok 100 rfl (by simp [hin]) rfl trivial (fun h => ?_) fun h => ?_
  · simp only [unN_nodesC] at h
    have h1 : ¬ pathE ⟨vars, ns, top⟩ = 0 := by
      have e : (pathE ⟨vars, ns, top⟩ != 0) = true := h
      simpa using e
    refine KW.go lay_ok J7_ok 100 rfl (by simp) ?_
    refine KW.conv 2 (ints []) rfl ⟨rfl, rfl⟩ ?_
    rw [pathsV, if_neg h1]
    simp only [unN_nodesC]
    exact KW.fin [] rfl rfl rfl trivial
  simp only [unN_nodesC] at h
  have h1 : pathE ⟨vars, ns, top⟩ = 0 := by
    have e : (pathE ⟨vars, ns, top⟩ != 0) = false := h
    simpa using e
  have h02 : formE ⟨vars, ns, top⟩ = 0 ∧ cohF ⟨vars, ns, top⟩ = true := by
    unfold pathE at h1
    split at h1
    · rename_i h0
      split at h1
      · rename_i hc; exact ⟨h0, hc⟩
      · cases h1
    · rename_i h0; exact absurd h1 h0
  obtain ⟨h0, hc⟩ := h02
  have ok := formE_ok h0
  have hv := ok.vars
  have htop := ok.top
  have hlen := ok.len
  obtain ⟨p1, p2⟩ := paths_run ok hc h0
  have hcoh := fun (q : Nat) (hq : q < ns.length) hm => coh_node (f := ⟨vars, ns, top⟩) hc (q := q) hq hm
  have hmk := below_closed ok
  have hnk := ok.nodes
  have hlow := below_low ok
  have hbl := belowF_length ⟨vars, ns, top⟩
  simp only at hv htop hlen p1 p2 hcoh hmk hnk hlow hbl
  obtain ⟨n, rfl⟩ := Int.eq_ofNat_of_zero_le hv.1
  obtain ⟨tp, rfl⟩ := Int.eq_ofNat_of_zero_le htop.1
  simp only [Int.toNat_natCast] at p1 p2 hcoh hmk hnk hlow hbl
  rw [pathsV, if_pos h1]
  refine KW.goIf lay_ok J7_ok 100 rfl (by simp) rfl trivial (fun h => ?_) fun h => ?_
  · have hlt : tp < n := by simpa using h
    rw [runR_low (hlow (by omega))] at p1 p2
    have hone : ishl 1 (tp : Int) = Go.Pu.one tp := rfl
    have hor := validS_iff.1 (one_valid (show tp < 24 by omega))
    have e1 : pathsL ⟨n, ns, tp⟩ = [Go.Pu.one tp] := by rw [p2 rfl, argR, if_pos (by omega)]; rfl
    rw [p1, e1]
    refine KW.go lay_ok J7_ok 100 rfl (by simp [inK, bitsI]; rw [hone]; omega) ?_
    refine KW.frz 24 [2] rfl rfl rfl ?_
    exact KW.fin [] rfl rfl rfl trivial
  have hge : n ≤ tp := by simp at h; omega
  generalize hM : belowF ⟨n, ns, tp⟩ = M at *
  refine KW.go lay_ok J7_ok 100 rfl (by simp [inK, hin, h0, hM]; omega) ?_
  simp only [unN_nodesC, hM]
  refine KW.convR 28 (lsC (List.replicate ns.length [])) rfl (g := fun e q => ints ((List.replicate ns.length ([] : List Int)).getD e [])) ?_ (fun e q he hq => ?_) ?_
  · show rows 1 (fun x _ => ints x) [] (List.replicate ns.length []) = _
    rw [rows, List.length_replicate]; rfl
  · have : q = 0 := by omega
    subst this
    have e2 : (List.replicate ns.length ([] : List Int)).getD e [] = [] := by
      rw [List.getD_eq_getElem?_getD, List.getElem?_replicate]
      split <;> rfl
    rw [e2]
    exact ⟨rfl, rfl⟩
  refine KW.goLpR lay_ok J7_ok 100 rfl (I := fun q : Nat × List (List Int) => ⟨Try.f35.ntmps, [(1, .e (.r 1)), (5, .e (.r 5)), (6, .e (blV M)), (32, .e (.c (nodesC ns))), (33, sI ns.length), (34, sI q.1)],
      [(1, .box 24 [iV n, .c (nodesC ns), iV tp] none), (5, .own 45 (lsC q.2))]⟩)
    (R := fun q => q.1 ≤ ns.length ∧ q.2.length = ns.length ∧ runR n ns M q.1 = (q.2, 0)) (m := fun q => ns.length - q.1) (0, List.replicate ns.length []) [(1, 1), (5, 28)] rfl rfl ⟨rfl, rfl, rfl, rfl, rfl, rfl, trivial⟩ (by simp) ⟨Nat.zero_le _, by simp, rfl⟩ ⟨rfl, rfl, trivial⟩ ?_
  rintro ⟨q, tab⟩ ⟨g1, g2, g3⟩
  simp only at g1 g2 g3
  refine KW.goIf lay_ok J7_ok 100 rfl (by simp) rfl trivial (fun h => ?_) fun h => ?_
  · have hq : q < ns.length := by simpa using h
    have hX : ns.getD (Int.toNat (q : Int)) node0 = ns[q] := by simp [List.getD_eq_getElem?_getD, hq]
    have hXq : ns.getD q node0 = ns[q] := by simp [List.getD_eq_getElem?_getD, hq]
    have hML : M.length = n + ns.length := hbl
    have hMg : M.getD (Int.toNat ((n : Int) + (q : Int))) false = M.getD (n + q) false := by rw [show Int.toNat ((n : Int) + (q : Int)) = n + q by omega]
    have okX := hnk q hq
    have hcX := hcoh q hq
    have hmX := hmk q hq
    have e2 := runR_succ n ns M q
    rw [g3, hXq] at e2
    simp only [if_true] at e2
    generalize hYY : ns[q] = Y at hX hXq okX hcX hmX e2
    refine KW.goIf lay_ok J7_ok 100 rfl (by simp [hq, hML, inK]; omega) rfl trivial (fun h => ?_) fun h => ?_
    · have hm : ¬ M.getD (n + q) false = true := by
        simp only [hMg] at h
        simpa using h
      rw [if_neg hm] at e2
      exact KW.goToR lay_ok J7_ok 100 rfl (q + 1, tab) [(1, 1), (5, 5)] rfl rfl ⟨rfl, rfl, rfl, rfl, rfl, rfl, trivial⟩ (by simp [inK]; omega) ⟨⟨by simp only; omega, g2, e2⟩, by simp only; omega⟩ ⟨rfl, rfl, trivial⟩
    · have hm : M.getD (n + q) false = true := by
        simp only [hMg] at h
        simpa using h
      rw [if_pos hm] at e2
      obtain ⟨c1, c5⟩ := hcX hm
      have hkd := okX.kind
      have hkk := okX.k
      have h16 := argsB_le okX.cnt
      have hkind : Y.kind = 0 ∧ (Y.k = 0 ∨ Y.k = 1) ∨ Y.kind = 2 ∨ Y.kind = 3 ∨ Y.kind = 4 ∧ 1 ≤ Y.k ∧ Y.k ≤ Y.args.length := by
        unfold kE at hkk
        by_cases k0 : Y.kind = 0
        · rw [if_pos k0] at hkk
          split at hkk
          · cases hkk
          · exact .inl ⟨k0, by omega⟩
        · rw [if_neg k0] at hkk
          by_cases k4 : Y.kind = 4
          · rw [if_pos k4] at hkk
            split at hkk
            · cases hkk
            · exact .inr (.inr (.inr ⟨k4, by omega, by omega⟩))
          · omega
      have D := rnode34_does ⟨n, ns, tp⟩ Y tab n rfl (by omega) hkind h16 (fun a ha => by obtain ⟨_, a1, a2⟩ := hmX hm a ha; exact ⟨a1, by omega⟩) (by omega)
      generalize hPP : nodePS Y.kind Y.k (Y.args.map (argR n tab)) = PP at D e2
      obtain ⟨pl, pe⟩ := PP
      simp only at D e2
      rw [← hX] at D
      refine KW.go lay_ok J7_ok 100 rfl (by simp [hq]) ?_
      refine KW.callK0 D (enters Try.func80 rfl rfl) [(2, 5)] [(2, 5)] [] (.inl rfl) rfl rfl rfl rfl rfl trivial
        ⟨⟨_, _, rfl, trivial, (show Mt _ _ _ (EV.ren [(2, 5)] (.ag _)) (.ag _) from .same)⟩, ⟨_, _, rfl, trivial, (show Mt _ _ _ (EV.ren [(2, 5)] (.ag _)) (.ag _) from .same)⟩, ⟨_, _, rfl, trivial, (show Mt _ _ _ (EV.ren [(2, 5)] (.r 2)) (.r 2) from .same)⟩, trivial⟩ rfl ⟨rfl, trivial⟩ rfl ⟨.inr ⟨rfl, .inl rfl⟩, trivial⟩ rfl rfl (.inl rfl) ?_
      refine KW.goIf lay_ok J7_ok 100 rfl (by simp) rfl trivial (fun h => ?_) fun h => ?_
      · have hpe : ¬ pe = 0 := by simpa using h
        rw [if_neg hpe] at e2
        have e3 : runR n ns M ns.length = ([], pe) := by
          have := runR_bad (i := q + 1) (by rw [e2]; exact hpe) (ns.length - (q + 1))
          rw [show q + 1 + (ns.length - (q + 1)) = ns.length by omega, e2] at this
          exact this
        rw [e3] at p1
        have eL : pathsL ⟨n, ns, tp⟩ = [] := by rw [pathsL, if_neg (by rw [p1]; exact hpe)]
        refine KW.goOutR lay_ok J7_ok 100 rfl (by simp) ?_
        refine KW.go lay_ok J7_ok 100 rfl (by simp) ?_
        refine KW.conv 2 (ints []) rfl ⟨rfl, rfl⟩ ?_
        rw [p1, eL]
        exact KW.fin [] rfl rfl rfl trivial
      · have hpe : pe = 0 := by simpa using h
        rw [if_pos hpe] at e2
        refine KW.go lay_ok J7_ok 100 rfl (by simp [inK]; omega) (KW.updG 5 pl rfl rfl (fun p hp => ?_) (KW.to (q + 1, tab.set q pl) ⟨⟨by simp only; omega, by simp only [List.length_set]; exact g2, e2⟩, by simp only; omega⟩ [(1, 1), (5, 5)] ⟨rfl, rfl, ⟨rfl, rfl, rfl, rfl, rfl, rfl, trivial⟩, ⟨rfl, ?_, trivial⟩⟩))
        · have : p = 0 := by omega
          subst this
          exact CVEq.refl _
        · rfl
  have hqe : q = ns.length := by simp at h; omega
  rw [hqe] at g3
  rw [g3] at p1 p2
  have e1 : pathsL ⟨n, ns, tp⟩ = tab.getD (Int.toNat ((tp : Int) - (n : Int))) [] := by rw [p2 rfl, argR, if_neg (by omega)]
  rw [p1, e1]
  refine KW.goOut lay_ok J7_ok 100 rfl (by simp) ?_
  refine KW.goRet lay_ok J7_ok 100 rfl rfl rfl (by simp [inK]; omega) trivial

def J8 : Fns := (35, fF (fun f => .tup [lV (pathsV f).1, iV (pathsV f).2]) FormIn) ::
  (39, fF (fun f => sB (light34F f && decide (pathE f = 0))) FormIn) ::
  J7
theorem J8_ok : FnsOk Try.prog J8 := .cons (.cons (J7_ok) Try.func39 rfl rfl (fF_ok fun f h => valid34_does f h)) Try.func35 rfl rfl (fF_ok fun f h => rpaths34_does f h)


theorem lawPathsAll_does (f : FormP) (hin : FormIn f) : DoesF Try.prog 8 [.ag (formC f)] [] (sB true) [] := by
  refine DoesF.body _ Try.func8 rfl rfl rfl rfl ?_
  obtain ⟨vars, ns, top⟩ := f
  refine KW.goIf lay_ok J8_ok 100 rfl (by simp [hin]) rfl trivial (fun h => ?_) fun h => ?_
  · exact KW.goRet lay_ok J8_ok 100 rfl rfl rfl (by simp) trivial
  · refine KW.goRet lay_ok J8_ok 200 rfl rfl ?_ ?_ trivial
    · simp [SV.ren, EV.ren]
    · simp +contextual [hin]
end Go.Proofs.Ytpjhpcclbenfbaa
