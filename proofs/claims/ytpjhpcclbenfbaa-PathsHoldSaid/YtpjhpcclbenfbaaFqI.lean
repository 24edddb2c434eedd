/-
  Path sets of a node: the reference's.
-/
import Derived.Test.YtpjhpcclbenfbaaFqE
set_option linter.unusedVariables false
set_option linter.unusedSimpArgs false
namespace Go.Proofs.Ytpjhpcclbenfbaa
open Go.Sy Go.Pu

theorem rnode34_does (f : FormP) (x : NodeP) (bef : List (List Int)) (n : Nat) (hn : f.vars = n) (hn24 : n ≤ 24) (hk : x.kind = 0 ∧ (x.k = 0 ∨ x.k = 1) ∨ x.kind = 2 ∨ x.kind = 3 ∨ x.kind = 4 ∧ 1 ≤ x.k ∧ x.k ≤ x.args.length) (hl : x.args.length ≤ 16) (ha : ∀ a ∈ x.args, 0 ≤ a ∧ a < n + bef.length) (ht : bef.length ≤ 128) :
    DoesK Try.prog 80 [.ag (formC f), .ag (nodeK x), .r 2] [(2, .own 45 (lsC bef))] (.tup [lV (nodePS x.kind x.k (x.args.map (argR n bef))).1, iV (nodePS x.kind x.k (x.args.map (argR n bef))).2]) [(2, .own 45 (lsC bef))] [2] := by
  refine DoesK.body _ [(2, 2)] Try.func80 rfl rfl rfl rfl ⟨rfl, rfl, trivial⟩ rfl ?_
  obtain ⟨vars, ns, top⟩ := f
  obtain ⟨kind, kk, args⟩ := x
  simp only at hn hk hl ha ⊢
  subst hn
  refine KW.go lay_ok J7_ok 100 rfl (by simp) ?_
  refine KW.nilO 8 202 45 (lsC []) rfl rfl rfl ?_
  refine KW.goLpR lay_ok J7_ok 100 rfl (I := fun j : Nat => ⟨Try.f80.ntmps, [(2, .e (.r 2)), (3, .e (.r 3)), (4, .e (.r 4)), (8, .e (.r 202)), (30, .e (lV args)), (31, sI args.length), (32, sI j)],
      [(2, .own 45 (lsC bef)), (3, .box 24 [iV n, .c (nodesC ns), iV top] none), (4, .box 71 [iV kind, iV kk, .c (ints args)] none), (202, .own 45 (lsC ((args.take j).map (argR n bef))))]⟩)
    (R := fun j => j ≤ args.length) (m := fun j => args.length - j) 0 [(2, 2), (3, 3), (4, 4), (202, 202)] rfl rfl ⟨rfl, rfl, rfl, rfl, rfl, rfl, rfl, trivial⟩ (by simp) (Nat.zero_le _) ⟨rfl, rfl, rfl, rfl, trivial⟩ ?_
  rintro j hj0
  refine KW.goIf lay_ok J7_ok 100 rfl (by simp) rfl trivial (fun h => ?_) fun h => ?_
  · have hj : j < args.length := by simpa using h
    have hg : args.getD (Int.toNat (j : Int)) 0 = args[j] := by simp [List.getD_eq_getElem?_getD, hj]
    have hz := ha _ (List.getElem_mem hj)
    have htk : args.take (j + 1) = args.take j ++ [args[j]] := by rw [List.take_add_one, List.getElem?_eq_getElem hj]; rfl
    generalize args[j] = a at hg hz htk
    refine KW.goIf lay_ok J7_ok 100 rfl (by simp [hj]) rfl trivial (fun h => ?_) fun h => ?_
    · simp only [hg] at h
      have hlt : a < n := by simpa using h
      obtain ⟨b, rfl⟩ := Int.eq_ofNat_of_zero_le hz.1
      have hor := validS_iff.1 (one_valid (show b < 24 by omega))
      have hone : ishl 1 (b : Int) = Go.Pu.one b := rfl
      have e : argR n bef (b : Int) = [Go.Pu.one b] := by rw [argR, if_pos hlt]; rfl
      refine KW.go lay_ok J7_ok 100 rfl (by simp only [hg, hone]; simp [inK, bitsI]; omega) ?_
      refine KW.frz1 43 rfl rfl rfl ?_
      refine KW.go lay_ok J7_ok 100 rfl (by simp [inK, List.length_take]; omega) (KW.catG 45 [Go.Pu.one b] rfl (fun p hp => ?_) (KW.to (j + 1) ⟨by omega, by omega⟩ [(2, 2), (3, 3), (4, 4), (202, 45)] ⟨rfl, rfl, ⟨rfl, rfl, rfl, rfl, rfl, rfl, rfl, trivial⟩, ⟨rfl, rfl, rfl, ?_, trivial⟩⟩))
      · have : p = 0 := by omega
        subst this
        simp only [hg, hone]
        exact CVEq.refl _
      · rw [htk, List.map_append, show ([(b : Int)].map (argR n bef)) = [[Go.Pu.one b]] by simp [e]]; rfl
    · simp only [hg] at h
      have hlt : ¬ a < n := by simpa using h
      have e : argR n bef a = bef.getD (a - n).toNat [] := by rw [argR, if_neg hlt]
      refine KW.go lay_ok J7_ok 100 rfl (by simp only [hg]; simp [inK, List.length_take]; omega) (KW.catG 55 (argR n bef a) rfl (fun p hp => ?_) (KW.to (j + 1) ⟨by omega, by omega⟩ [(2, 2), (3, 3), (4, 4), (202, 55)] ⟨rfl, rfl, ⟨rfl, rfl, rfl, rfl, rfl, rfl, rfl, trivial⟩, ⟨rfl, rfl, rfl, ?_, trivial⟩⟩))
      · have : p = 0 := by omega
        subst this
        simp only [hg, e]
        exact CVEq.refl _
      · rw [htk, List.map_append]; rfl
  have hj : j = args.length := by simp at h; omega
  subst hj
  refine KW.goOut lay_ok J7_ok 100 rfl (by simp) ?_
  refine KW.frz 202 [8] rfl rfl rfl ?_
  simp only [List.take_length]
  refine KW.conv 8 (intss (args.map (argR n bef))) rfl (CVEq.refl _) ?_
  have hrl : (args.map (argR n bef)).length = args.length := by simp
  generalize args.map (argR n bef) = rws at hrl
  refine KW.goIf lay_ok J7_ok 100 rfl (by simp) rfl trivial (fun h => ?_) fun h => ?_
  · have k0 : kind = 0 := by simpa using h
    subst k0
    refine KW.goIf lay_ok J7_ok 100 rfl (by simp) rfl trivial (fun h => ?_) fun h => ?_
    · have k1 : kk = 1 := by simpa using h
      refine KW.go lay_ok J7_ok 100 rfl (by simp) ?_
      refine KW.conv 6 (ints []) rfl ⟨rfl, rfl⟩ ?_
      have e : nodePS 0 kk rws = ([], 0) := by simp [nodePS, k1]
      rw [e]
      exact KW.finK [(2, 2)] rfl rfl rfl ⟨rfl, trivial⟩ ⟨rfl, trivial⟩
    · have k1 : kk = 0 := by
        have : ¬ kk = 1 := by simpa using h
        omega
      have e : nodePS 0 kk rws = ([0], 0) := by simp [nodePS, k1]
      rw [e]
      refine KW.go lay_ok J7_ok 100 rfl (by simp) ?_
      refine KW.frz 64 [6] rfl rfl rfl ?_
      exact KW.finK [(2, 2)] rfl rfl rfl ⟨rfl, trivial⟩ ⟨rfl, trivial⟩
  have k0 : ¬ kind = 0 := by simpa using h
  refine KW.goIf lay_ok J7_ok 100 rfl (by simp) rfl trivial (fun h => ?_) fun h => ?_
  · have k2 : kind = 2 := by simpa using h
    have e0 : nodePS kind kk rws = foldP plusP rws [] := by simp [nodePS, k2]
    rw [e0]
    refine KW.go lay_ok J7_ok 100 rfl (by simp) ?_
    refine KW.conv 11 (ints []) rfl ⟨rfl, rfl⟩ ?_
    refine KW.len 67 rfl rfl fun hbig => ?_
    refine KW.goLpR lay_ok J7_ok 100 rfl (I := fun q : Nat × List Int => ⟨Try.f80.ntmps, [(2, .e (.r 2)), (11, .e (lV q.2)), (67, .e (.c (intss rws))), (68, sI rws.length), (69, sI q.1)], [(2, .own 45 (lsC bef))]⟩)
      (R := fun q => q.1 ≤ rws.length ∧ foldP plusP (rws.drop q.1) q.2 = foldP plusP rws []) (m := fun q => rws.length - q.1) (0, []) [(2, 2)] rfl rfl ⟨rfl, rfl, rfl, rfl, rfl, trivial⟩ (by simp) ⟨Nat.zero_le _, rfl⟩ ⟨rfl, trivial⟩ ?_
    rintro ⟨q, acc⟩ ⟨g1, g2⟩
    simp only at g1 g2
    refine KW.goIf lay_ok J7_ok 100 rfl (by simp) rfl trivial (fun h => ?_) fun h => ?_
    · have hq : q < rws.length := by simpa using h
      have hg : rws.getD (Int.toNat (q : Int)) [] = rws[q] := by simp [List.getD_eq_getElem?_getD, hq]
      rw [List.drop_eq_getElem_cons hq, foldP] at g2
      generalize rws[q] = r at hg g2
      refine KW.goIf lay_ok J7_ok 100 rfl (by simp [hq]) rfl trivial (fun h => ?_) fun h => ?_
      · simp only [unI_ints, hg] at h
        have e : ¬ (plusP acc r).2 = 0 := by
          have e : ((plusP acc r).2 != 0) = true := h
          simpa using e
        rw [if_neg e] at g2
        refine KW.goOutR lay_ok J7_ok 100 rfl (by simp) ?_
        refine KW.go lay_ok J7_ok 100 rfl (by simp) ?_
        refine KW.conv 6 (ints []) rfl ⟨rfl, rfl⟩ ?_
        simp only [unI_ints, hg]
        rw [← g2]
        exact KW.finK [(2, 2)] rfl rfl rfl ⟨rfl, trivial⟩ ⟨rfl, trivial⟩
      · simp only [unI_ints, hg] at h
        have e : (plusP acc r).2 = 0 := by
          have e : ((plusP acc r).2 != 0) = false := h
          simpa using e
        rw [if_pos e] at g2
        refine KW.goToR lay_ok J7_ok 100 rfl (q + 1, (plusP acc r).1) [(2, 2)] rfl rfl ⟨rfl, ?_, rfl, rfl, rfl, trivial⟩ (by simp [inK]; omega) ⟨⟨by simp only; omega, g2⟩, by simp only; omega⟩ ⟨rfl, trivial⟩
        simp only [unI_ints, hg]; rfl
    · have hq : q = rws.length := by simp at h; omega
      rw [hq, List.drop_length] at g2
      refine KW.goOut lay_ok J7_ok 100 rfl (by simp) ?_
      refine KW.goRetK lay_ok J7_ok 100 rfl [(2, 2)] rfl rfl ?_ (by simp) (by exact ⟨rfl, trivial⟩) (by exact ⟨rfl, trivial⟩)
      rw [← g2]; rfl
  have k2 : ¬ kind = 2 := by simpa using h
  refine KW.goIf lay_ok J7_ok 100 rfl (by simp) rfl trivial (fun h => ?_) fun h => ?_
  · have k4 : kind = 4 := by simpa using h
    have e0 : nodePS kind kk rws = voteP rws ((rws.length : Int) - kk + 1).toNat := by simp [nodePS, k4]
    obtain ⟨k, hkk⟩ := Int.eq_ofNat_of_zero_le (show 0 ≤ (rws.length : Int) - kk + 1 by omega)
    rw [e0, hkk, Int.toNat_natCast]
    have hk : k ≤ 1000 := by omega
    refine KW.goIf lay_ok J7_ok 100 rfl (by simp [inK]; omega) rfl trivial (fun h => ?_) fun h => ?_
    · exact absurd k4 (by have : kind = 3 := by simpa using h
                          omega)
    refine KW.go lay_ok J7_ok 100 rfl (by simp [inK]; omega) ?_
    simp only [hkk]
    refine KW.frz 122 [122] rfl rfl rfl ?_
    refine KW.convR 120 (lsC (List.replicate (k + 1) [])) rfl (g := fun e q => ints ((List.replicate (k + 1) ([] : List Int)).getD e [])) ?_ (fun e q he hq => ?_) ?_
    · show rows 1 (fun x _ => ints x) [] (List.replicate (k + 1) []) = _
      rw [rows, List.length_replicate, show Int.toNat ((k : Int) + 1) = k + 1 by omega]
    · have : q = 0 := by omega
      subst this
      have e2 : (List.replicate (k + 1) ([] : List Int)).getD e [] = [] := by
        rw [List.getD_eq_getElem?_getD, List.getElem?_replicate]
        split <;> rfl
      rw [e2]
      exact ⟨rfl, rfl⟩
    refine KW.go lay_ok J7_ok 100 rfl (by simp) ?_
    refine KW.updG 120 [0] rfl rfl (fun q hq => ?_) ?_
    · have : q = 0 := by omega
      subst this
      exact CVEq.refl _
    refine KW.len 124 rfl rfl fun hbig => ?_
    have ht0 : (List.replicate (k + 1) ([] : List Int)).set 0 [0] = tab0 k := rfl
    rw [show Int.toNat (0 : Int) = 0 from rfl, ht0]
    refine KW.goLpR lay_ok J7_ok 100 rfl (I := fun q : Nat × List (List Int) => ⟨Try.f80.ntmps, [(2, .e (.r 2)), (16, sI k), (22, .e (.r 22)), (124, .e (.c (intss rws))), (125, sI rws.length), (126, sI q.1)], [(2, .own 45 (lsC bef)), (22, .own 45 (lsC q.2))]⟩)
      (R := fun q => q.1 ≤ rws.length ∧ q.2.length = k + 1 ∧ voteR k (rws.drop q.1) q.2 = voteR k rws (tab0 k)) (m := fun q => rws.length - q.1) (0, tab0 k) [(2, 2), (22, 120)] rfl rfl ⟨rfl, rfl, rfl, rfl, rfl, rfl, trivial⟩ (by simp) ⟨Nat.zero_le _, by simp [tab0], rfl⟩ ⟨rfl, rfl, trivial⟩ ?_
    rintro ⟨q, tab⟩ ⟨g1, g2, g3⟩
    simp only at g1 g2 g3
    have ev : voteP rws k = if (voteR k rws (tab0 k)).2 = 0 then ((voteR k rws (tab0 k)).1.getD k [], 0) else ([], (voteR k rws (tab0 k)).2) := rfl
    refine KW.goIf lay_ok J7_ok 100 rfl (by simp) rfl trivial (fun h => ?_) fun h => ?_
    · have hq : q < rws.length := by simpa using h
      have hg : rws.getD (Int.toNat (q : Int)) [] = rws[q] := by simp [List.getD_eq_getElem?_getD, hq]
      rw [List.drop_eq_getElem_cons hq, voteR] at g3
      generalize rws[q] = r at hg g3
      refine KW.goLpR lay_ok J7_ok 100 rfl (I := fun p : Nat × List (List Int) => ⟨Try.f80.ntmps, [(2, .e (.r 2)), (16, sI k), (22, .e (.r 22)), (24, .e (lV r)), (25, sI p.1), (124, .e (.c (intss rws))), (125, sI rws.length), (126, sI q)], [(2, .own 45 (lsC bef)), (22, .own 45 (lsC p.2))]⟩)
        (R := fun p => p.1 ≤ k ∧ p.2.length = k + 1 ∧ voteJ r p.1 p.2 = voteJ r k tab) (m := fun p => p.1) (k, tab) [(2, 2), (22, 22)] rfl rfl ⟨rfl, rfl, rfl, by rw [← hg]; rfl, rfl, rfl, rfl, rfl, trivial⟩ (by simp [hq]) ⟨Nat.le_refl _, g2, rfl⟩ ⟨rfl, rfl, trivial⟩ ?_
      rintro ⟨j, tb⟩ ⟨r1, r2, r3⟩
      simp only at r1 r2 r3
      refine KW.goIf lay_ok J7_ok 100 rfl (by simp) rfl trivial (fun h => ?_) fun h => ?_
      · obtain ⟨j, rfl⟩ : ∃ j', j = j' + 1 := ⟨j - 1, by simp at h; omega⟩
        have hj1 : Int.toNat (((j + 1 : Nat) : Int) - 1) = j := by omega
        rw [voteJ] at r3
        refine KW.goIf lay_ok J7_ok 100 rfl ?_ rfl trivial (fun h => ?_) fun h => ?_
        · simp only [r2, isI_ints, ifcV_errV, inK, true_and, and_true]
          omega
        · simp only [unI_ints, hj1] at h
          have e : ¬ (prodP (tb.getD j []) r).2 = 0 := by
            have e : ((prodP (tb.getD j []) r).2 != 0) = true := h
            simpa using e
          rw [if_neg e] at r3
          have e3 : (voteR k rws (tab0 k)) = ([], (prodP (tb.getD j []) r).2) := by
            rw [← g3, ← r3, if_neg e]
          refine KW.goOutR lay_ok J7_ok 100 rfl (by simp) ?_
          refine KW.goOutR lay_ok J7_ok 100 rfl (by simp) ?_
          refine KW.go lay_ok J7_ok 100 rfl (by simp) ?_
          refine KW.conv 6 (ints []) rfl ⟨rfl, rfl⟩ ?_
          simp only [unI_ints, hj1]
          rw [ev, e3, if_neg e]
          exact KW.finK [(2, 2)] rfl rfl rfl ⟨rfl, trivial⟩ ⟨rfl, trivial⟩
        · simp only [unI_ints, hj1] at h
          have e : (prodP (tb.getD j []) r).2 = 0 := by
            have e : ((prodP (tb.getD j []) r).2 != 0) = false := h
            simpa using e
          rw [if_pos e] at r3
          refine KW.goIf lay_ok J7_ok 100 rfl ?_ rfl trivial (fun h => ?_) fun h => ?_
          · simp only [r2, isI_ints, ifcV_errV, inK, true_and, and_true]
            omega
          · simp only [unI_ints, hj1, Int.toNat_natCast] at h
            have e2 : ¬ (plusP (tb.getD (j + 1) []) (prodP (tb.getD j []) r).1).2 = 0 := by
              have e : ((plusP (tb.getD (j + 1) []) (prodP (tb.getD j []) r).1).2 != 0) = true := h
              simpa using e
            rw [if_neg e2] at r3
            have e3 : (voteR k rws (tab0 k)) = ([], (plusP (tb.getD (j + 1) []) (prodP (tb.getD j []) r).1).2) := by
              rw [← g3, ← r3, if_neg e2]
            refine KW.goOutR lay_ok J7_ok 100 rfl (by simp) ?_
            refine KW.goOutR lay_ok J7_ok 100 rfl (by simp) ?_
            refine KW.go lay_ok J7_ok 100 rfl (by simp) ?_
            refine KW.conv 6 (ints []) rfl ⟨rfl, rfl⟩ ?_
            simp only [unI_ints, hj1, Int.toNat_natCast]
            rw [ev, e3, if_neg e2]
            exact KW.finK [(2, 2)] rfl rfl rfl ⟨rfl, trivial⟩ ⟨rfl, trivial⟩
          · simp only [unI_ints, hj1, Int.toNat_natCast] at h
            have e2 : (plusP (tb.getD (j + 1) []) (prodP (tb.getD j []) r).1).2 = 0 := by
              have e : ((plusP (tb.getD (j + 1) []) (prodP (tb.getD j []) r).1).2 != 0) = false := h
              simpa using e
            rw [if_pos e2] at r3
            refine KW.go lay_ok J7_ok 100 rfl (by simp [inK]; omega) (KW.updG 22 (plusP (tb.getD (j + 1) []) (prodP (tb.getD j []) r).1).1 rfl rfl (fun p hp => ?_) (KW.to (j, tb.set (j + 1) (plusP (tb.getD (j + 1) []) (prodP (tb.getD j []) r).1).1) ⟨⟨by simp only; omega, by simp only [List.length_set]; exact r2, r3⟩, by simp only; omega⟩ [(2, 2), (22, 22)] ⟨rfl, rfl, ⟨rfl, rfl, rfl, rfl, ?_, rfl, rfl, rfl, trivial⟩, ⟨rfl, ?_, trivial⟩⟩))
            · have : p = 0 := by omega
              subst this
              simp only [unI_ints, hj1, Int.toNat_natCast]
              exact CVEq.refl _
            · rw [show (((j : Nat) : Int)) = ((j + 1 : Nat) : Int) - 1 by omega]; rfl
            · rfl
      · have hj : j = 0 := by simp at h; omega
        subst hj
        replace r3 : (tb, (0 : Int)) = voteJ r k tab := r3
        rw [← r3, if_pos rfl] at g3
        refine KW.goOut lay_ok J7_ok 100 rfl (by simp) ?_
        exact KW.goToR lay_ok J7_ok 100 rfl (q + 1, tb) [(2, 2), (22, 22)] rfl rfl ⟨rfl, rfl, rfl, rfl, rfl, rfl, trivial⟩ (by simp [inK]; omega) ⟨⟨by simp only; omega, r2, g3⟩, by simp only; omega⟩ ⟨rfl, rfl, trivial⟩
    · have hq : q = rws.length := by simp at h; omega
      rw [hq, List.drop_length] at g3
      replace g3 : (tab, (0 : Int)) = voteR k rws (tab0 k) := g3
      refine KW.goOut lay_ok J7_ok 100 rfl (by simp) ?_
      refine KW.goRetK lay_ok J7_ok 100 rfl [(2, 2)] rfl rfl ?_ (by simp; omega) (by exact ⟨rfl, trivial⟩) (by exact ⟨rfl, trivial⟩)
      rw [ev, ← g3, if_pos rfl]
      simp only [SV.ren, renL, EV.ren, Int.toNat_natCast]
  · have k4 : ¬ kind = 4 := by simpa using h
    have k3 : kind = 3 := by omega
    refine KW.goIf lay_ok J7_ok 100 rfl (by simp) rfl trivial (fun h => ?_) fun h => ?_
    · have e0 : nodePS kind kk rws = foldP prodP rws [0] := by simp [nodePS, k3]
      rw [e0]
      refine KW.go lay_ok J7_ok 100 rfl (by simp) ?_
      refine KW.frz 99 [99, 17] rfl rfl rfl ?_
      refine KW.len 100 rfl rfl fun hbig => ?_
      refine KW.goLpR lay_ok J7_ok 100 rfl (I := fun q : Nat × List Int => ⟨Try.f80.ntmps, [(2, .e (.r 2)), (17, .e (lV q.2)), (100, .e (.c (intss rws))), (101, sI rws.length), (102, sI q.1)], [(2, .own 45 (lsC bef))]⟩)
        (R := fun q => q.1 ≤ rws.length ∧ foldP prodP (rws.drop q.1) q.2 = foldP prodP rws [0]) (m := fun q => rws.length - q.1) (0, [0]) [(2, 2)] rfl rfl ⟨rfl, rfl, rfl, rfl, rfl, trivial⟩ (by simp) ⟨Nat.zero_le _, rfl⟩ ⟨rfl, trivial⟩ ?_
      rintro ⟨q, acc⟩ ⟨g1, g2⟩
      simp only at g1 g2
      refine KW.goIf lay_ok J7_ok 100 rfl (by simp) rfl trivial (fun h => ?_) fun h => ?_
      · have hq : q < rws.length := by simpa using h
        have hg : rws.getD (Int.toNat (q : Int)) [] = rws[q] := by simp [List.getD_eq_getElem?_getD, hq]
        rw [List.drop_eq_getElem_cons hq, foldP] at g2
        generalize rws[q] = r at hg g2
        refine KW.goIf lay_ok J7_ok 100 rfl (by simp [hq]) rfl trivial (fun h => ?_) fun h => ?_
        · simp only [unI_ints, hg] at h
          have e : ¬ (prodP acc r).2 = 0 := by
            have e : ((prodP acc r).2 != 0) = true := h
            simpa using e
          rw [if_neg e] at g2
          refine KW.goOutR lay_ok J7_ok 100 rfl (by simp) ?_
          refine KW.go lay_ok J7_ok 100 rfl (by simp) ?_
          refine KW.conv 6 (ints []) rfl ⟨rfl, rfl⟩ ?_
          simp only [unI_ints, hg]
          rw [← g2]
          exact KW.finK [(2, 2)] rfl rfl rfl ⟨rfl, trivial⟩ ⟨rfl, trivial⟩
        · simp only [unI_ints, hg] at h
          have e : (prodP acc r).2 = 0 := by
            have e : ((prodP acc r).2 != 0) = false := h
            simpa using e
          rw [if_pos e] at g2
          refine KW.goToR lay_ok J7_ok 100 rfl (q + 1, (prodP acc r).1) [(2, 2)] rfl rfl ⟨rfl, ?_, rfl, rfl, rfl, trivial⟩ (by simp [inK]; omega) ⟨⟨by simp only; omega, g2⟩, by simp only; omega⟩ ⟨rfl, trivial⟩
          simp only [unI_ints, hg]; rfl
      · have hq : q = rws.length := by simp at h; omega
        rw [hq, List.drop_length] at g2
        refine KW.goOut lay_ok J7_ok 100 rfl (by simp) ?_
        refine KW.goRetK lay_ok J7_ok 100 rfl [(2, 2)] rfl rfl ?_ (by simp) (by exact ⟨rfl, trivial⟩) (by exact ⟨rfl, trivial⟩)
        rw [← g2]; rfl
    · exact absurd k3 (by simpa using h)
end Go.Proofs.Ytpjhpcclbenfbaa
