/-
  The law HittingCheap returns true.
-/
import Derived.Test.YtinddojpbieejaaFnX
set_option linter.unusedVariables false
set_option linter.unusedSimpArgs false
namespace Go.Proofs.Ytinddojpbieejaa
open Go.Sy Go.Pu

theorem total_does (s : Int) (cost : List Int) (hc : CostOk cost) (hl : 24 ≤ cost.length) : DoesF Try.prog 30 [iV s, lV cost] [] (sI (sumS (cst cost) s)) [] := by
  refine DoesF.body _ Try.func30 rfl rfl rfl rfl ?_
  refine KW.goLp lay_ok T33_ok 100 rfl (I := fun q : Nat => ⟨Try.f30.ntmps, [(0, sI s), (1, .e (lV cost)), (5, sI (sumN (cst cost) s q)), (7, sI q)], []⟩) (R := fun q => q ≤ 24) (m := fun q => 24 - q) 0 rfl ⟨rfl, rfl, rfl, rfl, trivial⟩ (by simp) (by simp) trivial ?_
  rintro q h1
  refine KW.goIf lay_ok T33_ok 100 rfl (by simp) rfl trivial (fun h => ?_) fun h => ?_
  · have hq : q < 24 := by simp at h; omega
    have hb := sumN_bound (c := cst cost) (B := 1048576) (by decide) hc s q h1
    have hci := hc q hq
    have hqq : (q : Int) * 1048576 ≤ 25165824 := by omega
    refine KW.goIf lay_ok T33_ok 100 rfl (by simp) rfl trivial (fun h => ?_) fun h => ?_
    · have hbit : bit s q = true := by rw [← hasB_nat _ hq]; exact h
      refine KW.goTo lay_ok T33_ok 100 rfl (q + 1) rfl ⟨rfl, rfl, ?_, rfl, trivial⟩ ?_ ⟨by omega, by omega⟩ trivial
      · rw [sumN, if_pos hbit]; rfl
      · simp only [inK, true_and, and_true, Int.toNat_natCast]
        omega
    · have hbit : ¬ bit s q = true := by rw [← hasB_nat _ hq]; simpa using h
      refine KW.goTo lay_ok T33_ok 100 rfl (q + 1) rfl ⟨rfl, rfl, ?_, rfl, trivial⟩ (by simp [inK]; omega) ⟨by omega, by omega⟩ trivial
      rw [sumN, if_neg hbit, Int.add_zero]; rfl
  · have hq : q = 24 := by simp at h; omega
    subst hq
    refine KW.goOut lay_ok T33_ok 100 rfl (by simp) ?_
    exact KW.goRet lay_ok T33_ok 100 rfl rfl rfl (by simp) trivial

def T34 : Fns := (30, fIL (fun s cost => sI (sumS (cst cost) s)) fun s cost => CostOk cost ∧ 24 ≤ cost.length) ::
  T33
theorem T34_ok : FnsOk Try.prog T34 := .cons (T33_ok) Try.func30 rfl rfl (fIL_ok fun s cost h => total_does s cost h.1 h.2)


theorem chE_cases {l cost : List Int} (hl : listE l = 0) (hc : 24 ≤ cost.length) : chE l cost = 3 ∨ (CostOk cost ∧ chE l cost = bE (cst cost) l) := by
  have h1 : ¬ (cost.length : Int) ≤ grtS (orL 0 l) := by
    have hg : grtS (orL 0 l) ≤ 23 := by
      rw [grt_last]
      have : ∀ k, lastD (elemsN (orL 0 l) k) ≤ (k : Int) - 1 := fun k => by
        induction k with
        | zero => simp [elemsN, lastD]
        | succ k ih =>
          rw [elemsN_succ]
          split
          · simp [lastD]
          · simp; omega
      exact this 24
    omega
  by_cases h2 : costB cost = true
  · exact .inr ⟨costOk_of h2, by simp [chE, hl, h1, h2]⟩
  · left; simp [chE, hl, h1, h2]
theorem hit_mem {l : List Int} (hl : listE l = 0) (he : hitE l = 0) {x : Int} (hx : x ∈ hitL l) : validS x = true ∧ Hit (minS l) x := by
  have hf := hit_fam he
  have hv : Val l := listE_valid hl
  have := (hit_cov he x).1 ⟨x, hx, Part.refl x⟩
  exact ⟨hf.val x hx, fun t ht => this t ((mem_minS hv t).1 ht).1⟩
theorem hit_of_min {l : List Int} (hl : listE l = 0) {s : Int} (h : Hit (minS l) s) : Hit l s := by
  have hv : Val l := listE_valid hl
  intro t ht h0
  obtain ⟨u, hu, hp⟩ := below hv ht
  refine h u hu ?_
  rw [iand_zero] at h0 ⊢
  exact fun i hi hb => h0 i hi (hp i hb)
theorem le_sum {c : Nat → Int} {a b : Int} (h : Le c a b) : sumS c a ≤ sumS c b := by unfold Le at h; omega

theorem lawHitCheap_does (l cost : List Int) : DoesF Try.prog 7 [lV l, lV cost] [] (sB true) [] := by
  refine DoesF.body _ Try.func7 rfl rfl rfl rfl ?_
  refine KW.len 0 rfl rfl fun hl0 => ?_
  refine KW.len 1 rfl rfl fun hl1 => ?_
  refine KW.goIf lay_ok T34_ok 200 rfl (by simp +contextual <;> (intros; omega)) rfl trivial (fun h => ?_) fun h => ?_
  · exact KW.goRet lay_ok T34_ok 200 rfl rfl rfl (by simp) trivial
  · have hok : ok7 l = true ∧ 24 ≤ cost.length ∧ cost.length ≤ 40 := by
      simp at h
      exact ⟨by simp [h], by omega, by omega⟩
    obtain ⟨hok, hc24, hc40⟩ := hok
    have hl : listE l = 0 := by simp [ok7] at hok; exact hok.2
    have hv : Val l := listE_valid hl
    have hM := hv.minS
    rcases chE_cases hl hc24 with h3 | ⟨hco, hE⟩
    · refine KW.goIf lay_ok T34_ok 200 rfl (by simp; omega) rfl trivial (fun h => ?_) fun h => ?_
      · refine KW.goRet lay_ok T34_ok 300 rfl rfl ?_ (by simp [h3]) trivial
        simp [SV.ren, EV.ren, h3]
      · simp [h3] at h
    · obtain ⟨a1, a2⟩ := srchS_spec (c := cst cost) (fun i hi => (hco i hi).1) hM
      by_cases h0 : 0 ≤ srchS (cst cost) (minS l)
      · have hE0 : chE l cost = 0 := by rw [hE]; simp [bE, hl, h0]
        have hR : chR l cost = srchS (cst cost) (minS l) := by simp [chR, hE0]
        have hT : chT l cost = sumS (cst cost) (srchS (cst cost) (minS l)) := by simp [chT, hE0]
        have hb := a1 h0
        have hlen := minS_length l
        generalize srchS (cst cost) (minS l) = r at *
        have hhit := hit_of_min hl hb.hit
        have hany : (l.any fun t => decide (iand .i64 t r = 0)) = false := by
          rw [List.any_eq_false]
          intro t ht
          simpa using hhit t ht
        have hvr := hb.val
        refine KW.goIf lay_ok T34_ok 200 rfl (by simp; omega) rfl trivial (fun h => ?_) fun h => ?_
        · simp [hE0] at h
        · refine KW.goIf lay_ok T34_ok 200 rfl (by simp [hE0, hR, hT, hl, hvr, hany, hco, hc24]) rfl trivial (fun h => ?_) fun h => ?_
          · simp [hR, hT, hl, hvr, hany] at h
          · rcases hit_err hl with he | he
            · refine KW.goIf lay_ok T34_ok 200 rfl (by simp [he]) rfl trivial (fun h => ?_) fun h => ?_
              · simp [he] at h
              · have hmem := fun x (hx : x ∈ hitL l) => hit_mem hl he hx
                have hflen := (hit_fam he).len
                simp only [unI_ints, he, if_true]
                generalize hitL l = H at *
                refine KW.goLp lay_ok T34_ok 100 rfl (I := fun q : Nat => ⟨Try.f7.ntmps, [(0, .e (lV l)), (1, .e (lV cost)), (6, sI (sumS (cst cost) r)), (91, .e (lV H)), (92, sI H.length), (93, sI q)], []⟩) (R := fun q => q ≤ H.length) (m := fun q => H.length - q) 0 rfl ⟨rfl, rfl, (by rw [← hT]; rfl), rfl, rfl, rfl, trivial⟩ (by simp) (by simp) trivial ?_
                rintro q h1
                refine KW.goIf lay_ok T34_ok 100 rfl (by simp) rfl trivial (fun h => ?_) fun h => ?_
                · have hq : q < H.length := by simpa using h
                  have hg : H.getD (Int.toNat (q : Int)) 0 = H[q] := by simp [List.getD_eq_getElem?_getD, hq]
                  obtain ⟨m1, m2⟩ := hmem _ (List.getElem_mem hq)
                  have hle := le_sum (hb.le _ m1 m2)
                  refine KW.goIf lay_ok T34_ok 100 rfl (by simp [hco, hc24]; omega) rfl trivial (fun h => ?_) fun h => ?_
                  · simp only [unI_ints, hg] at h
                    simp at h; omega
                  · exact KW.goTo lay_ok T34_ok 100 rfl (q + 1) rfl ⟨rfl, rfl, rfl, rfl, rfl, rfl, trivial⟩ (by simp [inK]; omega) ⟨by omega, by omega⟩ trivial
                · refine KW.goOut lay_ok T34_ok 100 rfl (by simp) ?_
                  refine KW.goLpR lay_ok T34_ok 100 rfl (I := fun k : Nat => ⟨Try.f7.ntmps, [(0, .e (lV l)), (14, .e (.r 14)), (105, sI 24), (106, sI k)], [(14, .own 3 (ints (rowR k)))]⟩) (R := fun k => k ≤ 24) (m := fun k => 24 - k) 0 [(14, 103)] rfl rfl ⟨rfl, rfl, rfl, rfl, trivial⟩ (by simp) (by simp) ⟨rfl, trivial⟩ ?_
                  rintro k hk
                  have hlenk := rowR_length hk
                  refine KW.goIf lay_ok T34_ok 100 rfl (by simp) rfl trivial (fun h => ?_) fun h => ?_
                  · have hk' : k < 24 := by simp at h; omega
                    refine KW.go lay_ok T34_ok 100 rfl (by simp only [inK, true_and, and_true, hlenk]; omega) ?_
                    refine KW.updI 14 rfl ?_
                    have hst : (rowR k).set (Int.toNat (k : Int)) 1 = rowR (k + 1) := by
                      refine List.ext_getElem (by rw [List.length_set, hlenk, rowR_length (by omega)]) fun j j1 j2 => ?_
                      rw [List.length_set, hlenk] at j1
                      have g1 := rowR_get hk j1
                      have g2 := rowR_get (k := k + 1) (by omega) j1
                      rw [List.getD_eq_getElem?_getD, List.getElem?_eq_getElem (by omega)] at g1
                      rw [List.getD_eq_getElem?_getD, List.getElem?_eq_getElem j2] at g2
                      simp only [Option.getD_some] at g1 g2
                      rw [g2, List.getElem_set, g1]
                      simp only [Int.toNat_natCast]
                      split
                      · rw [if_pos (by omega)]
                      · by_cases c : j < k
                        · rw [if_pos c, if_pos (by omega)]
                        · rw [if_neg c, if_neg (by omega)]
                    rw [hst]
                    exact KW.to (k + 1) ⟨by omega, by omega⟩ [(14, 14)] ⟨rfl, rfl, ⟨rfl, rfl, rfl, rfl, trivial⟩, ⟨rfl, trivial⟩⟩
                  · have hk' : k = 24 := by simp at h; omega
                    subst hk'
                    have e24 : rowR 24 = List.replicate 24 1 := by simp [rowR]
                    rw [e24]
                    refine KW.goOut lay_ok T34_ok 100 rfl (by simp) ?_
                    refine KW.frz1 14 rfl rfl rfl ?_
                    obtain ⟨b1, b2⟩ := srchS_spec c1_nn hM
                    have hs1 := b2 _ hb.val hb.hit
                    have hB := b1 hs1
                    have hcb : chE l (List.replicate 24 1) = 0 := by
                      rcases chE_cases (l := l) (cost := List.replicate 24 1) hl (by simp) with h | ⟨_, h⟩
                      · exfalso
                        unfold chE at h
                        rw [if_pos hl] at h
                        have hbb : costB (List.replicate 24 1) = true := by decide
                        rw [hbb] at h
                        split at h
                        · cases h
                        · simp [bE, hl] at h; split at h <;> cases h
                      · rw [h]
                        have : (0 : Int) ≤ srchS (cst (List.replicate 24 1)) (minS l) := hs1
                        simp only [bE, hl, this, if_true]
                    have hcR : chR l (List.replicate 24 1) = srchS c1 (minS l) := by unfold chR; rw [hcb]; rfl
                    have hcT : chT l (List.replicate 24 1) = cntS (srchS c1 (minS l)) := by
                      unfold chT
                      rw [hcb, cntS, cutS_of hB.val, popc_sum hB.val, ← s1_eq]; rfl
                    have hbe : bE c1 l = 0 := by simp [bE, hl, hs1]
                    have hbr : bR c1 l = srchS c1 (minS l) := by simp [bR, hbe]
                    refine KW.goRet lay_ok T34_ok 300 rfl rfl ?_ (by simp) trivial
                    simp only [unI_ints, hcb, hcR, hcT, hbe, hbr]
                    simp [SV.ren, EV.ren]
            · refine KW.goIf lay_ok T34_ok 200 rfl (by simp) rfl trivial (fun h => ?_) fun h => ?_
              · refine KW.goRet lay_ok T34_ok 300 rfl rfl ?_ (by simp [he]) trivial
                simp [SV.ren, EV.ren, he]
              · simp [he] at h
      · have hE17 : chE l cost = 17 := by rw [hE]; simp [bE, hl, h0]
        have hno : hitE l = 0 → hitL l = [] := fun he => by
          cases hh : hitL l with
          | nil => rfl
          | cons x r =>
            obtain ⟨m1, m2⟩ := hit_mem hl he (x := x) (by rw [hh]; exact .head _)
            exact absurd (a2 x m1 m2) h0
        refine KW.goIf lay_ok T34_ok 200 rfl (by simp; omega) rfl trivial (fun h => ?_) fun h => ?_
        · refine KW.goRet lay_ok T34_ok 300 rfl rfl ?_ (by simp [hE17]) trivial
          rcases hit_err hl with he | he
          · simp [SV.ren, EV.ren, hE17, he, hno he]
          · simp [SV.ren, EV.ren, hE17, he]
        · simp [hE17] at h
end Go.Proofs.Ytinddojpbieejaa
