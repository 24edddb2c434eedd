/-
  sets.Binomial, sets.Choose; the law SetsAll.
-/
import Derived.Test.YtjaanpbahlbmoaaDoorStD
import Derived.Test.YtjaanpbahlbmoaaDoorPuC
set_option linter.unusedSectionVars false
set_option linter.unusedVariables false
set_option linter.unusedSimpArgs false
attribute [local instance] Go.Sy.drwNo
namespace Go.Pu
open Go.Sy
def binP (n k : Int) : Int × Int := if n < 0 ∨ 60 < n then (0, 3) else if k < 0 ∨ n < k then (0, 0) else ((cN n.toNat k.toNat : Nat), 0)
def chooseP (n k : Int) : List Int × Int := if n < 0 ∨ 24 < n ∨ k < 0 ∨ n < k then ([], 3) else if 1024 < cN n.toNat k.toNat then ([], 4) else (chooseL n.toNat k.toNat, 0)
end Go.Pu
namespace Go.Sy
def fI3 (g : Int → Int → Int → SV) (p : Int → Int → Int → Prop) : List EV → Option (SV × Prop)
  | [.c (.lit (.int .i64 a)), .c (.lit (.int .i64 b)), .c (.lit (.int .i64 c))] => some (g a b c, p a b c)
  | _ => none
theorem fI3_ok {P : Program} {f : FuncId} {g : Int → Int → Int → SV} {p : Int → Int → Int → Prop} (h : ∀ a b c, p a b c → DoesF P f [iV a, iV b, iV c] [] (g a b c) []) : ∀ ys y φ, fI3 g p ys = some (y, φ) → φ → DoesF P f ys [] y [] := by
  intro ys y φ he hφ
  unfold fI3 at he
  split at he
  · simp only [Option.some.injEq, Prod.mk.injEq] at he
    obtain ⟨rfl, rfl⟩ := he
    exact h _ _ _ hφ
  · cases he
end Go.Sy
namespace Go.Proofs.YtjaanpbahlbmoaaDoor
open Go.Sy Go.Pu

theorem binomial_does (n k : Nat) (hn : n ≤ 60) (hk : 2 * k ≤ n) : DoesF Tryd.prog 67 [iV n, iV k] [] (sI (binN n k : Nat)) [] := by
  refine DoesF.body _ Tryd.func67 rfl rfl rfl rfl ?_
  refine KW.goLpR lay_ok S3_ok 100 rfl (I := fun q : Nat => ⟨Tryd.f67.ntmps, [(0, sI n), (5, sI (binN n q : Nat)), (7, sI k), (8, sI q)], []⟩)
    (R := fun q => q ≤ k) (m := fun q => k - q) 0 [] rfl rfl ⟨rfl, rfl, rfl, rfl, trivial⟩ (by simp) (Nat.zero_le _) trivial ?_
  rintro q hq0
  refine KW.goIf lay_ok S3_ok 100 rfl (by simp) rfl trivial (fun h => ?_) fun h => ?_
  · have hq : q < k := by simpa using h
    obtain ⟨b1, b2⟩ := bin_ok hn (show 2 * q ≤ n by omega)
    have e1 : ((binN n q : Nat) : Int) * ((n : Int) - q) = ((binN n q * (n - q) : Nat) : Int) := by rw [Int.natCast_mul, Int.ofNat_sub (by omega)]
    have e2 : (((binN n q * (n - q) : Nat) : Int)).tdiv ((q : Int) + 1) = ((binN n (q + 1) : Nat) : Int) := by
      rw [show (q : Int) + 1 = ((q + 1 : Nat) : Int) by omega, Int.tdiv_eq_ediv_of_nonneg (by omega)]; rfl
    have b3 : (binN n (q + 1)) ≤ binN n q * (n - q) := Nat.div_le_self _ _
    refine KW.goToR lay_ok S3_ok 100 rfl (q + 1) [] rfl rfl ⟨rfl, ?_, rfl, rfl, trivial⟩ ?_ ⟨by omega, by omega⟩ trivial
    · rw [← e2, ← e1]; rfl
    · simp only [e1, e2]
      generalize binN n q * (n - q) = z at *
      simp only [inK, true_and, and_true]
      omega
  · have hq : q = k := by simp at h; omega
    subst hq
    refine KW.goOut lay_ok S3_ok 100 rfl (by simp) ?_
    exact KW.goRet lay_ok S3_ok 100 rfl rfl rfl (by simp) trivial

def S7 : Fns := (67, fII (fun n k => sI (binN n.toNat k.toNat : Nat)) fun n k => 0 ≤ n ∧ n ≤ 60 ∧ 0 ≤ k ∧ 2 * k ≤ n) ::
  S3
theorem S7_ok : FnsOk Tryd.prog S7 := .cons (S3_ok) Tryd.func67 rfl rfl (fII_ok fun n k h => by obtain ⟨a, rfl⟩ := Int.eq_ofNat_of_zero_le h.1; obtain ⟨b, rfl⟩ := Int.eq_ofNat_of_zero_le h.2.2.1; exact binomial_does a b (by omega) (by omega))


theorem Binomial_does (n k : Int) : DoesF Tryd.prog 37 [iV n, iV k] [] (.tup [iV (binP n k).1, eV (binP n k).2]) [] := by
  refine DoesF.body _ Tryd.func37 rfl rfl rfl rfl ?_
  refine KW.goIf lay_ok S7_ok 100 rfl (by simp) rfl trivial (fun h => ?_) fun h => ?_
  · have h1 : n < 0 ∨ 60 < n := by simpa using h
    refine KW.goRet lay_ok S7_ok 100 rfl rfl ?_ (by simp) trivial
    rw [binP, if_pos h1]; rfl
  have h1 : ¬ (n < 0 ∨ 60 < n) := by simp at h; omega
  refine KW.goIf lay_ok S7_ok 100 rfl (by simp) rfl trivial (fun h => ?_) fun h => ?_
  · have h2 : k < 0 ∨ n < k := by simpa using h
    refine KW.goRet lay_ok S7_ok 100 rfl rfl ?_ (by simp) trivial
    rw [binP, if_neg h1, if_pos h2]; rfl
  have h2 : ¬ (k < 0 ∨ n < k) := by simp at h; omega
  refine KW.goRet lay_ok S7_ok 100 rfl rfl ?_ (by simp [inK]; omega) trivial
  have e : (min k (n - k)).toNat = min k.toNat (n.toNat - k.toNat) := by omega
  rw [binP, if_neg h1, if_neg h2, cN, ← e]
  rfl
theorem clip_does (x lo hi : Int) : DoesF Tryd.prog 42 [iV x, iV lo, iV hi] [] (sI (max lo (min x hi))) [] := by
  refine DoesF.body _ Tryd.func42 rfl rfl rfl rfl ?_
  exact KW.goRet lay_ok S7_ok 100 rfl rfl rfl (by simp) trivial

def S8 : Fns := (37, fII (fun n k => .tup [iV (binP n k).1, eV (binP n k).2]) fun _ _ => True) ::
  (42, fI3 (fun x l h => sI (max l (min x h))) fun _ _ _ => True) ::
  S7
theorem S8_ok : FnsOk Tryd.prog S8 := .cons (.cons (S7_ok) Tryd.func42 rfl rfl (fI3_ok fun x l h _ => clip_does x l h)) Tryd.func37 rfl rfl (fII_ok fun n k _ => Binomial_does n k)


theorem choose_does (n k : Int) : DoesF Tryd.prog 36 [iV n, iV k] [] (.tup [lV (chooseP n k).1, eV (chooseP n k).2]) [] := by
  refine DoesF.body _ Tryd.func36 rfl rfl rfl rfl ?_
  refine KW.goIf lay_ok S8_ok 100 rfl (by simp) rfl trivial (fun h => ?_) fun h => ?_
  · have h1 : n < 0 ∨ 24 < n ∨ k < 0 ∨ n < k := by simp at h; omega
    refine KW.go lay_ok S8_ok 100 rfl (by simp) ?_
    refine KW.conv 4 (ints []) rfl ⟨rfl, rfl⟩ ?_
    refine KW.fin [] rfl rfl ?_ trivial
    rw [chooseP, if_pos h1]; rfl
  have h1 : ¬ (n < 0 ∨ 24 < n ∨ k < 0 ∨ n < k) := by simp at h; omega
  obtain ⟨n, rfl⟩ := Int.eq_ofNat_of_zero_le (show 0 ≤ n by omega)
  obtain ⟨k, rfl⟩ := Int.eq_ofNat_of_zero_le (show 0 ≤ k by omega)
  have hn : n ≤ 24 := by omega
  have hk : k ≤ n := by omega
  have em : (min (k : Int) ((n : Int) - k)).toNat = min k (n - k) := by omega
  have ec : binN n (min (k : Int) ((n : Int) - k)).toNat = cN n k := by rw [em]; rfl
  rw [chooseP, if_neg h1]
  simp only [Int.toNat_natCast]
  refine KW.goIf lay_ok S8_ok 100 rfl (by simp [inK]; omega) rfl trivial (fun h => ?_) fun h => ?_
  · have h2 : 1024 < cN n k := by
      have h0 : decide (1024 < ((binN (n : Int).toNat (min (k : Int) ((n : Int) - k)).toNat : Nat) : Int)) = true := h
      rw [Int.toNat_natCast, ec] at h0
      have := of_decide_eq_true h0
      omega
    refine KW.go lay_ok S8_ok 100 rfl (by simp) ?_
    refine KW.conv 4 (ints []) rfl ⟨rfl, rfl⟩ ?_
    refine KW.fin [] rfl rfl ?_ trivial
    rw [if_pos h2]; rfl
  have h2 : ¬ 1024 < cN n k := by
    have h0 : decide (1024 < ((binN (n : Int).toNat (min (k : Int) ((n : Int) - k)).toNat : Nat) : Int)) = false := h
    rw [Int.toNat_natCast, ec] at h0
    have := of_decide_eq_false h0
    omega
  rw [if_neg h2]
  have hp := cN_pos (show n ≤ 60 by omega) hk
  have hS := choose_spec hn hk (by omega)
  have h2k : 2 ^ k ≤ 2 ^ 24 := Nat.pow_le_pow_right (by decide) (by omega)
  have h2n : 2 ^ n ≤ 2 ^ 24 := Nat.pow_le_pow_right (by decide) hn
  have h2p := Nat.two_pow_pos k
  have e1 : ishl 1 (k : Int) - 1 = ((2 ^ k - 1 : Nat) : Int) := by rw [ishl_one]; omega
  have es := ishl_one k
  generalize hs0 : 2 ^ k - 1 = s0 at hS e1
  have hlast : ∀ q, q + 1 ≤ cN n k → ((List.range (q + 1)).map fun i => ((itN i s0 : Nat) : Int)).getD (Int.toNat (((q + 1 : Nat) : Int) - 1)) 0 = (itN q s0 : Nat) := fun q hq => by
    rw [show Int.toNat (((q + 1 : Nat) : Int) - 1) = q by omega, List.getD_eq_getElem?_getD, List.getElem?_map, List.getElem?_range (by omega)]; rfl
  refine KW.goLpR lay_ok S8_ok 100 rfl (I := fun q : Nat => ⟨Tryd.f36.ntmps, [(6, sI (cN n k : Nat)), (7, .e (.r 7))], [(7, .own 3 (ints ((List.range (q + 1)).map fun i => ((itN i s0 : Nat) : Int))))]⟩)
    (R := fun q => q + 1 ≤ cN n k) (m := fun q => cN n k - q) 0 [(7, 37)] rfl rfl ⟨?_, rfl, trivial⟩ ?_ hp ⟨?_, trivial⟩ ?_
  · rw [← ec]; rfl
  · simp only [inK, bitsI, es, true_and, and_true]; omega
  · rw [e1]; rfl
  rintro q hq0
  refine KW.goIf lay_ok S8_ok 100 rfl (by simp) rfl trivial (fun h => ?_) fun h => ?_
  · have hq : q + 1 < cN n k := by simp at h; omega
    obtain ⟨c1, c2, c3, c4⟩ := hS q hq0
    obtain ⟨d1, d2, d3, d4⟩ := hS (q + 1) hq
    obtain ⟨g1, g2, g3⟩ := nextG_in hn (c3 hq) d1 (itN_succ q s0).symm
    have g4 := hlast q hq0
    have g5 : ((List.range (q + 1)).map fun i => ((itN i s0 : Nat) : Int)).length = q + 1 := by simp
    refine KW.goToR lay_ok S8_ok 100 rfl (q + 1) [(7, 51)] rfl rfl ⟨rfl, rfl, trivial⟩ ?_ ⟨by omega, by omega⟩ ⟨own_cat _ ?_, trivial⟩
    · simp only [g5, g4, g3]
      simp [inK, g1]
      omega
    · simp only [g5, g4, g3]
      rw [show List.range (q + 1 + 1) = List.range (q + 1) ++ [q + 1] from List.range_succ, List.map_append]; rfl
  · have hq : q + 1 = cN n k := by simp at h; omega
    refine KW.goOut lay_ok S8_ok 100 rfl (by simp) ?_
    refine KW.frz 7 [7] rfl rfl rfl ?_
    refine KW.goRet lay_ok S8_ok 100 rfl rfl ?_ (by simp) trivial
    rw [hq, chooseL, hs0]; rfl

def S9 : Fns := (36, fII (fun n k => .tup [lV (chooseP n k).1, eV (chooseP n k).2]) fun _ _ => True) ::
  S8
theorem S9_ok : FnsOk Tryd.prog S9 := .cons (S8_ok) Tryd.func36 rfl rfl (fII_ok fun n k _ => choose_does n k)


theorem lawSetsAll_does (a b : Int) : DoesF Tryd.prog 8 [iV a, iV b] [] (sB true) [] := by
  refine DoesF.body _ Tryd.func8 rfl rfl rfl rfl ?_
  refine KW.goIf lay_ok S9_ok 100 rfl (by simp) rfl trivial (fun h => absurd h (by decide)) fun h => ?_
  have hn0 : 0 ≤ max 0 (min a 24) ∧ max 0 (min a 24) ≤ 24 := by omega
  have hk0 : 0 ≤ max 0 (min b (max 0 (min a 24))) ∧ max 0 (min b (max 0 (min a 24))) ≤ max 0 (min a 24) := by omega
  obtain ⟨n, hn⟩ := Int.eq_ofNat_of_zero_le hn0.1
  obtain ⟨k, hk⟩ := Int.eq_ofNat_of_zero_le hk0.1
  have hn24 : n ≤ 24 := by omega
  have hkn : k ≤ n := by omega
  rw [hn] at hk
  have en : isNilB .nilIface = true := rfl
  have e0 : errV 42 0 = .nilIface := rfl
  have hp := cN_pos (show n ≤ 60 by omega) hkn
  have eB : binP (n : Int) (k : Int) = ((cN n k : Int), 0) := by
    unfold binP
    rw [if_neg (by omega), if_neg (by omega), Int.toNat_natCast, Int.toNat_natCast]
  have eC : chooseP (n : Int) (k : Int) = if 1024 < cN n k then ([], 4) else (chooseL n k, 0) := by
    unfold chooseP
    rw [if_neg (by omega), Int.toNat_natCast, Int.toNat_natCast]
  refine KW.goIf lay_ok S9_ok 100 rfl (by simp) rfl trivial (fun h => ?_) fun h => ?_
  · exfalso
    simp only [hn, hk, eB, e0] at h
    simp [en] at h
    omega
  simp only [hn, hk, eB, eC]
  refine KW.goIf lay_ok S9_ok 100 rfl (by simp) rfl trivial (fun h => ?_) fun h => ?_
  · have h2 : 1024 < cN n k := by have := of_decide_eq_true h; omega
    simp only [if_pos h2]
    exact KW.goRet lay_ok S9_ok 100 rfl rfl (by simp [SV.ren, EV.ren]) (by simp) trivial
  have h2 : ¬ 1024 < cN n k := by have := of_decide_eq_false h; omega
  simp only [if_neg h2]
  have hS := choose_spec hn24 hkn (by omega)
  have hlen : (chooseL n k).length = cN n k := by simp [chooseL]
  have hget : ∀ q, q < cN n k → (chooseL n k).getD q 0 = (itN q (2 ^ k - 1) : Nat) := fun q hq => by
    rw [chooseL, List.getD_eq_getElem?_getD, List.getElem?_map, List.getElem?_range hq]; rfl
  generalize 2 ^ k - 1 = s0 at hS hget
  generalize chooseL n k = L at *
  have h2n : 2 ^ n ≤ 2 ^ 24 := Nat.pow_le_pow_right (by decide) hn24
  have h2p := Nat.two_pow_pos n
  have es := ishl_one n
  generalize hP : 2 ^ n = P at *
  refine KW.goIf lay_ok S9_ok 100 rfl (by simp) rfl trivial (fun h => ?_) fun h => ?_
  · exfalso
    simp [e0, en, hlen] at h
  refine KW.goLpR lay_ok S9_ok 100 rfl (I := fun q : Nat => ⟨Tryd.f8.ntmps, [(0, sI n), (1, sI k), (5, sI (cN n k)), (7, .e (lV L)), (54, .e (lV L)), (55, sI L.length), (56, sI q)], []⟩)
    (R := fun q => q ≤ L.length) (m := fun q => L.length - q) 0 [] rfl rfl ⟨rfl, rfl, rfl, rfl, rfl, rfl, rfl, trivial⟩ (by simp) (Nat.zero_le _) trivial ?_
  rintro q hq0
  refine KW.goIf lay_ok S9_ok 100 rfl (by simp) rfl trivial (fun h => ?_) fun h => ?_
  · have hq : q < L.length := by simpa using h
    rw [hlen] at hq
    obtain ⟨c1, c2, c3, c4⟩ := hS q hq
    have hg : L.getD (Int.toNat (q : Int)) 0 = (itN q s0 : Nat) := by rw [Int.toNat_natCast]; exact hget q hq
    have hprev : 0 < q → L.getD (Int.toNat ((q : Int) - 1)) 0 = (itN (q - 1) s0 : Nat) ∧ itN (q - 1) s0 < itN q s0 := fun h0 => by
      obtain ⟨d1, d2, d3, d4⟩ := hS (q - 1) (by omega)
      have := d3 (by omega)
      rw [show q - 1 + 1 = q by omega] at this
      rw [show Int.toNat ((q : Int) - 1) = q - 1 by omega]
      exact ⟨hget (q - 1) (by omega), this⟩
    have hnext : q + 1 < cN n k → L.getD (Int.toNat ((q : Int) + 1)) 0 = (itN (q + 1) s0 : Nat) ∧ nextP (itN q s0 : Nat) = (((itN (q + 1) s0 : Nat) : Int), 0) := fun h0 => by
      obtain ⟨d1, d2, d3, d4⟩ := hS (q + 1) h0
      rw [show Int.toNat ((q : Int) + 1) = q + 1 by omega]
      exact ⟨hget (q + 1) h0, nextP_in hn24 (c3 h0) (by rw [hP]; exact d1) (itN_succ q s0).symm⟩
    have hcnt : cntS (itN q s0 : Nat) = k := by
      rw [cntS, cutS_of (validS_iff.2 (by omega)), popc, Int.toNat_natCast, c2]
    generalize hA : itN q s0 = A at *
    refine KW.goIf lay_ok S9_ok 100 rfl ?_ rfl trivial (fun h => ?_) fun h => ?_
    · simp only [hg, es]
      simp +contextual [inK, bitsI, hlen]
      refine ⟨⟨⟨⟨hq, by omega⟩, fun _ _ _ => ⟨by omega, by omega⟩⟩, fun _ _ _ => ⟨by omega, by omega⟩⟩, fun _ _ _ => by omega⟩
    · exfalso
      simp only [hg, es, hcnt] at h
      by_cases h0 : 0 < q
      · simp only [(hprev h0).1] at h
        have := (hprev h0).2
        simp [-List.getD_eq_getElem?_getD] at h
        omega
      · simp [h0] at h
        omega
    · refine KW.goIf lay_ok S9_ok 100 rfl ?_ rfl trivial (fun h => ?_) fun h => ?_
      · simp only [hg]
        simp +contextual [inK, ifcV_errV, hlen]
        refine ⟨⟨⟨by omega, fun _ _ => by omega⟩, fun _ _ => by omega⟩, fun _ _ => by omega⟩
      · exfalso
        simp only [hg] at h
        by_cases h0 : q + 1 < cN n k
        · simp only [(hnext h0).1, (hnext h0).2, e0, en] at h
          simp at h
        · simp [hlen] at h
          omega
      · exact KW.goToR lay_ok S9_ok 100 rfl (q + 1) [] rfl rfl ⟨rfl, rfl, rfl, rfl, rfl, rfl, rfl, trivial⟩ (by simp [inK]; omega) ⟨by omega, by omega⟩ trivial
  · refine KW.goOut lay_ok S9_ok 100 rfl (by simp) ?_
    refine KW.goIf lay_ok S9_ok 100 rfl (by simp) rfl trivial (fun h => ?_) fun h => ?_
    · exact KW.goRet lay_ok S9_ok 100 rfl rfl rfl (by simp) trivial
    · have h5 : n ≠ 0 ∧ k ≠ 0 := by simpa using h
      obtain ⟨h6, h7⟩ := h5
      have e3 : (n : Int) - 1 = ((n - 1 : Nat) : Int) := by omega
      have e4 : (k : Int) - 1 = ((k - 1 : Nat) : Int) := by omega
      have B1 : binP ((n - 1 : Nat) : Int) ((k - 1 : Nat) : Int) = ((cN (n - 1) (k - 1) : Int), 0) := by
        unfold binP
        rw [if_neg (by omega), if_neg (by omega), Int.toNat_natCast, Int.toNat_natCast]
      have B2 : binP ((n - 1 : Nat) : Int) (k : Int) = (((if k ≤ n - 1 then cN (n - 1) k else 0 : Nat) : Int), 0) := by
        unfold binP
        rw [if_neg (by omega)]
        by_cases h8 : k ≤ n - 1
        · rw [if_neg (by omega), if_pos h8, Int.toNat_natCast, Int.toNat_natCast]
        · rw [if_pos (by omega), if_neg h8]; rfl
      have hpas := pas_ok (n := n - 1) (k := k - 1) (by omega) (by omega)
      rw [show k - 1 + 1 = k by omega, show n - 1 + 1 = n by omega] at hpas
      refine KW.goRet lay_ok S9_ok 100 rfl rfl ?_ ?_ trivial
      · simp only [e3, e4, B1, B2]
        simp only [e0, en, SV.ren, EV.ren, Bool.and_self, Bool.true_and]
        rw [show ((cN (n - 1) (k - 1) : Nat) : Int) + ((if k ≤ n - 1 then cN (n - 1) k else 0 : Nat) : Int) = (cN n k : Int) by omega, beq_self_eq_true]
      · simp only [e3, e4, B1, B2]
        simp +contextual [inK, ifcV_errV]
        omega
end Go.Proofs.YtjaanpbahlbmoaaDoor
