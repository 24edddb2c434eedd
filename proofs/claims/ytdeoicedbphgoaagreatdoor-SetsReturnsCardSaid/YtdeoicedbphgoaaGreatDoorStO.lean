/-
  ref05.Parse; law SetsTexts.
-/
import Derived.Test.YtdeoicedbphgoaaGreatDoorStN
import Derived.Test.YtdeoicedbphgoaaGreatDoorStE
import Derived.Test.YtdeoicedbphgoaaGreatDoorSyZ
set_option linter.unusedSectionVars false
set_option linter.unusedVariables false
set_option linter.unusedSimpArgs false
attribute [local instance] Go.Sy.drwNo
namespace Go.Pu
open Go.Sy Go.Proofs.YtdeoicedbphgoaaGreatDoor
theorem strL_toList (l : List UInt8) : (strL l).toList = l := by rw [Go.ByteArray.toList_eq, strL_data]
theorem numPL_rng (l : List UInt8) : 0 ≤ (numPL l).1 ∧ (numPL l).1 ≤ 3000 ∧ 0 ≤ (numPL l).2 ∧ (numPL l).2 ≤ l.length ∧ (numPL l).2 ≤ 2 := by
  have h0 := (l.getD 0 0).toNat_lt
  have h1 := (l.getD 1 0).toNat_lt
  have hq : numQ l ≤ l.length ∧ numQ l ≤ 2 := by
    unfold numQ
    split
    · split <;> omega
    · omega
  unfold numPL
  split
  · simp
  · refine ⟨?_, ?_, by simp only; omega, by simp only; omega, by simp only; omega⟩
    · simp only
      match numQ l with
      | 0 => simp [numK]
      | 1 => simp [numK]
      | n + 2 => simp only [numK]; omega
    · simp only
      match numQ l with
      | 0 => simp [numK]
      | 1 => simp only [numK, digN]; omega
      | n + 2 => simp only [numK, digN]; omega
def prevL (l : List Int) (q : Nat) : Int := if q = 0 then -1 else l.getD (q - 1) 0
theorem prev_succ (l : List Int) (q : Nat) : prevL l (q + 1) = l.getD q 0 := by simp [prevL]
end Go.Pu
namespace Go.Proofs.YtdeoicedbphgoaaGreatDoor
open Go.Sy Go.Pu
def P3 : Fns := (128, fB (fun t => .tup [iV (numP t).1, iV (numP t).2]) fun t => t.size ≤ 2000) ::
  P2
theorem P3_ok : FnsOk Tryz.prog P3 := .cons (P2_ok) Tryz.func128 rfl rfl (fB_ok fun t h => number_does t h)


theorem tok_test (r : List UInt8) : (decide (((strL r).size : Int) < 2) || !(((strL r).extract (Int.toNat 0) (Int.toNat 2)).toList == (⟨#[44, 32]⟩ : ByteArray).toList)) = decide (r.take 2 ≠ sepL) := by
  have e : (strL r).extract (Int.toNat 0) (Int.toNat 2) = strL (r.take 2) := strL_take r 2
  rw [e, strL_toList, strL_size, show (⟨#[44, 32]⟩ : ByteArray).toList = sepL by decide +kernel]
  match r with
  | [] => decide
  | [a] => simp [sepL]
  | a :: b :: v =>
    have : decide ((((a :: b :: v).length : Nat) : Int) < 2) = false := by simp; omega
    rw [this, Bool.false_or, Bool.eq_iff_iff, decide_eq_true_iff, Bool.not_eq_true', beq_eq_false_iff_ne]
set_option maxHeartbeats 3200000 in
theorem rparse05_does (s : ByteArray) (hs : s.size ≤ 1000) : DoesF Tryz.prog 52 [strV s] [] (.tup [iV (rparP s).1, iV (rparP s).2]) [] := by
  refine DoesF.body _ Tryz.func52 rfl rfl rfl rfl ?_
  refine KW.goIf lay_ok P3_ok 100 rfl (by simp) rfl trivial (fun h => ?_) fun h => ?_
  · have h1 : (s.toList == (⟨#[123, 125]⟩ : ByteArray).toList) = true := h
    refine KW.goRet lay_ok P3_ok 100 rfl rfl ?_ (by simp) trivial
    rw [rparP, if_pos h1]; rfl
  have h1 : ¬ (s.toList == (⟨#[123, 125]⟩ : ByteArray).toList) = true := by rw [show (s.toList == (⟨#[123, 125]⟩ : ByteArray).toList) = false from h]; decide
  rw [rparP, if_neg h1]
  refine KW.goIf lay_ok P3_ok 100 rfl ?_ rfl trivial (fun h => ?_) fun h => ?_
  · simp +contextual [-Array.getD_eq_getD_getElem?, inK]
    omega
  · have h2 : badR5 s = true := h
    refine KW.goRet lay_ok P3_ok 100 rfl rfl ?_ (by simp) trivial
    rw [if_pos h2]; rfl
  have h2 : badR5 s = false := h
  rw [if_neg (by rw [h2]; decide)]
  have hsz : 3 ≤ s.size := by
    refine Classical.byContradiction fun hno => ?_
    unfold badR5 at h2
    rw [decide_eq_true (show (s.size : Int) < 3 by omega)] at h2
    cases h2
  have einner : s.extract (Int.toNat 1) (Int.toNat ((s.size : Int) - 1)) = innerP s := by
    rw [innerP]; congr 1; omega
  have e0 : (⟨#[44, 32]⟩ : ByteArray) ++ innerP s = strL (44 :: 32 :: (innerP s).data.toList) := by
    have : innerP s = strL (innerP s).data.toList := (strL_of _).symm
    rw [show (⟨#[44, 32]⟩ : ByteArray) = strL [44, 32] from rfl]
    conv => lhs; rw [this]
    rw [strL_append]; rfl
  have hin2 : (innerP s).size + 2 = s.size := by rw [innerP, ByteArray.size_extract]; omega
  have hin : (innerP s).data.toList.length + 2 = s.size := by
    rw [Array.length_toList]; exact hin2
  have hin3 : (innerP s).data.toList.length = (innerP s).size := by omega
  refine KW.go lay_ok P3_ok 100 rfl ?_ ?_
  · simp only [einner, true_and, and_true, inK, show (⟨#[44, 32]⟩ : ByteArray).size = 2 from rfl]
    have : (innerP s).size ≤ s.size := by rw [innerP, ByteArray.size_extract]; omega
    omega
  refine KW.nilO 4 4 3 (ints []) rfl rfl rfl ?_
  refine KW.goLpR lay_ok P3_ok 100 rfl (I := fun q : Nat × List UInt8 × List Int => ⟨Tryz.f52.ntmps, [(4, .e (.r 4)), (5, .e (strV (strL q.2.1)))], [(4, .own 3 (ints q.2.2))]⟩)
    (R := fun q => q.2.1.length < q.1 ∧ q.2.2.length + q.2.1.length ≤ 1000 ∧ tokL q.1 q.2.1 q.2.2 = tokR s ∧ ∀ n ∈ q.2.2, 0 ≤ n) (m := fun q => q.1) (s.size + 3, 44 :: 32 :: (innerP s).data.toList, []) [(4, 4)] rfl rfl ⟨rfl, by rw [einner, e0]; rfl, trivial⟩ (by simp) ⟨by simp; omega, by simp; omega, rfl, by simp⟩ (by exact ⟨rfl, trivial⟩) ?_
  rintro ⟨f, r, l⟩ ⟨r1, r2, r3, r4⟩
  simp only at r1 r2 r3 r4
  obtain ⟨g, rfl⟩ : ∃ g, f = g + 1 := ⟨f - 1, by omega⟩
  rw [tokL] at r3
  refine KW.goIf lay_ok P3_ok 100 rfl (by simp) rfl trivial (fun h => ?_) fun h => ?_
  · have hr : r ≠ [] := fun e => by
      simp only [strL_toList, e] at h
      exact absurd h (by decide +kernel)
    rw [if_neg hr] at r3
    refine KW.goIf lay_ok P3_ok 100 rfl ?_ rfl trivial (fun h => ?_) fun h => ?_
    · simp +contextual
    · have h3 : r.take 2 ≠ sepL := by
        have := (tok_test r).symm.trans h
        simpa using this
      rw [if_pos h3] at r3
      refine KW.goOutR lay_ok P3_ok 100 rfl (by simp) ?_
      refine KW.goRet lay_ok P3_ok 100 rfl rfl ?_ (by simp) trivial
      rw [← r3]; rfl
    have h3 : ¬ r.take 2 ≠ sepL := by
      have := (tok_test r).symm.trans h
      simpa using this
    rw [if_neg h3] at r3
    have hr2 : 2 ≤ r.length := by
      have : (r.take 2).length = 2 := by rw [Classical.not_not.1 h3]; rfl
      rw [List.length_take] at this; omega
    have e2 : (strL r).extract (Int.toNat 2) (Int.toNat (((strL r).size : Nat) : Int)) = strL (r.drop 2) := by
      rw [Int.toNat_natCast, strL_size]; exact strL_drop r 2
    have hN := numPL_rng (r.drop 2)
    simp only [List.length_drop] at hN
    have eN : ∀ l, numP (strL l) = numPL l := fun l => by rw [numP, numPL, strL_data]
    refine KW.goIf lay_ok P3_ok 100 rfl ?_ rfl trivial (fun h => ?_) fun h => ?_
    · simp only [e2]
      simp only [strL_size, List.length_drop, true_and, and_true]
      omega
    · simp only [e2, eN] at h
      have h4 : (numPL (r.drop 2)).2 = 0 := by simpa using h
      rw [if_pos h4] at r3
      refine KW.goOutR lay_ok P3_ok 100 rfl (by simp) ?_
      refine KW.goRet lay_ok P3_ok 100 rfl rfl ?_ (by simp) trivial
      rw [← r3]; rfl
    · simp only [e2, eN] at h ⊢
      have h4 : (numPL (r.drop 2)).2 ≠ 0 := by simpa using h
      rw [if_neg h4] at r3
      generalize numPL (r.drop 2) = X at *
      obtain ⟨n, k⟩ := X
      simp only at h4 r3 hN ⊢
      have e3 : (strL r).extract (Int.toNat (2 + k)) (Int.toNat (((strL r).size : Nat) : Int)) = strL (r.drop (2 + k.toNat)) := by
        rw [Int.toNat_natCast, strL_size, show Int.toNat (2 + k) = 2 + k.toNat by omega]; exact strL_drop r _
      refine KW.goDV lay_ok P3_ok rfl 100 rfl 9 3 4 rfl (by decide +kernel) (by decide +kernel) rfl rfl rfl ?_ ?_ ?_
      · simp
      · simp only [List.length_singleton, strL_size, true_and, and_true, inK]
        omega
      refine KW.goToR lay_ok P3_ok 100 rfl (g, r.drop (2 + k.toNat), l ++ [n]) [(4, 58)] rfl rfl ⟨rfl, by rw [← e3]; rfl, trivial⟩ ?_ ⟨⟨?_, ?_, r3, ?_⟩, by simp only; omega⟩ ⟨own_cat _ rfl, trivial⟩
      · simp [inK]
      · simp only [List.length_drop]; omega
      · simp only [List.length_drop, List.length_append, List.length_singleton]; omega
      · intro m hm
        rcases List.mem_append.1 hm with hm | hm
        · exact r4 m hm
        · rw [List.mem_singleton.1 hm]; omega
  · have hr : r = [] := by
      simp only [strL_toList] at h
      have e : (⟨#[]⟩ : ByteArray).toList = [] := by decide +kernel
      rw [e] at h
      cases r with
      | nil => rfl
      | cons a v => simp at h
    rw [if_pos hr] at r3
    rw [← r3]
    refine KW.goOut lay_ok P3_ok 100 rfl (by simp) ?_
    refine KW.frz 4 [4] rfl rfl rfl ?_
    clear r3
    refine KW.goLpR lay_ok P3_ok 100 rfl (I := fun q : Nat => ⟨Tryz.f52.ntmps, [(4, .e (lV l)), (63, .e (lV l)), (64, sI l.length), (65, sI q)], []⟩)
      (R := fun q => q ≤ l.length ∧ ∀ i, i < q → l.getD i 0 < 24) (m := fun q => l.length - q) 0 [] rfl rfl ⟨rfl, rfl, rfl, rfl, trivial⟩ (by simp) ⟨Nat.zero_le _, fun i hi => by omega⟩ trivial ?_
    rintro q ⟨hq0, hlt⟩
    refine KW.goIf lay_ok P3_ok 100 rfl (by simp) rfl trivial (fun h => ?_) fun h => ?_
    · have hq : q < l.length := by simp at h; omega
      have hg : l.getD (Int.toNat (q : Int)) 0 = l[q] := by simp [List.getD_eq_getElem?_getD, hq]
      refine KW.goIf lay_ok P3_ok 100 rfl (by simp; omega) rfl trivial (fun h => ?_) fun h => ?_
      · have h3 : 24 ≤ l[q] := by rw [hg] at h; simpa using h
        have hany : (l.any fun n => decide (24 ≤ n)) = true := List.any_eq_true.2 ⟨_, List.getElem_mem hq, by simpa using h3⟩
        refine KW.goOutR lay_ok P3_ok 100 rfl (by simp) ?_
        refine KW.goRet lay_ok P3_ok 100 rfl rfl ?_ (by simp) trivial
        rw [finR, if_pos hany]; rfl
      · have h3 : ¬ 24 ≤ l[q] := by rw [hg] at h; simpa using h
        refine KW.goToR lay_ok P3_ok 100 rfl (q + 1) [] rfl rfl ⟨rfl, rfl, rfl, rfl, trivial⟩ (by simp [inK]; omega) ⟨⟨by omega, fun i hi => ?_⟩, by omega⟩ trivial
        by_cases hiq : i = q
        · subst hiq
          rw [List.getD_eq_getElem?_getD, List.getElem?_eq_getElem hq]
          show l[i] < 24
          omega
        · exact hlt i (by omega)
    · have hq : q = l.length := by simp at h; omega
      subst hq
      have hall : ∀ n ∈ l, n < 24 := fun n hn => by
        obtain ⟨i, hi, rfl⟩ := List.mem_iff_getElem.1 hn
        have := hlt i hi
        rwa [List.getD_eq_getElem?_getD, List.getElem?_eq_getElem hi] at this
      have hany : ¬ (l.any fun n => decide (24 ≤ n)) = true := fun h => by
        obtain ⟨n, hn, h⟩ := List.any_eq_true.1 h
        have := hall n hn
        have := of_decide_eq_true h
        omega
      rw [finR, if_neg hany]
      refine KW.goOut lay_ok P3_ok 100 rfl (by simp) ?_
      refine KW.goLpR lay_ok P3_ok 100 rfl (I := fun q : Nat × Int => ⟨Tryz.f52.ntmps, [(4, .e (lV l)), (10, sI q.2), (72, .e (lV l)), (73, sI l.length), (74, sI q.1)], []⟩)
        (R := fun q => q.1 ≤ l.length ∧ sumR (l.drop q.1) (prevL l q.1) q.2 = sumR l (-1) 0 ∧ 0 ≤ q.2 ∧ q.2 ≤ 16777216 * q.1) (m := fun q => l.length - q.1) (0, 0) [] rfl rfl ⟨rfl, rfl, rfl, rfl, rfl, trivial⟩ (by simp) ⟨Nat.zero_le _, rfl, by simp, by simp⟩ trivial ?_
      rintro ⟨q, out⟩ ⟨r5, r6, r7, r8⟩
      simp only at r5 r6 r7 r8
      refine KW.goIf lay_ok P3_ok 100 rfl (by simp) rfl trivial (fun h => ?_) fun h => ?_
      · have hq : q < l.length := by simp at h; omega
        have hg : l.getD (Int.toNat (q : Int)) 0 = l[q] := by simp [List.getD_eq_getElem?_getD, hq]
        have hd : l.drop q = l[q] :: l.drop (q + 1) := List.drop_eq_getElem_cons hq
        have hnn := r4 _ (List.getElem_mem hq)
        have hll := hall _ (List.getElem_mem hq)
        rw [hd, sumR] at r6
        have hgp : prevL l (q + 1) = l[q] := by
          rw [prev_succ, List.getD_eq_getElem?_getD, List.getElem?_eq_getElem hq]; rfl
        have htest : (decide ((0 : Int) < q) && decide (l.getD (Int.toNat (q : Int)) 0 ≤ l.getD (Int.toNat ((q : Int) - 1)) 0)) = decide (l[q] ≤ prevL l q) := by
          rw [hg]
          cases q with
          | zero => simp [prevL]; omega
          | succ j =>
            rw [show Int.toNat (((j + 1 : Nat) : Int) - 1) = j by omega, prev_succ, decide_eq_true (show (0 : Int) < ((j + 1 : Nat) : Int) by omega), Bool.true_and]
        refine KW.goIf lay_ok P3_ok 100 rfl ?_ rfl trivial (fun h => ?_) fun h => ?_
        · simp +contextual [-List.getD_eq_getElem?_getD, inK]
          omega
        · have h5 : l[q] ≤ prevL l q := of_decide_eq_true (htest.symm.trans h)
          rw [if_pos h5] at r6
          refine KW.goOutR lay_ok P3_ok 100 rfl (by simp) ?_
          refine KW.goRet lay_ok P3_ok 100 rfl rfl ?_ (by simp) trivial
          rw [← r6]; rfl
        · have h5 : ¬ l[q] ≤ prevL l q := of_decide_eq_false (htest.symm.trans h)
          rw [if_neg h5, ← hgp] at r6
          obtain ⟨i, hi⟩ := Int.eq_ofNat_of_zero_le hnn
          have hov : validS (ishl 1 l[q]) = true := by rw [hi]; exact one_valid (by omega)
          have hov' := validS_iff.1 hov
          rw [hgp] at r6
          refine KW.goToR lay_ok P3_ok 100 rfl (q + 1, out + ishl 1 l[q]) [] rfl rfl ⟨rfl, by rw [← hg]; rfl, rfl, rfl, rfl, trivial⟩ ?_ ⟨⟨by simp only; omega, by simp only [hgp]; exact r6, by simp only; omega, by simp only; omega⟩, by simp only; omega⟩ trivial
          simp only [hg]
          simp +contextual [inK, bitsI]
          omega
      · have hq : q = l.length := by simp at h; omega
        rw [hq, List.drop_length, sumR] at r6
        refine KW.goOut lay_ok P3_ok 100 rfl (by simp) ?_
        refine KW.goRet lay_ok P3_ok 100 rfl rfl ?_ (by simp) trivial
        rw [← r6]; rfl
def P4 : Fns := (52, fB (fun t => .tup [iV (rparP t).1, iV (rparP t).2]) fun t => t.size ≤ 1000) ::
  (51, fI (fun s => .tup [strV (textP s).1, iV (textP s).2]) fun _ => True) ::
  S3
theorem P4_ok : FnsOk Tryz.prog P4 := .cons (.cons (S3_ok) Tryz.func51 rfl rfl (fI_ok fun s _ => rtext_does s)) Tryz.func52 rfl rfl (fB_ok fun t h => rparse05_does t h)


set_option maxHeartbeats 1600000 in
theorem lawSetsTexts_does (s : Int) (t : ByteArray) (m : Int) (T : Nat) : DoesF Tryz.prog 15 [iV s, strV t] [(0, .glo (laySplit_ren.g 1) T [.int .i64 m])] (sB true) [] := by
  refine DoesF.body _ Tryz.func15 rfl rfl rfl rfl ?_
  refine KW.goIf lay_ok P4_ok 100 rfl (by simp) rfl trivial (fun h => ?_) fun h => ?_
  · exact KW.goRet lay_ok P4_ok 100 rfl rfl rfl (by simp) trivial
  have hlen : t.size ≤ 1000 := by
    refine Classical.byContradiction fun hno => ?_
    simp at h; omega
  refine KW.go lay_ok P4_ok 100 rfl (by simp) ?_
  refine KW.call0 (parse_does t hlen m T) (enters Tryz.func50 rfl rfl) [(0, 0)] [] [] (.inl rfl) rfl rfl rfl rfl rfl trivial ⟨⟨_, _, rfl, trivial, .conv (CVEq.refl _)⟩, trivial⟩ rfl ⟨rfl, trivial⟩ rfl trivial rfl rfl (.inl rfl) ?_
  refine KW.goRet lay_ok P4_ok 200 rfl rfl ?_ (by simp [hlen]) trivial
  simp [SV.ren, EV.ren, parse_same]
end Go.Proofs.YtdeoicedbphgoaaGreatDoor
