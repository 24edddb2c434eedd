/-
  sets.Text; the examples of layer 5; the laws SetsLists, SetsOrders, SetsParts.
-/
import Derived.Test.YtjaanpbahlbmoaaDoorStC
set_option linter.unusedSectionVars false
set_option linter.unusedVariables false
set_option linter.unusedSimpArgs false
namespace Go.Proofs.YtjaanpbahlbmoaaDoor
open Go.Sy Go.Pu
attribute [local instance] drwNo

theorem text_does (s : Int) : DoesF Tryd.prog 59 [iV s] [] (.tup [strV (textP s).1, eV (textP s).2]) [] := by
  refine DoesF.body _ Tryd.func59 rfl rfl rfl rfl ?_
  refine KW.goIf lay_ok S1_ok 100 rfl (by simp) rfl trivial (fun h => ?_) fun h => ?_
  · have h1 : ¬ validS s = true := fun h1 => by
      have h0 : (!isNilB (errV 42 (listP s).2)) = true := h
      rw [listP, if_pos h1] at h0; simp at h0
    refine KW.goRet lay_ok S1_ok 100 rfl rfl ?_ (by simp) trivial
    rw [textP, listP, if_neg h1, if_neg h1]; rfl
  have h1 : validS s = true := Classical.byContradiction fun h1 => by
    have h0 : (!isNilB (errV 42 (listP s).2)) = false := h
    rw [listP, if_neg h1] at h0; simp at h0
  have eL : (listP s).1 = elemsS s := by rw [listP, if_pos h1]
  rw [textP, if_pos h1]
  have hmem : ∀ x ∈ elemsS s, 0 ≤ x ∧ x < 24 := fun x hx => by
    obtain ⟨i, hi, _, rfl⟩ := mem_elemsS.1 hx; omega
  have hel := elemsN_length s 24
  rw [show elemsN s 24 = elemsS s from rfl] at hel
  rw [eL]
  generalize elemsS s = es at *
  refine KW.go lay_ok S1_ok 100 rfl (by simp) ?_
  refine KW.nilO 6 6 9 (strs []) rfl rfl rfl ?_
  refine KW.goLpR lay_ok S1_ok 100 rfl (I := fun q : Nat => ⟨Tryd.f59.ntmps, [(6, .e (.r 6)), (17, .e (lV es)), (18, sI es.length), (19, sI q)], [(6, .own 9 (strs ((es.take q).map fun i => itoaB i.toNat)))]⟩)
    (R := fun q => q ≤ es.length) (m := fun q => es.length - q) 0 [(6, 6)] rfl rfl ⟨rfl, rfl, rfl, rfl, trivial⟩ (by simp) (Nat.zero_le _) ⟨rfl, trivial⟩ ?_
  rintro q hq0
  refine KW.goIf lay_ok S1_ok 100 rfl (by simp) rfl trivial (fun h => ?_) fun h => ?_
  · have hq : q < es.length := by simpa using h
    have hg : es.getD (Int.toNat (q : Int)) 0 = es[q] := by simp [List.getD_eq_getElem?_getD, hq]
    have hz := hmem _ (List.getElem_mem hq)
    have htk : es.take (q + 1) = es.take q ++ [es[q]] := by rw [List.take_add_one, List.getElem?_eq_getElem hq]; rfl
    generalize es[q] = a at hg hz htk
    refine KW.go lay_ok S1_ok 100 rfl (by simp only [hg]; simp [inK, List.length_take]; omega) (KW.catG 27 (itoaB a.toNat) rfl (fun p hp => ?_) (KW.to (q + 1) ⟨by omega, by omega⟩ [(6, 27)] ⟨rfl, rfl, ⟨rfl, rfl, rfl, rfl, trivial⟩, ⟨?_, trivial⟩⟩))
    · have : p = 0 := by omega
      subst this
      simp only [hg]
      exact CVEq.refl _
    · rw [htk, List.map_append]; rfl
  · have hq : q = es.length := by simp at h; omega
    subst hq
    refine KW.goOut lay_ok S1_ok 100 rfl (by simp) ?_
    refine KW.frz 6 [6] rfl rfl rfl ?_
    simp only [List.take_length]
    have hsz : ∀ b ∈ es.map (fun i => itoaB i.toNat), b.size ≤ 2 := fun b hb => by
      obtain ⟨i, hi, rfl⟩ := List.mem_map.1 hb
      have := hmem i hi
      exact itoaB_size (by omega)
    have hj := joinB_size (l := es.map fun i => itoaB i.toNat) (sep := sepB) (by simpa using hel) hsz rfl
    have hml : (es.map fun i => itoaB i.toNat).length ≤ 24 := by simpa using hel
    generalize es.map (fun i => itoaB i.toNat) = ws at *
    refine KW.goRet lay_ok S1_ok 100 rfl rfl ?_ ?_ trivial
    · simp only [unS_strs]; rfl
    · simp only [unS_strs, isS_strs, true_and, and_true]
      have hj' : (joinB ws ⟨#[44, 32]⟩).size ≤ 100 := hj
      have e1 : (⟨#[123]⟩ : ByteArray).size = 1 := rfl
      have e2 : (⟨#[125]⟩ : ByteArray).size = 1 := rfl
      refine ⟨⟨⟨hml, hsz, rfl⟩, ?_⟩, ?_⟩
      · rw [e1]; omega
      · rw [ByteArray.size_append, e1, e2]; omega

def S2 : Fns := (59, fI (fun s => .tup [strV (textP s).1, eV (textP s).2]) fun _ => True) ::
  (35, fI (fun s => .tup [iV (nextP s).1, eV (nextP s).2]) fun _ => True) ::
  (21, fI (fun s => .tup [lV (partsP s).1, eV (partsP s).2]) fun _ => True) ::
  (14, fI (fun s => .tup [lV (listP s).1, iV (listP s).2]) fun _ => True) ::
  S1
theorem S2_ok : FnsOk Tryd.prog S2 := .cons (.cons (.cons (.cons (S1_ok) Tryd.func14 rfl rfl (fI_ok fun s _ => rlist_does s)) Tryd.func21 rfl rfl (fI_ok fun s _ => parts_does s)) Tryd.func35 rfl rfl (fI_ok fun s _ => next_does s)) Tryd.func59 rfl rfl (fI_ok fun s _ => text_does s)


theorem a05_of : ofP [3, 0] = (9, 0) := by decide +kernel
theorem a05_next : nextP 6 = (9, 0) := by decide +kernel
theorem a05_text : textP 9 = (⟨#[123, 48, 44, 32, 51, 125]⟩, 0) := by
  have h1 : validS 9 = true := by decide +kernel
  have h2 : elemsS 9 = [0, 3] := by decide +kernel
  rw [textP, if_pos h1, h2]
  simp only [List.map_cons, List.map_nil]
  rw [itoaB_small (by decide), itoaB_small (by decide)]
  rfl
theorem a05_parts : partsP 5 = ([0, 1, 4, 5], 0) := by
  have h1 : validS 5 = true := by decide +kernel
  have h2 : ¬ 10 < cntS 5 := by decide +kernel
  have h3 : dblL [0] (elemsS 5) = [0, 1, 4, 5] := by decide +kernel
  rw [partsP, if_pos h1, if_neg h2, partsL, h3]
  have hv : ∀ x ∈ [(0 : Int), 1, 4, 5], validS x = true := by decide +kernel
  rw [Asc.unique (sortS_spec hv).1 (l' := [0, 1, 4, 5]) (by unfold Asc; decide +kernel) (sortS_spec hv).2]
theorem a05_cmp : cmpS 8 3 = -1 := by decide +kernel
theorem awake05_does : DoesF Tryd.prog 10 [] [] (sB true) [] := by
  refine DoesF.body _ Tryd.func10 rfl rfl rfl rfl ?_
  refine KW.go lay_ok S2_ok 100 rfl (by simp) ?_
  refine KW.frz1 10 rfl rfl rfl ?_
  refine KW.go lay_ok S2_ok 200 rfl (by simp) ?_
  simp only [unI_ints, a05_of, a05_next, a05_text, a05_parts]
  have en : isNilB .nilIface = true := rfl
  have e0 : errV 42 0 = .nilIface := rfl
  refine KW.guardT rfl rfl (by simp [en, e0]) ?_
  refine KW.go lay_ok S2_ok 100 rfl (by simp) ?_
  refine KW.goRet lay_ok S2_ok 100 rfl rfl ?_ (by simp) trivial
  simp only [e0, en, a05_cmp, beq_self_eq_true, decide_true, Bool.and_self, SV.ren, EV.ren]
def S3 : Fns := (10, f0 (sB true) True) ::
  S2
theorem S3_ok : FnsOk Tryd.prog S3 := .cons (S2_ok) Tryd.func10 rfl rfl (f0_ok fun _ => awake05_does)


theorem lawSetsLists_does (l : List Int) (s : Int) : DoesF Tryd.prog 3 [.c (ints l), iV s] [] (sB true) [] := by
  refine DoesF.body _ Tryd.func3 rfl rfl rfl rfl ?_
  refine KW.goIf lay_ok S3_ok 100 rfl (by simp) rfl trivial (fun h => ?_) fun h => ?_
  · exact KW.goRet lay_ok S3_ok 100 rfl rfl rfl (by simp) trivial
  · refine KW.goRet lay_ok S3_ok 200 rfl rfl ?_ (by simp +contextual) trivial
    simp [SV.ren, EV.ren]
theorem sub_bits {a b : Int} (ha : validS a = true) (hb : validS b = true) : subS a b = (iand .i64 a b == a) := by
  rw [Bool.eq_iff_iff, subS_iff ha, beq_iff_eq, iand_part ha]
theorem sumN_or_and (a b : Int) : ∀ k, sumN (fun _ => 1) (ior .i64 a b) k + sumN (fun _ => 1) (iand .i64 a b) k = sumN (fun _ => 1) a k + sumN (fun _ => 1) b k
  | 0 => rfl
  | k + 1 => by
    have ih := sumN_or_and a b k
    unfold sumN
    rw [bit_ior, bit_iand]
    cases bit a k <;> cases bit b k <;> simp <;> omega
theorem cnt_or_and {a b : Int} (ha : validS a = true) (hb : validS b = true) : cntS (ior .i64 a b) + cntS (iand .i64 a b) = cntS a + cntS b := by
  simp only [cntS]
  rw [cutS_of ha, cutS_of hb, cutS_of (valid_ior ha hb), cutS_of (valid_iand ha), popc_sum ha, popc_sum hb, popc_sum (valid_ior ha hb), popc_sum (valid_iand ha)]
  exact sumN_or_and a b 24
theorem part_less_cmp {a b : Int} (ha : validS a = true) (hb : validS b = true) (hp : Part a b) (hne : a ≠ b) : cmpS a b < 0 := by
  rcases cmpS_total a b with h | h | h
  · exact absurd (cmpS_eq ha hb h) hne
  · exact h
  · exact absurd hp (asc_not_part h hb ha)
theorem lawSetsOrders_does (a b c : Int) : DoesF Tryd.prog 4 [iV a, iV b, iV c] [] (sB true) [] := by
  refine DoesF.body _ Tryd.func4 rfl rfl rfl rfl ?_
  refine KW.goIf lay_ok S3_ok 100 rfl (by simp) rfl trivial (fun h => absurd h (by decide)) fun h => ?_
  have va := valid_cutS a
  have vb := valid_cutS b
  have vc := valid_cutS c
  have f1 : ∀ x y, cmpS x y = -cmpS y x := fun x y => by
    simp only [cmpS, cmpI]
    split <;> split <;> (try split) <;> (try split) <;> (try split) <;> (try split) <;> omega
  have f2 : ∀ x y, -1 ≤ cmpS x y ∧ cmpS x y ≤ 1 := fun x y => by
    simp only [cmpS, cmpI]
    split <;> split <;> (try split) <;> omega
  refine KW.goIf lay_ok S3_ok 200 rfl (by simp +contextual [inK]; have := f2 (cutS b) (cutS a); omega) rfl trivial (fun h => ?_) fun h => ?_
  · exfalso
    have f3 : (cmpS (cutS a) (cutS b) == 0) = (cutS a == cutS b) := by
      rw [Bool.eq_iff_iff, beq_iff_eq, beq_iff_eq]
      exact ⟨cmpS_eq va vb, fun e => by rw [e, cmpS_zero]; exact ⟨rfl, rfl⟩⟩
    have f4 : cmpS (cutS a) (cutS b) < 0 → cmpS (cutS b) (cutS c) < 0 → cmpS (cutS a) (cutS c) < 0 := fun h1 h2 => by
      have := cmpS_swo.trans (cutS a) (cutS b) (cutS c) (by simpa [ltOf] using h1) (by simpa [ltOf] using h2)
      simpa [ltOf] using this
    have h' : (cmpS (cutS a) (cutS b) != -cmpS (cutS b) (cutS a) || (cmpS (cutS a) (cutS b) == 0) != (cutS a == cutS b) ||
      decide (cmpS (cutS a) (cutS b) < 0) && decide (cmpS (cutS b) (cutS c) < 0) && decide (0 ≤ cmpS (cutS a) (cutS c))) = true := h
    rw [f3, ← f1 (cutS a) (cutS b)] at h'
    simp at h'
    have := f4 h'.1.1 h'.1.2
    omega
  · have g1 := sub_bits va vb
    have g2 : subS (cutS a) (cutS b) = true → ¬ cutS a = cutS b → cmpS (cutS a) (cutS b) < 0 := fun h1 h2 => part_less_cmp va vb ((subS_iff va).1 h1) h2
    have g3 := cnt_or_and va vb
    have e1 : (subS (cutS a) (cutS b) == (iand .i64 (cutS a) (cutS b) == cutS a)) = true := by rw [← g1, beq_self_eq_true]
    have e2 : (!subS (cutS a) (cutS b) || cutS a == cutS b || decide (cmpS (cutS a) (cutS b) < 0)) = true := by
      by_cases h1 : subS (cutS a) (cutS b) = true
      · by_cases h2 : cutS a = cutS b
        · rw [beq_iff_eq.2 h2]; simp
        · rw [decide_eq_true (g2 h1 h2)]; simp
      · rw [Bool.not_eq_true] at h1; rw [h1]; rfl
    have e3 : (cntS (ior .i64 (cutS a) (cutS b)) + cntS (iand .i64 (cutS a) (cutS b)) == cntS (cutS a) + cntS (cutS b)) = true := by rw [g3, beq_self_eq_true]
    have c1 := cntS_le (ior .i64 (cutS a) (cutS b))
    have c2 := cntS_le (iand .i64 (cutS a) (cutS b))
    have c3 := cntS_le (cutS a)
    have c4 := cntS_le (cutS b)
    refine KW.goRet lay_ok S3_ok 200 rfl rfl ?_ ?_ trivial
    · simp only [SV.ren, EV.ren, e1, e2, e3, Bool.and_self]
    · simp +contextual [inK]
      exact ⟨fun _ _ => by omega, fun _ _ => by omega⟩
theorem lawSetsParts_does (a : Int) : DoesF Tryd.prog 5 [iV a] [] (sB true) [] := by
  refine DoesF.body _ Tryd.func5 rfl rfl rfl rfl ?_
  refine KW.goIf lay_ok S3_ok 100 rfl (by simp) rfl trivial (fun h => absurd h (by decide)) fun h => ?_
  have va := valid_cutS a
  have hc : cntS (cutS a) = popc (cutS a) := by rw [cntS, cutS_of va]
  have hln := partsL_length va
  have hel := elemsS_length _ va
  obtain ⟨p1, p2⟩ := partsL_spec va
  have cc := cntS_le (cutS a)
  refine KW.goIf lay_ok S3_ok 100 rfl (by simp) rfl trivial (fun h => ?_) fun h => ?_
  · have h1 : 10 < cntS (cutS a) := by simpa using h
    have e : partsP (cutS a) = ([], 4) := by rw [partsP, if_pos va, if_pos h1]
    refine KW.goRet lay_ok S3_ok 100 rfl rfl ?_ (by simp) trivial
    rw [e]
    simp [SV.ren, EV.ren]
  have h1 : ¬ 10 < cntS (cutS a) := by simpa using h
  have e : partsP (cutS a) = (partsL (cutS a), 0) := by rw [partsP, if_pos va, if_neg h1]
  simp only [e]
  have hlen : ((partsL (cutS a)).length : Int) = ishl 1 (cntS (cutS a)) := by
    rw [hln, hc, ← hel, ishl_one]
  have hle : (elemsS (cutS a)).length ≤ 10 := by omega
  have hbig : (partsL (cutS a)).length ≤ 1024 := by
    rw [hln]
    have : 2 ^ (elemsS (cutS a)).length ≤ 2 ^ 10 := Nat.pow_le_pow_right (by decide) hle
    omega
  generalize hP : partsL (cutS a) = L at *
  have en : isNilB .nilIface = true := rfl
  have e0 : errV 42 0 = .nilIface := rfl
  refine KW.goIf lay_ok S3_ok 100 rfl ?_ rfl trivial (fun h => ?_) fun h => ?_
  · simp [inK, bitsI, e0, ifcV]
    exact fun h => ⟨h, by omega, by omega, by omega, by omega⟩
  · exfalso
    simp [e0, en, hlen] at h
  refine KW.goLpR lay_ok S3_ok 100 rfl (I := fun q : Nat => ⟨Tryd.f5.ntmps, [(0, sI (cutS a)), (3, .e (lV L)), (31, .e (lV L)), (32, sI L.length), (33, sI q)], []⟩)
    (R := fun q => q ≤ L.length) (m := fun q => L.length - q) 0 [] rfl rfl ⟨rfl, rfl, rfl, rfl, rfl, trivial⟩ (by simp) (Nat.zero_le _) trivial ?_
  rintro q hq0
  refine KW.goIf lay_ok S3_ok 100 rfl (by simp) rfl trivial (fun h => ?_) fun h => ?_
  · have hq : q < L.length := by simpa using h
    have hg : L.getD (Int.toNat (q : Int)) 0 = L[q] := by simp [List.getD_eq_getElem?_getD, hq]
    obtain ⟨v1, v2⟩ := (p2 _).1 (List.getElem_mem hq)
    have v3 := (subS_iff v1).2 v2
    have hprev : 0 < q → L.getD (Int.toNat ((q : Int) - 1)) 0 = L.getD (q - 1) 0 ∧ cmpS (L.getD (q - 1) 0) L[q] < 0 := fun h0 => by
      have e1 : Int.toNat ((q : Int) - 1) = q - 1 := by omega
      rw [e1]
      refine ⟨rfl, ?_⟩
      have e2 : L.getD (q - 1) 0 = L[q - 1] := by simp [List.getD_eq_getElem?_getD, show q - 1 < L.length by omega]
      rw [e2]
      exact List.pairwise_iff_getElem.1 p1 (q - 1) q (by omega) hq (by omega)
    generalize L[q] = x at hg v1 v2 v3 hprev
    refine KW.goIf lay_ok S3_ok 100 rfl ?_ rfl trivial (fun h => ?_) fun h => ?_
    · simp +contextual [hq, inK]
      omega
    · exfalso
      simp only [hg, v1, v3] at h
      by_cases h0 : 0 < q
      · rw [(hprev h0).1] at h
        have := (hprev h0).2
        simp [-List.getD_eq_getElem?_getD] at h
        omega
      · simp [h0] at h
    · exact KW.goToR lay_ok S3_ok 100 rfl (q + 1) [] rfl rfl ⟨rfl, rfl, rfl, rfl, rfl, trivial⟩ (by simp [inK]; omega) ⟨by omega, by omega⟩ trivial
  · refine KW.goOut lay_ok S3_ok 100 rfl (by simp) ?_
    exact KW.goRet lay_ok S3_ok 100 rfl rfl rfl (by simp) trivial
end Go.Proofs.YtjaanpbahlbmoaaDoor
