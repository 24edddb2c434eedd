/-
  sets.Text; the examples of layer 5; the laws SetsLists, SetsOrders, SetsParts.
-/
import Derived.Test.YtdeoicedbphgoaaGreatDoorStC
set_option linter.unusedSectionVars false
set_option linter.unusedVariables false
set_option linter.unusedSimpArgs false
namespace Go.Proofs.YtdeoicedbphgoaaGreatDoor
open Go.Sy Go.Pu
attribute [local instance] drwNo

theorem text_does (s : Int) : DoesF Tryz.prog 49 [iV s] [] (.tup [strV (textP s).1, eV (textP s).2]) [] := by
  refine DoesF.body _ Tryz.func49 rfl rfl rfl rfl ?_
  refine KW.goIf lay_ok S1_ok 100 rfl (by simp) rfl trivial (fun h => ?_) fun h => ?_
  · have h1 : ¬ validS s = true := fun h1 => by
      have h0 : (!isNilB (errV 47 (listP s).2)) = true := h
      rw [listP, if_pos h1] at h0; simp at h0
    refine KW.goRet lay_ok S1_ok 100 rfl rfl ?_ (by simp) trivial
    rw [textP, listP, if_neg h1, if_neg h1]; rfl
  have h1 : validS s = true := Classical.byContradiction fun h1 => by
    have h0 : (!isNilB (errV 47 (listP s).2)) = false := h
    rw [listP, if_neg h1] at h0; simp at h0
  have eL : (listP s).1 = elemsS s := by rw [listP, if_pos h1]
  rw [textP, if_pos h1]
  have hmem : ∀ x ∈ elemsS s, 0 ≤ x ∧ x < 24 := fun x hx => by
    obtain ⟨i, hi, _, rfl⟩ := mem_elemsS.1 hx; omega
  have hel := elemsN_length s 24
  rw [show elemsN s 24 = elemsS s from rfl] at hel
  rw [eL]
  generalize elemsS s = es at *
  refine KW.go lay_ok S1_ok 100 rfl (by simp) ?_
  refine KW.nilO 6 6 9 (strs []) rfl rfl rfl ?_
  refine KW.goLpR lay_ok S1_ok 100 rfl (I := fun q : Nat => ⟨Tryz.f49.ntmps, [(6, .e (.r 6)), (17, .e (lV es)), (18, sI es.length), (19, sI q)], [(6, .own 9 (strs ((es.take q).map fun i => itoaB i.toNat)))]⟩)
    (R := fun q => q ≤ es.length) (m := fun q => es.length - q) 0 [(6, 6)] rfl rfl ⟨rfl, rfl, rfl, rfl, trivial⟩ (by simp) (Nat.zero_le _) ⟨rfl, trivial⟩ ?_
  rintro q hq0
  refine KW.goIf lay_ok S1_ok 100 rfl (by simp) rfl trivial (fun h => ?_) fun h => ?_
  · have hq : q < es.length := by simpa using h
    have hg : es.getD (Int.toNat (q : Int)) 0 = es[q] := by simp [List.getD_eq_getElem?_getD, hq]
    have hz := hmem _ (List.getElem_mem hq)
    have htk : es.take (q + 1) = es.take q ++ [es[q]] := by rw [List.take_add_one, List.getElem?_eq_getElem hq]; rfl
    generalize es[q] = a at hg hz htk
    refine KW.go lay_ok S1_ok 100 rfl (by simp only [hg]; simp [inK, List.length_take]; omega) (KW.catG 27 (itoaB a.toNat) rfl (fun p hp => ?_) (KW.to (q + 1) ⟨by omega, by omega⟩ [(6, 27)] ⟨rfl, rfl, ⟨rfl, rfl, rfl, rfl, trivial⟩, ⟨?_, trivial⟩⟩))
    · have : p = 0 := by omega
      subst this
      simp only [hg]
      exact CVEq.refl _
    · rw [htk, List.map_append]; rfl
  · have hq : q = es.length := by simp at h; omega
    subst hq
    refine KW.goOut lay_ok S1_ok 100 rfl (by simp) ?_
    refine KW.frz 6 [6] rfl rfl rfl ?_
    simp only [List.take_length]
    have hsz : ∀ b ∈ es.map (fun i => itoaB i.toNat), b.size ≤ 2 := fun b hb => by
      obtain ⟨i, hi, rfl⟩ := List.mem_map.1 hb
      have := hmem i hi
      exact itoaB_size (by omega)
    have hj := joinB_size (l := es.map fun i => itoaB i.toNat) (sep := sepB) (by simpa using hel) hsz rfl
    have hml : (es.map fun i => itoaB i.toNat).length ≤ 24 := by simpa using hel
    generalize es.map (fun i => itoaB i.toNat) = ws at *
    refine KW.goRet lay_ok S1_ok 100 rfl rfl ?_ ?_ trivial
    · simp only [unS_strs]; rfl
    · simp only [unS_strs, isS_strs, true_and, and_true]
      have hj' : (joinB ws ⟨#[44, 32]⟩).size ≤ 100 := hj
      have e1 : (⟨#[123]⟩ : ByteArray).size = 1 := rfl
      have e2 : (⟨#[125]⟩ : ByteArray).size = 1 := rfl
      refine ⟨⟨⟨hml, hsz, rfl⟩, ?_⟩, ?_⟩
      · rw [e1]; omega
      · rw [ByteArray.size_append, e1, e2]; omega

def S2 : Fns := (49, fI (fun s => .tup [strV (textP s).1, eV (textP s).2]) fun _ => True) ::
  (119, fI (fun s => .tup [iV (nextP s).1, eV (nextP s).2]) fun _ => True) ::
  (120, fI (fun s => .tup [lV (partsP s).1, eV (partsP s).2]) fun _ => True) ::
  S1
theorem S2_ok : FnsOk Tryz.prog S2 := .cons (.cons (.cons (S1_ok) Tryz.func120 rfl rfl (fI_ok fun s _ => parts_does s)) Tryz.func119 rfl rfl (fI_ok fun s _ => next_does s)) Tryz.func49 rfl rfl (fI_ok fun s _ => text_does s)


theorem a05_of : ofP [3, 0] = (9, 0) := by decide +kernel
theorem a05_next : nextP 6 = (9, 0) := by decide +kernel
theorem a05_text : textP 9 = (⟨#[123, 48, 44, 32, 51, 125]⟩, 0) := by
  have h1 : validS 9 = true := by decide +kernel
  have h2 : elemsS 9 = [0, 3] := by decide +kernel
  rw [textP, if_pos h1, h2]
  simp only [List.map_cons, List.map_nil]
  rw [itoaB_small (by decide), itoaB_small (by decide)]
  rfl
theorem a05_parts : partsP 5 = ([0, 1, 4, 5], 0) := by
  have h1 : validS 5 = true := by decide +kernel
  have h2 : ¬ 10 < cntS 5 := by decide +kernel
  have h3 : dblL [0] (elemsS 5) = [0, 1, 4, 5] := by decide +kernel
  rw [partsP, if_pos h1, if_neg h2, partsL, h3]
  have hv : ∀ x ∈ [(0 : Int), 1, 4, 5], validS x = true := by decide +kernel
  rw [Asc.unique (sortS_spec hv).1 (l' := [0, 1, 4, 5]) (by unfold Asc; decide +kernel) (sortS_spec hv).2]
theorem a05_cmp : cmpS 8 3 = -1 := by decide +kernel
theorem awake05_does : DoesF Tryz.prog 48 [] [] (sB true) [] := by
  refine DoesF.body _ Tryz.func48 rfl rfl rfl rfl ?_
  refine KW.go lay_ok S2_ok 100 rfl (by simp) ?_
  refine KW.frz1 10 rfl rfl rfl ?_
  refine KW.go lay_ok S2_ok 200 rfl (by simp) ?_
  simp only [unI_ints, a05_of, a05_next, a05_text, a05_parts]
  have en : isNilB .nilIface = true := rfl
  have e0 : errV 47 0 = .nilIface := rfl
  refine KW.guardT rfl rfl (by simp [en, e0]) ?_
  refine KW.go lay_ok S2_ok 100 rfl (by simp) ?_
  refine KW.goRet lay_ok S2_ok 100 rfl rfl ?_ (by simp) trivial
  simp only [e0, en, a05_cmp, beq_self_eq_true, decide_true, Bool.and_self, SV.ren, EV.ren]
def S3 : Fns := (48, f0 (sB true) True) ::
  S2
theorem S3_ok : FnsOk Tryz.prog S3 := .cons (S2_ok) Tryz.func48 rfl rfl (f0_ok fun _ => awake05_does)


theorem sub_bits {a b : Int} (ha : validS a = true) (hb : validS b = true) : subS a b = (iand .i64 a b == a) := by
  rw [Bool.eq_iff_iff, subS_iff ha, beq_iff_eq, iand_part ha]
theorem sumN_or_and (a b : Int) : ∀ k, sumN (fun _ => 1) (ior .i64 a b) k + sumN (fun _ => 1) (iand .i64 a b) k = sumN (fun _ => 1) a k + sumN (fun _ => 1) b k
  | 0 => rfl
  | k + 1 => by
    have ih := sumN_or_and a b k
    unfold sumN
    rw [bit_ior, bit_iand]
    cases bit a k <;> cases bit b k <;> simp <;> omega
theorem cnt_or_and {a b : Int} (ha : validS a = true) (hb : validS b = true) : cntS (ior .i64 a b) + cntS (iand .i64 a b) = cntS a + cntS b := by
  simp only [cntS]
  rw [cutS_of ha, cutS_of hb, cutS_of (valid_ior ha hb), cutS_of (valid_iand ha), popc_sum ha, popc_sum hb, popc_sum (valid_ior ha hb), popc_sum (valid_iand ha)]
  exact sumN_or_and a b 24
theorem part_less_cmp {a b : Int} (ha : validS a = true) (hb : validS b = true) (hp : Part a b) (hne : a ≠ b) : cmpS a b < 0 := by
  rcases cmpS_total a b with h | h | h
  · exact absurd (cmpS_eq ha hb h) hne
  · exact h
  · exact absurd hp (asc_not_part h hb ha)
end Go.Proofs.YtdeoicedbphgoaaGreatDoor
