/-
  sets.Parse (seat ZD).
-/
import Derived.Test.YtdeoicedbphgoaaGreatDoorStJ
set_option linter.unusedSectionVars false
set_option linter.unusedVariables false
set_option linter.unusedSimpArgs false
attribute [local instance] Go.Sy.drwNo
namespace Go.Pu
open Go.Sy
def badP (s : ByteArray) : Bool := decide ((s.size : Int) < 2) || !(((s.data.getD (Int.toNat 0) 0).toNat : Int) == 123) || !(((s.data.getD (Int.toNat ((s.size : Int) - 1)) 0).toNat : Int) == 125)
def goL : List Int → Int → Int → Bool → Int × Int
  | [], out, last, ok => if ok then (out, 0) else (0, 13)
  | n :: r, out, last, ok => if 24 ≤ n then (0, 3) else goL r (ior .i64 out (ishl 1 n)) n (ok && decide (last < n))
def innerP (s : ByteArray) : ByteArray := s.extract 1 (s.size - 1)
def piecesP (s : ByteArray) : List ByteArray := Lib.splitB ⟨#[44, 32]⟩ 0 (Lib.countB (innerP s) ⟨#[44, 32]⟩) (innerP s)
def valsP (P : List ByteArray) : List Int := P.map fun t => (elP t).1
def parseP (s : ByteArray) : Int × Int :=
  if badP s then (0, 2) else if s.toList == (⟨#[123, 125]⟩ : ByteArray).toList then (0, 0) else if (piecesP s).all fun t => (elP t).2 then goL (valsP (piecesP s)) 0 (-1) true else (0, 2)
theorem splitB_size (sep : ByteArray) : ∀ (k : Nat) (s : ByteArray), ∀ t ∈ Lib.splitB sep 0 k s, t.size ≤ s.size
  | 0, s, t, ht => by
    rw [Lib.splitB_zero, List.mem_singleton] at ht; rw [ht]; exact Nat.le_refl _
  | k + 1, s, t, ht => by
    unfold Lib.splitB at ht
    split at ht
    · rw [List.mem_singleton] at ht; rw [ht]; exact Nat.le_refl _
    · rcases List.mem_cons.1 ht with rfl | ht
      · rw [ByteArray.size_extract]; omega
      · have := splitB_size sep k _ t ht
        rw [ByteArray.size_extract] at this
        omega
theorem elP_nonneg (t : ByteArray) : 0 ≤ (elP t).1 := by
  unfold elP; split
  · exact Int.natCast_nonneg _
  · exact Int.le_refl 0
end Go.Pu
namespace Go.Proofs.YtdeoicedbphgoaaGreatDoor
open Go.Sy Go.Pu
def P2 : Fns := (124, fB (fun t => .tup [iV (elP t).1, bV (elP t).2]) fun t => t.size ≤ 1000) ::
  P1
theorem P2_ok : FnsOk Tryz.prog P2 := .cons (P1_ok) Tryz.func124 rfl rfl (fB_ok fun t h => element_does t h)


theorem parse_does (s : ByteArray) (hs : s.size ≤ 1000) (m : Int) (T : Nat) : DoesF Tryz.prog 50 [strV s] [(0, .glo (laySplit_ren.g 1) T [.int .i64 m])] (.tup [iV (parseP s).1, eV (parseP s).2]) [] := by
  refine DoesF.body _ Tryz.func50 rfl rfl rfl rfl ?_
  refine KW.goIf lay_ok P2_ok 100 rfl ?_ rfl trivial (fun h => ?_) fun h => ?_
  · simp +contextual [-Array.getD_eq_getD_getElem?, inK]
    omega
  · have h1 : badP s = true := h
    refine KW.goRet lay_ok P2_ok 100 rfl rfl ?_ (by simp) trivial
    rw [parseP, if_pos h1]; rfl
  have h1 : ¬ badP s = true := by have h1 : badP s = false := h; rw [h1]; decide
  refine KW.goIf lay_ok P2_ok 100 rfl (by simp) rfl trivial (fun h => ?_) fun h => ?_
  · have h2 : (s.toList == (⟨#[123, 125]⟩ : ByteArray).toList) = true := h
    refine KW.goRet lay_ok P2_ok 100 rfl rfl ?_ (by simp) trivial
    rw [parseP, if_neg h1, if_pos h2]; rfl
  have h2 : ¬ (s.toList == (⟨#[123, 125]⟩ : ByteArray).toList) = true := by
    have h2 : (s.toList == (⟨#[123, 125]⟩ : ByteArray).toList) = false := h
    rw [h2]; decide
  rw [parseP, if_neg h1, if_neg h2]
  have hsz : 2 ≤ s.size := by
    refine Classical.byContradiction fun hno => h1 ?_
    unfold badP
    rw [decide_eq_true (show (s.size : Int) < 2 by omega)]; rfl
  have einner : s.extract (Int.toNat 1) (Int.toNat ((s.size : Int) - 1)) = innerP s := by
    rw [innerP]; congr 1; omega
  have hin : (innerP s).size ≤ 1000 := by rw [innerP, ByteArray.size_extract]; omega
  have hP : ∀ t ∈ piecesP s, t.size ≤ 1000 := fun t ht => Nat.le_trans (splitB_size _ _ _ t ht) hin
  have hPl : (piecesP s).length ≤ 1001 := by
    have h3 := Lib.splitB_length_le ⟨#[44, 32]⟩ 0 (Lib.countB (innerP s) ⟨#[44, 32]⟩) (innerP s)
    have h4 := Lib.countB_le ⟨#[44, 32]⟩ (show 1 ≤ 2 by decide) (innerP s).size (innerP s) (Nat.le_refl _)
    unfold piecesP; omega
  refine KW.go lay_ok P2_ok 100 rfl (by simp [inK]; omega) ?_
  refine KW.nilO 4 4 3 (ints []) rfl rfl rfl ?_
  refine KW.call0 (split_does laySplit (by kernel_rfl) rfl (innerP s) ⟨#[44, 32]⟩ m T (by omega) (by decide)) (enters Tryz.func123 rfl rfl) [(0, 0)] [] [] (.inl rfl) rfl rfl rfl rfl rfl trivial ⟨⟨_, _, rfl, trivial, .conv (by rw [einner]; exact CVEq.refl _)⟩, ⟨_, _, rfl, trivial, .conv (CVEq.refl _)⟩, trivial⟩ rfl ⟨rfl, trivial⟩ rfl trivial rfl rfl (.inl rfl) ?_
  rw [show Lib.splitB ⟨#[44, 32]⟩ 0 (Lib.countB (innerP s) ⟨#[44, 32]⟩) (innerP s) = piecesP s from rfl]
  generalize piecesP s = P at *
  refine KW.goLpR lay_ok P2_ok 100 rfl (I := fun q : Nat => ⟨Tryz.f50.ntmps, [(4, .e (.r 4)), (38, .e (.c (strs P))), (39, sI P.length), (40, sI q)], [(4, .own 3 (ints (valsP (P.take q))))]⟩)
    (R := fun q => q ≤ P.length ∧ (P.take q).all (fun t => (elP t).2) = true) (m := fun q => P.length - q) 0 [(4, 4)] rfl rfl ⟨rfl, rfl, rfl, rfl, trivial⟩ (by simp) ⟨Nat.zero_le _, rfl⟩ ⟨rfl, trivial⟩ ?_
  rintro q ⟨hq0, hall⟩
  refine KW.goIf lay_ok P2_ok 100 rfl (by simp) rfl trivial (fun h => ?_) fun h => ?_
  · have hq : q < P.length := by simp at h; omega
    have htk : P.take (q + 1) = P.take q ++ [P[q]] := by rw [List.take_add_one, List.getElem?_eq_getElem hq]; rfl
    have hg : P.getD (Int.toNat (q : Int)) ⟨#[]⟩ = P[q] := by simp [List.getD_eq_getElem?_getD, hq]
    have hsq := hP _ (List.getElem_mem hq)
    refine KW.goIf lay_ok P2_ok 100 rfl ?_ rfl trivial (fun h => ?_) fun h => ?_
    · simp only [hg, true_and, and_true]
      refine ⟨⟨by omega, by omega⟩, hsq⟩
    · have h3 : (elP P[q]).2 = false := by
        have h3 : (!(elP (P.getD (Int.toNat (q : Int)) ⟨#[]⟩)).2) = true := h
        rw [hg] at h3; simpa using h3
      have h4 : (P.all fun t => (elP t).2) = false := by
        rw [List.all_eq_false]
        exact ⟨_, List.getElem_mem hq, by rw [h3]; decide⟩
      rw [h4]
      refine KW.goOutR lay_ok P2_ok 100 rfl (by simp) ?_
      exact KW.goRet lay_ok P2_ok 100 rfl rfl rfl (by simp) trivial
    · have h3 : (elP P[q]).2 = true := by
        have h3 : (!(elP (P.getD (Int.toNat (q : Int)) ⟨#[]⟩)).2) = false := h
        rw [hg] at h3; simpa using h3
      refine KW.goToR lay_ok P2_ok 100 rfl (q + 1) [(4, 55)] rfl rfl ⟨rfl, rfl, rfl, rfl, trivial⟩ ?_ ⟨⟨by omega, ?_⟩, by omega⟩ ⟨own_cat _ ?_, trivial⟩
      · simp [inK, valsP, List.length_take]; omega
      · rw [htk, List.all_append, hall]; simp [h3]
      · rw [htk, valsP, valsP, List.map_append, hg]; rfl
  · have hq : q = P.length := by simp at h; omega
    subst hq
    rw [List.take_length] at hall ⊢
    rw [hall]
    refine KW.goOut lay_ok P2_ok 100 rfl (by simp) ?_
    refine KW.frz 4 [4] rfl rfl rfl ?_
    have hvl : (valsP P).length ≤ 1001 := by rw [valsP, List.length_map]; exact hPl
    have hvn : ∀ n ∈ valsP P, 0 ≤ n := fun n hn => by
      obtain ⟨t, _, rfl⟩ := List.mem_map.1 hn
      exact elP_nonneg t
    generalize valsP P = L at *
    refine KW.goLpR lay_ok P2_ok 100 rfl (I := fun q : Nat × Int × Int × Bool => ⟨Tryz.f50.ntmps, [(9, sI q.2.1), (10, sI q.2.2.1), (11, sB q.2.2.2), (57, .e (lV L)), (58, sI L.length), (59, sI q.1)], []⟩)
      (R := fun q => q.1 ≤ L.length ∧ goL (L.drop q.1) q.2.1 q.2.2.1 q.2.2.2 = goL L 0 (-1) true) (m := fun q => L.length - q.1) (0, 0, -1, true) [] rfl rfl ⟨rfl, rfl, rfl, rfl, rfl, rfl, trivial⟩ (by simp) ⟨Nat.zero_le _, rfl⟩ trivial ?_
    rintro ⟨q, out, last, ok⟩ ⟨r1, r2⟩
    simp only at r1 r2
    refine KW.goIf lay_ok P2_ok 100 rfl (by simp) rfl trivial (fun h => ?_) fun h => ?_
    · have hq : q < L.length := by simp at h; omega
      have hg : L.getD (Int.toNat (q : Int)) 0 = L[q] := by simp [List.getD_eq_getElem?_getD, hq]
      have hd : L.drop q = L[q] :: L.drop (q + 1) := List.drop_eq_getElem_cons hq
      have hnn := hvn _ (List.getElem_mem hq)
      rw [hd, goL] at r2
      refine KW.goIf lay_ok P2_ok 100 rfl (by simp; omega) rfl trivial (fun h => ?_) fun h => ?_
      · have h3 : 24 ≤ L[q] := by rw [hg] at h; simpa using h
        rw [if_pos h3] at r2
        refine KW.goOutR lay_ok P2_ok 100 rfl (by simp) ?_
        refine KW.goRet lay_ok P2_ok 100 rfl rfl ?_ (by simp) trivial
        simp only [if_true, ← r2]; rfl
      · have h3 : ¬ 24 ≤ L[q] := by rw [hg] at h; simpa using h
        rw [if_neg h3] at r2
        obtain ⟨i, hi⟩ := Int.eq_ofNat_of_zero_le hnn
        have hov : validS (ishl 1 L[q]) = true := by rw [hi]; exact one_valid (by omega)
        have hov' := validS_iff.1 hov
        refine KW.goToR lay_ok P2_ok 100 rfl (q + 1, ior .i64 out (ishl 1 L[q]), L[q], ok && decide (last < L[q])) [] rfl rfl ⟨by rw [← hg]; rfl, by rw [← hg]; rfl, by rw [← hg]; rfl, rfl, rfl, rfl, trivial⟩ ?_ ⟨⟨by simp only; omega, r2⟩, by simp only; omega⟩ trivial
        simp only [hg]
        simp +contextual [inK, bitsI]
        omega
    · have hq : q = L.length := by simp at h; omega
      rw [hq, List.drop_length, goL] at r2
      refine KW.goOut lay_ok P2_ok 100 rfl (by simp) ?_
      refine KW.goIf lay_ok P2_ok 100 rfl (by simp) rfl trivial (fun h => ?_) fun h => ?_
      · have h3 : ok = false := by simpa using h
        subst h3
        refine KW.goRet lay_ok P2_ok 100 rfl rfl ?_ (by simp) trivial
        simp only [if_true, ← r2]; rfl
      · have h3 : ok = true := by simpa using h
        subst h3
        refine KW.goRet lay_ok P2_ok 100 rfl rfl ?_ (by simp) trivial
        simp only [if_true, ← r2]; rfl
end Go.Proofs.YtdeoicedbphgoaaGreatDoor
