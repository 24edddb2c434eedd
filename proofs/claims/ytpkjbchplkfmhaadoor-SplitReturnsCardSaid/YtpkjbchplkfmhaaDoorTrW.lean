/-
  TREES: their texts are read back. No program is named here.
-/
import Derived.Test.YtpkjbchplkfmhaaDoorTrE
set_option linter.unusedSectionVars false
set_option linter.unusedVariables false
set_option linter.unusedSimpArgs false
namespace Go.Pu
open Go.Sy
variable [Drw]
theorem dg_ofNat {u : Nat} (h : u < 10) : isDg (UInt8.ofNat (48 + u)) = true ∧ (UInt8.ofNat (48 + u)).toNat - 48 = u ∧ ((UInt8.ofNat (48 + u)) = 48 → u = 0) := by
  exact (by decide +kernel : ∀ u : Fin 10, isDg (UInt8.ofNat (48 + u.val)) = true ∧ (UInt8.ofNat (48 + u.val)).toNat - 48 = u.val ∧ ((UInt8.ofNat (48 + u.val)) = 48 → u.val = 0)) ⟨u, h⟩
theorem decD_dig (u : Nat) : ∀ a ∈ Lib.decDigits u, isDg a = true := by
  induction u using Nat.strongRecOn with
  | _ u ih =>
    intro a ha
    rw [Lib.decDigits] at ha
    split at ha
    · rename_i h
      rw [List.mem_singleton] at ha; subst ha
      exact (dg_ofNat h).1
    · rcases List.mem_append.1 ha with ha | ha
      · exact ih (u / 10) (by omega) a ha
      · rw [List.mem_singleton] at ha; subst ha
        exact (dg_ofNat (by omega)).1
theorem decD_val (u : Nat) : valD 0 (Lib.decDigits u) = u := by
  induction u using Nat.strongRecOn with
  | _ u ih =>
    rw [Lib.decDigits]
    split
    · rename_i h
      have := (dg_ofNat h).2.1
      rw [valD_cons, valD_nil]; omega
    · have := (dg_ofNat (show u % 10 < 10 by omega)).2.1
      rw [valD_append, ih (u / 10) (by omega), valD_cons, valD_nil]; omega
theorem decD_ne (u : Nat) : Lib.decDigits u ≠ [] := by
  rw [Lib.decDigits]; split <;> simp
theorem decD_head (u : Nat) (hu : 1 ≤ u) : (Lib.decDigits u).getD 0 0 ≠ 48 := by
  induction u using Nat.strongRecOn with
  | _ u ih =>
    rw [Lib.decDigits]
    split
    · rename_i h
      intro e
      have := (dg_ofNat h).2.2 (by simpa using e)
      omega
    · have := ih (u / 10) (by omega) (by omega)
      have hne := decD_ne (u / 10)
      cases hd : Lib.decDigits (u / 10) with
      | nil => exact absurd hd hne
      | cons a r => rw [hd] at this; simpa using this
theorem nDig_le : ∀ (m u : Nat), u < 10 ^ (m + 1) → Lib.nDigits u ≤ m + 1
  | 0, u, h => by rw [Lib.nDigits_small (by simpa using h)]; exact Nat.le_refl _
  | m + 1, u, h => by
    by_cases h1 : u < 10
    · rw [Lib.nDigits_small h1]; omega
    · rw [Lib.nDigits_big h1]
      have := nDig_le m (u / 10) (by rw [Nat.pow_succ] at h; omega)
      omega
theorem nDig_gt {u m : Nat} (h : ¬ u < 10 ^ m) : m < Lib.nDigits u := by
  refine Nat.lt_of_not_le fun hle => h ?_
  exact Nat.lt_of_lt_of_le (Lib.lt_pow_nDigits u) (Nat.pow_le_pow_right (by decide) hle)
theorem nDg_app : ∀ (l rest : List UInt8), (∀ a ∈ l, isDg a = true) → nDg rest = 0 → nDg (l ++ rest) = l.length
  | [], rest, _, h => h
  | a :: l, rest, h, h0 => by
    rw [List.cons_append, nDg, if_pos (h a (.head _)), nDg_app l rest (fun x hx => h x (.tail _ hx)) h0]; rfl
theorem getD_app {l rest : List UInt8} (h : l ≠ []) : (l ++ rest).getD 0 0 = l.getD 0 0 := by
  cases l with
  | nil => exact absurd rfl h
  | cons a r => rfl
theorem negB_dig {l : List UInt8} (h : nDg l ≠ 0) : negB l = false := by
  cases hb : negB l with
  | false => rfl
  | true => exact absurd (nDg_neg hb) h
theorem numR_show {m : Nat} (n : Int) (rest : List UInt8) (h0 : nDg rest = 0) (hn : n.natAbs < 10 ^ (m + 1)) : numRP (m + 1) (Lib.itoa n ++ rest) = (n, (Lib.itoa n).length) := by
  have hl : (Lib.decDigits n.natAbs).length = Lib.nDigits n.natAbs := Lib.decDigits_length _
  have hlm := nDig_le m n.natAbs hn
  have hp := Lib.nDigits_pos n.natAbs
  have hd := nDg_app _ rest (decD_dig n.natAbs) h0
  have htk : (Lib.decDigits n.natAbs ++ rest).take (Lib.decDigits n.natAbs).length = Lib.decDigits n.natAbs := by rw [List.take_left]
  have hv := decD_val n.natAbs
  by_cases hneg : n < 0
  · have hi : Lib.itoa n = 45 :: Lib.decDigits n.natAbs := by rw [Lib.itoa, if_pos hneg]
    have hh := decD_head n.natAbs (by omega)
    rw [hi, List.cons_append]
    have hb : negB (45 :: (Lib.decDigits n.natAbs ++ rest)) = true := rfl
    have hk : negK (45 :: (Lib.decDigits n.natAbs ++ rest)) = 1 := rfl
    rw [← getD_app (rest := rest) (decD_ne _)] at hh
    unfold numRP badR
    rw [hk, hb, List.drop_succ_cons, List.drop_zero, hd, htk, hv, beq_eq_false_iff_ne.2 hh]
    rw [if_neg (by simp [decD_ne]; omega), if_pos rfl]
    refine Prod.ext ?_ ?_
    · simp only; omega
    · simp only [List.length_cons]; omega
  · have hi : Lib.itoa n = Lib.decDigits n.natAbs := by rw [Lib.itoa, if_neg hneg]; congr 1; omega
    rw [hi]
    have hb : negB (Lib.decDigits n.natAbs ++ rest) = false := negB_dig (by rw [hd]; omega)
    have hk : negK (Lib.decDigits n.natAbs ++ rest) = 0 := by simp [negK, hb]
    unfold numRP badR
    rw [hk, hb, List.drop_zero, hd, htk, hv]
    rw [if_neg ?_, if_neg (by decide)]
    · refine Prod.ext ?_ ?_
      · simp only; omega
      · simp only; omega
    · rw [getD_app (decD_ne _), Bool.or_false]
      simp only [Bool.or_eq_true, Bool.and_eq_true, beq_iff_eq, decide_eq_true_eq]
      rintro ((h1 | h1) | ⟨h1, h2⟩)
      · omega
      · omega
      · have : n.natAbs = 0 := Classical.byContradiction fun hne => decD_head n.natAbs (by omega) h1
        rw [this] at hl
        rw [Lib.nDigits_small (by decide)] at hl
        rw [this] at h2
        omega
theorem numR_long {m : Nat} (n : Int) (rest : List UInt8) (h0 : nDg rest = 0) (hn : ¬ n.natAbs < 10 ^ m) : (numRP m (Lib.itoa n ++ rest)).2 = 0 := by
  have hl : (Lib.decDigits n.natAbs).length = Lib.nDigits n.natAbs := Lib.decDigits_length _
  have hlm := nDig_gt hn
  have hd := nDg_app _ rest (decD_dig n.natAbs) h0
  unfold numRP
  rw [if_pos]
  unfold badR
  by_cases hneg : n < 0
  · have hi : Lib.itoa n = 45 :: Lib.decDigits n.natAbs := by rw [Lib.itoa, if_pos hneg]
    rw [hi, List.cons_append]
    have hk : negK (45 :: (Lib.decDigits n.natAbs ++ rest)) = 1 := rfl
    rw [hk, List.drop_succ_cons, List.drop_zero, hd, decide_eq_true (show m < (Lib.decDigits n.natAbs).length by omega), Bool.or_true, Bool.true_or]
  · have hi : Lib.itoa n = Lib.decDigits n.natAbs := by rw [Lib.itoa, if_neg hneg]; congr 1; omega
    have hb : negB (Lib.decDigits n.natAbs ++ rest) = false := negB_dig (by rw [hd]; have := Lib.nDigits_pos n.natAbs; omega)
    have hk : negK (Lib.decDigits n.natAbs ++ rest) = 0 := by simp [negK, hb]
    rw [hi, hk, List.drop_zero, hd, decide_eq_true (show m < (Lib.decDigits n.natAbs).length by omega), Bool.or_true, Bool.true_or]
/-! the text of a tree -/
def showT : Tr → List UInt8 := Tr.bin (fun t => Lib.itoa t.r) fun t x y => 91 :: (Lib.itoa t.v ++ 32 :: (x ++ 32 :: (y ++ [93])))
theorem showT_eq (t : Tr) : showT t = if t.n = 2 then 91 :: (Lib.itoa t.v ++ 32 :: (showT (t.k 0) ++ 32 :: (showT (t.k 1) ++ [93]))) else Lib.itoa t.r := Tr.bin_eq _ _ t
def depT : Tr → Nat := Tr.bin (fun _ => 1) fun _ x y => max x y + 1
theorem depT_eq (t : Tr) : depT t = if t.n = 2 then max (depT (t.k 0)) (depT (t.k 1)) + 1 else 1 := Tr.bin_eq _ _ t
def goodR (r : Int) : Bool := decide (r.natAbs < 10 ^ 18)
def goodT : Tr → Bool := Tr.bin (fun t => goodR t.r) fun _ x y => x && y
theorem goodT_eq (t : Tr) : goodT t = if t.n = 2 then goodT (t.k 0) && goodT (t.k 1) else goodR t.r := Tr.bin_eq _ _ t
theorem itoa_head (n : Int) (rest : List UInt8) : Lib.itoa n ++ rest ≠ [] ∧ (Lib.itoa n ++ rest).getD 0 0 ≠ 91 := by
  have hne := decD_ne n.natAbs
  by_cases hneg : n < 0
  · have hi : Lib.itoa n = 45 :: Lib.decDigits n.natAbs := by rw [Lib.itoa, if_pos hneg]
    rw [hi]
    exact ⟨by simp, by simp⟩
  · have hi : Lib.itoa n = Lib.decDigits n.natAbs := by rw [Lib.itoa, if_neg hneg]; congr 1; omega
    rw [hi]
    have hd := decD_dig n.natAbs
    cases h : Lib.decDigits n.natAbs with
    | nil => exact absurd h hne
    | cons a r =>
      rw [h] at hd
      have := hd a (.head _)
      refine ⟨by simp, ?_⟩
      show a ≠ 91
      rintro rfl
      exact absurd this (by decide)
theorem itoa_len (n : Int) : 1 ≤ (Lib.itoa n).length := by
  have hne := decD_ne n.natAbs
  by_cases hneg : n < 0
  · have hi : Lib.itoa n = 45 :: Lib.decDigits n.natAbs := by rw [Lib.itoa, if_pos hneg]
    rw [hi]; simp
  · have hi : Lib.itoa n = Lib.decDigits n.natAbs := by rw [Lib.itoa, if_neg hneg]; congr 1; omega
    rw [hi]; exact List.length_pos_iff.2 hne
theorem showT_len (t : Tr) : 1 ≤ (showT t).length := by
  rw [showT_eq]; split
  · simp
  · exact itoa_len _
theorem drop_app {a b : List UInt8} {k : Nat} (h : a.length = k) : (a ++ b).drop k = b := by rw [← h, List.drop_left]
theorem atB_mid {a b : List UInt8} {c : UInt8} {k : Nat} (h : a.length = k) : atB (a ++ c :: b) k c = true := by
  rw [← atB_drop, drop_app h]; simp [atB]
theorem read_show : ∀ (f : Nat) (t : Tr), gT t → depT t ≤ f → ∀ rest : List UInt8, nDg rest = 0 →
    (goodT t = true → readRP f (showT t ++ rest) = (t, (showT t).length)) ∧ (goodT t = false → (readRP f (showT t ++ rest)).2 = 0)
  | 0, t, _, hd, _, _ => by rw [depT_eq] at hd; split at hd <;> omega
  | f + 1, t, hg, hd, rest, h0 => by
    rw [gT_eq] at hg
    rw [depT_eq] at hd
    rw [goodT_eq, showT_eq, readRP]
    by_cases h2 : t.n = 2
    · rw [if_pos h2] at hg hd ⊢
      rw [if_pos h2]
      obtain ⟨g1, g2, g3, g4, g5⟩ := hg
      have ia := read_show f (t.k 0) g4 (by omega)
      have ib := read_show f (t.k 1) g5 (by omega)
      have la := showT_len (t.k 0)
      have lb := showT_len (t.k 1)
      have lv := itoa_len t.v
      generalize hA : showT (t.k 0) = A at *
      generalize hB : showT (t.k 1) = B at *
      have hl : 91 :: (Lib.itoa t.v ++ 32 :: (A ++ 32 :: (B ++ [93]))) ++ rest = 91 :: (Lib.itoa t.v ++ 32 :: (A ++ 32 :: (B ++ 93 :: rest))) := by simp
      rw [hl]
      have hn := numR_show (m := 1) t.v (32 :: (A ++ 32 :: (B ++ 93 :: rest))) (by rw [nDg, if_neg (by decide)]) (by omega)
      rw [if_neg (by simp), if_neg (by simp)]
      dsimp only
      have e0 : (91 :: (Lib.itoa t.v ++ 32 :: (A ++ 32 :: (B ++ 93 :: rest)))).drop 1 = Lib.itoa t.v ++ 32 :: (A ++ 32 :: (B ++ 93 :: rest)) := rfl
      rw [e0, hn]
      dsimp only
      rw [if_neg (by omega)]
      have c1 : (91 :: (Lib.itoa t.v ++ 32 :: (A ++ 32 :: (B ++ 93 :: rest)))) = (91 :: Lib.itoa t.v) ++ 32 :: (A ++ 32 :: (B ++ 93 :: rest)) := rfl
      have c2 : (91 :: (Lib.itoa t.v ++ 32 :: (A ++ 32 :: (B ++ 93 :: rest)))) = (91 :: Lib.itoa t.v ++ 32 :: A) ++ 32 :: (B ++ 93 :: rest) := by simp
      have c3 : (91 :: (Lib.itoa t.v ++ 32 :: (A ++ 32 :: (B ++ 93 :: rest)))) = (91 :: Lib.itoa t.v ++ 32 :: A ++ 32 :: B) ++ 93 :: rest := by simp
      have d1 : (91 :: (Lib.itoa t.v ++ 32 :: (A ++ 32 :: (B ++ 93 :: rest)))).drop ((Lib.itoa t.v).length + 1 + 1) = A ++ 32 :: (B ++ 93 :: rest) := by
        rw [show (91 :: (Lib.itoa t.v ++ 32 :: (A ++ 32 :: (B ++ 93 :: rest)))) = (91 :: Lib.itoa t.v ++ [32]) ++ (A ++ 32 :: (B ++ 93 :: rest)) by simp]
        exact drop_app (by simp)
      have a1 : atB (91 :: (Lib.itoa t.v ++ 32 :: (A ++ 32 :: (B ++ 93 :: rest)))) ((Lib.itoa t.v).length + 1) 32 = true := by rw [c1]; exact atB_mid (by simp)
      rw [a1, if_neg (by decide), d1]
      obtain ⟨iaT, iaF⟩ := ia (32 :: (B ++ 93 :: rest)) (by rw [nDg, if_neg (by decide)])
      cases hga : goodT (t.k 0) with
      | false =>
        rw [iaF hga, if_pos rfl]
        exact ⟨fun h => absurd h (by simp), fun _ => rfl⟩
      | true =>
      rw [iaT hga]
      dsimp only
      rw [if_neg (by omega)]
      have a2 : atB (91 :: (Lib.itoa t.v ++ 32 :: (A ++ 32 :: (B ++ 93 :: rest)))) ((Lib.itoa t.v).length + 1 + (1 + A.length)) 32 = true := by rw [c2]; exact atB_mid (by simp; omega)
      have d2 : (91 :: (Lib.itoa t.v ++ 32 :: (A ++ 32 :: (B ++ 93 :: rest)))).drop ((Lib.itoa t.v).length + 1 + (1 + A.length) + 1) = B ++ 93 :: rest := by
        rw [show (91 :: (Lib.itoa t.v ++ 32 :: (A ++ 32 :: (B ++ 93 :: rest)))) = (91 :: Lib.itoa t.v ++ 32 :: A ++ [32]) ++ (B ++ 93 :: rest) by simp]
        exact drop_app (by simp; omega)
      rw [a2, if_neg (by decide), d2]
      obtain ⟨ibT, ibF⟩ := ib (93 :: rest) (by rw [nDg, if_neg (by decide)])
      cases hgb : goodT (t.k 1) with
      | false =>
        rw [ibF hgb, if_pos rfl]
        exact ⟨fun h => absurd h (by simp), fun _ => rfl⟩
      | true =>
      rw [ibT hgb]
      dsimp only
      rw [if_neg (by omega)]
      have a3 : atB (91 :: (Lib.itoa t.v ++ 32 :: (A ++ 32 :: (B ++ 93 :: rest)))) ((Lib.itoa t.v).length + 1 + (1 + A.length) + (1 + B.length)) 93 = true := by rw [c3]; exact atB_mid (by simp; omega)
      rw [a3, if_neg (by decide)]
      refine ⟨fun _ => Prod.ext ?_ ?_, fun h => absurd h (by simp)⟩
      · exact (Tr.eq_two g3 h2).symm
      · simp; omega
    · rw [if_neg h2] at hg ⊢
      rw [if_neg h2]
      obtain ⟨i1, i2⟩ := itoa_head t.r rest
      rw [if_neg i1, if_pos i2]
      refine ⟨fun h => ?_, fun h => ?_⟩
      · rw [numR_show (m := 17) t.r rest h0 (by simpa [goodR] using h)]
        refine Prod.ext ?_ rfl
        exact (Tr.eq_lf hg.2 hg.1).symm
      · rw [numR_long t.r rest h0 (by simpa [goodR] using h)]
/-- a tree without errors is not deep -/
theorem depT_le : ∀ (k : Nat) {vars : Int} {t : Tr} {a : Int}, vars ≤ 24 → okT vars t a → (∀ S : List Nat, S.Nodup → (∀ i ∈ S, i < 24 ∧ bit a i = false) → S.length ≤ k) → depT t ≤ k + 1 := by
  intro k vars t
  induction t using Tr.ind generalizing k with
  | h t ih =>
    intro a hv
    rw [okT_eq, depT_eq]
    split
    · rename_i h
      rintro ⟨g1, g2, g3, g4, g5, g6⟩ hS
      rw [bitB_bit _ g1 (by omega)] at g3
      have h1 := hS [t.v.toNat] (by simp) (by simp; exact ⟨by omega, g3⟩)
      obtain ⟨k, rfl⟩ : ∃ m, k = m + 1 := ⟨k - 1, by simp at h1; omega⟩
      have hS' : ∀ S : List Nat, S.Nodup → (∀ i ∈ S, i < 24 ∧ bit (ior .i64 a (ishl 1 t.v)) i = false) → S.length ≤ k := fun S hn hi => by
        have := hS (t.v.toNat :: S) (by
          refine List.nodup_cons.2 ⟨fun hm => ?_, hn⟩
          have := (hi _ hm).2
          rw [bit_ior, bit_shl g1 (by omega)] at this
          simp at this) (by
          intro i him
          rcases List.mem_cons.1 him with rfl | him
          · exact ⟨by omega, g3⟩
          · have := hi i him
            rw [bit_ior, Bool.or_eq_false_iff] at this
            exact ⟨this.1, this.2.1⟩)
        simpa using this
      have h0 := ih 0 (by omega) k hv g5 hS'
      have h1 := ih 1 (by omega) k hv g6 hS'
      omega
    · intro _ _; omega
theorem nodup_lt : ∀ (n : Nat) (S : List Nat), S.Nodup → (∀ i ∈ S, i < n) → S.length ≤ n
  | 0, S, _, hi => by
    cases S with
    | nil => exact Nat.le_refl _
    | cons a r => exact absurd (hi a (.head _)) (Nat.not_lt_zero _)
  | n + 1, S, hn, hi => by
    have h1 := nodup_lt n (S.erase n) (hn.erase n) fun i h => by
      have := (hn.mem_erase_iff).1 h
      have := hi i this.2
      omega
    rw [List.length_erase] at h1
    split at h1 <;> omega
end Go.Pu
