/-
  Both parsers of sets read the same: the pieces between the separators, and the reference's tokens.
-/
import Derived.Test.YtdeoicedbphgoaaGreatDoorStL
import Derived.Test.YtdeoicedbphgoaaGreatDoorPuS
import Derived.Test.YtdeoicedbphgoaaGreatDoorTrD
set_option linter.unusedSectionVars false
set_option linter.unusedVariables false
set_option linter.unusedSimpArgs false
attribute [local instance] Go.Sy.drwNo
namespace Go.Pu
open Go.Sy Go.Proofs.YtdeoicedbphgoaaGreatDoor
def sepL : List UInt8 := [44, 32]
def pcs (l : List UInt8) : List (List UInt8) := Lib.splitK sepL 0 (Lib.count l sepL) l
theorem pcs_miss {l : List UInt8} (h : Lib.index l sepL = -1) : pcs l = [l] := by
  unfold pcs
  rw [Lib.count_miss h]; rfl
theorem pcs_hit {l : List UInt8} {i : Nat} (h : Lib.index l sepL = i) : pcs l = l.take i :: pcs (l.drop (i + 2)) := by
  unfold pcs
  have hm : ¬ (Lib.index l sepL == -1) = true := fun e => by have := beq_iff_eq.1 e; omega
  have e : (Lib.index l sepL).toNat = i := by omega
  rw [Lib.count_hit (by decide) h, Nat.add_comm 1]
  rw [Lib.splitK, if_neg hm, e]
  rfl
theorem index_step {a : UInt8} {l : List UInt8} (h : a ≠ 44) : Lib.index (a :: l) sepL = if Lib.index l sepL = -1 then -1 else Lib.index l sepL + 1 := by
  rw [Lib.index]
  have : sepL.isPrefixOf (a :: l) = false := by
    simp [sepL, List.isPrefixOf, Ne.symm h]
  rw [this]
  simp
theorem index_sep (l : List UInt8) : Lib.index (44 :: 32 :: l) sepL = 0 := by
  rw [Lib.index]
  simp [sepL, List.isPrefixOf]
theorem index_ge2 (l : List UInt8) : Lib.index l sepL = -1 ∨ ∃ i : Nat, Lib.index l sepL = i := by
  have := Lib.index_ge l sepL
  by_cases h : Lib.index l sepL = -1
  · exact .inl h
  · exact .inr ⟨(Lib.index l sepL).toNat, by omega⟩
theorem index_zero {l : List UInt8} (h : Lib.index l sepL = 0) : ∃ v, l = 44 :: 32 :: v := by
  cases l with
  | nil => simp [Lib.index, sepL] at h
  | cons a l =>
    by_cases ha : a = 44
    · subst ha
      cases l with
      | nil => simp [Lib.index, sepL, List.isPrefixOf] at h
      | cons b l =>
        by_cases hb : b = 32
        · subst hb; exact ⟨l, rfl⟩
        · rw [Lib.index] at h
          have : sepL.isPrefixOf (44 :: b :: l) = false := by simp [sepL, List.isPrefixOf, Ne.symm hb]
          rw [this] at h
          have := Lib.index_ge (b :: l) sepL
          simp at h
          split at h <;> omega
    · rw [index_step ha] at h
      have := Lib.index_ge l sepL
      split at h <;> omega
theorem isD_ne {a : UInt8} (h : isD a = true) : a ≠ 44 := by rintro rfl; exact absurd h (by decide)
theorem digs_isD (a : UInt8) : digs.contains a = isD a := by
  have : ∀ k : Fin 256, digs.contains (UInt8.ofNat k.val) = isD (UInt8.ofNat k.val) := by decide +kernel
  have h := this ⟨a.toNat, a.toNat_lt⟩
  simpa using h
def elV (t : List UInt8) : Int := match elL t with | some n => (n : Int) | none => 0
theorem elP_list (s : ByteArray) : elP s = (elV s.data.toList, (elL s.data.toList).isSome) := by
  unfold elP elV
  split <;> rename_i h <;> simp [h]
def numPL (l : List UInt8) : Int × Int := if numQ l = 2 ∧ l.getD 0 0 = 48 then (0, 0) else (numK l (numQ l), (numQ l : Nat))
theorem elL_none3 {l : List UInt8} (h : 3 ≤ l.length) : elL l = none := by
  match l, h with
  | a :: b :: c :: r, _ => rfl
theorem elL_bad {a : UInt8} {l : List UInt8} (h : isD a = false) : elL (a :: l) = none := by
  match l with
  | [] => rw [elL, digs_isD, h]; rfl
  | [b] => rw [elL, digs_isD, h]; rfl
  | b :: c :: r => rfl
theorem elL_bad2 {a b : UInt8} {l : List UInt8} (h : isD b = false) : elL (a :: b :: l) = none := by
  match l with
  | [] => rw [elL, digs_isD, digs_isD, h, Bool.and_false]; rfl
  | c :: r => rfl
def tokL : Nat → List UInt8 → List Int → Option (List Int)
  | 0, _, _ => none
  | f + 1, r, acc => if r = [] then some acc else if r.take 2 ≠ sepL then none else if (numPL (r.drop 2)).2 = 0 then none
    else tokL f (r.drop (2 + (numPL (r.drop 2)).2.toNat)) (acc ++ [(numPL (r.drop 2)).1])
def tokP (acc : List Int) (s : List UInt8) : Option (List Int) := if (pcs s).all fun t => (elL t).isSome then some (acc ++ (pcs s).map elV) else none
/-- the first piece is no element: nothing is read -/
theorem tokP_none {acc : List Int} {s : List UInt8} (h1 : Lib.index s sepL = -1 → elL s = none) (h2 : ∀ i : Nat, Lib.index s sepL = i → elL (s.take i) = none) : tokP acc s = none := by
  unfold tokP
  rcases index_ge2 s with h | ⟨i, h⟩
  · rw [pcs_miss h]
    simp [h1 h]
  · rw [pcs_hit h]
    simp [h2 i h]
theorem tokP_one {acc : List Int} {s : List UInt8} {n : Nat} (h : Lib.index s sepL = -1) (he : elL s = some n) : tokP acc s = some (acc ++ [(n : Int)]) := by
  unfold tokP
  rw [pcs_miss h]
  simp [he, elV]
theorem tokP_cons {acc : List Int} {s v : List UInt8} {i n : Nat} (h : Lib.index s sepL = i) (hd : s.drop (i + 2) = v) (he : elL (s.take i) = some n) : tokP acc s = tokP (acc ++ [(n : Int)]) v := by
  unfold tokP
  rw [pcs_hit h, hd]
  simp [he, elV]
theorem take2 {a b : UInt8} {l : List UInt8} : (a :: b :: l).take 2 = [a, b] := rfl
theorem not_sep {u : List UInt8} (h0 : u ≠ []) (h : ¬ ∃ v, u = 44 :: 32 :: v) : u.take 2 ≠ sepL := by
  match u with
  | [] => exact absurd rfl h0
  | [a] => simp [sepL]
  | a :: b :: v =>
    rw [take2]
    intro e
    simp only [sepL, List.cons.injEq, and_true] at e
    obtain ⟨rfl, rfl⟩ := e
    exact h ⟨v, rfl⟩
theorem tokL_bad {f : Nat} {u : List UInt8} {acc : List Int} (h0 : u ≠ []) (h : ¬ ∃ v, u = 44 :: 32 :: v) : tokL f u acc = none := by
  cases f with
  | zero => rfl
  | succ f => rw [tokL, if_neg h0, if_pos (not_sep h0 h)]
theorem tok_same : ∀ (f : Nat) (s : List UInt8) (acc : List Int), s.length + 1 < f → tokL f (44 :: 32 :: s) acc = tokP acc s
  | 0, s, acc, h => by omega
  | f + 1, s, acc, hf => by
    have hpf : tokL (f + 1) (44 :: 32 :: s) acc = if (numPL s).2 = 0 then none else tokL f (s.drop (numPL s).2.toNat) (acc ++ [(numPL s).1]) := by
      rw [tokL, if_neg (by simp), if_neg (by rw [take2]; simp [sepL])]
      simp only [List.drop_succ_cons, List.drop_zero]
      split
      · rfl
      · rename_i h0
        congr 1
        rw [Nat.add_comm 2]; rfl
    rw [hpf]
    match s with
    | [] =>
      have e : (numPL []).2 = 0 := by decide
      rw [if_pos e]
      exact (tokP_none (fun _ => rfl) fun i h => by simp [elL]).symm
    | a :: t =>
      cases ha : isD a with
      | false =>
        have e : (numPL (a :: t)).2 = 0 := by simp [numPL, numQ, ha]
        rw [if_pos e]
        refine (tokP_none (fun _ => elL_bad ha) fun i h => ?_).symm
        cases i with
        | zero => rfl
        | succ i => exact elL_bad ha
      | true =>
        have na := isD_ne ha
        match t with
        | [] =>
          have e : numPL [a] = (((digN a : Nat) : Int), (1 : Int)) := by simp [numPL, numQ, ha, numK]
          rw [e, if_neg (by simp)]
          have hi : Lib.index [a] sepL = -1 := by rw [index_step na]; simp [Lib.index, sepL]
          rw [tokP_one (n := digN a) hi (by rw [elL, digs_isD, ha]; rfl)]
          match f, hf with
          | f + 1, _ => rw [tokL]; exact if_pos rfl
        | b :: u =>
          cases hb : isD b with
          | true =>
            have nb := isD_ne hb
            have hq : numQ (a :: b :: u) = 2 := by simp [numQ, ha, hb]
            by_cases h48 : a = 48
            · have e : (numPL (a :: b :: u)).2 = 0 := by
                unfold numPL
                rw [if_pos ⟨hq, by rw [h48]; rfl⟩]
              rw [if_pos e]
              refine (tokP_none (fun _ => ?_) fun i h => ?_).symm
              · match u with
                | [] => rw [elL, digs_isD, digs_isD, ha, hb, h48]; rfl
                | c :: r => rfl
              · match i with
                | 0 => rfl
                | 1 =>
                  rw [index_step na, index_step nb] at h
                  have := Lib.index_ge u sepL
                  split at h <;> (try split at h) <;> omega
                | 2 => show elL [a, b] = none; rw [elL, digs_isD, digs_isD, ha, hb, h48]; rfl
                | i + 3 =>
                  match u with
                  | [] =>
                    rw [index_step na, index_step nb, show Lib.index ([] : List UInt8) sepL = -1 from by simp [Lib.index, sepL], if_pos rfl, if_pos rfl] at h
                    omega
                  | c :: r => rfl
            · have e : numPL (a :: b :: u) = (((10 * digN a + digN b : Nat) : Int), (2 : Int)) := by
                unfold numPL
                rw [if_neg (by rw [hq]; simp [h48]), hq]
                simp [numK]
              have he2 : elL [a, b] = some (10 * digN a + digN b) := by
                rw [elL, digs_isD, digs_isD, ha, hb]
                simp [h48]
              rw [e, if_neg (by simp)]
              show tokL f u _ = _
              by_cases hu : u = []
              · subst hu
                have hi : Lib.index [a, b] sepL = -1 := by rw [index_step na, index_step nb]; simp [Lib.index, sepL]
                rw [tokP_one hi he2]
                match f, hf with
                | f + 1, _ => rw [tokL, if_pos rfl]
              · by_cases hv : ∃ v, u = 44 :: 32 :: v
                · obtain ⟨v, rfl⟩ := hv
                  have hi : Lib.index (a :: b :: 44 :: 32 :: v) sepL = (2 : Nat) := by rw [index_step na, index_step nb, index_sep]; rfl
                  rw [tokP_cons (v := v) (n := 10 * digN a + digN b) hi rfl he2]
                  exact tok_same f v _ (by simp at hf; omega)
                · rw [tokL_bad hu hv]
                  refine (tokP_none (fun _ => ?_) fun i h => ?_).symm
                  · match u with
                    | c :: r => rfl
                  · rw [index_step na, index_step nb] at h
                    have hz : Lib.index u sepL ≠ 0 := fun h0 => hv (index_zero h0)
                    have := Lib.index_ge u sepL
                    match i with
                    | 0 => split at h <;> (try split at h) <;> omega
                    | 1 => split at h <;> (try split at h) <;> omega
                    | 2 => split at h <;> (try split at h) <;> omega
                    | i + 3 =>
                      match u with
                      | c :: r => rfl
          | false =>
            have hq : numQ (a :: b :: u) = 1 := by simp [numQ, ha, hb]
            have e : numPL (a :: b :: u) = (((digN a : Nat) : Int), (1 : Int)) := by simp [numPL, hq, numK]
            rw [e, if_neg (by simp)]
            show tokL f (b :: u) _ = _
            by_cases hv : ∃ v, b :: u = 44 :: 32 :: v
            · obtain ⟨v, hv⟩ := hv
              rw [hv]
              have hi : Lib.index (a :: 44 :: 32 :: v) sepL = (1 : Nat) := by rw [index_step na, index_sep]; rfl
              rw [tokP_cons (v := v) (n := digN a) hi rfl (by show elL [a] = _; rw [elL, digs_isD, ha]; rfl)]
              refine tok_same f v _ ?_
              have := congrArg List.length hv
              simp at this hf
              omega
            · rw [tokL_bad (by simp) hv]
              refine (tokP_none (fun _ => elL_bad2 hb) fun i h => ?_).symm
              rw [index_step na] at h
              have hz : Lib.index (b :: u) sepL ≠ 0 := fun h0 => hv (index_zero h0)
              have := Lib.index_ge (b :: u) sepL
              match i with
              | 0 => split at h <;> omega
              | 1 => split at h <;> omega
              | i + 2 => exact elL_bad2 hb
/-! the values -/
def sumR : List Int → Int → Int → Int × Int
  | [], _, out => (out, 0)
  | n :: r, last, out => if n ≤ last then (0, 13) else sumR r n (out + ishl 1 n)
theorem goL_bad : ∀ (l : List Int) (out last : Int), goL l out last false = if (l.any fun n => decide (24 ≤ n)) = true then (0, 3) else (0, 13)
  | [], out, last => by simp [goL]
  | n :: r, out, last => by
    rw [goL]
    by_cases h : 24 ≤ n
    · simp [h]
    · rw [if_neg h, Bool.false_and, goL_bad r]
      simp [h]
theorem goL_ok : ∀ (l : List Int) (out last : Int), (∀ n ∈ l, 0 ≤ n) → validS out = true → -1 ≤ last → (∀ j, bit out j = true → (j : Int) ≤ last) → goL l out last true = if (l.any fun n => decide (24 ≤ n)) = true then (0, 3) else sumR l last out
  | [], out, last, _, _, _, _ => by simp [goL, sumR]
  | n :: r, out, last, h0, hv, hl, hb => by
    rw [goL]
    by_cases h : 24 ≤ n
    · simp [h]
    · rw [if_neg h, sumR]
      have hn := h0 n (.head _)
      by_cases hlt : last < n
      · have h1 : ishl 1 n = one n.toNat := by
          obtain ⟨k, rfl⟩ := Int.eq_ofNat_of_zero_le hn
          rw [Int.toNat_natCast]; rfl
        have hov : validS (ishl 1 n) = true := by
          obtain ⟨k, rfl⟩ := Int.eq_ofNat_of_zero_le hn
          exact one_valid (by omega)
        have hbo : ∀ j, bit (ishl 1 n) j = decide (n.toNat = j) := fun j => bit_shl hn (by omega) j
        have hadd : ior .i64 out (ishl 1 n) = out + ishl 1 n := or_add hv hov fun j hj => by
          rw [hbo]
          have := hb j hj
          rw [decide_eq_false_iff_not]
          omega
        rw [decide_eq_true hlt, Bool.true_and, if_neg (show ¬ n ≤ last by omega), hadd]
        have ih := goL_ok r (out + ishl 1 n) n (fun m hm => h0 m (.tail _ hm)) (by rw [← hadd]; exact valid_ior hv hov) (by omega) (fun j hj => by
          rw [← hadd, bit_ior, Bool.or_eq_true, hbo, decide_eq_true_iff] at hj
          rcases hj with hj | hj
          · have := hb j hj; omega
          · omega)
        rw [ih]
        simp [h]
      · rw [decide_eq_false hlt, Bool.true_and, goL_bad, if_pos (show n ≤ last by omega)]
        simp [h]
def badR5 (s : ByteArray) : Bool := decide ((s.size : Int) < 3) || !(((s.data.getD (Int.toNat 0) 0).toNat : Int) == 123) || !(((s.data.getD (Int.toNat ((s.size : Int) - 1)) 0).toNat : Int) == 125)
def tokR (s : ByteArray) : Option (List Int) := tokL (s.size + 3) (44 :: 32 :: (innerP s).data.toList) []
def finR : Option (List Int) → Int × Int
  | none => (0, 2)
  | some l => if (l.any fun n => decide (24 ≤ n)) = true then (0, 3) else sumR l (-1) 0
def rparP (s : ByteArray) : Int × Int :=
  if s.toList == (⟨#[123, 125]⟩ : ByteArray).toList then (0, 0) else if badR5 s then (0, 2) else finR (tokR s)
theorem elV_nonneg (t : List UInt8) : 0 ≤ elV t := by
  unfold elV; split
  · exact Int.natCast_nonneg _
  · exact Int.le_refl 0
theorem pieces_list (s : ByteArray) : (piecesP s).map (·.data.toList) = pcs (innerP s).data.toList := Lib.splitB_data _ _ _ _
theorem tok_pieces (s : ByteArray) : tokR s = if ((piecesP s).all fun t => (elP t).2) = true then some (valsP (piecesP s)) else none := by
  have hsz : (innerP s).data.toList.length ≤ s.size := by
    rw [Array.length_toList]
    show (innerP s).size ≤ s.size
    rw [innerP, ByteArray.size_extract]; omega
  rw [tokR, tok_same _ _ _ (by omega), tokP, List.nil_append, ← pieces_list]
  have h1 : ((piecesP s).map (·.data.toList)).all (fun t => (elL t).isSome) = (piecesP s).all fun t => (elP t).2 := by
    rw [List.all_map]
    congr 1
    funext t
    simp [elP_list]
  have h2 : ((piecesP s).map (·.data.toList)).map elV = valsP (piecesP s) := by
    rw [valsP, List.map_map]
    congr 1
    funext t
    simp [elP_list]
  rw [h1, h2]
theorem parse_same (s : ByteArray) : rparP s = parseP s := by
  unfold rparP parseP
  by_cases he : (s.toList == (⟨#[123, 125]⟩ : ByteArray).toList) = true
  · have hb : badP s = false := by
      have : s = ⟨#[123, 125]⟩ := by
        have := beq_iff_eq.1 he
        rw [Go.ByteArray.toList_eq, Go.ByteArray.toList_eq] at this
        apply ByteArray.ext
        exact Array.toList_inj.1 this
      subst this
      decide +kernel
    rw [if_pos he, if_neg (by rw [hb]; decide), if_pos he]
  · rw [if_neg he]
    by_cases hb : badR5 s = true
    · rw [if_pos hb]
      by_cases hb2 : badP s = true
      · rw [if_pos hb2]
      · exfalso
        have h1 : badP s = false := by simpa using hb2
        unfold badP at h1
        unfold badR5 at hb
        simp only [Bool.or_eq_false_iff, decide_eq_false_iff_not] at h1
        obtain ⟨⟨h2, h3⟩, h4⟩ := h1
        rw [h3, h4, Bool.or_false, Bool.or_false, decide_eq_true_iff] at hb
        have hs : s.size = 2 := by omega
        apply he
        obtain ⟨⟨l⟩⟩ := s
        have hl : l.length = 2 := hs
        match l, hl with
        | [a, b], _ =>
          have h3' : a = 123 := by
            have : (((a.toNat : Nat) : Int) == 123) = true := by simpa using h3
            rw [beq_iff_eq] at this
            exact UInt8.toNat_inj.1 (by show a.toNat = 123; omega)
          have h4' : b = 125 := by
            have h5 : (!((b.toNat : Int) == 125)) = false := h4
            have : (((b.toNat : Nat) : Int) == 125) = true := by simpa using h5
            rw [beq_iff_eq] at this
            exact UInt8.toNat_inj.1 (by show b.toNat = 125; omega)
          subst h3'; subst h4'
          decide +kernel
    · have hb2 : ¬ badP s = true := fun h => hb (by
        unfold badP at h
        unfold badR5
        simp only [Bool.or_eq_true, decide_eq_true_iff] at h ⊢
        rcases h with (h | h) | h
        · exact .inl (.inl (by omega))
        · exact .inl (.inr h)
        · exact .inr h)
      rw [if_neg hb, if_neg hb2, if_neg he, tok_pieces]
      by_cases ha : ((piecesP s).all fun t => (elP t).2) = true
      · rw [if_pos ha, if_pos ha]
        show (if _ then _ else _) = _
        rw [goL_ok _ 0 (-1) (fun n hn => by
          obtain ⟨t, _, rfl⟩ := List.mem_map.1 hn
          exact elP_nonneg t) (by decide) (by decide) (fun j hj => by simp at hj)]
      · rw [if_neg ha, if_neg ha]; rfl
end Go.Pu
