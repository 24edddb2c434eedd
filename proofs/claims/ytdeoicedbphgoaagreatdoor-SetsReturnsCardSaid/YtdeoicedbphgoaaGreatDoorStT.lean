/-
  A set's text, read again; the law SetsReturns.
-/
import Derived.Test.YtdeoicedbphgoaaGreatDoorStO
import Derived.Test.YtdeoicedbphgoaaGreatDoorStH
import Derived.Test.YtdeoicedbphgoaaGreatDoorSyV
set_option linter.unusedSectionVars false
set_option linter.unusedVariables false
set_option linter.unusedSimpArgs false
attribute [local instance] Go.Sy.drwNo
namespace Go.Pu
open Go.Sy Go.Proofs.YtdeoicedbphgoaaGreatDoor
theorem index_no : ∀ {w : List UInt8}, (∀ a ∈ w, a ≠ 44) → Lib.index w sepL = -1
  | [], _ => by simp [Lib.index, sepL]
  | a :: w, h => by rw [index_step (h a (.head _)), if_pos (index_no fun b hb => h b (.tail _ hb))]
theorem index_at : ∀ {w : List UInt8} {r : List UInt8}, (∀ a ∈ w, a ≠ 44) → Lib.index (w ++ 44 :: 32 :: r) sepL = (w.length : Nat)
  | [], r, _ => index_sep r
  | a :: w, r, h => by
    have ih := index_at (w := w) (r := r) fun b hb => h b (.tail _ hb)
    rw [List.cons_append, index_step (h a (.head _)), ih, if_neg (by omega), List.length_cons]
    omega
theorem pcs_join : ∀ {w : List UInt8} {ws : List (List UInt8)}, (∀ x ∈ w :: ws, ∀ a ∈ x, a ≠ 44) → pcs (w ++ Lib.joinTail sepL ws) = w :: ws
  | w, [], h => by
    rw [show Lib.joinTail sepL [] = [] from rfl, List.append_nil]
    exact pcs_miss (index_no (h w (.head _)))
  | w, v :: ws, h => by
    have e : Lib.joinTail sepL (v :: ws) = 44 :: 32 :: (v ++ Lib.joinTail sepL ws) := by simp [Lib.joinTail, sepL]
    rw [e, pcs_hit (index_at (h w (.head _))), List.take_left]
    congr 1
    rw [List.drop_append, List.drop_of_length_le (by omega), show w.length + 2 - w.length = 2 by omega]
    exact pcs_join fun x hx => h x (.tail _ hx)
theorem itoa_toks {n : Nat} (h : n < 24) : elL (itoaB n).data.toList = some n ∧ (∀ a ∈ (itoaB n).data.toList, a ≠ 44) ∧ (itoaB n).data.toList ≠ [] := by
  by_cases h1 : n < 10
  · rw [itoaB_small h1]
    have : ∀ n, n < 10 → elL [UInt8.ofNat (48 + n)] = some n ∧ (∀ a ∈ [UInt8.ofNat (48 + n)], a ≠ 44) ∧ [UInt8.ofNat (48 + n)] ≠ [] := by decide +kernel
    exact this n h1
  · rw [itoaB_two h1 (by omega)]
    have : ∀ n, n < 24 → ¬ n < 10 → elL [UInt8.ofNat (48 + n / 10), UInt8.ofNat (48 + n % 10)] = some n ∧ (∀ a ∈ [UInt8.ofNat (48 + n / 10), UInt8.ofNat (48 + n % 10)], a ≠ 44) ∧ [UInt8.ofNat (48 + n / 10), UInt8.ofNat (48 + n % 10)] ≠ [] := by decide +kernel
    exact this n h h1
theorem goL_elems {s : Int} (hs : validS s = true) : ∀ k, k ≤ 24 → ∃ out last : Int, (∀ r, goL (elemsN s k ++ r) 0 (-1) true = goL r out last true) ∧ validS out = true ∧ (∀ i, bit out i = (bit s i && decide (i < k))) ∧ last < k ∧ -1 ≤ last
  | 0, _ => ⟨0, -1, fun r => rfl, valid0, fun i => by simp, by decide, by decide⟩
  | k + 1, hk => by
    obtain ⟨out, last, h1, h2, h3, h4, h5⟩ := goL_elems hs k (by omega)
    rw [elemsN_succ]
    cases hb : bit s k with
    | false =>
      refine ⟨out, last, fun r => by rw [← h1]; simp, h2, fun i => ?_, by omega, h5⟩
      rw [h3]
      by_cases hik : i = k
      · subst hik; rw [hb]; rfl
      · congr 1
        exact decide_eq_decide.2 (by omega)
    | true =>
      refine ⟨ior .i64 out (ishl 1 k), k, fun r => ?_, valid_ior h2 (one_valid (by omega)), fun i => ?_, by omega, by omega⟩
      · rw [if_pos rfl, List.append_assoc, h1, List.singleton_append, goL, if_neg (by omega), decide_eq_true h4]; rfl
      · rw [bit_ior, h3, show ishl 1 (k : Int) = Go.Pu.one k from rfl, one_bit (by omega)]
        by_cases hik : k = i
        · subst hik; simp [hb]
        · rw [decide_eq_false hik, Bool.or_false]
          congr 1
          exact decide_eq_decide.2 (by omega)
theorem goL_all {s : Int} (hs : validS s = true) : goL (elemsS s) 0 (-1) true = (s, 0) := by
  obtain ⟨out, last, h1, h2, h3, h4, h5⟩ := goL_elems hs 24 (Nat.le_refl _)
  have := h1 []
  rw [List.append_nil] at this
  rw [elemsS, this, goL, if_pos rfl, valid_ext h2 hs fun i hi => by rw [h3, decide_eq_true hi, Bool.and_true]]
theorem ofL_elems {s : Int} (hs : validS s = true) : ∀ k, k ≤ 24 → ∃ out : Int, (∀ r, ofL 0 (elemsN s k ++ r) = ofL out r) ∧ validS out = true ∧ (∀ i, bit out i = (bit s i && decide (i < k)))
  | 0, _ => ⟨0, fun r => rfl, valid0, fun i => by simp⟩
  | k + 1, hk => by
    obtain ⟨out, h1, h2, h3⟩ := ofL_elems hs k (by omega)
    rw [elemsN_succ]
    cases hb : bit s k with
    | false =>
      refine ⟨out, fun r => by rw [← h1]; simp, h2, fun i => ?_⟩
      rw [h3]
      by_cases hik : i = k
      · subst hik; rw [hb]; rfl
      · congr 1
        exact decide_eq_decide.2 (by omega)
    | true =>
      refine ⟨ior .i64 out (ishl 1 k), fun r => ?_, valid_ior h2 (one_valid (by omega)), fun i => ?_⟩
      · have hh : hasB out k = false := by rw [hasB_nat _ (by omega), h3]; simp
        rw [if_pos rfl, List.append_assoc, h1, List.singleton_append, ofL, if_neg (by simp; omega), hh]; rfl
      · rw [bit_ior, h3, show ishl 1 (k : Int) = Go.Pu.one k from rfl, one_bit (by omega)]
        by_cases hik : k = i
        · subst hik; simp [hb]
        · rw [decide_eq_false hik, Bool.or_false]
          congr 1
          exact decide_eq_decide.2 (by omega)
theorem ofP_elems {s : Int} (hs : validS s = true) : ofP (elemsS s) = (s, 0) := by
  obtain ⟨out, h1, h2, h3⟩ := ofL_elems hs 24 (Nat.le_refl _)
  have := h1 []
  rw [List.append_nil] at this
  have hl := elemsN_length s 24
  rw [ofP, if_neg (by rw [elemsS]; omega), elemsS, this, ofL, valid_ext h2 hs fun i hi => by rw [h3, decide_eq_true hi, Bool.and_true]]
theorem ofL_spec : ∀ {l : List Int} {s : Int}, validS s = true → ((ofL s l).2 ≠ 0 → (ofL s l).1 = 0) ∧ ((ofL s l).2 = 0 → validS (ofL s l).1 = true ∧ cntS (ofL s l).1 = cntS s + l.length)
  | [], s, hs => ⟨fun h => absurd rfl h, fun _ => ⟨hs, by simp [ofL]⟩⟩
  | i :: r, s, hs => by
    rw [ofL]
    by_cases h1 : (decide (i < 0) || decide (i ≥ 24)) = true
    · rw [if_pos h1]; exact ⟨fun _ => rfl, fun h => by cases h⟩
    rw [if_neg h1]
    by_cases h2 : hasB s i = true
    · rw [if_pos h2]; exact ⟨fun _ => rfl, fun h => by cases h⟩
    rw [if_neg h2]
    simp only [Bool.or_eq_true, decide_eq_true_iff, not_or] at h1
    obtain ⟨k, rfl⟩ := Int.eq_ofNat_of_zero_le (show 0 ≤ i by omega)
    have hk : k < 24 := by omega
    have hb : bit s k = false := by
      have := hasB_nat s hk
      rw [this] at h2; simpa using h2
    have hv : validS (ishl 1 (k : Int)) = true := one_valid hk
    have hc : cntS (ior .i64 s (ishl 1 (k : Int))) = cntS s + 1 := by
      have := cnt_or_and hs hv
      have h0 : iand .i64 s (ishl 1 (k : Int)) = 0 := valid_ext (valid_iand hs) valid0 fun j _ => by
        rw [bit_iand, show ishl 1 (k : Int) = Go.Pu.one k from rfl, one_bit hk]
        by_cases hj : k = j
        · subst hj; simp [hb]
        · simp [hj]
      have h3 : cntS (ishl 1 (k : Int)) = 1 := by
        have : ∀ k, k < 24 → cntS (ishl 1 ((k : Nat) : Int)) = 1 := by decide +kernel
        exact this k hk
      have h4 : cntS 0 = 0 := by decide +kernel
      rw [h0, h3, h4] at this
      omega
    have ih := ofL_spec (l := r) (valid_ior hs hv)
    refine ⟨ih.1, fun h => ?_⟩
    obtain ⟨h5, h6⟩ := ih.2 h
    exact ⟨h5, by rw [h6, hc, List.length_cons]; omega⟩
theorem ofP_spec (l : List Int) : ((ofP l).2 ≠ 0 → (ofP l).1 = 0) ∧ ((ofP l).2 = 0 → validS (ofP l).1 = true ∧ (elemsS (ofP l).1).length = l.length) := by
  unfold ofP
  split
  · exact ⟨fun _ => rfl, fun h => by cases h⟩
  · obtain ⟨h1, h2⟩ := ofL_spec (l := l) valid0
    refine ⟨h1, fun h => ?_⟩
    obtain ⟨h3, h4⟩ := h2 h
    refine ⟨h3, ?_⟩
    have h5 := elemsS_length _ h3
    have h6 : cntS 0 = 0 := by decide +kernel
    have h7 : cntS (ofL 0 l).1 = popc (ofL 0 l).1 := by rw [cntS, cutS_of h3]
    omega
/-- a set's text is read as that set -/
theorem parse_text {s : Int} (hs : validS s = true) : parseP (textP s).1 = (s, 0) := by
  rw [textP, if_pos hs]
  have htok : ∀ w ∈ (elemsS s).map (fun i => (itoaB i.toNat).data.toList), (∀ a ∈ w, a ≠ 44) ∧ w ≠ [] := fun w hw => by
    obtain ⟨x, hx, rfl⟩ := List.mem_map.1 hw
    obtain ⟨i, hi, _, rfl⟩ := mem_elemsS.1 hx
    exact (itoa_toks (n := i) hi).2
  have hel : ∀ x ∈ elemsS s, elL (itoaB x.toNat).data.toList = some x.toNat ∧ 0 ≤ x := fun x hx => by
    obtain ⟨i, hi, _, rfl⟩ := mem_elemsS.1 hx
    exact ⟨(itoa_toks (n := i) hi).1, by omega⟩
  have hgo := goL_all hs
  cases he : elemsS s with
  | nil =>
    have h0 : s = 0 := valid_ext hs valid0 fun i hi => by
      cases hb : bit s i with
      | false => simp
      | true =>
        exfalso
        have : (i : Int) ∈ elemsS s := mem_elemsS.2 ⟨i, hi, hb, rfl⟩
        rw [he] at this; cases this
    subst h0
    simp only [List.map_nil, joinB_nil]
    decide +kernel
  | cons x r =>
    rw [he] at htok hel hgo
    have hJ : (joinB ((x :: r).map fun i => itoaB i.toNat) sepB).data.toList = (itoaB x.toNat).data.toList ++ Lib.joinTail sepL (r.map fun i => (itoaB i.toNat).data.toList) := by
      show Lib.join _ _ = _
      rw [List.map_cons, List.map_cons, Lib.join_cons, List.map_map]; rfl
    generalize joinB ((x :: r).map fun i => itoaB i.toNat) sepB = J at hJ ⊢
    have hJ0 : J.size ≠ 0 := fun e => by
      have h1 : J.data.toList.length = 0 := by rw [Array.length_toList]; exact e
      rw [hJ, List.length_append] at h1
      exact (htok _ (by rw [List.map_cons]; exact .head _)).2 (List.length_eq_zero_iff.1 (by omega))
    have ht : ((⟨#[123]⟩ ++ J) ++ ⟨#[125]⟩ : ByteArray) = strL (123 :: (J.data.toList ++ [125])) := ba_ext (by rw [ba_app, ba_app, strL_data]; rfl)
    simp only
    rw [ht]
    have hlen : J.data.toList.length = J.size := Array.length_toList
    have hsz : (strL (123 :: (J.data.toList ++ [125]))).size = J.size + 2 := by rw [strL_size, List.length_cons, List.length_append, hlen]; rfl
    have hin : innerP (strL (123 :: (J.data.toList ++ [125]))) = J := by
      rw [innerP, hsz, strL_extract]
      refine ba_ext ?_
      rw [strL_data, show J.size + 2 - 1 = J.data.toList.length + 1 by omega, List.take_succ_cons, List.drop_succ_cons, List.drop_zero, List.take_left]
    have hb : badP (strL (123 :: (J.data.toList ++ [125]))) = false := by
      unfold badP
      rw [strL_getD, strL_getD, hsz]
      have e1 : Int.toNat (((J.size + 2 : Nat) : Int) - 1) = J.data.toList.length + 1 := by omega
      rw [e1, decide_eq_false (by omega)]
      simp [List.getD_eq_getElem?_getD]
    have hne : ¬ ((strL (123 :: (J.data.toList ++ [125]))).toList == (⟨#[123, 125]⟩ : ByteArray).toList) = true := fun e => by
      have := congrArg List.length (beq_iff_eq.1 e)
      rw [strL_toList, show (⟨#[123, 125]⟩ : ByteArray).toList = [123, 125] by decide +kernel] at this
      rw [List.length_cons, List.length_append, hlen, List.length_singleton] at this
      have h2 : ([123, 125] : List UInt8).length = 2 := rfl
      omega
    have hpc := pieces_list (strL (123 :: (J.data.toList ++ [125])))
    have hpj : pcs J.data.toList = _ := (congrArg pcs hJ).trans (pcs_join fun w hw => (htok w (by rw [List.map_cons]; exact hw)).1)
    rw [hin, hpj] at hpc
    rw [parseP, hb, if_neg (by decide), if_neg hne]
    generalize piecesP (strL (123 :: (J.data.toList ++ [125]))) = P at hpc ⊢
    have h1 : (P.all fun t => (elP t).2) = (P.map (·.data.toList)).all fun t => (elL t).isSome := by
      rw [List.all_map]
      congr 1
      funext t
      simp [elP_list]
    have h2 : valsP P = (P.map (·.data.toList)).map elV := by
      rw [valsP, List.map_map]
      congr 1
      funext t
      simp [elP_list]
    have e3 : (itoaB x.toNat).data.toList :: r.map (fun i => (itoaB i.toNat).data.toList) = (x :: r).map fun i => (itoaB i.toNat).data.toList := rfl
    have h3 : ((P.map (·.data.toList)).all fun t => (elL t).isSome) = true := by
      rw [hpc, e3, List.all_eq_true]
      intro w hw
      obtain ⟨y, hy, rfl⟩ := List.mem_map.1 hw
      rw [(hel y hy).1]; rfl
    have h4 : (P.map (·.data.toList)).map elV = x :: r := by
      rw [hpc, e3, List.map_map]
      have : ∀ l : List Int, (∀ y ∈ l, elL (itoaB y.toNat).data.toList = some y.toNat ∧ 0 ≤ y) → l.map (elV ∘ fun i => (itoaB i.toNat).data.toList) = l := by
        intro l hl
        induction l with
        | nil => rfl
        | cons y l ih =>
          rw [List.map_cons, ih fun z hz => hl z (.tail _ hz)]
          have := hl y (.head _)
          simp [elV, this.1]; omega
      exact this _ hel
    rw [h1, h3, if_pos rfl, h2, h4]
    exact hgo
theorem lastD_at {l : List Int} {q : Nat} (h : q + 1 = l.length) (hq : q < l.length) : lastD l = l[q] := by
  unfold lastD
  have h0 : l ≠ [] := fun e => by rw [e] at hq; exact absurd hq (Nat.not_lt_zero _)
  rw [List.getLastD_eq_getLast?, List.getLast?_eq_getElem?, show l.length - 1 = q by omega, List.getElem?_eq_getElem hq]; rfl
theorem headD_at {l : List Int} (hq : 0 < l.length) : headD l = l[0] := by
  cases l with
  | nil => exact absurd hq (Nat.lt_irrefl 0)
  | cons x r => rfl
theorem elems_asc (s : Int) : (elemsS s).Pairwise (· < ·) := by
  unfold elemsS elemsN
  rw [List.pairwise_map]
  refine List.Pairwise.imp (fun {a b} (h : a < b) => by omega) (List.Pairwise.filter _ List.pairwise_lt_range)
end Go.Pu
namespace Go.Proofs.YtdeoicedbphgoaaGreatDoor
open Go.Sy Go.Pu
def rsT (m : Int) (T T2 : Nat) : List (Nat × Res) := [(0, .glo (laySplit_ren.g 1) T [.int .i64 m]), (1, .glo 1 T2 tabVs)]
set_option maxRecDepth 100000 in
set_option maxHeartbeats 3200000 in
theorem lawSetsReturns_does (s0 : Int) (l : List Int) (m : Int) (T T2 : Nat) : DoesF Tryz.prog 16 [iV s0, lV l] (rsT m T T2) (sB true) [] := by
  refine DoesF.body _ Tryz.func16 rfl rfl rfl rfl ?_
  refine KW.goIf lay_ok S12_ok 100 rfl (by simp) rfl trivial (fun h => ?_) fun h => ?_
  · exact KW.goRet lay_ok S12_ok 100 rfl rfl rfl (by simp) trivial
  have hlen : l.length ≤ 30 := by
    refine Classical.byContradiction fun hno => ?_
    simp at h; omega
  have hv := valid_cutS s0
  have hel := elemsN_length (cutS s0) 24
  rw [show elemsN (cutS s0) 24 = elemsS (cutS s0) from rfl] at hel
  refine KW.go lay_ok S12_ok 100 rfl (by simp) ?_
  have hP : parseP (textP (cutS s0)).1 = (cutS s0, 0) := parse_text hv
  have hT2 : (textP (cutS s0)).2 = 0 := by rw [textP, if_pos hv]
  have hO : ofP (listP (cutS s0)).1 = (cutS s0, 0) := by rw [listP, if_pos hv]; exact ofP_elems hv
  have hL2 : (listP (cutS s0)).2 = 0 := by rw [listP, if_pos hv]
  have hL1 : (listP (cutS s0)).1 = elemsS (cutS s0) := by rw [listP, if_pos hv]
  have hc := elemsS_length _ hv
  refine KW.call0 (parse_does (textP (cutS s0)).1 (Nat.le_trans (textP_size _) (by decide)) m T) (enters Tryz.func50 rfl rfl) [(0, 0)] [] [] (.inl rfl) rfl rfl rfl rfl rfl trivial ⟨⟨_, _, rfl, trivial, .conv (CVEq.refl _)⟩, trivial⟩ rfl ⟨rfl, trivial⟩ rfl trivial rfl rfl (.inl rfl) ?_
  refine KW.goIf lay_ok S12_ok 200 rfl (by simp) rfl trivial (fun h => ?_) fun h => ?_
  · exfalso
    simp [hP, hT2, hL2, hL1, ofP_elems hv, hc, cntS, cutS_of hv] at h
  refine KW.goLpR lay_ok S12_ok 200 rfl (I := fun q : Nat => ⟨Tryz.f16.ntmps, [(0, sI (cutS s0)), (1, .e (lV l)), (5, .e (lV (listP (cutS s0)).1)), (80, .e (lV (listP (cutS s0)).1)), (81, sI (listP (cutS s0)).1.length), (82, sI q)], [(1, .glo 1 T2 tabVs)]⟩)
    (R := fun q => q ≤ (elemsS (cutS s0)).length) (m := fun q => (elemsS (cutS s0)).length - q) 0 [(1, 1)] rfl rfl ⟨rfl, rfl, rfl, rfl, rfl, rfl, trivial⟩ (by simp) (Nat.zero_le _) ⟨rfl, trivial⟩ ?_
  intro q hq0
  refine KW.goIf lay_ok S12_ok 100 rfl (by simp) rfl trivial (fun h => ?_) fun h => ?_
  · have hq : q < (elemsS (cutS s0)).length := by rw [hL1] at h; simp at h; omega
    have hg : (listP (cutS s0)).1.getD (Int.toNat (q : Int)) 0 = (elemsS (cutS s0))[q] := by rw [hL1]; simp [List.getD_eq_getElem?_getD, hq]
    have hqL : q < (listP (cutS s0)).1.length := by rw [hL1]; exact hq
    have hgd : ∀ i (hi : i < (elemsS (cutS s0)).length), (listP (cutS s0)).1.getD i 0 = (elemsS (cutS s0))[i] := fun i hi => by rw [hL1]; simp [List.getD_eq_getElem?_getD, hi]
    have hB : hasB (cutS s0) ((listP (cutS s0)).1.getD q 0) = true := by
      obtain ⟨i, hi, hb, e⟩ := mem_elemsS.1 (List.getElem_mem hq)
      rw [hgd q hq, e, hasB_nat _ hi]; exact hb
    have hA : 0 < q → ¬ (listP (cutS s0)).1.getD q 0 ≤ (listP (cutS s0)).1.getD (q - 1) 0 := fun h0 => by
      rw [hgd q hq, hgd (q - 1) (by omega)]
      have := List.pairwise_iff_getElem.1 (elems_asc (cutS s0)) (q - 1) q (by omega) hq (by omega)
      omega
    have hD : q = 0 → (listP (cutS s0)).1.getD 0 0 = leaP (cutS s0) := fun h0 => by
      rw [hgd 0 (by omega), lea_head]
      exact (headD_at (by omega)).symm
    have hE : q + 1 = (elemsS (cutS s0)).length → (listP (cutS s0)).1.getD q 0 = grtS (cutS s0) := fun h0 => by
      rw [hgd q hq, grt_last]
      exact (lastD_at h0 hq).symm
    have hlL : (listP (cutS s0)).1.length = (elemsS (cutS s0)).length := by rw [hL1]
    clear hg hP hO
    refine KW.go lay_ok S12_ok 200 rfl ?_ ?_
    · simp +contextual [-List.getD_eq_getElem?_getD, inK]
      omega
    by_cases hq00 : q = 0
    · subst hq00
      refine KW.dupG 1 300 rfl ?_
      refine KW.call0 (least05_does (cutS s0) T2) (enters Tryz.func58 rfl rfl) [(0, 300)] [] [] (.inr ⟨20, true, _, rfl, rfl, ?_⟩) rfl rfl rfl rfl rfl trivial ⟨⟨_, _, rfl, ?_, .conv (CVEq.refl _)⟩, trivial⟩ rfl ⟨rfl, trivial⟩ rfl trivial rfl rfl (.inl rfl) ?_
      · simpa [-List.getD_eq_getElem?_getD] using hB
      · simpa [-List.getD_eq_getElem?_getD] using hB
      refine KW.goIf lay_ok S12_ok 200 rfl ?_ rfl trivial (fun h => ?_) fun h => ?_
      · have hB' := hB
        rw [hD rfl] at hB'
        simp [-List.getD_eq_getElem?_getD, inK, hB', hD rfl, hlL]
        omega
      · exfalso
        simp [-List.getD_eq_getElem?_getD, hB, hlL, hD rfl] at h
        have hB' := hB
        rw [hD rfl] at hB'
        rcases h with h | h
        · rw [hB'] at h; cases h
        · have h5 := hE (by omega)
          rw [hD rfl] at h5
          exact h.2 h5
      refine KW.goToR lay_ok S12_ok 100 rfl 1 [(1, 1)] rfl rfl ⟨rfl, rfl, rfl, rfl, rfl, rfl, trivial⟩ (by simp [inK]) ⟨by omega, by omega⟩ ⟨rfl, trivial⟩
    · have hq0' : ¬ ((q : Int) = 0) := by omega
      refine KW.skipD (iV (leaP (cutS s0))) rfl rfl ?_ rfl rfl ?_
      · simp [hq00]
      refine KW.goIf lay_ok S12_ok 200 rfl ?_ rfl trivial (fun h => ?_) fun h => ?_
      · have hlt : (listP (cutS s0)).1.getD (q - 1) 0 < (listP (cutS s0)).1.getD q 0 := by have := hA (by omega); omega
        simp [-List.getD_eq_getElem?_getD, inK, hB, hlL, hq00, hlt]
        omega
      · exfalso
        simp [-List.getD_eq_getElem?_getD, hB, hlL, hq00] at h
        rcases h with h | h
        · have := hA (by omega); omega
        · exact h.2 (hE (by omega))
      refine KW.goToR lay_ok S12_ok 100 rfl (q + 1) [(1, 1)] rfl rfl ⟨rfl, rfl, rfl, rfl, rfl, rfl, trivial⟩ (by simp [inK]; omega) ⟨by omega, by omega⟩ ⟨rfl, trivial⟩
  · have hq : q = (elemsS (cutS s0)).length := by rw [hL1] at h; simp at h; omega
    refine KW.goOut lay_ok S12_ok 100 rfl (by simp) ?_
    obtain ⟨o1, o2⟩ := ofP_spec l
    refine KW.goIf lay_ok S12_ok 100 rfl (by simp) rfl trivial (fun h => ?_) fun h => ?_
    · have h3 : (ofP l).2 ≠ 0 := by simpa using h
      refine KW.goRet lay_ok S12_ok 100 rfl rfl ?_ (by simp) trivial
      simp [SV.ren, EV.ren, o1 h3]
    · have h3 : (ofP l).2 = 0 := by simpa using h
      obtain ⟨o3, o4⟩ := o2 h3
      refine KW.goRet lay_ok S12_ok 100 rfl rfl ?_ (by simp +contextual) trivial
      simp [SV.ren, EV.ren, listP, o3, o4]
end Go.Proofs.YtdeoicedbphgoaaGreatDoor
