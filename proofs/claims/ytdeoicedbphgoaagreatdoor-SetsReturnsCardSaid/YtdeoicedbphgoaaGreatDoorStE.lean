/-
  The reference's texts and lists of layers 5 and 6; the law FamilyLists.
-/
import Derived.Test.YtdeoicedbphgoaaGreatDoorStD
set_option linter.unusedSectionVars false
set_option linter.unusedVariables false
set_option linter.unusedSimpArgs false
attribute [local instance] Go.Sy.drwNo
namespace Go.Pu
open Go.Sy
theorem ba_ext {a b : ByteArray} (h : a.data.toList = b.data.toList) : a = b := by
  obtain ⟨⟨a⟩⟩ := a
  obtain ⟨⟨b⟩⟩ := b
  simp only at h
  rw [h]
theorem ba_app (a b : ByteArray) : (a ++ b).data.toList = a.data.toList ++ b.data.toList := by
  rw [ByteArray.data_append, Array.toList_append]
theorem ba_nil (a : ByteArray) : (⟨#[]⟩ : ByteArray) ++ a = a := ba_ext (by rw [ba_app]; rfl)
theorem joinB_nil (sep : ByteArray) : joinB [] sep = ⟨#[]⟩ := rfl
theorem joinB_snoc (ws : List ByteArray) (w sep : ByteArray) : joinB (ws ++ [w]) sep = if ws = [] then w else (joinB ws sep ++ sep) ++ w := by
  cases ws with
  | nil => exact ba_ext (by simp [joinB, Lib.join_one])
  | cons x r =>
    rw [if_neg (by simp)]
    refine ba_ext ?_
    rw [ba_app, ba_app]
    show (Lib.join _ _) = Lib.join _ _ ++ _ ++ _
    rw [List.cons_append, List.map_cons, List.map_cons, Lib.join_cons, Lib.join_cons, List.map_append]
    simp [Lib.joinTail]
theorem textP_size (s : Int) : (textP s).1.size ≤ 102 := by
  unfold textP
  split
  · have hel : (elemsS s).length ≤ 24 := elemsN_length s 24
    have hm : ∀ b ∈ (elemsS s).map (fun i => itoaB i.toNat), b.size ≤ 2 := fun b hb => by
      obtain ⟨x, hx, rfl⟩ := List.mem_map.1 hb
      obtain ⟨i, hi, _, rfl⟩ := mem_elemsS.1 hx
      exact itoaB_size (by omega)
    have := joinB_size (l := (elemsS s).map fun i => itoaB i.toNat) (sep := sepB) (by simpa using hel) hm rfl
    have e1 : (⟨#[123]⟩ : ByteArray).size = 1 := rfl
    have e2 : (⟨#[125]⟩ : ByteArray).size = 1 := rfl
    simp only
    rw [ByteArray.size_append, ByteArray.size_append, e1, e2]
    omega
  · exact Nat.zero_le _
theorem joinB_snoc_size (ws : List ByteArray) (w sep : ByteArray) : (joinB (ws ++ [w]) sep).size ≤ (joinB ws sep).size + sep.size + w.size := by
  rw [joinB_snoc]
  split
  · omega
  · rw [ByteArray.size_append, ByteArray.size_append]; omega
theorem joinB_bound {k m : Nat} {sep : ByteArray} (hs : sep.size = m) : ∀ (ws : List ByteArray), (∀ b ∈ ws, b.size ≤ k) → (joinB ws sep).size ≤ (k + m) * ws.length := by
  intro ws h
  have e : (joinB ws sep).size = (Lib.join (ws.map (·.data.toList)) sep.data.toList).length := List.size_toArray
  rw [e]
  have hl : ∀ (l : List ByteArray), (∀ b ∈ l, b.size ≤ k) → Lib.lens (l.map (·.data.toList)) ≤ k * l.length := by
    intro l
    induction l with
    | nil => intro _; simp [Lib.lens]
    | cons a l ih =>
      intro h
      have h1 := ih fun b hb => h b (.tail _ hb)
      have h2 := h a (.head _)
      have e : a.data.toList.length = a.size := Array.length_toList
      have e2 : Lib.lens ((a :: l).map (·.data.toList)) = a.data.toList.length + Lib.lens (l.map (·.data.toList)) := by simp [Lib.lens]
      rw [e2, e, List.length_cons, Nat.mul_add]
      omega
  cases ws with
  | nil => simp [Lib.join_nil]
  | cons a l =>
    have h2 := hl _ h
    rw [List.map_cons] at h2 ⊢
    rw [Lib.join_length]
    have h3 : sep.data.toList.length = m := by rw [← hs]; exact Array.length_toList
    rw [h3, List.length_map]
    have h4 : (k + m) * (a :: l).length = k * (a :: l).length + m * l.length + m := by
      simp only [List.length_cons, Nat.add_mul, Nat.mul_add]; omega
    rw [h4]
    omega
def digB (n : Nat) : ByteArray := if n < 10 then ByteArray.extract ⟨#[48, 49, 50, 51, 52, 53, 54, 55, 56, 57]⟩ n (n + 1) else ByteArray.extract ⟨#[48, 49, 50, 51, 52, 53, 54, 55, 56, 57]⟩ (n / 10) (n / 10 + 1) ++ ByteArray.extract ⟨#[48, 49, 50, 51, 52, 53, 54, 55, 56, 57]⟩ (n % 10) (n % 10 + 1)
theorem dig_one : ∀ n, n < 10 → ByteArray.extract ⟨#[48, 49, 50, 51, 52, 53, 54, 55, 56, 57]⟩ n (n + 1) = ⟨#[UInt8.ofNat (48 + n)]⟩ := by decide +kernel
theorem digB_eq {n : Nat} (h : n < 100) : digB n = itoaB n := by
  unfold digB
  by_cases h1 : n < 10
  · rw [if_pos h1, dig_one n h1, itoaB_small h1]
  · rw [if_neg h1, dig_one _ (by omega), dig_one _ (by omega), itoaB_two h1 h]
    exact ba_ext (by rw [ba_app]; rfl)
def textsF (l : List Int) : ByteArray := joinB (l.map fun s => (textP s).1) ⟨#[32]⟩
theorem rmax_eq {l : List Int} (hv : Val l) : ((sortS l).filter fun x => l.all fun t => !partB x t) = maxS l := by
  obtain ⟨h1, h2⟩ := sortS_spec hv
  refine Asc.unique (List.Pairwise.sublist List.filter_sublist h1) (maxS_asc hv) fun x => ?_
  rw [List.mem_filter, h2, mem_maxS hv, List.all_eq_true]
  refine and_congr_right fun hx => ?_
  constructor
  · intro h y hy hp
    have := h y hy
    rw [Bool.not_eq_true'] at this
    exact Classical.byContradiction fun hne => by
      rw [(part_partB (hv x hx)).2 ⟨fun e => hne e.symm, hp⟩] at this; cases this
  · intro h t ht
    rw [Bool.not_eq_true']
    cases hb : partB x t with
    | false => rfl
    | true =>
      obtain ⟨h3, h4⟩ := (part_partB (hv x hx)).1 hb
      exact absurd (h t ht h4).symm h3
theorem rcheck_eq {l : List Int} (hv : Val l) (hs : l = sortedL l) : (minS l).length = l.length ↔ l = leastS l := by
  rw [← minS_eq hv]
  constructor
  · intro h
    have ha : Asc l := by rw [hs]; exact (sortedL_spec hv).1
    refine Asc.unique ha (minS_asc hv) fun x => ⟨fun hx => Classical.byContradiction fun hn => ?_, fun hx => minS_sub hv hx⟩
    have := nodup_len (a := minS l) (b := l.erase x) (asc_nodup (minS_asc hv)) fun y hy => (List.mem_erase_of_ne (fun e => hn (by rw [← e]; exact hy))).2 (minS_sub hv hy)
    rw [List.length_erase_of_mem hx] at this
    have := List.length_pos_of_mem hx
    omega
  · intro h; rw [← h]
end Go.Pu
namespace Go.Proofs.YtdeoicedbphgoaaGreatDoor
open Go.Sy Go.Pu

theorem digits_does (n : Nat) (hn : n < 100) : DoesF Tryz.prog 127 [iV n] [] (.e (strV (itoaB n))) [] := by
  refine DoesF.body _ Tryz.func127 rfl rfl rfl rfl ?_
  rw [← digB_eq hn, digB]
  refine KW.goIf lay_ok S3_ok 100 rfl (by simp) rfl trivial (fun h => ?_) fun h => ?_
  · have h1 : n < 10 := by simp at h; omega
    have e : Int.toNat ((n : Int) + 1) = n + 1 := by omega
    refine KW.goRet lay_ok S3_ok 100 rfl rfl ?_ ?_ trivial
    · rw [if_pos h1]
      simp only [Int.toNat_natCast, e, SV.ren, EV.ren]
    · simp [inK, ByteArray.size]; omega
  · have h1 : ¬ n < 10 := by simp at h; omega
    rw [if_neg h1]
    have ed : (n : Int).tdiv 10 = ((n / 10 : Nat) : Int) := by rw [Int.tdiv_eq_ediv_of_nonneg (by omega)]; omega
    have em : (n : Int).tmod 10 = ((n % 10 : Nat) : Int) := by rw [Int.tmod_eq_emod_of_nonneg (by omega)]; omega
    refine KW.goDT lay_ok S3_ok rfl 100 rfl 13 rfl rfl rfl rfl rfl (by simp) ?_ ?_
    · simp [ByteArray.size, inK]
      rw [em]
      omega
    refine KW.goRet lay_ok S3_ok 100 rfl rfl ?_ (by simp) trivial
    have e1 : Int.toNat (((n / 10 : Nat) : Int) + 1) = n / 10 + 1 := by omega
    have e2 : Int.toNat (((n % 10 : Nat) : Int) + 1) = n % 10 + 1 := by omega
    simp only [SV.ren, EV.ren, ed, em, Int.toNat_natCast, e1, e2]
def S4 : Fns := (127, fI (fun n => .e (strV (itoaB n.toNat))) fun n => 0 ≤ n ∧ n < 100) ::
  S3
theorem S4_ok : FnsOk Tryz.prog S4 := .cons (S3_ok) Tryz.func127 rfl rfl (fI_ok fun n h => by simpa [Int.toNat_of_nonneg h.1] using digits_does n.toNat (by omega))


theorem rtext_does (s : Int) : DoesF Tryz.prog 51 [iV s] [] (.tup [strV (textP s).1, iV (textP s).2]) [] := by
  refine DoesF.body _ Tryz.func51 rfl rfl rfl rfl ?_
  refine KW.goIf lay_ok S4_ok 100 rfl (by simp) rfl trivial (fun h => ?_) fun h => ?_
  · have h1 : ¬ validS s = true := by simpa using h
    refine KW.goRet lay_ok S4_ok 100 rfl rfl ?_ (by simp) trivial
    rw [textP, if_neg h1]; rfl
  have h1 : validS s = true := by simpa using h
  rw [textP, if_pos h1]
  have hmem : ∀ x ∈ elemsS s, 0 ≤ x ∧ x < 24 := fun x hx => by
    obtain ⟨i, hi, _, rfl⟩ := mem_elemsS.1 hx; omega
  have hel := elemsN_length s 24
  rw [show elemsN s 24 = elemsS s from rfl] at hel
  have hsz : ∀ b ∈ (elemsS s).map (fun i => itoaB i.toNat), b.size ≤ 2 := fun b hb => by
    obtain ⟨i, hi, rfl⟩ := List.mem_map.1 hb
    have := hmem i hi
    exact itoaB_size (by omega)
  have hJ : ∀ q, q ≤ (elemsS s).length → (joinB (((elemsS s).map fun i => itoaB i.toNat).take q) sepB).size ≤ 100 := fun q hq => by
    refine joinB_size (by simp; omega) (fun b hb => ?_) rfl
    exact hsz b (List.mem_of_mem_take hb)
  refine KW.go lay_ok S4_ok 100 rfl (by simp) ?_
  have e00 : (⟨#[123]⟩ : ByteArray) ++ joinB (((elemsS s).map fun i => itoaB i.toNat).take 0) sepB = ⟨#[123]⟩ := ba_ext (by rw [ba_app]; rfl)
  refine KW.goLpR lay_ok S4_ok 100 rfl (I := fun q : Nat => ⟨Tryz.f51.ntmps, [(4, .e (strV (⟨#[123]⟩ ++ joinB (((elemsS s).map fun i => itoaB i.toNat).take q) sepB))), (11, .e (lV (elemsS s))), (12, sI (elemsS s).length), (13, sI q)], []⟩)
    (R := fun q => q ≤ (elemsS s).length) (m := fun q => (elemsS s).length - q) 0 [] rfl rfl ⟨by rw [e00]; rfl, rfl, rfl, rfl, trivial⟩ (by simp) (Nat.zero_le _) trivial ?_
  rintro q hq0
  refine KW.goIf lay_ok S4_ok 100 rfl (by simp) rfl trivial (fun h => ?_) fun h => ?_
  · have hq : q < (elemsS s).length := by simpa using h
    have hg : (elemsS s).getD (Int.toNat (q : Int)) 0 = (elemsS s)[q] := by simp [List.getD_eq_getElem?_getD, hq]
    have hz := hmem _ (List.getElem_mem hq)
    have htk : ((elemsS s).map fun i => itoaB i.toNat).take (q + 1) = ((elemsS s).map fun i => itoaB i.toNat).take q ++ [itoaB (elemsS s)[q].toNat] := by
      rw [List.take_add_one, List.getElem?_map, List.getElem?_eq_getElem hq]; rfl
    have hj := hJ q hq0
    have hj1 := hJ (q + 1) hq
    have hnil : ((elemsS s).map fun i => itoaB i.toNat).take q = [] ↔ q = 0 := by
      rw [List.take_eq_nil_iff, List.map_eq_nil_iff]
      constructor
      · rintro (h | h)
        · exact h
        · rw [h] at hq; exact absurd hq (Nat.not_lt_zero _)
      · exact .inl
    have e1 : (⟨#[123]⟩ : ByteArray).size = 1 := rfl
    have e2 : (⟨#[44, 32]⟩ : ByteArray).size = 2 := rfl
    have hw : (itoaB (elemsS s)[q].toNat).size ≤ 2 := itoaB_size (by omega)
    refine KW.goIf lay_ok S4_ok 100 rfl (by simpa using hq) rfl trivial (fun h3 => ?_) fun h3 => ?_
    · have h3 : 0 < q := by simpa using h3
      refine KW.goToR lay_ok S4_ok 100 rfl (q + 1) [] rfl rfl ⟨?_, rfl, rfl, rfl, trivial⟩ ?_ ⟨by omega, by omega⟩ trivial
      · rw [htk, joinB_snoc, if_neg (by rw [hnil]; omega)]
        simp only [hg]
        simp only [sepB, ByteArray.append_assoc]
        rfl
      · simp only [hg]
        simp [inK, ByteArray.size_append, e1, e2]
        omega
    · have h3 : q = 0 := by simp at h3; omega
      refine KW.goToR lay_ok S4_ok 100 rfl (q + 1) [] rfl rfl ⟨?_, rfl, rfl, rfl, trivial⟩ ?_ ⟨by omega, by omega⟩ trivial
      · rw [htk, joinB_snoc, if_pos (by rw [hnil]; omega)]
        simp only [hg]
        subst h3
        rfl
      · simp only [hg]
        simp [inK, ByteArray.size_append, e1, e2]
        omega
  · have hq : q = (elemsS s).length := by simp at h; omega
    have hj := hJ q hq0
    subst hq
    rw [List.take_of_length_le (by simp)] at hj ⊢
    refine KW.goOut lay_ok S4_ok 100 rfl (by simp) ?_
    refine KW.goRet lay_ok S4_ok 100 rfl rfl ?_ ?_ trivial
    · rfl
    · have e1 : (⟨#[123]⟩ : ByteArray).size = 1 := rfl
      have e2 : (⟨#[125]⟩ : ByteArray).size = 1 := rfl
      simp [ByteArray.size_append, e1, e2]
      omega

def S5 : Fns := (213, fII (fun a b => sB (partB a b)) fun _ _ => True) ::
  (51, fI (fun s => .tup [strV (textP s).1, iV (textP s).2]) fun _ => True) ::
  (32, fL (fun l => .e (eV (checkE l))) fun _ => True) ::
  S4
theorem S5_ok : FnsOk Tryz.prog S5 := .cons (.cons (.cons (S4_ok) Tryz.func32 rfl rfl (fL_ok fun l _ => check_does l)) Tryz.func51 rfl rfl (fI_ok fun s _ => rtext_does s)) Tryz.func213 rfl rfl (fII_ok fun a b _ => part_does a b)


theorem textsF_bound (l : List Int) (q : Nat) (hl : l.length ≤ 1024) : (textsF (l.take q)).size ≤ 105472 := by
  have := joinB_bound (k := 102) (m := 1) (sep := ⟨#[32]⟩) rfl ((l.take q).map fun s => (textP s).1) fun b hb => by
    obtain ⟨x, _, rfl⟩ := List.mem_map.1 hb
    exact textP_size x
  unfold textsF
  rw [List.length_map, List.length_take] at this
  omega

def S6 : Fns := S5
theorem S6_ok : FnsOk Tryz.prog S6 := S5_ok


theorem lists_eq (l : List Int) : (if listE l = 0 then sortedL l else []) = (if listE l = 0 then sortS l else []) ∧ (if listE l = 0 then minS l else []) = (if listE l = 0 then leastS l else []) ∧ (if listE l = 0 then sizeL [] (sortedL l) else []) = if listE l = 0 then sizeL [] (sortS l) else [] := by
  by_cases h : listE l = 0
  · have hv : Val l := listE_valid h
    rw [if_pos h, if_pos h, if_pos h, if_pos h, if_pos h, if_pos h, sortedL_eq hv, minS_eq hv]
    exact ⟨rfl, rfl, rfl⟩
  · simp [h]
end Go.Proofs.YtdeoicedbphgoaaGreatDoor
