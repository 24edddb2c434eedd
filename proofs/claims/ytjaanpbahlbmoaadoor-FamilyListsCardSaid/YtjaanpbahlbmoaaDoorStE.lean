/-
  The reference's texts and lists of layers 5 and 6; the law FamilyLists.
-/
import Derived.Test.YtjaanpbahlbmoaaDoorStD
set_option linter.unusedSectionVars false
set_option linter.unusedVariables false
set_option linter.unusedSimpArgs false
attribute [local instance] Go.Sy.drwNo
namespace Go.Pu
open Go.Sy
theorem ba_ext {a b : ByteArray} (h : a.data.toList = b.data.toList) : a = b := by
  obtain ⟨⟨a⟩⟩ := a
  obtain ⟨⟨b⟩⟩ := b
  simp only at h
  rw [h]
theorem ba_app (a b : ByteArray) : (a ++ b).data.toList = a.data.toList ++ b.data.toList := by
  rw [ByteArray.data_append, Array.toList_append]
theorem ba_nil (a : ByteArray) : (⟨#[]⟩ : ByteArray) ++ a = a := ba_ext (by rw [ba_app]; rfl)
theorem joinB_nil (sep : ByteArray) : joinB [] sep = ⟨#[]⟩ := rfl
theorem joinB_snoc (ws : List ByteArray) (w sep : ByteArray) : joinB (ws ++ [w]) sep = if ws = [] then w else (joinB ws sep ++ sep) ++ w := by
  cases ws with
  | nil => exact ba_ext (by simp [joinB, Lib.join_one])
  | cons x r =>
    rw [if_neg (by simp)]
    refine ba_ext ?_
    rw [ba_app, ba_app]
    show (Lib.join _ _) = Lib.join _ _ ++ _ ++ _
    rw [List.cons_append, List.map_cons, List.map_cons, Lib.join_cons, Lib.join_cons, List.map_append]
    simp [Lib.joinTail]
theorem textP_size (s : Int) : (textP s).1.size ≤ 102 := by
  unfold textP
  split
  · have hel : (elemsS s).length ≤ 24 := elemsN_length s 24
    have hm : ∀ b ∈ (elemsS s).map (fun i => itoaB i.toNat), b.size ≤ 2 := fun b hb => by
      obtain ⟨x, hx, rfl⟩ := List.mem_map.1 hb
      obtain ⟨i, hi, _, rfl⟩ := mem_elemsS.1 hx
      exact itoaB_size (by omega)
    have := joinB_size (l := (elemsS s).map fun i => itoaB i.toNat) (sep := sepB) (by simpa using hel) hm rfl
    have e1 : (⟨#[123]⟩ : ByteArray).size = 1 := rfl
    have e2 : (⟨#[125]⟩ : ByteArray).size = 1 := rfl
    simp only
    rw [ByteArray.size_append, ByteArray.size_append, e1, e2]
    omega
  · exact Nat.zero_le _
theorem joinB_snoc_size (ws : List ByteArray) (w sep : ByteArray) : (joinB (ws ++ [w]) sep).size ≤ (joinB ws sep).size + sep.size + w.size := by
  rw [joinB_snoc]
  split
  · omega
  · rw [ByteArray.size_append, ByteArray.size_append]; omega
theorem joinB_bound {k m : Nat} {sep : ByteArray} (hs : sep.size = m) : ∀ (ws : List ByteArray), (∀ b ∈ ws, b.size ≤ k) → (joinB ws sep).size ≤ (k + m) * ws.length := by
  intro ws h
  have e : (joinB ws sep).size = (Lib.join (ws.map (·.data.toList)) sep.data.toList).length := List.size_toArray
  rw [e]
  have hl : ∀ (l : List ByteArray), (∀ b ∈ l, b.size ≤ k) → Lib.lens (l.map (·.data.toList)) ≤ k * l.length := by
    intro l
    induction l with
    | nil => intro _; simp [Lib.lens]
    | cons a l ih =>
      intro h
      have h1 := ih fun b hb => h b (.tail _ hb)
      have h2 := h a (.head _)
      have e : a.data.toList.length = a.size := Array.length_toList
      have e2 : Lib.lens ((a :: l).map (·.data.toList)) = a.data.toList.length + Lib.lens (l.map (·.data.toList)) := by simp [Lib.lens]
      rw [e2, e, List.length_cons, Nat.mul_add]
      omega
  cases ws with
  | nil => simp [Lib.join_nil]
  | cons a l =>
    have h2 := hl _ h
    rw [List.map_cons] at h2 ⊢
    rw [Lib.join_length]
    have h3 : sep.data.toList.length = m := by rw [← hs]; exact Array.length_toList
    rw [h3, List.length_map]
    have h4 : (k + m) * (a :: l).length = k * (a :: l).length + m * l.length + m := by
      simp only [List.length_cons, Nat.add_mul, Nat.mul_add]; omega
    rw [h4]
    omega
def digB (n : Nat) : ByteArray := if n < 10 then ByteArray.extract ⟨#[48, 49, 50, 51, 52, 53, 54, 55, 56, 57]⟩ n (n + 1) else ByteArray.extract ⟨#[48, 49, 50, 51, 52, 53, 54, 55, 56, 57]⟩ (n / 10) (n / 10 + 1) ++ ByteArray.extract ⟨#[48, 49, 50, 51, 52, 53, 54, 55, 56, 57]⟩ (n % 10) (n % 10 + 1)
theorem dig_one : ∀ n, n < 10 → ByteArray.extract ⟨#[48, 49, 50, 51, 52, 53, 54, 55, 56, 57]⟩ n (n + 1) = ⟨#[UInt8.ofNat (48 + n)]⟩ := by decide +kernel
theorem digB_eq {n : Nat} (h : n < 100) : digB n = itoaB n := by
  unfold digB
  by_cases h1 : n < 10
  · rw [if_pos h1, dig_one n h1, itoaB_small h1]
  · rw [if_neg h1, dig_one _ (by omega), dig_one _ (by omega), itoaB_two h1 h]
    exact ba_ext (by rw [ba_app]; rfl)
def textsF (l : List Int) : ByteArray := joinB (l.map fun s => (textP s).1) ⟨#[32]⟩
theorem rmax_eq {l : List Int} (hv : Val l) : ((sortS l).filter fun x => l.all fun t => !partB x t) = maxS l := by
  obtain ⟨h1, h2⟩ := sortS_spec hv
  refine Asc.unique (List.Pairwise.sublist List.filter_sublist h1) (maxS_asc hv) fun x => ?_
  rw [List.mem_filter, h2, mem_maxS hv, List.all_eq_true]
  refine and_congr_right fun hx => ?_
  constructor
  · intro h y hy hp
    have := h y hy
    rw [Bool.not_eq_true'] at this
    exact Classical.byContradiction fun hne => by
      rw [(part_partB (hv x hx)).2 ⟨fun e => hne e.symm, hp⟩] at this; cases this
  · intro h t ht
    rw [Bool.not_eq_true']
    cases hb : partB x t with
    | false => rfl
    | true =>
      obtain ⟨h3, h4⟩ := (part_partB (hv x hx)).1 hb
      exact absurd (h t ht h4).symm h3
theorem rcheck_eq {l : List Int} (hv : Val l) (hs : l = sortedL l) : (minS l).length = l.length ↔ l = leastS l := by
  rw [← minS_eq hv]
  constructor
  · intro h
    have ha : Asc l := by rw [hs]; exact (sortedL_spec hv).1
    refine Asc.unique ha (minS_asc hv) fun x => ⟨fun hx => Classical.byContradiction fun hn => ?_, fun hx => minS_sub hv hx⟩
    have := nodup_len (a := minS l) (b := l.erase x) (asc_nodup (minS_asc hv)) fun y hy => (List.mem_erase_of_ne (fun e => hn (by rw [← e]; exact hy))).2 (minS_sub hv hy)
    rw [List.length_erase_of_mem hx] at this
    have := List.length_pos_of_mem hx
    omega
  · intro h; rw [← h]
end Go.Pu
namespace Go.Proofs.YtjaanpbahlbmoaaDoor
open Go.Sy Go.Pu

theorem digits_does (n : Nat) (hn : n < 100) : DoesF Tryd.prog 99 [iV n] [] (.e (strV (itoaB n))) [] := by
  refine DoesF.body _ Tryd.func99 rfl rfl rfl rfl ?_
  rw [← digB_eq hn, digB]
  refine KW.goIf lay_ok S3_ok 100 rfl (by simp) rfl trivial (fun h => ?_) fun h => ?_
  · have h1 : n < 10 := by simp at h; omega
    have e : Int.toNat ((n : Int) + 1) = n + 1 := by omega
    refine KW.goRet lay_ok S3_ok 100 rfl rfl ?_ ?_ trivial
    · rw [if_pos h1]
      simp only [Int.toNat_natCast, e, SV.ren, EV.ren]
    · simp [inK, ByteArray.size]; omega
  · have h1 : ¬ n < 10 := by simp at h; omega
    rw [if_neg h1]
    have ed : (n : Int).tdiv 10 = ((n / 10 : Nat) : Int) := by rw [Int.tdiv_eq_ediv_of_nonneg (by omega)]; omega
    have em : (n : Int).tmod 10 = ((n % 10 : Nat) : Int) := by rw [Int.tmod_eq_emod_of_nonneg (by omega)]; omega
    refine KW.goDT lay_ok S3_ok rfl 100 rfl 13 rfl rfl rfl rfl rfl (by simp) ?_ ?_
    · simp [ByteArray.size, inK]
      rw [em]
      omega
    refine KW.goRet lay_ok S3_ok 100 rfl rfl ?_ (by simp) trivial
    have e1 : Int.toNat (((n / 10 : Nat) : Int) + 1) = n / 10 + 1 := by omega
    have e2 : Int.toNat (((n % 10 : Nat) : Int) + 1) = n % 10 + 1 := by omega
    simp only [SV.ren, EV.ren, ed, em, Int.toNat_natCast, e1, e2]
def S4 : Fns := (99, fI (fun n => .e (strV (itoaB n.toNat))) fun n => 0 ≤ n ∧ n < 100) ::
  S3
theorem S4_ok : FnsOk Tryd.prog S4 := .cons (S3_ok) Tryd.func99 rfl rfl (fI_ok fun n h => by simpa [Int.toNat_of_nonneg h.1] using digits_does n.toNat (by omega))


theorem rtext_does (s : Int) : DoesF Tryd.prog 80 [iV s] [] (.tup [strV (textP s).1, iV (textP s).2]) [] := by
  refine DoesF.body _ Tryd.func80 rfl rfl rfl rfl ?_
  refine KW.goIf lay_ok S4_ok 100 rfl (by simp) rfl trivial (fun h => ?_) fun h => ?_
  · have h1 : ¬ validS s = true := by simpa using h
    refine KW.goRet lay_ok S4_ok 100 rfl rfl ?_ (by simp) trivial
    rw [textP, if_neg h1]; rfl
  have h1 : validS s = true := by simpa using h
  rw [textP, if_pos h1]
  have hmem : ∀ x ∈ elemsS s, 0 ≤ x ∧ x < 24 := fun x hx => by
    obtain ⟨i, hi, _, rfl⟩ := mem_elemsS.1 hx; omega
  have hel := elemsN_length s 24
  rw [show elemsN s 24 = elemsS s from rfl] at hel
  have hsz : ∀ b ∈ (elemsS s).map (fun i => itoaB i.toNat), b.size ≤ 2 := fun b hb => by
    obtain ⟨i, hi, rfl⟩ := List.mem_map.1 hb
    have := hmem i hi
    exact itoaB_size (by omega)
  have hJ : ∀ q, q ≤ (elemsS s).length → (joinB (((elemsS s).map fun i => itoaB i.toNat).take q) sepB).size ≤ 100 := fun q hq => by
    refine joinB_size (by simp; omega) (fun b hb => ?_) rfl
    exact hsz b (List.mem_of_mem_take hb)
  refine KW.go lay_ok S4_ok 100 rfl (by simp) ?_
  have e00 : (⟨#[123]⟩ : ByteArray) ++ joinB (((elemsS s).map fun i => itoaB i.toNat).take 0) sepB = ⟨#[123]⟩ := ba_ext (by rw [ba_app]; rfl)
  refine KW.goLpR lay_ok S4_ok 100 rfl (I := fun q : Nat => ⟨Tryd.f80.ntmps, [(4, .e (strV (⟨#[123]⟩ ++ joinB (((elemsS s).map fun i => itoaB i.toNat).take q) sepB))), (11, .e (lV (elemsS s))), (12, sI (elemsS s).length), (13, sI q)], []⟩)
    (R := fun q => q ≤ (elemsS s).length) (m := fun q => (elemsS s).length - q) 0 [] rfl rfl ⟨by rw [e00]; rfl, rfl, rfl, rfl, trivial⟩ (by simp) (Nat.zero_le _) trivial ?_
  rintro q hq0
  refine KW.goIf lay_ok S4_ok 100 rfl (by simp) rfl trivial (fun h => ?_) fun h => ?_
  · have hq : q < (elemsS s).length := by simpa using h
    have hg : (elemsS s).getD (Int.toNat (q : Int)) 0 = (elemsS s)[q] := by simp [List.getD_eq_getElem?_getD, hq]
    have hz := hmem _ (List.getElem_mem hq)
    have htk : ((elemsS s).map fun i => itoaB i.toNat).take (q + 1) = ((elemsS s).map fun i => itoaB i.toNat).take q ++ [itoaB (elemsS s)[q].toNat] := by
      rw [List.take_add_one, List.getElem?_map, List.getElem?_eq_getElem hq]; rfl
    have hj := hJ q hq0
    have hj1 := hJ (q + 1) hq
    have hnil : ((elemsS s).map fun i => itoaB i.toNat).take q = [] ↔ q = 0 := by
      rw [List.take_eq_nil_iff, List.map_eq_nil_iff]
      constructor
      · rintro (h | h)
        · exact h
        · rw [h] at hq; exact absurd hq (Nat.not_lt_zero _)
      · exact .inl
    have e1 : (⟨#[123]⟩ : ByteArray).size = 1 := rfl
    have e2 : (⟨#[44, 32]⟩ : ByteArray).size = 2 := rfl
    have hw : (itoaB (elemsS s)[q].toNat).size ≤ 2 := itoaB_size (by omega)
    refine KW.goIf lay_ok S4_ok 100 rfl (by simpa using hq) rfl trivial (fun h3 => ?_) fun h3 => ?_
    · have h3 : 0 < q := by simpa using h3
      refine KW.goToR lay_ok S4_ok 100 rfl (q + 1) [] rfl rfl ⟨?_, rfl, rfl, rfl, trivial⟩ ?_ ⟨by omega, by omega⟩ trivial
      · rw [htk, joinB_snoc, if_neg (by rw [hnil]; omega)]
        simp only [hg]
        simp only [sepB, ByteArray.append_assoc]
        rfl
      · simp only [hg]
        simp [inK, ByteArray.size_append, e1, e2]
        omega
    · have h3 : q = 0 := by simp at h3; omega
      refine KW.goToR lay_ok S4_ok 100 rfl (q + 1) [] rfl rfl ⟨?_, rfl, rfl, rfl, trivial⟩ ?_ ⟨by omega, by omega⟩ trivial
      · rw [htk, joinB_snoc, if_pos (by rw [hnil]; omega)]
        simp only [hg]
        subst h3
        rfl
      · simp only [hg]
        simp [inK, ByteArray.size_append, e1, e2]
        omega
  · have hq : q = (elemsS s).length := by simp at h; omega
    have hj := hJ q hq0
    subst hq
    rw [List.take_of_length_le (by simp)] at hj ⊢
    refine KW.goOut lay_ok S4_ok 100 rfl (by simp) ?_
    refine KW.goRet lay_ok S4_ok 100 rfl rfl ?_ ?_ trivial
    · rfl
    · have e1 : (⟨#[123]⟩ : ByteArray).size = 1 := rfl
      have e2 : (⟨#[125]⟩ : ByteArray).size = 1 := rfl
      simp [ByteArray.size_append, e1, e2]
      omega

def S5 : Fns := (79, fII (fun a b => sB (partB a b)) fun _ _ => True) ::
  (80, fI (fun s => .tup [strV (textP s).1, iV (textP s).2]) fun _ => True) ::
  (47, fL (fun l => .tup [lV (if listE l = 0 then maxS l else []), eV (listE l)]) fun _ => True) ::
  (57, fL (fun l => .e (eV (checkE l))) fun _ => True) ::
  (49, fL (fun l => .tup [lV (if listE l = 0 then sizeL [] (sortedL l) else []), eV (listE l)]) fun _ => True) ::
  S4
theorem S5_ok : FnsOk Tryd.prog S5 := .cons (.cons (.cons (.cons (.cons (S4_ok) Tryd.func49 rfl rfl (fL_ok fun l _ => sizes_does l)) Tryd.func57 rfl rfl (fL_ok fun l _ => check_does l)) Tryd.func47 rfl rfl (fL_ok fun l _ => maximal_does l)) Tryd.func80 rfl rfl (fI_ok fun s _ => rtext_does s)) Tryd.func79 rfl rfl (fII_ok fun a b _ => part_does a b)


theorem sort_does (l : List Int) : DoesF Tryd.prog 45 [lV l] [] (.tup [lV (if listE l = 0 then sortedL l else []), eV (listE l)]) [] := by
  refine DoesF.body _ Tryd.func45 rfl rfl rfl rfl ?_
  refine KW.goIf lay_ok S5_ok 100 rfl (by simp) rfl trivial (fun h => ?_) fun h => ?_
  · refine KW.go lay_ok S5_ok 100 rfl (by simp) ?_
    refine KW.conv 2 (ints []) rfl ⟨rfl, rfl⟩ ?_
    refine KW.fin [] rfl rfl ?_ trivial
    simp [listsE_one] at h
    simp [SV.ren, renL, EV.ren, listsE_one, h]
  · simp [listsE_one] at h
    have h1 := listE_len h
    have h2 : Val l := listE_valid h
    refine KW.goRet lay_ok S5_ok 100 rfl rfl ?_ (by simpa using ⟨h2, by omega⟩) trivial
    simp [SV.ren, renL, EV.ren, h, errV]

theorem rSort_does (l : List Int) : DoesF Tryd.prog 51 [lV l] [] (.tup [lV (if listE l = 0 then sortS l else []), iV (listE l)]) [] := by
  refine DoesF.body _ Tryd.func51 rfl rfl rfl rfl ?_
  refine KW.goIf lay_ok S5_ok 100 rfl (by simp) rfl trivial (fun h => ?_) fun h => ?_
  · refine KW.go lay_ok S5_ok 100 rfl (by simp) ?_
    refine KW.conv 2 (ints []) rfl ⟨rfl, rfl⟩ ?_
    refine KW.fin [] rfl rfl ?_ trivial
    simp at h
    simp [SV.ren, renL, EV.ren, h]
  · simp at h
    have h1 := listE_len h
    refine KW.goRet lay_ok S5_ok 100 rfl rfl ?_ (by simp; omega) trivial
    simp [SV.ren, renL, EV.ren, h]

theorem rMinimal_does (l : List Int) : DoesF Tryd.prog 52 [lV l] [] (.tup [lV (if listE l = 0 then leastS l else []), iV (listE l)]) [] := by
  refine DoesF.body _ Tryd.func52 rfl rfl rfl rfl ?_
  refine KW.goIf lay_ok S5_ok 100 rfl (by simp) rfl trivial (fun h => ?_) fun h => ?_
  · refine KW.go lay_ok S5_ok 100 rfl (by simp) ?_
    refine KW.conv 2 (ints []) rfl ⟨rfl, rfl⟩ ?_
    refine KW.fin [] rfl rfl ?_ trivial
    simp at h
    simp [SV.ren, renL, EV.ren, h]
  · simp at h
    have h1 := listE_len h
    refine KW.goRet lay_ok S5_ok 100 rfl rfl ?_ (by simp; omega) trivial
    simp [SV.ren, renL, EV.ren, h]

theorem rcheck_does (l : List Int) : DoesF Tryd.prog 58 [lV l] [] (sI (checkE l)) [] := by
  refine DoesF.body _ Tryd.func58 rfl rfl rfl rfl ?_
  refine KW.goIf lay_ok S5_ok 100 rfl (by simp) rfl trivial (fun h => ?_) fun h => ?_
  · refine KW.goRet lay_ok S5_ok 100 rfl rfl ?_ (by simp) trivial
    simp at h
    simp [SV.ren, EV.ren, checkE, h]
  · simp at h
    have hlen := listE_len h
    have hv : Val l := listE_valid h
    refine KW.goIf lay_ok S5_ok 100 rfl (by simp; omega) rfl trivial (fun h1 => ?_) fun h1 => ?_
    · refine KW.goRet lay_ok S5_ok 100 rfl rfl ?_ (by simp) trivial
      have : ¬ l = sortedL l := by rw [sortedL_eq hv]; simpa using h1
      simp [SV.ren, EV.ren, checkE, h, this]
    · have hs : l = sortedL l := by rw [sortedL_eq hv]; simpa using h1
      have hc := rcheck_eq hv hs
      refine KW.goIf lay_ok S5_ok 100 rfl (by simp; omega) rfl trivial (fun h2 => ?_) fun h2 => ?_
      · refine KW.goRet lay_ok S5_ok 100 rfl rfl ?_ (by simp) trivial
        have : ¬ (minS l).length = l.length := by rw [hc]; simpa using h2
        simp [SV.ren, EV.ren, checkE, h, ← hs, this]
      · refine KW.goRet lay_ok S5_ok 100 rfl rfl ?_ (by simp) trivial
        have : (minS l).length = l.length := by rw [hc]; simpa using h2
        simp [SV.ren, EV.ren, checkE, h, ← hs, this]

theorem rMaximal_does (l : List Int) : DoesF Tryd.prog 53 [lV l] [] (.tup [lV (if listE l = 0 then maxS l else []), iV (listE l)]) [] := by
  refine DoesF.body _ Tryd.func53 rfl rfl rfl rfl ?_
  refine KW.len 0 rfl rfl fun hla => ?_
  refine KW.goIf lay_ok S5_ok 100 rfl (by simp) rfl trivial (fun h => ?_) fun h => ?_
  · refine KW.go lay_ok S5_ok 100 rfl (by simp) ?_
    refine KW.conv 2 (ints []) rfl ⟨rfl, rfl⟩ ?_
    refine KW.fin [] rfl rfl ?_ trivial
    simp at h
    simp [SV.ren, renL, EV.ren, h]
  simp at h
  have hlen := listE_len h
  have hv : Val l := listE_valid h
  have hmx := rmax_eq hv
  have hSl := sortS_length l
  refine KW.go lay_ok S5_ok 100 rfl (by simp; omega) ?_
  simp only [unI_ints]
  generalize hS : sortS l = S at hSl hmx
  refine KW.nilO 5 5 3 (ints []) rfl rfl rfl ?_
  refine KW.lp (I := fun q : Nat => ⟨Tryd.f53.ntmps, [(0, .e (lV l)), (5, .e (.r 5)), (17, .e (lV S)), (18, sI S.length), (19, sI q)], [(5, .own 3 (ints ((S.take q).filter fun x => l.all fun t => !partB x t)))]⟩)
    (R := fun q => q ≤ S.length) (m := fun q => S.length - q) 0 (Nat.zero_le _) [(5, 5)] ⟨rfl, rfl, ⟨rfl, rfl, rfl, rfl, rfl, trivial⟩, ⟨rfl, trivial⟩⟩ ?_
  rintro q h1
  have hfl : ((S.take q).filter fun x => l.all fun t => !partB x t).length ≤ q := Nat.le_trans (List.length_filter_le _ _) (by rw [List.length_take]; omega)
  refine KW.goIf lay_ok S5_ok 100 rfl (by simp) rfl trivial (fun h4 => ?_) fun h4 => ?_
  · have hq : q < S.length := by simpa using h4
    have hg : S.getD (Int.toNat (q : Int)) 0 = S[q] := by simp [List.getD_eq_getElem?_getD, hq]
    have htk : S.take (q + 1) = S.take q ++ [S[q]] := by rw [List.take_add_one, List.getElem?_eq_getElem hq]; rfl
    refine KW.goLpR lay_ok S5_ok 100 rfl (I := fun p : Nat => ⟨Tryd.f53.ntmps, [(0, .e (lV l)), (5, .e (.r 5)), (7, sI S[q]), (8, sB ((l.take p).all fun t => !partB S[q] t)), (17, .e (lV S)), (18, sI S.length), (19, sI q), (23, .e (lV l)), (24, sI l.length), (25, sI p)], [(5, .own 3 (ints ((S.take q).filter fun x => l.all fun t => !partB x t)))]⟩)
      (R := fun p => p ≤ l.length) (m := fun p => l.length - p) 0 [(5, 5)] rfl rfl ⟨rfl, rfl, by rw [← hg]; rfl, rfl, rfl, rfl, rfl, rfl, rfl, rfl, trivial⟩ (by simp; omega) (by simp) ⟨rfl, trivial⟩ ?_
    rintro p hp0
    refine KW.goIf lay_ok S5_ok 100 rfl (by simp) rfl trivial (fun h => ?_) fun h => ?_
    · have hp : p < l.length := by simpa using h
      have hgp : l.getD (Int.toNat (p : Int)) 0 = l[p] := by simp [List.getD_eq_getElem?_getD, hp]
      refine KW.goToR lay_ok S5_ok 100 rfl (p + 1) [(5, 5)] rfl rfl ⟨rfl, rfl, rfl, ?_, rfl, rfl, rfl, rfl, rfl, rfl, trivial⟩ (by simp [inK] <;> omega) ⟨by omega, by omega⟩ ⟨rfl, trivial⟩
      rw [List.take_succ_eq_append_getElem hp, List.all_append, ← hgp]
      simp only [List.all_cons, List.all_nil, Bool.and_true]
      rfl
    · have hp : p = l.length := by simp at h; omega
      subst hp
      refine KW.goOut lay_ok S5_ok 100 rfl (by simp) ?_
      refine KW.goIf lay_ok S5_ok 100 rfl (by simp) rfl trivial (fun h => ?_) fun h => ?_
      · rw [List.take_length] at h
        refine KW.goToR lay_ok S5_ok 100 rfl (q + 1) [(5, 41)] rfl rfl ⟨rfl, rfl, rfl, rfl, rfl, trivial⟩ (by simp [inK] <;> omega) ⟨by omega, by omega⟩ ⟨own_cat _ ?_, trivial⟩
        rw [htk, List.filter_append, List.filter_cons, if_pos h]; rfl
      · rw [List.take_length] at h
        refine KW.goToR lay_ok S5_ok 100 rfl (q + 1) [(5, 5)] rfl rfl ⟨rfl, rfl, rfl, rfl, rfl, trivial⟩ (by simp [inK] <;> omega) ⟨by omega, by omega⟩ ⟨?_, trivial⟩
        rw [htk, List.filter_append, List.filter_cons, if_neg (by rw [h]; decide)]
        simp only [List.filter_nil, List.append_nil]
        rfl
  · have hq : q = S.length := by simp at h4; omega
    subst hq
    refine KW.goOut lay_ok S5_ok 100 rfl (by simp) ?_
    refine KW.go lay_ok S5_ok 100 rfl (by simp) ?_
    refine KW.frz 5 [2] rfl rfl rfl ?_
    refine KW.fin [] rfl rfl ?_ trivial
    rw [List.take_length, hmx]
    simp [SV.ren, renL, EV.ren, h]

theorem rsizes_does (l : List Int) : DoesF Tryd.prog 55 [lV l] [] (.tup [lV (if listE l = 0 then sizeL [] (sortS l) else []), iV (listE l)]) [] := by
  refine DoesF.body _ Tryd.func55 rfl rfl rfl rfl ?_
  refine KW.goIf lay_ok S5_ok 100 rfl (by simp) rfl trivial (fun h => ?_) fun h => ?_
  · refine KW.go lay_ok S5_ok 100 rfl (by simp) ?_
    refine KW.conv 2 (ints []) rfl ⟨rfl, rfl⟩ ?_
    refine KW.fin [] rfl rfl ?_ trivial
    simp at h
    simp [SV.ren, renL, EV.ren, h]
  simp at h
  have hlen := listE_len h
  have hSl := sortS_length l
  refine KW.go lay_ok S5_ok 100 rfl (by simp; omega) ?_
  simp only [unI_ints]
  generalize hS : sortS l = S at hSl
  refine KW.nilO 5 5 3 (ints []) rfl rfl rfl ?_
  refine KW.lp (I := fun q : List Int × Nat => ⟨Tryd.f55.ntmps, [(5, .e (.r 5)), (14, .e (lV S)), (15, sI S.length), (16, sI q.2)], [(5, .own 3 (ints q.1))]⟩)
    (R := fun q => q.2 ≤ S.length ∧ sizeL q.1 (S.drop q.2) = sizeL [] S ∧ SzOk q.1 q.2) (m := fun q => S.length - q.2) ([], 0) ⟨by simp, by simp, by simp [SzOk]⟩ [(5, 5)] ⟨rfl, rfl, ⟨rfl, rfl, rfl, rfl, trivial⟩, ⟨rfl, trivial⟩⟩ ?_
  rintro ⟨out, q⟩ ⟨h1, h2, h3⟩
  simp only at h1 h2 h3
  refine KW.goIf lay_ok S5_ok 100 rfl (by simp) rfl trivial (fun h4 => ?_) fun h4 => ?_
  · have hq : q < S.length := by simpa using h4
    have hg : S.getD (Int.toNat (q : Int)) 0 = S[q] := by simp [List.getD_eq_getElem?_getD, hq]
    have hd : S.drop q = S[q] :: S.drop (q + 1) := List.drop_eq_getElem_cons hq
    have hc := cntS_le S[q]
    have hpl := padL_length (cntS S[q]).toNat out
    have hol := h3.1
    rw [hd, sizeL] at h2
    have hstep := h3.step (n := (cntS S[q]).toNat) (by omega)
    refine KW.goLpR lay_ok S5_ok 100 rfl (I := fun j : Nat => ⟨Tryd.f55.ntmps, [(5, .e (.r 5)), (7, sI S[q]), (14, .e (lV S)), (15, sI S.length), (16, sI q)], [(5, .own 3 (ints (out ++ List.replicate j 0)))]⟩)
      (R := fun j => j ≤ (cntS S[q]).toNat + 1 - out.length) (m := fun j => (cntS S[q]).toNat + 1 - out.length - j) 0 [(5, 5)] rfl rfl ⟨rfl, by rw [← hg]; rfl, rfl, rfl, rfl, trivial⟩ (by simp; omega) (by omega) ⟨own_cat1 _ (by simp), trivial⟩ ?_
    rintro j hj
    have hjl : (out ++ List.replicate j (0 : Int)).length = out.length + j := by simp
    refine KW.goIf lay_ok S5_ok 100 rfl (by simp) rfl trivial (fun h5 => ?_) fun h5 => ?_
    · have h5' : ((out ++ List.replicate j (0 : Int)).length : Int) ≤ cntS S[q] := of_decide_eq_true h5
      refine KW.goToR lay_ok S5_ok 100 rfl (j + 1) [(5, 27)] rfl rfl ⟨rfl, rfl, rfl, rfl, rfl, trivial⟩ (by simp [inK] <;> omega) ⟨by omega, by omega⟩ ⟨own_cat _ ?_, trivial⟩
      rw [List.append_assoc, List.replicate_succ']
    · have h5' : ¬ ((out ++ List.replicate j (0 : Int)).length : Int) ≤ cntS S[q] := of_decide_eq_false h5
      have hj' : j = (cntS S[q]).toNat + 1 - out.length := by omega
      have hpad : out ++ List.replicate j 0 = padL (cntS S[q]).toNat out := by rw [hj']; rfl
      rw [hpad]
      have hget : ∀ x ∈ padL (cntS S[q]).toNat out, 0 ≤ x ∧ x ≤ (q : Int) := by
        intro x hx
        unfold padL at hx
        rcases List.mem_append.1 hx with hx | hx
        · exact h3.2 x hx
        · have := List.eq_of_mem_replicate hx
          omega
      have hgv : 0 ≤ (padL (cntS S[q]).toNat out).getD (cntS S[q]).toNat 0 ∧ (padL (cntS S[q]).toNat out).getD (cntS S[q]).toNat 0 ≤ (q : Int) := by
        refine hget _ ?_
        rw [List.getD_eq_getElem?_getD, List.getElem?_eq_getElem hpl.1]; exact List.getElem_mem _
      refine KW.goOut lay_ok S5_ok 100 rfl (by simp) ?_
      refine KW.go lay_ok S5_ok 100 rfl (by simp only [inK, true_and, and_true]; omega) ?_
      refine KW.updI 5 rfl ?_
      exact KW.to (bumpL (cntS S[q]).toNat (padL (cntS S[q]).toNat out), q + 1) ⟨⟨by simp only; omega, h2, hstep⟩, by simp only; omega⟩ [(5, 5)] ⟨rfl, rfl, ⟨rfl, rfl, rfl, rfl, trivial⟩, ⟨rfl, trivial⟩⟩
  · have hq : q = S.length := by simp at h4; omega
    refine KW.goOut lay_ok S5_ok 100 rfl (by simp) ?_
    refine KW.go lay_ok S5_ok 100 rfl (by simp) ?_
    refine KW.frz 5 [2] rfl rfl rfl ?_
    refine KW.fin [] rfl rfl ?_ trivial
    rw [hq, List.drop_length, sizeL] at h2
    simp [SV.ren, renL, EV.ren, h, h2]

theorem textsF_bound (l : List Int) (q : Nat) (hl : l.length ≤ 1024) : (textsF (l.take q)).size ≤ 105472 := by
  have := joinB_bound (k := 102) (m := 1) (sep := ⟨#[32]⟩) rfl ((l.take q).map fun s => (textP s).1) fun b hb => by
    obtain ⟨x, _, rfl⟩ := List.mem_map.1 hb
    exact textP_size x
  unfold textsF
  rw [List.length_map, List.length_take] at this
  omega

theorem rtexts_does (l : List Int) : DoesF Tryd.prog 56 [lV l] [] (.tup [strV (if listE l = 0 then textsF l else ⟨#[]⟩), iV (listE l)]) [] := by
  refine DoesF.body _ Tryd.func56 rfl rfl rfl rfl ?_
  refine KW.goIf lay_ok S5_ok 100 rfl (by simp) rfl trivial (fun h => ?_) fun h => ?_
  · refine KW.goRet lay_ok S5_ok 100 rfl rfl ?_ (by simp) trivial
    simp at h
    simp [SV.ren, renL, EV.ren, h]
  simp at h
  have hlen := listE_len h
  refine KW.len 0 rfl rfl fun hla => ?_
  refine KW.goLpR lay_ok S5_ok 100 rfl (I := fun q : Nat => ⟨Tryd.f56.ntmps, [(5, .e (strV (textsF (l.take q)))), (15, .e (lV l)), (16, sI l.length), (17, sI q)], []⟩)
    (R := fun q => q ≤ l.length) (m := fun q => l.length - q) 0 [] rfl rfl ⟨rfl, rfl, rfl, rfl, trivial⟩ (by simp) (Nat.zero_le _) trivial ?_
  rintro q hq0
  refine KW.goIf lay_ok S5_ok 100 rfl (by simp) rfl trivial (fun h4 => ?_) fun h4 => ?_
  · have hq : q < l.length := by simpa using h4
    have hg : l.getD (Int.toNat (q : Int)) 0 = l[q] := by simp [List.getD_eq_getElem?_getD, hq]
    have htk : textsF (l.take (q + 1)) = joinB (((l.take q).map fun s => (textP s).1) ++ [(textP l[q]).1]) ⟨#[32]⟩ := by
      rw [textsF, List.take_add_one, List.getElem?_eq_getElem hq, List.map_append]; rfl
    have hnil : (l.take q).map (fun s => (textP s).1) = [] ↔ q = 0 := by
      rw [List.map_eq_nil_iff, List.take_eq_nil_iff]
      constructor
      · rintro (h | h)
        · exact h
        · rw [h] at hq; exact absurd hq (Nat.not_lt_zero _)
      · exact .inl
    have e2 : (⟨#[32]⟩ : ByteArray).size = 1 := rfl
    have hw := textP_size l[q]
    have hj := textsF_bound l q hlen
    refine KW.goIf lay_ok S5_ok 100 rfl (by simp; omega) rfl trivial (fun h3 => ?_) fun h3 => ?_
    · have h3 : 0 < q := by simpa using h3
      refine KW.goToR lay_ok S5_ok 100 rfl (q + 1) [] rfl rfl ⟨?_, rfl, rfl, rfl, trivial⟩ ?_ ⟨by omega, by omega⟩ trivial
      · rw [htk, joinB_snoc, if_neg (by rw [hnil]; omega), ← hg]
        rfl
      · simp only [hg]
        simp [inK, ByteArray.size_append, e2]
        omega
    · have h3 : q = 0 := by simp at h3; omega
      refine KW.goToR lay_ok S5_ok 100 rfl (q + 1) [] rfl rfl ⟨?_, rfl, rfl, rfl, trivial⟩ ?_ ⟨by omega, by omega⟩ trivial
      · rw [htk, joinB_snoc, if_pos (by rw [hnil]; omega), ← ba_nil (textP l[q]).1, ← hg]
        subst h3
        rfl
      · simp only [hg]
        simp [inK, ByteArray.size_append, e2]
        omega
  · have hq : q = l.length := by simp at h4; omega
    subst hq
    refine KW.goOut lay_ok S5_ok 100 rfl (by simp) ?_
    refine KW.goRet lay_ok S5_ok 100 rfl rfl ?_ (by simp) trivial
    rw [List.take_length]
    simp [SV.ren, renL, EV.ren, h]

theorem texts_does (l : List Int) : DoesF Tryd.prog 50 [lV l] [] (.tup [strV (if listE l = 0 then textsF l else ⟨#[]⟩), eV (listE l)]) [] := by
  refine DoesF.body _ Tryd.func50 rfl rfl rfl rfl ?_
  have hJ : FnsOk Tryd.prog ((76, fSsS (fun l s => .e (strV (joinB l s))) fun l s => l.length ≤ 1024 ∧ (∀ b ∈ l, b.size ≤ 102) ∧ s.size = 1) :: []) :=
    .cons (FnsOk.nil _) Tryd.func76 rfl rfl (fSsS_ok fun l s h => join_does layJoin extraJoin rfl l s (by omega) (by have := joinB_bound h.2.2 l h.2.1; omega))
  refine KW.goIf lay_ok S5_ok 100 rfl (by simp) rfl trivial (fun h => ?_) fun h => ?_
  · refine KW.goRet lay_ok S5_ok 100 rfl rfl ?_ (by simp) trivial
    simp [listsE_one] at h
    simp [SV.ren, renL, EV.ren, listsE_one, h]
  simp [listsE_one] at h
  have hlen := listE_len h
  have hv := listE_valid h
  refine KW.len 0 rfl rfl fun hla => ?_
  refine KW.go lay_ok S5_ok 100 rfl (by simp) ?_
  refine KW.nilO 5 5 9 (strs []) rfl rfl rfl ?_
  refine KW.goLpR lay_ok S5_ok 100 rfl (I := fun q : Nat => ⟨Tryd.f50.ntmps, [(5, .e (.r 5)), (16, .e (lV l)), (17, sI l.length), (18, sI q)], [(5, .own 9 (strs ((l.take q).map fun s => (textP s).1)))]⟩)
    (R := fun q => q ≤ l.length) (m := fun q => l.length - q) 0 [(5, 5)] rfl rfl ⟨rfl, rfl, rfl, rfl, trivial⟩ (by simp) (Nat.zero_le _) ⟨rfl, trivial⟩ ?_
  rintro q hq0
  refine KW.goIf lay_ok S5_ok 100 rfl (by simp) rfl trivial (fun h4 => ?_) fun h4 => ?_
  · have hq : q < l.length := by simpa using h4
    have hg : l.getD (Int.toNat (q : Int)) 0 = l[q] := by simp [List.getD_eq_getElem?_getD, hq]
    have htk : l.take (q + 1) = l.take q ++ [l[q]] := by rw [List.take_add_one, List.getElem?_eq_getElem hq]; rfl
    have hz : (textP l[q]).2 = 0 := by rw [textP, if_pos (hv _ (List.getElem_mem hq))]
    refine KW.goIf lay_ok S5_ok 100 rfl (by simpa using hq) rfl trivial (fun h5 => ?_) fun h5 => ?_
    · exfalso
      have h5 : (!isNilB (errV 42 (textP (l.getD (Int.toNat (q : Int)) 0)).2)) = true := h5
      rw [hg, hz] at h5; exact absurd h5 (by decide)
    refine KW.go lay_ok S5_ok 100 rfl (by simp [inK, List.length_take]; omega) (KW.catG 33 (textP l[q]).1 rfl (fun p hp => ?_) (KW.to (q + 1) ⟨by omega, by omega⟩ [(5, 33)] ⟨rfl, rfl, ⟨rfl, rfl, rfl, rfl, trivial⟩, ⟨?_, trivial⟩⟩))
    · have : p = 0 := by omega
      subst this
      simp only [hg]
      exact CVEq.refl _
    · rw [htk, List.map_append]; rfl
  · have hq : q = l.length := by simp at h4; omega
    subst hq
    refine KW.goOut lay_ok S5_ok 100 rfl (by simp) ?_
    refine KW.frz 5 [5] rfl rfl rfl ?_
    simp only [List.take_length]
    refine KW.goRet lay_ok hJ 100 rfl rfl ?_ ?_ trivial
    · simp only [unS_strs]; simp [SV.ren, renL, EV.ren, h, textsF, errV]
    · simp only [unS_strs, isS_strs, true_and, and_true]
      refine ⟨by simp; omega, fun b hb => ?_, rfl⟩
      obtain ⟨x, _, rfl⟩ := List.mem_map.1 hb
      exact textP_size x

def S6 : Fns := (45, fL (fun l => .tup [lV (if listE l = 0 then sortedL l else []), eV (listE l)]) fun _ => True) ::
  (51, fL (fun l => .tup [lV (if listE l = 0 then sortS l else []), iV (listE l)]) fun _ => True) ::
  (52, fL (fun l => .tup [lV (if listE l = 0 then leastS l else []), iV (listE l)]) fun _ => True) ::
  (53, fL (fun l => .tup [lV (if listE l = 0 then maxS l else []), iV (listE l)]) fun _ => True) ::
  (55, fL (fun l => .tup [lV (if listE l = 0 then sizeL [] (sortS l) else []), iV (listE l)]) fun _ => True) ::
  (58, fL (fun l => sI (checkE l)) fun _ => True) ::
  (50, fL (fun l => .tup [strV (if listE l = 0 then textsF l else ⟨#[]⟩), eV (listE l)]) fun _ => True) ::
  (56, fL (fun l => .tup [strV (if listE l = 0 then textsF l else ⟨#[]⟩), iV (listE l)]) fun _ => True) ::
  S5
theorem S6_ok : FnsOk Tryd.prog S6 := .cons (.cons (.cons (.cons (.cons (.cons (.cons (.cons (S5_ok) Tryd.func56 rfl rfl (fL_ok fun l _ => rtexts_does l)) Tryd.func50 rfl rfl (fL_ok fun l _ => texts_does l)) Tryd.func58 rfl rfl (fL_ok fun l _ => rcheck_does l)) Tryd.func55 rfl rfl (fL_ok fun l _ => rsizes_does l)) Tryd.func53 rfl rfl (fL_ok fun l _ => rMaximal_does l)) Tryd.func52 rfl rfl (fL_ok fun l _ => rMinimal_does l)) Tryd.func51 rfl rfl (fL_ok fun l _ => rSort_does l)) Tryd.func45 rfl rfl (fL_ok fun l _ => sort_does l)


theorem lists_eq (l : List Int) : (if listE l = 0 then sortedL l else []) = (if listE l = 0 then sortS l else []) ∧ (if listE l = 0 then minS l else []) = (if listE l = 0 then leastS l else []) ∧ (if listE l = 0 then sizeL [] (sortedL l) else []) = if listE l = 0 then sizeL [] (sortS l) else [] := by
  by_cases h : listE l = 0
  · have hv : Val l := listE_valid h
    rw [if_pos h, if_pos h, if_pos h, if_pos h, if_pos h, if_pos h, sortedL_eq hv, minS_eq hv]
    exact ⟨rfl, rfl, rfl⟩
  · simp [h]
set_option maxRecDepth 100000 in
theorem lawFamilyLists_does (l : List Int) : DoesF Tryd.prog 9 [lV l] [] (sB true) [] := by
  refine DoesF.body _ Tryd.func9 rfl rfl rfl rfl ?_
  refine KW.goIf lay_ok S6_ok 200 rfl (by simp) rfl trivial (fun h => ?_) fun h => ?_
  · exact KW.goRet lay_ok S6_ok 200 rfl rfl rfl (by simp) trivial
  · obtain ⟨h1, h2, h3⟩ := lists_eq l
    refine KW.goRet lay_ok S6_ok 300 rfl rfl ?_ (by simp) trivial
    simp [SV.ren, EV.ren, h1, h2, h3]
end Go.Proofs.YtjaanpbahlbmoaaDoor
