/-
  TREES: every state is in one leaf; merging, swapping. No program is named here.
-/
import Derived.Test.YtdeoicedbphgoaaGreatDoorTrB
import Derived.Test.YtdeoicedbphgoaaGreatDoorPuH
set_option linter.unusedSectionVars false
set_option linter.unusedVariables false
set_option linter.unusedSimpArgs false
namespace Go.Pu
open Go.Sy
variable [Drw]
theorem bitB_bit (s : Int) {v : Int} (h0 : 0 ≤ v) (h1 : v < 24) : bitB s v = bit s v.toNat := by
  obtain ⟨n, rfl⟩ := Int.eq_ofNat_of_zero_le h0
  have hn : n < 24 := by omega
  rw [← hasB_nat s (i := (n : Int).toNat) (by simpa using hn)]
  unfold hasB bitB
  have h2 : decide ((0 : Int) ≤ (n : Int)) = true := decide_eq_true h0
  have h3 : decide ((n : Int) < 24) = true := decide_eq_true h1
  simp only [Int.toNat_natCast, h2, h3, Bool.true_and]
theorem bit_shl {v : Int} (h0 : 0 ≤ v) (h1 : v < 24) (j : Nat) : bit (ishl 1 v) j = decide (v.toNat = j) := by
  obtain ⟨n, rfl⟩ := Int.eq_ofNat_of_zero_le h0
  have e : (ishl 1 (n : Int)) = one n := rfl
  rw [e, one_bit (by omega)]; simp
theorem shl_rng24 {v : Int} (h0 : 0 ≤ v) (h1 : v < 24) : 1 ≤ ishl 1 v ∧ ishl 1 v ≤ 8388608 := by
  obtain ⟨n, rfl⟩ := Int.eq_ofNat_of_zero_le h0
  exact (by decide +kernel : ∀ n : Fin 24, 1 ≤ ishl 1 ((n.val : Nat) : Int) ∧ ishl 1 ((n.val : Nat) : Int) ≤ 8388608) ⟨n, by omega⟩
theorem not_zero {a b : Int} : iandNot .i64 a b = 0 ↔ ∀ i, i < 64 → bit a i = true → bit b i = true := by
  rw [eq_zero_iff (by simp)]
  refine forall_congr' fun i => forall_congr' fun _ => ?_
  rw [bit_iandNot']
  cases bit a i <;> cases bit b i <;> simp
/-- a tree with two kids or none everywhere, and events -/
def gT : Tr → Prop := Tr.bin (fun t => t.n = 0 ∧ t.v = 0) fun t x y => 0 ≤ t.v ∧ t.v < 24 ∧ t.r = 0 ∧ x ∧ y
theorem gT_eq (t : Tr) : gT t ↔ if t.n = 2 then 0 ≤ t.v ∧ t.v < 24 ∧ t.r = 0 ∧ gT (t.k 0) ∧ gT (t.k 1) else t.n = 0 ∧ t.v = 0 := by
  unfold gT; rw [Tr.bin_eq]
theorem okT_gT {vars : Int} (hv : vars ≤ 24) {t : Tr} : ∀ {a : Int}, okT vars t a → gT t := by
  induction t using Tr.ind with
  | h t ih =>
    intro a
    rw [okT_eq, gT_eq]
    split
    · rename_i h
      rintro ⟨g1, g2, g3, g4, g5, g6⟩
      exact ⟨g1, by omega, g4, ih 0 (by omega) g5, ih 1 (by omega) g6⟩
    · exact id
theorem okT_le {vars : Int} (hv : vars ≤ 24) {t : Tr} : ∀ {a a' : Int}, (∀ i, bit a' i = true → bit a i = true) → okT vars t a → okT vars t a' := by
  induction t using Tr.ind with
  | h t ih =>
    intro a a' hp
    rw [okT_eq vars t a, okT_eq vars t a']
    split
    · rename_i h
      rintro ⟨g1, g2, g3, g4, g5, g6⟩
      have hp' : ∀ i, bit (ior .i64 a' (ishl 1 t.v)) i = true → bit (ior .i64 a (ishl 1 t.v)) i = true := fun i => by
        rw [bit_ior, bit_ior, Bool.or_eq_true, Bool.or_eq_true]
        exact Or.imp (hp i) id
      refine ⟨g1, g2, ?_, g4, ih 0 (by omega) hp' g5, ih 1 (by omega) hp' g6⟩
      rw [bitB_bit _ g1 (by omega)] at g3 ⊢
      cases hb : bit a' t.v.toNat with
      | false => rfl
      | true => rw [hp _ hb] at g3; cases g3
    · exact id
theorem bit0a (a : Int) : ∀ i, bit 0 i = true → bit a i = true := fun i h => by simp at h
/-! states and leaves -/
def inC (yes no s : Int) : Prop := (∀ i, i < 64 → bit yes i = true → bit s i = true) ∧ ∀ i, i < 64 → bit no i = true → bit s i = false
def leafIn (l : LeafP) (s : Int) : Bool := (iandNot .i64 l.yes s == 0) && (iand .i64 l.no s == 0)
theorem leafIn_iff (l : LeafP) (s : Int) : leafIn l s = true ↔ inC l.yes l.no s := by
  unfold leafIn inC
  rw [Bool.and_eq_true, beq_iff_eq, beq_iff_eq, not_zero, iand_zero]
theorem inC_zero (s : Int) : inC 0 0 s := ⟨fun i _ h => by simp at h, fun i _ h => by simp at h⟩
theorem inC_yes {yes no s v : Int} (h0 : 0 ≤ v) (h1 : v < 24) : inC (ior .i64 yes (ishl 1 v)) no s ↔ inC yes no s ∧ bit s v.toNat = true := by
  unfold inC
  constructor
  · rintro ⟨h2, h3⟩
    refine ⟨⟨fun i hi hb => h2 i hi (by rw [bit_ior, hb]; rfl), h3⟩, h2 v.toNat (by omega) ?_⟩
    rw [bit_ior, bit_shl h0 h1]; simp
  · rintro ⟨⟨h2, h3⟩, h4⟩
    refine ⟨fun i hi hb => ?_, h3⟩
    rw [bit_ior, bit_shl h0 h1, Bool.or_eq_true, decide_eq_true_iff] at hb
    rcases hb with hb | rfl
    · exact h2 i hi hb
    · exact h4
theorem inC_no {yes no s v : Int} (h0 : 0 ≤ v) (h1 : v < 24) : inC yes (ior .i64 no (ishl 1 v)) s ↔ inC yes no s ∧ bit s v.toNat = false := by
  unfold inC
  constructor
  · rintro ⟨h2, h3⟩
    refine ⟨⟨h2, fun i hi hb => h3 i hi (by rw [bit_ior, hb]; rfl)⟩, h3 v.toNat (by omega) ?_⟩
    rw [bit_ior, bit_shl h0 h1]; simp
  · rintro ⟨⟨h2, h3⟩, h4⟩
    refine ⟨h2, fun i hi hb => ?_⟩
    rw [bit_ior, bit_shl h0 h1, Bool.or_eq_true, decide_eq_true_iff] at hb
    rcases hb with hb | rfl
    · exact h3 i hi hb
    · exact h4
/-- the leaf of a state -/
def atT (s : Int) : Tr → Int → Int → LeafP := Tr.bin (fun t yes no => ⟨yes, no, t.r⟩) fun t x y yes no => if bitB s t.v = true then y (ior .i64 yes (ishl 1 t.v)) no else x yes (ior .i64 no (ishl 1 t.v))
theorem atT_eq (s : Int) (t : Tr) (yes no : Int) : atT s t yes no = if t.n = 2 then (if bitB s t.v = true then atT s (t.k 1) (ior .i64 yes (ishl 1 t.v)) no else atT s (t.k 0) yes (ior .i64 no (ishl 1 t.v))) else ⟨yes, no, t.r⟩ := by
  unfold atT; rw [Tr.bin_eq]; split <;> rfl
theorem atT_two (s v : Int) (a b : Tr) (yes no : Int) : atT s (Tr.two v a b) yes no = if bitB s v = true then atT s b (ior .i64 yes (ishl 1 v)) no else atT s a yes (ior .i64 no (ishl 1 v)) := atT_eq s (Tr.two v a b) yes no
theorem atT_lf (s r yes no : Int) : atT s (Tr.lf r) yes no = ⟨yes, no, r⟩ := atT_eq s (Tr.lf r) yes no
theorem okT_two (vars v : Int) (x y : Tr) (a : Int) : okT vars (Tr.two v x y) a ↔ 0 ≤ v ∧ v < vars ∧ bitB a v = false ∧ okT vars x (ior .i64 a (ishl 1 v)) ∧ okT vars y (ior .i64 a (ishl 1 v)) := by
  refine (okT_eq vars (Tr.two v x y) a).trans ?_
  rw [if_pos (show (Tr.two v x y).n = 2 from rfl)]
  exact ⟨fun ⟨h1, h2, h3, _, h5⟩ => ⟨h1, h2, h3, h5⟩, fun ⟨h1, h2, h3, h5⟩ => ⟨h1, h2, h3, rfl, h5⟩⟩
theorem okT_lf (vars r a : Int) : okT vars (Tr.lf r) a := (okT_eq vars (Tr.lf r) a).2 (by rw [if_neg (by simp)]; exact ⟨rfl, rfl⟩)
theorem cntN_two (v : Int) (x y : Tr) : cntN (Tr.two v x y) = cntN x + cntN y + 1 := cntN_eq (Tr.two v x y)
theorem cntN_lf (r : Int) : cntN (Tr.lf r) = 1 := cntN_eq (Tr.lf r)
open Classical in
theorem lvs_filter (s : Int) (t : Tr) : gT t → ∀ yes no, (lvs t yes no).filter (fun l => leafIn l s) = if inC yes no s then [atT s t yes no] else [] := by
  induction t using Tr.ind with
  | h t ih =>
    rw [gT_eq]
    intro hg yes no
    rw [lvs_eq, atT_eq]
    split
    · rename_i h
      rw [if_pos h] at hg
      obtain ⟨g1, g2, g3, g4, g5⟩ := hg
      rw [List.filter_append, ih 0 (by omega) g4, ih 1 (by omega) g5]
      rw [bitB_bit s g1 g2]
      cases hb : bit s t.v.toNat with
      | true =>
        rw [if_neg (by rw [inC_no g1 g2, hb]; simp)]
        simp only [inC_yes g1 g2, hb, and_true, List.nil_append, if_true]
      | false =>
        simp only [inC_yes g1 g2, inC_no g1 g2, hb, and_true, Bool.false_eq_true, and_false, if_false, List.append_nil]
    · simp only [List.filter_cons, List.filter_nil]
      by_cases hc : inC yes no s
      · rw [if_pos hc, if_pos ((leafIn_iff ⟨yes, no, t.r⟩ s).2 hc)]
      · rw [if_neg hc, if_neg]
        intro h; exact hc ((leafIn_iff ⟨yes, no, t.r⟩ s).1 h)
theorem atT_mem {t : Tr} (ht : gT t) (s : Int) : atT s t 0 0 ∈ lvs t 0 0 ∧ leafIn (atT s t 0 0) s = true := by
  have h := lvs_filter s t ht 0 0
  rw [if_pos (inC_zero s)] at h
  have : atT s t 0 0 ∈ (lvs t 0 0).filter (fun l => leafIn l s) := by rw [h]; exact .head _
  rw [List.mem_filter] at this
  exact this
theorem at_only {t : Tr} (ht : gT t) {s : Int} {l : LeafP} (hl : l ∈ lvs t 0 0) (h : leafIn l s = true) : l = atT s t 0 0 := by
  have h1 := lvs_filter s t ht 0 0
  rw [if_pos (inC_zero s)] at h1
  have : l ∈ (lvs t 0 0).filter (fun l => leafIn l s) := List.mem_filter.2 ⟨hl, h⟩
  rw [h1] at this
  exact List.mem_singleton.1 this
theorem lvs_up {t : Tr} (ht : gT t) : ∀ {yes no : Int} {l : LeafP}, l ∈ lvs t yes no → (∀ i, bit yes i = true → bit l.yes i = true) ∧ ∀ i, bit no i = true → bit l.no i = true := by
  induction t using Tr.ind with
  | h t ih =>
    rw [gT_eq] at ht
    intro yes no l
    rw [lvs_eq]
    split
    · rename_i h
      rw [if_pos h] at ht
      obtain ⟨g1, g2, g3, g4, g5⟩ := ht
      rw [List.mem_append]
      rintro (hl | hl)
      · obtain ⟨h1, h2⟩ := ih 0 (by omega) g4 hl
        exact ⟨h1, fun i hi => h2 i (by rw [bit_ior, hi]; rfl)⟩
      · obtain ⟨h1, h2⟩ := ih 1 (by omega) g5 hl
        exact ⟨fun i hi => h1 i (by rw [bit_ior, hi]; rfl), h2⟩
    · intro hl
      rw [List.mem_singleton] at hl
      subst hl
      exact ⟨fun _ h => h, fun _ h => h⟩
def apart (a b : LeafP) : Prop := ¬ (iand .i64 a.yes b.no = 0 ∧ iand .i64 a.no b.yes = 0)
theorem apart_of {a b : LeafP} {i : Nat} (hi : i < 64) (h1 : bit a.no i = true) (h2 : bit b.yes i = true) : apart a b := fun ⟨_, h⟩ => by
  have := iand_zero.1 h i hi h1
  rw [h2] at this; cases this
theorem apart_symm {a b : LeafP} (h : apart a b) : apart b a := fun ⟨h1, h2⟩ => h ⟨by rw [iand_zero] at h2 ⊢; exact fun i hi ha => (by
    cases hb : bit b.no i with
    | false => rfl
    | true => have := h2 i hi hb; rw [ha] at this; cases this), by
  rw [iand_zero] at h1 ⊢; exact fun i hi ha => (by
    cases hb : bit b.yes i with
    | false => rfl
    | true => have := h1 i hi hb; rw [ha] at this; cases this)⟩
theorem lvs_apart {t : Tr} (ht : gT t) : ∀ (yes no : Int), (lvs t yes no).Pairwise apart := by
  induction t using Tr.ind with
  | h t ih =>
    rw [gT_eq] at ht
    intro yes no
    rw [lvs_eq]
    split
    · rename_i h
      rw [if_pos h] at ht
      obtain ⟨g1, g2, g3, g4, g5⟩ := ht
      rw [List.pairwise_append]
      refine ⟨ih 0 (by omega) g4 _ _, ih 1 (by omega) g5 _ _, fun a ha b hb => ?_⟩
      refine apart_of (i := t.v.toNat) (by omega) ((lvs_up g4 ha).2 _ ?_) ((lvs_up g5 hb).1 _ ?_)
      · rw [bit_ior, bit_shl g1 g2]; simp
      · rw [bit_ior, bit_shl g1 g2]; simp
    · exact List.pairwise_singleton _ _
theorem lvs_clean {vars : Int} (hv : vars ≤ 24) {t : Tr} : ∀ {a yes no : Int} {l : LeafP}, okT vars t a → (∀ i, bit yes i = true → bit a i = true) → (∀ i, bit no i = true → bit a i = true) → iand .i64 yes no = 0 → l ∈ lvs t yes no → iand .i64 l.yes l.no = 0 := by
  induction t using Tr.ind with
  | h t ih =>
    intro a yes no l
    rw [okT_eq, lvs_eq]
    split
    · rename_i h
      rintro ⟨g1, g2, g3, g4, g5, g6⟩ hy hn h0
      rw [bitB_bit _ g1 (by omega)] at g3
      have hup : ∀ i, bit a i = true → bit (ior .i64 a (ishl 1 t.v)) i = true := fun i hi => by rw [bit_ior, hi]; rfl
      have hsh : ∀ x : Int, (∀ i, bit x i = true → bit a i = true) → ∀ i, bit (ior .i64 x (ishl 1 t.v)) i = true → bit (ior .i64 a (ishl 1 t.v)) i = true := fun x hx i => by
        rw [bit_ior, bit_ior, Bool.or_eq_true, Bool.or_eq_true]
        exact Or.imp (hx i) id
      have hno : ∀ x : Int, (∀ i, bit x i = true → bit a i = true) → bit x t.v.toNat = false := fun x hx => by
        cases hb : bit x t.v.toNat with
        | false => rfl
        | true => rw [hx _ hb] at g3; cases g3
      rw [List.mem_append]
      rintro (hl | hl)
      · refine ih 0 (by omega) g5 (fun i hi => hup i (hy i hi)) (hsh no hn) ?_ hl
        rw [iand_zero] at h0 ⊢
        intro i hi hb
        rw [bit_ior, bit_shl g1 (by omega), h0 i hi hb, Bool.false_or, decide_eq_false_iff_not]
        rintro rfl
        rw [hno yes hy] at hb; cases hb
      · refine ih 1 (by omega) g6 (hsh yes hy) (fun i hi => hup i (hn i hi)) ?_ hl
        rw [iand_zero] at h0 ⊢
        intro i hi hb
        rw [bit_ior, bit_shl g1 (by omega), Bool.or_eq_true, decide_eq_true_iff] at hb
        rcases hb with hb | rfl
        · exact h0 i hi hb
        · exact hno no hn
    · intro _ _ _ h0 hl
      rw [List.mem_singleton] at hl
      subst hl
      exact h0
theorem lvs_len (t : Tr) : ∀ yes no : Int, ((lvs t yes no).length : Int) = (szT t).2.1 := by
  induction t using Tr.ind with
  | h t ih =>
    intro yes no
    rw [lvs_eq, szT_eq]
    split
    · rename_i h
      simp only [List.length_append]
      have := ih 0 (by omega) yes (ior .i64 no (ishl 1 t.v))
      have := ih 1 (by omega) (ior .i64 yes (ishl 1 t.v)) no
      omega
    · rfl
/-! merging -/
def mergedB : Tr → Bool := Tr.bin (fun _ => true) fun t x y => !(((t.k 0).n == 0) && ((t.k 1).n == 0) && ((t.k 0).r == (t.k 1).r)) && (x && y)
theorem mergedB_eq (t : Tr) : mergedB t = if t.n = 2 then !(((t.k 0).n == 0) && ((t.k 1).n == 0) && ((t.k 0).r == (t.k 1).r)) && (mergedB (t.k 0) && mergedB (t.k 1)) else true := Tr.bin_eq _ _ t
theorem mrg_shape (t : Tr) : mergedB (mrg t) = true ∧ mrg (mrg t) = mrg t ∧ cntN (mrg t) ≤ cntN t := by
  induction t using Tr.ind with
  | h t ih =>
    rw [mrg_eq, cntN_eq t]
    split
    · rename_i h
      obtain ⟨a1, a2, a3⟩ := ih 0 (by omega)
      obtain ⟨b1, b2, b3⟩ := ih 1 (by omega)
      have := cntN_pos (t.k 1)
      generalize mrg (t.k 0) = A at *
      generalize mrg (t.k 1) = B at *
      unfold mrgN
      split
      · exact ⟨a1, a2, by omega⟩
      · rename_i hne
        refine ⟨?_, ?_, ?_⟩
        · rw [mergedB_eq]
          simp only [Tr.n_two, if_true, Tr.k_two0, Tr.k_two1, a1, b1, Bool.and_true, Bool.not_eq_true', Bool.and_eq_false_iff, beq_eq_false_iff_ne]
          by_cases h1 : A.n = 0
          · by_cases h2 : B.n = 0
            · exact .inr fun h3 => hne ⟨h1, h2, h3⟩
            · exact .inl (.inr h2)
          · exact .inl (.inl h1)
        · rw [mrg_eq]
          simp only [Tr.n_two, if_true, Tr.k_two0, Tr.k_two1, a2, b2, mrgN, if_neg hne, Tr.v_two]
        · rw [cntN_two]
          omega
    · refine ⟨by rw [mergedB_eq]; simp, by rw [mrg_eq]; simp, by rw [cntN_eq]; simp⟩
theorem mrg_ok {vars : Int} (hv : vars ≤ 24) {t : Tr} : ∀ {a : Int}, okT vars t a → okT vars (mrg t) a := by
  induction t using Tr.ind with
  | h t ih =>
    intro a
    rw [okT_eq, mrg_eq]
    split
    · rename_i h
      rintro ⟨g1, g2, g3, g4, g5, g6⟩
      have h0 := ih 0 (by omega) g5
      have h1 := ih 1 (by omega) g6
      unfold mrgN
      split
      · exact okT_le hv (fun i hi => by rw [bit_ior, hi]; rfl) h0
      · exact (okT_two ..).2 ⟨g1, g2, g3, h0, h1⟩
    · intro _
      exact okT_lf ..
theorem at_leaf {s : Int} {t : Tr} (h : t.n = 0) (yes no : Int) : (atT s t yes no).reason = t.r := by
  rw [atT_eq, if_neg (by omega)]
theorem mrg_at (s : Int) {t : Tr} : ∀ yes no yes' no' : Int, (atT s (mrg t) yes no).reason = (atT s t yes' no').reason := by
  induction t using Tr.ind with
  | h t ih =>
    intro yes no yes' no'
    rw [mrg_eq, atT_eq s t]
    split
    · rename_i h
      have h0 := ih 0 (by omega)
      have h1 := ih 1 (by omega)
      unfold mrgN
      split
      · rename_i hc
        obtain ⟨c1, c2, c3⟩ := hc
        rw [at_leaf c1]
        split
        · rw [← h1 0 0, at_leaf c2, c3]
        · rw [← h0 0 0, at_leaf c1]
      · rw [atT_two]
        by_cases hb : bitB s t.v = true
        · rw [if_pos hb, if_pos hb]; exact h1 _ _ _ _
        · rw [if_neg hb, if_neg hb]; exact h0 _ _ _ _
    · rw [at_leaf (by simp)]; rfl
/-! swapping -/
/-- the number of the leaf of a state -/
def idxT (s : Int) : Tr → Int := Tr.bin (fun _ => 0) fun t x y => if bitB s t.v = true then (szT (t.k 0)).2.1 + y else x
theorem idxT_eq (s : Int) (t : Tr) : idxT s t = if t.n = 2 then (if bitB s t.v = true then (szT (t.k 0)).2.1 + idxT s (t.k 1) else idxT s (t.k 0)) else 0 := Tr.bin_eq _ _ t
theorem idxT_rng (s : Int) (t : Tr) : 0 ≤ idxT s t ∧ idxT s t < (szT t).2.1 := by
  induction t using Tr.ind with
  | h t ih =>
    rw [idxT_eq, szT_eq t]
    split
    · rename_i h
      have := ih 0 (by omega); have := ih 1 (by omega)
      simp only
      split <;> omega
    · simp
theorem idx_at (s : Int) (t : Tr) : ∀ yes no : Int, (lvs t yes no)[(idxT s t).toNat]? = some (atT s t yes no) := by
  induction t using Tr.ind with
  | h t ih =>
    intro yes no
    rw [lvs_eq, idxT_eq, atT_eq]
    split
    · rename_i h
      have l0 := lvs_len (t.k 0) yes (ior .i64 no (ishl 1 t.v))
      have r0 := idxT_rng s (t.k 0)
      have r1 := idxT_rng s (t.k 1)
      split
      · rw [List.getElem?_append_right (by omega), ← ih 1 (by omega)]
        congr 1; omega
      · rw [List.getElem?_append_left (by omega), ih 0 (by omega)]
    · rfl
theorem swp_other (by_ : Tr) (s : Int) {t : Tr} : ∀ {i : Int} (yes no : Int), idxT s t ≠ i → atT s (swp by_ t i).1 yes no = atT s t yes no := by
  induction t using Tr.ind with
  | h t ih =>
    intro i yes no
    rw [idxT_eq, swp_eq, atT_eq s t]
    split
    · rename_i h
      intro hne
      simp only
      rw [atT_two]
      by_cases hb : bitB s t.v = true
      · rw [if_pos hb] at hne ⊢
        rw [if_pos hb]
        refine ih 1 (by omega) _ _ ?_
        rw [swp_n]; omega
      · rw [if_neg hb] at hne ⊢
        rw [if_neg hb]
        exact ih 0 (by omega) _ _ hne
    · intro hne
      simp only
      rw [if_neg (fun e => hne e.symm), atT_lf]
theorem swp_same (by_ : Tr) (s : Int) {t : Tr} : ∀ {i : Int} (yes no : Int), idxT s t = i → (atT s (swp by_ t i).1 yes no).reason = (atT s by_ 0 0).reason := by
  have hr : ∀ (u : Tr) (yes no yes' no' : Int), (atT s u yes no).reason = (atT s u yes' no').reason := by
    intro u
    induction u using Tr.ind with
    | h u ih =>
      intro yes no yes' no'
      rw [atT_eq, atT_eq s u yes' no']
      split
      · rename_i h
        split
        · exact ih 1 (by omega) _ _ _ _
        · exact ih 0 (by omega) _ _ _ _
      · rfl
  induction t using Tr.ind with
  | h t ih =>
    intro i yes no
    rw [idxT_eq, swp_eq]
    split
    · rename_i h
      intro he
      simp only
      rw [atT_two]
      by_cases hb : bitB s t.v = true
      · rw [if_pos hb] at he ⊢
        refine ih 1 (by omega) _ _ ?_
        rw [swp_n]; omega
      · rw [if_neg hb] at he ⊢
        exact ih 0 (by omega) _ _ he
    · intro he
      simp only
      rw [if_pos he.symm]
      exact hr _ _ _ _ _
/-- what replaces a leaf of a tree without errors has none itself -/
theorem swp_by {vars : Int} (hv : vars ≤ 24) {by_ t : Tr} : ∀ {i a : Int}, 0 ≤ i → i < (szT t).2.1 → okT vars (swp by_ t i).1 a → okT vars by_ 0 ∧ cntN by_ ≤ cntN (swp by_ t i).1 := by
  induction t using Tr.ind with
  | h t ih =>
    intro i a
    rw [szT_eq, swp_eq]
    split
    · rename_i h
      simp only
      intro h0 h1
      rw [okT_two, cntN_two]
      rintro ⟨g1, g2, g3, g5, g6⟩
      have p0 := cntN_pos (swp by_ (t.k 0) i).1
      have p1 := cntN_pos (swp by_ (t.k 1) (i - (swp by_ (t.k 0) i).2)).1
      by_cases hlt : i < (szT (t.k 0)).2.1
      · obtain ⟨q1, q2⟩ := ih 0 (by omega) h0 hlt g5
        exact ⟨q1, by omega⟩
      · obtain ⟨q1, q2⟩ := @ih 1 (by omega) (i - (swp by_ (t.k 0) i).2) _ (by rw [swp_n]; omega) (by rw [swp_n]; omega) g6
        exact ⟨q1, by omega⟩
    · simp only
      intro h0 h1
      have : i = 0 := by omega
      subst this
      rw [if_pos rfl]
      exact fun h => ⟨okT_le hv (bit0a a) h, Int.le_refl _⟩
end Go.Pu
