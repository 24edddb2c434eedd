/-
  WHAT PATH SETS SAY: a node is false exactly where some path set of it has no failed event. No program is named here.
-/
import Derived.Test.YtpjhpcclbenfbaaPuP
set_option linter.unusedVariables false
set_option linter.unusedSimpArgs false
namespace Go.Pu
open Go.Sy
/-- sorted, without a set above another one, within the first events -/
def GoodP (n : Nat) (l : LS) : Prop := Fam l ∧ ∀ t ∈ l, inN n t
theorem Fam.nil : Fam [] := ⟨by simp [Val], by simp, (anti (l := []) (by simp [Val]) (by simp [Asc]) (by simp)).2.1⟩
theorem Fam.sgl {i : Nat} (hi : i < 24) : Fam [Go.Pu.one i] := ⟨by simp [Val, one_valid hi], by simp, (anti (l := [Go.Pu.one i]) (by simp [Val, one_valid hi]) (by simp [Asc]) (by simp)).2.1⟩
section
variable {n : Nat}
theorem GoodP.nil : GoodP n [] := ⟨Fam.nil, by simp⟩
theorem inN_zero : inN n 0 := ⟨valid0, fun i _ => by simp⟩
theorem GoodP.zero : GoodP n [0] := ⟨Fam.zero, fun t ht => by rw [List.mem_singleton.1 ht]; exact inN_zero⟩
theorem inN_one' {i : Nat} (hn : n ≤ 24) (hi : i < n) : inN n (one i) := inN_of hn (validS_rng (one_valid (by omega))) fun j hj => by rw [one_bit (by omega)]; simp; omega
theorem GoodP.sgl {i : Nat} (hn : n ≤ 24) (hi : i < n) : GoodP n [Go.Pu.one i] := ⟨Fam.sgl (by omega), fun t ht => by rw [List.mem_singleton.1 ht]; exact inN_one' hn hi⟩
theorem mem_unionsC {a b : LS} {x : Int} (h : x ∈ unionsC a b) : ∃ y ∈ minS a, ∃ z ∈ minS b, x = ior .i64 y z := by
  unfold unionsC at h
  rcases (addAll_mem _ _ _).1 h with h | h
  · cases h
  · unfold unionsL at h
    obtain ⟨y, hy, hx⟩ := List.mem_flatMap.1 h
    obtain ⟨z, hz, rfl⟩ := List.mem_map.1 hx
    exact ⟨y, hy, z, hz, rfl⟩
theorem plus_good {a b : LS} (ha : GoodP n a) (hb : GoodP n b) (h : (plusP a b).2 = 0) : GoodP n (plusP a b).1 ∧ ∀ x, Cov (plusP a b).1 x ↔ Cov a x ∨ Cov b x := by
  have hf := plus_fam h
  have hv : Val (a ++ b) := ha.1.val.append hb.1.val
  have e : (plusP a b).1 = minS (a ++ b) := by
    unfold plusP at h ⊢
    split at h
    · rename_i h1; rw [if_pos h1]; exact (limL_zero h).1
    · rename_i h1; exact absurd h h1
  rw [e] at hf ⊢
  refine ⟨⟨hf, fun t ht => ?_⟩, fun x => by rw [cov_minS hv, cov_append]⟩
  exact (List.mem_append.1 (minS_sub hv ht)).elim (ha.2 t) (hb.2 t)
theorem prod_good {a b : LS} (hn : n ≤ 24) (ha : GoodP n a) (hb : GoodP n b) (h : (prodP a b).2 = 0) : GoodP n (prodP a b).1 ∧ ∀ x, Cov (prodP a b).1 x ↔ Cov a x ∧ Cov b x := by
  have hf := prod_fam h
  have hv : Val (unionsC a b) := ha.1.val.unionsC hb.1.val
  have e : (prodP a b).1 = minS (unionsC a b) := by
    unfold prodP at h ⊢
    split at h
    · rename_i h1; rw [if_pos h1]; exact (limL_zero h).1
    · rename_i h1; exact absurd h h1
  rw [e] at hf ⊢
  refine ⟨⟨hf, fun t ht => ?_⟩, fun x => by rw [cov_minS hv, cov_unionsC ha.1.val hb.1.val]⟩
  obtain ⟨y, hy, z, hz, rfl⟩ := mem_unionsC (minS_sub hv ht)
  exact inN_ior hn (ha.2 y (minS_sub ha.1.val hy)) (hb.2 z (minS_sub hb.1.val hz))

theorem foldP_plus : ∀ (rs : List LS) {acc : LS}, GoodP n acc → (∀ r ∈ rs, GoodP n r) → (foldP plusP rs acc).2 = 0 → GoodP n (foldP plusP rs acc).1 ∧ ∀ x, Cov (foldP plusP rs acc).1 x ↔ Cov acc x ∨ ∃ r ∈ rs, Cov r x
  | [], acc, ha, _, _ => ⟨ha, fun x => by simp [foldP]⟩
  | r :: rs, acc, ha, hr, h => by
    rw [foldP] at h ⊢
    split at h
    · rename_i h1
      rw [if_pos h1]
      obtain ⟨g1, g2⟩ := plus_good ha (hr r (.head _)) h1
      obtain ⟨k1, k2⟩ := foldP_plus rs g1 (fun r hr' => hr r (.tail _ hr')) h
      exact ⟨k1, fun x => by rw [k2 x, g2 x]; simp [or_assoc]⟩
    · rename_i h1; exact absurd h h1
theorem foldP_prod (hn : n ≤ 24) : ∀ (rs : List LS) {acc : LS}, GoodP n acc → (∀ r ∈ rs, GoodP n r) → (foldP prodP rs acc).2 = 0 → GoodP n (foldP prodP rs acc).1 ∧ ∀ x, Cov (foldP prodP rs acc).1 x ↔ Cov acc x ∧ ∀ r ∈ rs, Cov r x
  | [], acc, ha, _, _ => ⟨ha, fun x => by simp [foldP]⟩
  | r :: rs, acc, ha, hr, h => by
    rw [foldP] at h ⊢
    split at h
    · rename_i h1
      rw [if_pos h1]
      obtain ⟨g1, g2⟩ := prod_good hn ha (hr r (.head _)) h1
      obtain ⟨k1, k2⟩ := foldP_prod hn rs g1 (fun r hr' => hr r (.tail _ hr')) h
      exact ⟨k1, fun x => by rw [k2 x, g2 x]; simp [and_assoc]⟩
    · rename_i h1; exact absurd h h1
theorem voteJ_spec (row : LS) : ∀ (j : Nat) {tab : List LS}, j < tab.length → (voteJ row j tab).2 = 0 → (voteJ row j tab).1.length = tab.length ∧ (∀ i, j < i ∨ i = 0 → (voteJ row j tab).1.getD i [] = tab.getD i []) ∧
    ∀ i, i < j → (prodP (tab.getD i []) row).2 = 0 ∧ (plusP (tab.getD (i + 1) []) (prodP (tab.getD i []) row).1).2 = 0 ∧ (voteJ row j tab).1.getD (i + 1) [] = (plusP (tab.getD (i + 1) []) (prodP (tab.getD i []) row).1).1
  | 0, tab, _, _ => ⟨rfl, fun _ _ => rfl, fun i hi => by omega⟩
  | j + 1, tab, hj, h => by
    rw [voteJ] at h ⊢
    split at h
    · rename_i h1
      rw [if_pos h1]
      split at h
      · rename_i h2
        rw [if_pos h2]
        obtain ⟨k1, k2, k3⟩ := voteJ_spec row j (tab := tab.set (j + 1) (plusP (tab.getD (j + 1) []) (prodP (tab.getD j []) row).1).1) (by simp; omega) h
        refine ⟨by rw [k1, List.length_set], fun i hi => ?_, fun i hi => ?_⟩
        · rw [k2 i (by omega), getD_set_far (by omega)]
        · by_cases hij : i = j
          · subst hij
            refine ⟨h1, h2, ?_⟩
            rw [k2 (i + 1) (.inl (by omega)), getD_set_at (by omega)]
          · have := k3 i (by omega)
            rw [getD_set_far (i := j + 1) (j := i) (by omega), getD_set_far (i := j + 1) (j := i + 1) (by omega)] at this
            exact this
      · rename_i h2; exact absurd h h2
    · rename_i h1; exact absurd h h1
/-- how many lists cover a set -/
def cntC (x : Int) (rs : List LS) : Nat := (rs.filter fun r => r.any fun t => subS t x).length
theorem voteR_spec (hn : n ≤ 24) (k : Nat) : ∀ (rs : List LS) {tab : List LS}, tab.length = k + 1 → (∀ j, GoodP n (tab.getD j [])) → (∀ r ∈ rs, GoodP n r) → (voteR k rs tab).2 = 0 →
    (∀ j, GoodP n ((voteR k rs tab).1.getD j [])) ∧ ∀ x (c : Nat), (∀ j, j ≤ k → (Cov (tab.getD j []) x ↔ j ≤ c)) → ∀ j, j ≤ k → (Cov ((voteR k rs tab).1.getD j []) x ↔ j ≤ c + cntC x rs)
  | [], tab, _, hg, _, _ => ⟨hg, fun x c h j hj => by simpa [voteR, cntC] using h j hj⟩
  | r :: rs, tab, hl, hg, hr, h => by
    rw [voteR] at h ⊢
    split at h
    · rename_i h1
      rw [if_pos h1]
      obtain ⟨k1, k2, k3⟩ := voteJ_spec r k (by omega) h1
      have hgr := hr r (.head _)
      have hgj : ∀ j, GoodP n ((voteJ r k tab).1.getD j []) := fun j => by
        by_cases hj : k < j ∨ j = 0
        · rw [k2 j hj]; exact hg j
        · obtain ⟨i, rfl⟩ : ∃ i, j = i + 1 := ⟨j - 1, by omega⟩
          obtain ⟨e1, e2, e3⟩ := k3 i (by omega)
          rw [e3]
          exact (plus_good (hg _) (prod_good hn (hg _) hgr e1).1 e2).1
      obtain ⟨m1, m2⟩ := voteR_spec hn k rs (by rw [k1, hl]) hgj (fun r hr' => hr r (.tail _ hr')) h
      refine ⟨m1, fun x c hc j hj => ?_⟩
      by_cases hrx : (r.any fun t => subS t x) = true
      · have hcr : Cov r x := (any_cov hgr.1.val x).1 hrx
        have ec : cntC x (r :: rs) = cntC x rs + 1 := by simp [cntC, List.filter_cons, hrx]
        rw [ec, m2 x (c + 1) (fun j hj => ?_) j hj]
        · omega
        · by_cases hj0 : j = 0
          · subst hj0
            rw [k2 0 (.inr rfl), hc 0 (by omega)]; omega
          · obtain ⟨i, rfl⟩ : ∃ i, j = i + 1 := ⟨j - 1, by omega⟩
            obtain ⟨e1, e2, e3⟩ := k3 i (by omega)
            rw [e3, (plus_good (hg _) (prod_good hn (hg _) hgr e1).1 e2).2 x, (prod_good hn (hg _) hgr e1).2 x, hc (i + 1) (by omega), hc i (by omega)]
            simp only [hcr, and_true]
            omega
      · have hcr : ¬ Cov r x := fun h => hrx ((any_cov hgr.1.val x).2 h)
        have ec : cntC x (r :: rs) = cntC x rs := by simp [cntC, List.filter_cons, hrx]
        rw [ec, m2 x c (fun j hj => ?_) j hj]
        by_cases hj0 : j = 0
        · subst hj0
          rw [k2 0 (.inr rfl), hc 0 (by omega)]
        · obtain ⟨i, rfl⟩ : ∃ i, j = i + 1 := ⟨j - 1, by omega⟩
          obtain ⟨e1, e2, e3⟩ := k3 i (by omega)
          rw [e3, (plus_good (hg _) (prod_good hn (hg _) hgr e1).1 e2).2 x, (prod_good hn (hg _) hgr e1).2 x, hc (i + 1) (by omega)]
          simp only [hcr, and_false, or_false]
    · rename_i h1; exact absurd h h1
theorem tab0_getD (k j : Nat) : (tab0 k).getD j [] = if j = 0 then [0] else [] := by
  unfold tab0
  by_cases hj : j = 0
  · subst hj
    rw [getD_set_at (by simp), if_pos rfl]
  · rw [getD_set_far (by omega), if_neg hj, List.getD_eq_getElem?_getD, List.getElem?_replicate]
    split <;> rfl
theorem cov_nil (x : Int) : ¬ Cov [] x := fun ⟨_, h, _⟩ => by cases h
theorem cov_zero (x : Int) : Cov [0] x := ⟨0, .head _, bit0 x⟩
theorem voteP_good (hn : n ≤ 24) {rs : List LS} {k : Nat} (hr : ∀ r ∈ rs, GoodP n r) (h : (voteP rs k).2 = 0) : GoodP n (voteP rs k).1 ∧ ∀ x, Cov (voteP rs k).1 x ↔ k ≤ cntC x rs := by
  unfold voteP at h ⊢
  split at h
  · rename_i h1
    rw [if_pos h1]
    have h0 : ∀ j, GoodP n ((tab0 k).getD j []) := fun j => by
      rw [tab0_getD]; split
      · exact GoodP.zero
      · exact GoodP.nil
    obtain ⟨m1, m2⟩ := voteR_spec hn k rs (by simp [tab0]) h0 hr h1
    refine ⟨m1 k, fun x => ?_⟩
    have := m2 x 0 (fun j hj => ?_) k (Nat.le_refl _)
    · rw [Nat.zero_add] at this; exact this
    · rw [tab0_getD]
      split
      · rename_i h; subst h; simp [cov_zero]
      · rename_i h; constructor
        · intro hc; exact absurd hc (cov_nil x)
        · intro hc; omega
  · rename_i h1; exact absurd h h1
theorem filt_two {α : Type} (p : α → Bool) : ∀ l : List α, (l.filter p).length + (l.filter fun a => !p a).length = l.length
  | [] => rfl
  | a :: l => by
    have := filt_two p l
    simp only [List.filter_cons]
    cases p a <;> simp <;> omega
/-- a node's path sets, out of its arguments' -/
theorem node_good (hn : n ≤ 24) {X : NodeP} {R : Int → LS} {v : List Bool} {x : Int} (hk : X.kind = 0 ∧ (X.k = 0 ∨ X.k = 1) ∨ X.kind = 2 ∨ X.kind = 3 ∨ X.kind = 4 ∧ 1 ≤ X.k ∧ X.k ≤ X.args.length)
    (hr : ∀ a ∈ X.args, GoodP n (R a)) (h : (nodePS X.kind X.k (X.args.map R)).2 = 0) : GoodP n (nodePS X.kind X.k (X.args.map R)).1 ∧ ((∀ a ∈ X.args, (Cov (R a) x ↔ v.getD a.toNat false = false)) → (Cov (nodePS X.kind X.k (X.args.map R)).1 x ↔ nodeV X (cntT v X.args) = false)) := by
  have hrr : ∀ r ∈ X.args.map R, GoodP n r := fun r hr' => by
    obtain ⟨a, ha, rfl⟩ := List.mem_map.1 hr'
    exact hr a ha
  obtain ⟨kind, k, args⟩ := X
  simp only at hk hr h hrr ⊢
  rcases hk with ⟨rfl, hk⟩ | rfl | rfl | ⟨rfl, hk1, hk2⟩
  · rcases hk with rfl | rfl
    · have e : nodePS 0 0 (args.map R) = ([0], 0) := by simp [nodePS]
      rw [e]
      exact ⟨GoodP.zero, fun _ => by simp [nodeV, cov_zero]⟩
    · have e : nodePS 0 1 (args.map R) = ([], 0) := by simp [nodePS]
      rw [e]
      exact ⟨GoodP.nil, fun _ => by simp [nodeV, cov_nil]⟩
  · have e : nodePS 2 k (args.map R) = foldP plusP (args.map R) [] := by simp [nodePS]
    rw [e] at h ⊢
    obtain ⟨g1, g2⟩ := foldP_plus _ GoodP.nil hrr h
    refine ⟨g1, fun hc => ?_⟩
    rw [g2 x]
    simp only [cov_nil, false_or, nodeV, Int.reduceEq, if_false, if_true, decide_eq_false_iff_not]
    rw [cntT_all]
    constructor
    · rintro ⟨r, hr', hx⟩ hall
      obtain ⟨a, ha, rfl⟩ := List.mem_map.1 hr'
      have := (hc a ha).1 hx
      rw [hall a ha] at this; cases this
    · intro hne
      have : ∃ a ∈ args, v.getD a.toNat false = false := Classical.byContradiction fun hno => hne fun a ha => by
        cases hb : v.getD a.toNat false with
        | true => rfl
        | false => exact absurd ⟨a, ha, hb⟩ hno
      obtain ⟨a, ha, hb⟩ := this
      exact ⟨R a, List.mem_map.2 ⟨a, ha, rfl⟩, (hc a ha).2 hb⟩
  · have e : nodePS 3 k (args.map R) = foldP prodP (args.map R) [0] := by simp [nodePS]
    rw [e] at h ⊢
    obtain ⟨g1, g2⟩ := foldP_prod hn _ GoodP.zero hrr h
    refine ⟨g1, fun hc => ?_⟩
    rw [g2 x]
    simp only [cov_zero, true_and, nodeV, Int.reduceEq, if_false, if_true, decide_eq_false_iff_not]
    rw [cntT_pos]
    constructor
    · rintro hall ⟨a, ha, hb⟩
      have := (hc a ha).1 (hall _ (List.mem_map.2 ⟨a, ha, rfl⟩))
      rw [hb] at this; cases this
    · intro hne r hr'
      obtain ⟨a, ha, rfl⟩ := List.mem_map.1 hr'
      refine (hc a ha).2 ?_
      cases hb : v.getD a.toNat false with
      | false => rfl
      | true => exact absurd ⟨a, ha, hb⟩ hne
  · have e : nodePS 4 k (args.map R) = voteP (args.map R) ((args.length : Int) - k + 1).toNat := by simp [nodePS]
    rw [e] at h ⊢
    obtain ⟨g1, g2⟩ := voteP_good hn hrr h
    refine ⟨g1, fun hc => ?_⟩
    rw [g2 x]
    simp only [nodeV, Int.reduceEq, if_false, if_true, decide_eq_false_iff_not]
    have ec : (cntC x (args.map R) : Int) = args.length - cntT v args := by
      unfold cntC cntT
      rw [List.filter_map, List.length_map]
      have e1 : args.filter ((fun r : LS => r.any fun t => subS t x) ∘ R) = args.filter fun a => !v.getD a.toNat false := by
        refine List.filter_congr fun a ha => ?_
        have h1 := any_cov (hr a ha).1.val x
        have h2 := hc a ha
        simp only [Function.comp_apply]
        cases hb : v.getD a.toNat false with
        | false => exact h1.2 (h2.2 hb)
        | true =>
          cases hx : ((R a).any fun t => subS t x) with
          | false => rfl
          | true => rw [h2.1 (h1.1 hx)] at hb; cases hb
      rw [e1]
      have := filt_two (fun a : Int => v.getD a.toNat false) args
      omega
    have := cntT_rng v args
    omega
/-! the only error is that there are too many -/
theorem limE_err (l : LS) : limE l = 0 ∨ limE l = 4 := by
  unfold limE; split
  · exact .inr rfl
  · exact .inl rfl
theorem plus_err {a b : LS} (ha : GoodP n a) (hb : GoodP n b) : (plusP a b).2 = 0 ∨ (plusP a b).2 = 4 := by
  unfold plusP
  rw [if_pos (bothE_zero ha.1.len hb.1.len ha.1.val hb.1.val)]
  exact limE_err _
theorem prod_err {a b : LS} (ha : GoodP n a) (hb : GoodP n b) : (prodP a b).2 = 0 ∨ (prodP a b).2 = 4 := by
  unfold prodP
  rw [if_pos (bothE_zero ha.1.len hb.1.len ha.1.val hb.1.val)]
  exact limE_err _
theorem foldP_err {op : LS → LS → LS × Int} (h1 : ∀ a b, GoodP n a → GoodP n b → (op a b).2 = 0 ∨ (op a b).2 = 4) (h2 : ∀ a b, GoodP n a → GoodP n b → (op a b).2 = 0 → GoodP n (op a b).1) : ∀ (rs : List LS) {acc : LS}, GoodP n acc → (∀ r ∈ rs, GoodP n r) → (foldP op rs acc).2 = 0 ∨ (foldP op rs acc).2 = 4
  | [], acc, _, _ => .inl rfl
  | r :: rs, acc, ha, hr => by
    rw [foldP]
    split
    · rename_i h
      exact foldP_err h1 h2 rs (h2 _ _ ha (hr r (.head _)) h) fun r hr' => hr r (.tail _ hr')
    · exact h1 _ _ ha (hr r (.head _))
theorem getD_set_any {α : Type} {l : List α} {x d : α} {i j : Nat} (P : α → Prop) (h1 : P x) (h2 : P (l.getD j d)) : P ((l.set i x).getD j d) := by
  by_cases hij : i = j
  · subst hij
    by_cases hi : i < l.length
    · rw [getD_set_at hi]; exact h1
    · rw [List.getD_eq_getElem?_getD, List.set_eq_of_length_le (by omega)]
      rw [List.getD_eq_getElem?_getD] at h2; exact h2
  · rw [getD_set_far hij]; exact h2
theorem voteJ_err (hn : n ≤ 24) {row : LS} (hr : GoodP n row) : ∀ (j : Nat) {tab : List LS}, (∀ j, GoodP n (tab.getD j [])) → ((voteJ row j tab).2 = 0 ∨ (voteJ row j tab).2 = 4) ∧ ((voteJ row j tab).2 = 0 → ∀ j', GoodP n ((voteJ row j tab).1.getD j' []))
  | 0, tab, h => ⟨.inl rfl, fun _ => h⟩
  | j + 1, tab, h => by
    rw [voteJ]
    split
    · rename_i h1
      have g1 := (prod_good hn (h j) hr h1).1
      split
      · rename_i h2
        have g2 := (plus_good (h (j + 1)) g1 h2).1
        exact voteJ_err hn hr j fun j' => getD_set_any _ g2 (h j')
      · rename_i h2
        exact ⟨plus_err (h (j + 1)) g1, fun h => absurd h h2⟩
    · rename_i h1
      exact ⟨prod_err (h j) hr, fun h => absurd h h1⟩
theorem voteR_err (hn : n ≤ 24) (k : Nat) : ∀ (rs : List LS) {tab : List LS}, (∀ j, GoodP n (tab.getD j [])) → (∀ r ∈ rs, GoodP n r) → (voteR k rs tab).2 = 0 ∨ (voteR k rs tab).2 = 4
  | [], tab, _, _ => .inl rfl
  | r :: rs, tab, h, hr => by
    rw [voteR]
    obtain ⟨e1, e2⟩ := voteJ_err hn (hr r (.head _)) k h
    split
    · rename_i h1
      exact voteR_err hn k rs (e2 h1) fun r hr' => hr r (.tail _ hr')
    · exact e1
theorem tab0_good (k j : Nat) : GoodP n ((tab0 k).getD j []) := by
  rw [tab0_getD]; split
  · exact GoodP.zero
  · exact GoodP.nil
theorem node_err (hn : n ≤ 24) (kind k : Int) {rs : List LS} (hr : ∀ r ∈ rs, GoodP n r) : (nodePS kind k rs).2 = 0 ∨ (nodePS kind k rs).2 = 4 := by
  unfold nodePS
  split
  · exact .inl rfl
  split
  · exact foldP_err (fun a b ha hb => prod_err ha hb) (fun a b ha hb h => (prod_good hn ha hb h).1) rs GoodP.zero hr
  split
  · exact foldP_err (fun a b ha hb => plus_err ha hb) (fun a b ha hb h => (plus_good ha hb h).1) rs GoodP.nil hr
  unfold voteP
  have := voteR_err hn ((rs.length : Int) - k + 1).toNat rs (tab := tab0 ((rs.length : Int) - k + 1).toNat) (fun j => tab0_good _ j) hr
  split
  · exact .inl rfl
  · exact this
end
end Go.Pu
