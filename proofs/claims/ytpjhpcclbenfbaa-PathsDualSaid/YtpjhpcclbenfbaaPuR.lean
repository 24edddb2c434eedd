/-
  WHAT DECIDES A VALUE: carriers, minimal reasons, critical events. No program is named here.
-/
import Derived.Test.YtpjhpcclbenfbaaPuN
set_option linter.unusedVariables false
set_option linter.unusedSimpArgs false
namespace Go.Pu
open Go.Sy

/-! marks are closed -/
theorem getD_set (m : List Bool) (i j : Nat) (b : Bool) : (m.set i b).getD j false = if i = j ∧ j < m.length then b else m.getD j false := by
  rw [List.getD_eq_getElem?_getD, List.getElem?_set, List.getD_eq_getElem?_getD]
  by_cases h : i = j
  · subst h
    by_cases h2 : i < m.length
    · simp [h2]
    · simp [h2]
  · simp [h]
theorem markA_mono (c : Int → Bool) : ∀ (args : List Int) (m : List Bool) {j : Nat}, m.getD j false = true → (markA c m args).getD j false = true
  | [], m, j, h => h
  | a :: r, m, j, h => by
    rw [markA_cons]
    refine markA_mono c r _ ?_
    rw [getD_set]
    split
    · rename_i hh; rw [hh.1, h]; rfl
    · exact h
theorem markA_set (c : Int → Bool) : ∀ (args : List Int) (m : List Bool) {a : Int}, a ∈ args → c a = true → a.toNat < m.length → (markA c m args).getD a.toNat false = true
  | b :: r, m, a, ha, hc, hl => by
    rw [markA_cons]
    rcases List.mem_cons.1 ha with rfl | ha
    · refine markA_mono c r _ ?_
      rw [getD_set, if_pos ⟨rfl, hl⟩, hc, Bool.or_true]
    · exact markA_set c r _ ha hc (by rw [List.length_set]; exact hl)
theorem markA_far (c : Int → Bool) : ∀ (args : List Int) (m : List Bool) {j : Nat}, (∀ a ∈ args, a.toNat ≠ j) → (markA c m args).getD j false = m.getD j false
  | [], m, j, h => rfl
  | a :: r, m, j, h => by
    rw [markA_cons, markA_far c r _ fun b hb => h b (.tail _ hb), getD_set, if_neg (fun hh => h a (.head _) hh.1)]
theorem markN_far {n : Nat} {ns : List NodeP} (c : Nat → Int → Bool) (hn : ∀ (q : Nat) (h : q < ns.length), ∀ a ∈ ns[q].args, a.toNat < n + q) : ∀ (i : Nat) (m : List Bool), i ≤ ns.length → ∀ {j : Nat}, n + i ≤ j → (markN n ns c i m).getD j false = m.getD j false
  | 0, m, _, j, _ => rfl
  | i + 1, m, hi, j, hj => by
    rw [markN, markN_far c hn i _ (by omega) (by omega)]
    split
    · refine markA_far _ _ _ fun a ha => ?_
      rw [List.getD_eq_getElem?_getD, List.getElem?_eq_getElem (by omega)] at ha
      have := hn i (by omega) a ha
      omega
    · rfl
theorem markN_mono {n : Nat} {ns : List NodeP} (c : Nat → Int → Bool) : ∀ (i : Nat) (m : List Bool) {j : Nat}, m.getD j false = true → (markN n ns c i m).getD j false = true
  | 0, m, j, h => h
  | i + 1, m, j, h => by
    rw [markN]
    refine markN_mono c i _ ?_
    split
    · exact markA_mono _ _ _ h
    · exact h
theorem markN_closed {n : Nat} {ns : List NodeP} (c : Nat → Int → Bool) (hn : ∀ (q : Nat) (h : q < ns.length), ∀ a ∈ ns[q].args, a.toNat < n + q) : ∀ (i : Nat) (m : List Bool), i ≤ ns.length → m.length = n + ns.length → ∀ (q : Nat) (h : q < ns.length), q < i → (markN n ns c i m).getD (n + q) false = true →
    ∀ a ∈ ns[q].args, c q a = true → (markN n ns c i m).getD a.toNat false = true
  | 0, m, _, _, q, h, hq, _ => by omega
  | i + 1, m, hi, hl, q, h, hq, hm => by
    intro a ha hc
    rw [markN] at hm ⊢
    by_cases hqi : q = i
    · subst hqi
      rw [markN_far c hn q _ (by omega) (Nat.le_refl _)] at hm
      have hg : ns.getD q node0 = ns[q] := by simp [List.getD_eq_getElem?_getD, h]
      split at hm
      · rename_i h1
        rw [if_pos h1, hg]
        exact markN_mono c q _ (markA_set _ _ _ ha hc (by have := hn q h a ha; omega))
      · rename_i h1
        exact absurd hm h1
    · refine markN_closed c hn i _ (by omega) ?_ q h (by omega) hm a ha hc
      split
      · rw [markA_length]; exact hl
      · exact hl
theorem FormOk.args_lt {f : FormP} (ok : FormOk f) : ∀ (q : Nat) (h : q < f.nodes.length), ∀ a ∈ f.nodes[q].args, a.toNat < f.vars.toNat + q := fun q h a ha => by
  have h1 := (ok.nodes q h).args a ha
  have h2 := ok.vars
  omega
theorem marksF_closed {f : FormP} (ok : FormOk f) (c : Nat → Int → Bool) {q : Nat} (h : q < f.nodes.length) (hm : (marksF f c).getD (f.vars.toNat + q) false = true) {a : Int} (ha : a ∈ f.nodes[q].args) (hc : c q a = true) : (marksF f c).getD a.toNat false = true :=
  markN_closed c ok.args_lt f.nodes.length (mark0 f) (Nat.le_refl _) (mark0_length f) q h h hm a ha hc
theorem marksF_top {f : FormP} (ok : FormOk f) (c : Nat → Int → Bool) : (marksF f c).getD f.top.toNat false = true := by
  refine markN_mono c _ _ ?_
  have h1 := ok.top
  have h2 := ok.vars
  have hlt : f.top.toNat < (List.replicate (f.vars.toNat + f.nodes.length) false).length := by simp; omega
  rw [mark0, getD_set, if_pos ⟨rfl, hlt⟩]

/-! what carries decides -/
theorem cntT_mono {v w : List Bool} : ∀ {args : List Int}, (∀ a ∈ args, v.getD a.toNat false = true → w.getD a.toNat false = true) → cntT v args ≤ cntT w args := by
  intro args h
  unfold cntT
  have : (args.filter fun a => v.getD a.toNat false).length ≤ (args.filter fun a => w.getD a.toNat false).length := by
    induction args with
    | nil => simp
    | cons a r ih =>
      have ih' := ih fun b hb => h b (.tail _ hb)
      have ha := h a (.head _)
      rw [List.filter_cons, List.filter_cons]
      split
      · rename_i hv
        rw [if_pos (ha hv)]; simp only [List.length_cons]; omega
      · split
        · simp only [List.length_cons]; omega
        · exact ih'
  omega
theorem decide_node {X : NodeP} (hk : 0 ≤ X.kind ∧ X.kind ≤ 5) {v w : List Bool} (h : ∀ a ∈ X.args, carC X.kind (nodeV X (cntT v X.args)) (v.getD a.toNat false) = true → w.getD a.toNat false = v.getD a.toNat false) :
    nodeV X (cntT w X.args) = nodeV X (cntT v X.args) := by
  have hr1 := cntT_rng v X.args
  have hr2 := cntT_rng w X.args
  by_cases hc : X.kind = 2 ∨ X.kind = 4 ∨ X.kind = 3
  · cases hnv : nodeV X (cntT v X.args) with
    | true =>
      have hle : cntT v X.args ≤ cntT w X.args := cntT_mono fun a ha hv => by
        rw [h a ha (by rw [hnv, hv, carC, if_pos hc]; rfl)]; exact hv
      unfold nodeV at hnv ⊢
      rcases hc with hc | hc | hc <;> simp only [hc, Int.reduceEq, if_true, if_false, decide_eq_true_eq] at hnv ⊢ <;> omega
    | false =>
      have hle : cntT w X.args ≤ cntT v X.args := cntT_mono fun a ha hw => by
        cases hv : v.getD a.toNat false with
        | true => rfl
        | false =>
          have := h a ha (by rw [hnv, hv, carC, if_pos hc]; rfl)
          rw [hw, hv] at this; cases this
      unfold nodeV at hnv ⊢
      rcases hc with hc | hc | hc <;> simp only [hc, Int.reduceEq, if_true, if_false, decide_eq_false_iff_not] at hnv ⊢ <;> omega
  · have : cntT w X.args = cntT v X.args := cntT_congr fun a ha => h a ha (by rw [carC, if_neg hc])
    rw [this]
theorem carry_decides {f : FormP} (ok : FormOk f) {s x : Int} (h : ∀ i, i < f.vars.toNat → (marksF f (carF f s)).getD i false = true → bit x i = bit s i) : valueF f x = valueF f s := by
  have key : ∀ j, j < f.vars.toNat + f.nodes.length → (marksF f (carF f s)).getD j false = true → (valsF f x).getD j false = (valsF f s).getD j false := by
    intro j
    induction j using Nat.strongRecOn with
    | ind j ih =>
      intro hj hm
      by_cases hjn : j < f.vars.toNat
      · rw [valsF_event f x hjn, valsF_event f s hjn]
        exact h j hjn hm
      · obtain ⟨q, rfl⟩ : ∃ q, j = f.vars.toNat + q := ⟨j - f.vars.toNat, by omega⟩
        have hq : q < f.nodes.length := by omega
        rw [valsF_node ok x hq, valsF_node ok s hq]
        refine decide_node (ok.nodes q hq).kind fun a ha hc => ?_
        have hlt := ok.args_lt q hq a ha
        refine ih a.toNat hlt (by omega) (marksF_closed ok _ hq hm ha ?_)
        unfold carF
        rw [valsF_node ok s hq, List.getD_eq_getElem?_getD, List.getElem?_eq_getElem hq]
        exact hc
  have h1 := ok.top
  have h2 := ok.vars
  exact key f.top.toNat (by omega) (marksF_top ok _)
theorem evN_bit (m : List Bool) {n : Nat} (hn : n ≤ 24) : ∀ (k i : Nat), bit (evN m n k) i = (decide (i < k) && (m.getD i false && decide (i < n)))
  | 0, i => by simp [evN]
  | k + 1, i => by
    unfold evN
    split
    · rename_i h
      simp only [Bool.and_eq_true, decide_eq_true_eq] at h
      rw [bit_ior, evN_bit m hn k, one_bit (by omega)]
      by_cases hik : k = i
      · subst hik; simp [h.1, h.2, -List.getD_eq_getElem?_getD]
      · simp only [hik, decide_false, Bool.or_false]
        by_cases hlt : i < k
        · simp [hlt, show i < k + 1 by omega]
        · simp [hlt, show ¬ i < k + 1 by omega]
    · rename_i h
      rw [evN_bit m hn k]
      by_cases hik : i = k
      · subst hik
        have : (m.getD i false && decide (i < n)) = false := by simpa using h
        rw [this]; simp
      · by_cases hlt : i < k
        · simp [hlt, show i < k + 1 by omega]
        · simp [hlt, show ¬ i < k + 1 by omega]

/-! minimal reasons -/
theorem okV_iff {f : FormP} {n : Nat} (hn : n ≤ 24) {s e : Int} (hs : inN n s) : okV f n s e = true ↔ ∀ x, inN n x → iand .i64 (ixor .i64 x s) e = 0 → valueF f x = valueF f s := by
  obtain ⟨sn, rfl, hsn⟩ := hs.nat hn
  unfold okV
  rw [sameV_iff, Int.toNat_natCast, tabF_get f hsn]
  constructor
  · intro h x hx hc
    obtain ⟨xn, rfl, hxn⟩ := hx.nat hn
    rw [← tabF_get f hxn]
    exact h xn hxn hc
  · intro h x hx hc
    rw [tabF_get f hx]
    exact h x ((inN_iff hn).2 ⟨by omega, by omega⟩) hc
theorem like_part {x s a b : Int} (h : Part a b) (hc : iand .i64 (ixor .i64 x s) b = 0) : iand .i64 (ixor .i64 x s) a = 0 := by
  rw [iand_zero'] at hc ⊢
  intro i hi
  have := hc i hi
  cases ha : bit a i with
  | false => simp
  | true => rw [h i ha] at this; simpa using this
theorem okV_mono {f : FormP} {n : Nat} (hn : n ≤ 24) {s a b : Int} (hs : inN n s) (h : Part a b) (ha : okV f n s a = true) : okV f n s b = true := by
  rw [okV_iff hn hs] at ha ⊢
  exact fun x hx hc => ha x hx (like_part h hc)
theorem okV_all {f : FormP} {n : Nat} (hn : n ≤ 24) {s : Int} (hs : inN n s) : okV f n s (allN n) = true := by
  rw [okV_iff hn hs]
  intro x hx hc
  have : x = s := hx.ext hs fun i hi => by
    have := iand_zero'.1 hc i (by omega)
    rw [bit_allN hn, decide_eq_true hi, Bool.and_true, bit_ixor] at this
    cases h1 : bit x i <;> cases h2 : bit s i <;> simp_all
  rw [this]
theorem okV_state {f : FormP} {n : Nat} (hn : n ≤ 24) {s t e : Int} (hs : inN n s) (ht : inN n t) (h : iand .i64 (ixor .i64 t s) e = 0) : okV f n t e = okV f n s e := by
  have sym : ∀ {x y z : Int}, iand .i64 (ixor .i64 y z) e = 0 → iand .i64 (ixor .i64 x y) e = 0 → iand .i64 (ixor .i64 x z) e = 0 := fun {x y z} h1 h2 => by
    rw [iand_zero'] at h1 h2 ⊢
    intro i hi
    have g1 := h1 i hi
    have g2 := h2 i hi
    simp only [bit_ixor] at g1 g2 ⊢
    revert g1 g2
    cases bit e i <;> cases bit x i <;> cases bit y i <;> cases bit z i <;> decide
  have com : iand .i64 (ixor .i64 s t) e = 0 := by
    rw [iand_zero'] at h ⊢
    intro i hi
    have := h i hi
    simp only [bit_ixor] at this ⊢
    revert this
    cases bit e i <;> cases bit s i <;> cases bit t i <;> decide
  rw [Bool.eq_iff_iff, okV_iff hn ht, okV_iff hn hs]
  constructor
  · intro hh x hx hc
    rw [hh x hx (sym com hc), hh s hs com]
  · intro hh x hx hc
    rw [hh x hx (sym h hc), hh t ht h]
theorem minK_iff {ok : Int → Bool} {set : Int} {n : Nat} : minK ok set n = true ↔ ok set = true ∧ ∀ i, i < n → bit set i = true → ok (iandNot .i64 set (one i)) = false := by
  simp only [minK, Bool.and_eq_true, List.all_eq_true, List.mem_range, Bool.or_eq_true, Bool.not_eq_true']
  constructor
  · rintro ⟨h1, h2⟩
    refine ⟨h1, fun i hi hb => ?_⟩
    rcases h2 i hi with h | h
    · rw [hb] at h; cases h
    · exact h
  · rintro ⟨h1, h2⟩
    refine ⟨h1, fun i hi => ?_⟩
    cases hb : bit set i with
    | false => exact .inl rfl
    | true => exact .inr (h2 i hi hb)
/-- a greedy way down from a set -/
def downN (ok : Int → Bool) (t : Int) : Nat → Int
  | 0 => t
  | k + 1 => if ok (iandNot .i64 (downN ok t k) (one k)) = true then iandNot .i64 (downN ok t k) (one k) else downN ok t k
theorem reasonN_down (ok : Int → Bool) (n : Nat) : ∀ k, reasonN ok n k = downN ok (allN n) k
  | 0 => rfl
  | k + 1 => by rw [reasonN, downN, reasonN_down ok n k]
theorem downN_spec {ok : Int → Bool} {t : Int} {n : Nat} (hn : n ≤ 24) (ht : inN n t) (h0 : ok t = true) : ∀ k, inN n (downN ok t k) ∧ ok (downN ok t k) = true ∧ (∀ j, j ≤ k → Part (downN ok t k) (downN ok t j))
  | 0 => ⟨ht, h0, fun j hj => by obtain rfl : j = 0 := by omega
                                 exact Part.refl _⟩
  | k + 1 => by
    obtain ⟨h1, h2, h3⟩ := downN_spec hn ht h0 k
    have e : downN ok t (k + 1) = if ok (iandNot .i64 (downN ok t k) (one k)) = true then iandNot .i64 (downN ok t k) (one k) else downN ok t k := rfl
    by_cases hc : ok (iandNot .i64 (downN ok t k) (one k)) = true
    · rw [if_pos hc] at e
      have hp : Part (downN ok t (k + 1)) (downN ok t k) := fun i hi => by
        rw [e, bit_iandNot'] at hi
        cases hb : bit (downN ok t k) i with
        | true => rfl
        | false => rw [hb] at hi; simp at hi
      refine ⟨by rw [e]; exact inN_iandNot hn h1, by rw [e]; exact hc, fun j hj => ?_⟩
      by_cases hjk : j = k + 1
      · subst hjk; exact Part.refl _
      · exact hp.trans (h3 j (by omega))
    · rw [if_neg hc] at e
      refine ⟨by rw [e]; exact h1, by rw [e]; exact h2, fun j hj => ?_⟩
      by_cases hjk : j = k + 1
      · subst hjk; exact Part.refl _
      · rw [e]; exact h3 j (by omega)
theorem downN_min {ok : Int → Bool} (hmono : ∀ a b, Part a b → ok a = true → ok b = true) {t : Int} {n : Nat} (hn : n ≤ 24) (ht : inN n t) (h0 : ok t = true) : minK ok (downN ok t n) n = true := by
  obtain ⟨h1, h2, h3⟩ := downN_spec hn ht h0 n
  rw [minK_iff]
  refine ⟨h2, fun i hi hb => ?_⟩
  cases hc : ok (iandNot .i64 (downN ok t n) (one i)) with
  | false => rfl
  | true =>
    exfalso
    have hp : Part (iandNot .i64 (downN ok t n) (one i)) (iandNot .i64 (downN ok t i) (one i)) := fun j hj => by
      rw [bit_iandNot', Bool.and_eq_true] at hj ⊢
      exact ⟨h3 i (by omega) j hj.1, hj.2⟩
    have hk := hmono _ _ hp hc
    have e : downN ok t (i + 1) = iandNot .i64 (downN ok t i) (one i) := by rw [downN, if_pos hk]
    have := h3 (i + 1) (by omega) i hb
    rw [e, bit_iandNot', one_bit (by omega)] at this
    simp at this
theorem reasons_mem {ok : Int → Bool} {n : Nat} (hn : n ≤ 24) {s : Int} {c : Int × Int} : c ∈ reasonsN ok n s (2 ^ n) ↔ ∃ set, inN n set ∧ minK ok set n = true ∧ c = cubeV s set := by
  unfold reasonsN
  constructor
  · intro hc
    obtain ⟨x, hx, rfl⟩ := List.mem_map.1 hc
    obtain ⟨h1, h2⟩ := List.mem_filter.1 hx
    have hx' : x < 2 ^ n := by simpa using h1
    exact ⟨x, (inN_iff hn).2 ⟨by omega, by omega⟩, h2, rfl⟩
  · rintro ⟨set, h1, h2, rfl⟩
    obtain ⟨x, rfl, hx⟩ := h1.nat hn
    exact List.mem_map.2 ⟨x, List.mem_filter.2 ⟨by simpa using hx, h2⟩, rfl⟩

/-! critical events -/
theorem critN_bit (f : FormP) (s : Int) {n : Nat} (hn : n ≤ 24) : ∀ (k : Nat), k ≤ n → ∀ i, bit (critN f s k) i = (decide (i < k) && (valueF f (ixor .i64 s (one i)) != valueF f s))
  | 0, _, i => by simp [critN]
  | k + 1, hk, i => by
    unfold critN
    split
    · rename_i h
      rw [bit_ior, critN_bit f s hn k (by omega), one_bit (by omega)]
      by_cases hik : k = i
      · subst hik; simp [h]
      · simp only [hik, decide_false, Bool.or_false]
        by_cases hlt : i < k
        · simp [hlt, show i < k + 1 by omega]
        · simp [hlt, show ¬ i < k + 1 by omega]
    · rename_i h
      rw [critN_bit f s hn k (by omega)]
      by_cases hik : i = k
      · subst hik
        have : (valueF f (ixor .i64 s (one i)) != valueF f s) = false := by simpa using h
        rw [this]; simp
      · by_cases hlt : i < k
        · simp [hlt, show i < k + 1 by omega]
        · simp [hlt, show ¬ i < k + 1 by omega]
theorem crit_all {f : FormP} {n : Nat} (hn : n ≤ 24) {s : Int} (hs : inN n s) {i : Nat} (hi : i < n) :
    valueF f (ixor .i64 s (one i)) ≠ valueF f s ↔ ∀ set, inN n set → minK (okV f n s) set n = true → bit set i = true := by
  have hone : inN n (one i) := inN_of hn (validS_rng (one_valid (by omega))) fun j hj => by rw [one_bit (by omega)]; simp; omega
  have hx := inN_ixor hn hs hone
  constructor
  · intro hne set hset hm
    cases hb : bit set i with
    | true => rfl
    | false =>
      exfalso
      refine hne ((okV_iff hn hs).1 (minK_iff.1 hm).1 _ hx ?_)
      rw [iand_zero']
      intro j hj
      simp only [bit_ixor, one_bit (show i < 24 by omega)]
      by_cases hij : i = j
      · subst hij; simp [hb]
      · simp [hij]
  · intro hall heq
    have hT : inN n (iandNot .i64 (allN n) (one i)) := inN_iandNot hn (inN_allN hn)
    have hok : okV f n s (iandNot .i64 (allN n) (one i)) = true := by
      rw [okV_iff hn hs]
      intro x hxx hc
      rw [iand_zero'] at hc
      by_cases hb : bit x i = bit s i
      · have : x = s := hxx.ext hs fun j hj => by
          by_cases hij : i = j
          · subst hij; exact hb
          · have := hc j (by omega)
            simp only [bit_ixor, bit_iandNot', bit_allN hn, one_bit (show i < 24 by omega), hj, hij, decide_true, decide_false, Bool.not_false, Bool.and_true] at this
            cases h1 : bit x j <;> cases h2 : bit s j <;> simp_all
        rw [this]
      · have : x = ixor .i64 s (one i) := hxx.ext hx fun j hj => by
          by_cases hij : i = j
          · subst hij
            simp only [bit_ixor, one_bit (show i < 24 by omega), decide_true]
            cases h1 : bit x i <;> cases h2 : bit s i <;> simp_all
          · have := hc j (by omega)
            simp only [bit_ixor, bit_iandNot', bit_allN hn, one_bit (show i < 24 by omega), hj, hij, decide_true, decide_false, Bool.not_false, Bool.and_true] at this
            simp only [bit_ixor, one_bit (show i < 24 by omega), hij, decide_false]
            cases h1 : bit x j <;> cases h2 : bit s j <;> simp_all
        rw [this, heq]
    have hmin := downN_min (ok := okV f n s) (fun a b hp ha => okV_mono hn hs hp ha) hn hT hok
    have hsp := downN_spec (ok := okV f n s) hn hT hok n
    have := hall _ hsp.1 hmin
    have h2 := hsp.2.2 0 (by omega) i this
    simp only [downN, bit_iandNot', one_bit (show i < 24 by omega)] at h2
    simp at h2
end Go.Pu
