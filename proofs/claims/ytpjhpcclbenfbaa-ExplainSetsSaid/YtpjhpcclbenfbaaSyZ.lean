/-
  SYMBOLIC STATES, PART Z: a region that draws its order and ends in some operations that wait for all before them.
-/
import Derived.Test.YtpjhpcclbenfbaaSyY
set_option linter.unusedVariables false
set_option linter.unusedSimpArgs false
namespace Go.Sy
def tailsOk (ops : Array Oper) (n : Nat) : Bool := (List.range (ops.size - n)).all fun k => tailAll (ops.toList.take (n + k + 1)) 0 (ops.toList.take (n + k + 1))
theorem tailsOk_ok {ops : Array Oper} {n : Nat} (h : tailsOk ops n = true) : ∀ i, n ≤ i → i < ops.size → ∀ j, j < i → ∃ (q : Nat) (o : Oper), j < q ∧ q ≤ i ∧ ops[q]? = some o ∧ ∃ e ∈ o.after, Region.binds .any e = true ∧ e.on = j := by
  intro i h1 h2 j h3
  simp only [tailsOk, List.all_eq_true, List.mem_range] at h
  have h4 := h (i - n) (by omega)
  rw [show n + (i - n) + 1 = i + 1 by omega] at h4
  obtain ⟨q, o, h5, h6, e, h7, h8, h9⟩ := tailAll_ok h4 j (by simp; omega)
  rw [List.getElem?_take] at h6
  split at h6
  · exact ⟨q, o, h5, by omega, by simpa using h6, e, by simpa using h7, h8, by omega⟩
  · cases h6
section
variable {P : Program} {lay : Lay} {A A' : St} {Q : Exit → St → Prop} {fns : Fns}
theorem tailSeq {ops : Array Oper} {n : Nat} {QQ : Exit → Act → World → Prop} (hstep : ∀ i, n ≤ i → i < ops.size → ∀ j, j < i → ∃ (q : Nat) (o : Oper), j < q ∧ q ≤ i ∧ ops[q]? = some o ∧ ∃ e ∈ o.after, Region.binds .any e = true ∧ e.on = j)
    (hbelow : ∀ (i : Nat) oi, ops[i]? = some oi → ∀ e ∈ oi.after, Region.binds .any e = true → e.on < i) :
    ∀ (m i fuel : Nat) (listed : Array Bool) (a : Act) (w : World), i + m = ops.size → n ≤ i → listed.size = ops.size → (∀ j, j < i → listed.getD j false = true) → (∀ j, i ≤ j → listed.getD j false = false) → m ≤ fuel →
      wpList P ops QQ (ops.toList.drop i) a w → wpAny P .any ops QQ fuel listed a w := by
  intro m
  induction m with
  | zero =>
    intro i fuel listed a w him hni hsz hl hnl hmf hw
    rw [List.drop_of_length_le (by simp; omega)] at hw
    have hrdy : Region.ready .any ops listed = [] := by
      cases hr : Region.ready .any ops listed with
      | nil => rfl
      | cons j l =>
        exfalso
        have hj : j ∈ Region.ready .any ops listed := by rw [hr]; exact .head _
        obtain ⟨h1, oj, h2, _⟩ := mem_ready.1 hj
        have hlt : j < ops.size := (Array.getElem?_eq_some_iff.1 h2).1
        have := hl j (by omega)
        rw [Array.getD_eq_getD_getElem?, Array.getElem?_eq_getElem (by omega)] at this h1
        simp at this h1
        rw [h1] at this
        cases this
    replace hw : QQ .normal a w := hw
    cases fuel with
    | zero => exact ⟨hrdy, hw⟩
    | succ _ => exact ⟨fun _ => hw, fun j hj => by rw [hrdy] at hj; cases hj⟩
  | succ m ih =>
    intro i fuel listed a w him hni hsz hl hnl hmf hw
    obtain ⟨f, rfl⟩ : ∃ f, fuel = f + 1 := ⟨fuel - 1, by omega⟩
    have hlt : i < ops.size := by omega
    have hread : i ∈ Region.ready .any ops listed := by
      rw [mem_ready]
      refine ⟨?_, ops[i], Array.getElem?_eq_getElem hlt, fun e he hb => ?_⟩
      · have := hnl i (Nat.le_refl _)
        rw [Array.getD_eq_getD_getElem?] at this ⊢
        rw [Array.getElem?_eq_getElem (by omega)] at this ⊢
        exact this
      · exact hl e.on (hbelow i ops[i] (Array.getElem?_eq_getElem hlt) e he hb)
    refine ⟨fun hr => (by rw [hr] at hread; cases hread), fun j hj => ?_⟩
    obtain ⟨hun, oj, hoj, haft⟩ := mem_ready.1 hj
    have hjs : j < ops.size := (Array.getElem?_eq_some_iff.1 hoj).1
    have hge : i ≤ j := by
      rcases Nat.lt_or_ge j i with h | h
      · exfalso
        have := hl j h
        rw [Array.getD_eq_getD_getElem?, Array.getElem?_eq_getElem (by omega)] at this hun
        simp at this hun
        rw [hun] at this; cases this
      · exact h
    have hno : ∀ d x, i ≤ x → x < j → j ≤ x + d → False := by
      intro d
      induction d with
      | zero => intro x h1 h2 h3; omega
      | succ d ihd =>
        intro x h1 h2 h3
        obtain ⟨q, oq, h4, h5, h6, e, h7, h8, h9⟩ := hstep j (by omega) hjs x h2
        by_cases hqj : q = j
        · subst hqj
          rw [hoj] at h6; cases h6
          have := haft e h7 h8
          rw [h9, hnl x h1] at this; cases this
        · exact ihd q (by omega) (by omega) (by omega)
    have hji : j = i := by
      rcases Nat.lt_or_ge i j with h | h
      · exact (hno (j - i) i (Nat.le_refl _) h (by omega)).elim
      · omega
    subst hji
    have hdrop : ops.toList.drop j = oj :: ops.toList.drop (j + 1) := by
      rw [List.drop_eq_getElem_cons (by simpa using hlt)]
      congr 1
      have := (Array.getElem?_eq_some_iff.1 hoj).2
      simpa using this
    rw [hdrop] at hw
    have hget : ∀ x, (listed.setIfInBounds j true).getD x false = if x = j then true else listed.getD x false := fun x => by
      by_cases hxj : x = j
      · subst hxj
        rw [if_pos rfl, Array.getD_eq_getD_getElem?, Array.getElem?_setIfInBounds_self]
        simp [hsz, hlt]
      · rw [if_neg hxj, getD_set_ne false (Ne.symm hxj)]
    have hnext : ∀ a w, wpList P ops QQ (ops.toList.drop (j + 1)) a w → wpAny P .any ops QQ f (listed.setIfInBounds j true) a w := fun a w hq =>
      ih (j + 1) f (listed.setIfInBounds j true) a w (by omega) (by omega) (by simp [hsz]) (fun x hx => by
        rw [hget]; split
        · rfl
        · exact hl x (by omega)) (fun x hx => by rw [hget, if_neg (by omega)]; exact hnl x (by omega)) (by omega) hq
    unfold wpOp
    simp only [hoj]
    unfold wpList at hw
    split at hw
    · rename_i hww
      rw [if_pos hww]
      exact hw.imp (fun h => upon_mono (fun a w => hnext a w) (fun _ _ _ h => h) h) (fun h => h)
    · rename_i hww
      rw [if_neg hww]
      exact hnext _ _ hw

/-- A region that draws its order, whose last operations, from 'n' on, wait for all before them: the others come to what the written order comes to, then these go, one after the other. -/
theorem KW.drawnTails (hl : LayOk P lay) (hT : FnsOk P fns) (hm : P.follows .mixedOrders = true) {id : Nat} {ops : Array Oper} {k : List K} {φ : Prop} {n : Nat} (hsz0 : Nat.blt n ops.size = true) (hdep : depOk ops = true) (htl : tailsOk ops n = true) (hg : drawGo lay fns ops (takeN n ops.toList) A True = some (A', φ)) (hφ : φ)
    (hn : KW P (.ops ops (dropN n ops.toList) :: k) .normal A' Q) : KW P (.code (.region id ops true) :: k) .normal A Q := by
  rw [takeN_eq] at hg
  rw [dropN_eq] at hn
  have hsize : n < ops.size := by simpa [Nat.blt, Nat.succ_le_iff] using hsz0
  obtain ⟨_, prs, hlen, hA', hprs⟩ := drawGo_spec hg hφ
  have dep := depOk_ok hdep
  have hlen' : prs.length = n := by simp only [List.length_take, Array.length_toList] at hlen; omega
  have hstep := tailsOk_ok htl
  have hop : ∀ (i : Nat) op, i < n → ops[i]? = some op → ∃ d y ψ, prs[i]? = some (d, y) ∧ op.dst = some d ∧ Nat.blt d A.n = true ∧ stepD lay fns ⟨A.n, pickS ((prs.take i).reverse ++ A.sl) (looks ops op), A.rs⟩ ops op = some (y, ψ) ∧ ψ :=
    fun i op hin hi => hprs i op (by rw [List.getElem?_take, if_pos hin]; simpa using hi)
  have hinv : ∀ (j : Nat) d y, prs[j]? = some (d, y) → ∃ op, ops[j]? = some op ∧ op.dst = some d := fun j d y hj => by
    have hltn : j < n := by rw [← hlen']; exact (List.getElem?_eq_some_iff.1 hj).1
    have hlt : j < ops.size := by omega
    obtain ⟨d', y', ψ, g1, g2, _⟩ := hop j ops[j] hltn (Array.getElem?_eq_getElem hlt)
    rw [hj] at g1
    cases g1
    exact ⟨_, Array.getElem?_eq_getElem hlt, g2⟩
  have hpw : prs.Pairwise (fun a b => a.1 ≠ b.1) := by
    rw [List.pairwise_iff_getElem]
    intro i j hi hj hij e
    obtain ⟨oi, h1, h2⟩ := hinv i prs[i].1 prs[i].2 (List.getElem?_eq_getElem hi)
    obtain ⟨oj, h3, h4⟩ := hinv j prs[j].1 prs[j].2 (List.getElem?_eq_getElem hj)
    have := dep.dist i j oi oj _ h1 h3 h2 (by rw [h4, e])
    omega
  intro o h tm w hs
  show (Code.region id ops true).wp P (kq P (lift Q o w) k) ⟨tm, []⟩ w
  refine wp_region_any hm ?_
  have main : ∀ (fuel : Nat) (listed : Array Bool) (o' : Nat → Tag) (h' : Nat → Value) (tm' : Array Value) (w' : World), listed.size = ops.size → (∀ j, n ≤ j → listed.getD j false = false) → cntU (fun j => listed.getD j false) n + (ops.size - n) ≤ fuel →
      (∀ (i : Nat) oi, ops[i]? = some oi → listed.getD i false = true → ∀ e ∈ oi.after, Region.binds .any e = true → listed.getD e.on false = true) →
      Sat o' h' ⟨A.n, selL (fun j => listed.getD j false) 0 prs ++ A.sl, A.rs⟩ tm' w' → Ext o w o' w' → wpAny P .any ops (kq P (lift Q o w) k) fuel listed ⟨tm', []⟩ w' := by
    intro fuel
    -- all have come up
    have full : ∀ (listed : Array Bool) (o' : Nat → Tag) (h' : Nat → Value) (tm' : Array Value) (w' : World), (∀ j, j < n → listed.getD j false = true) →
        Sat o' h' ⟨A.n, selL (fun j => listed.getD j false) 0 prs ++ A.sl, A.rs⟩ tm' w' → Ext o w o' w' → kq P (lift Q o w) (.ops ops (ops.toList.drop n) :: k) .normal ⟨tm', []⟩ w' := by
      intro listed o' h' tm' w' hall hs' hx
      refine kq_mono (lift_trans hx) (.ops ops (ops.toList.drop n) :: k) .normal _ w' (hn o' h' tm' w' ?_)
      subst hA'
      refine ⟨hs'.size, hs'.tags, fun t x hl => hs'.slot t x ?_, hs'.res⟩
      simp only at hl ⊢
      by_cases hex : ∃ y, (t, y) ∈ prs
      · obtain ⟨y, hy⟩ := hex
        have e1 := mem_lk (base := A.sl) (l := prs.reverse) (List.pairwise_reverse.2 (hpw.imp fun h => Ne.symm h)) (List.mem_reverse.2 hy)
        rw [e1] at hl
        cases hl
        obtain ⟨j, hj⟩ := List.mem_iff_getElem?.1 hy
        refine mem_lk (hpw.sublist (selL_sub _ _ _)) (selL_mem.2 ⟨j, hj, ?_⟩)
        have : j < n := by rw [← hlen']; exact (List.getElem?_eq_some_iff.1 hj).1
        simpa using hall j this
      · have hno : ∀ y, (t, y) ∉ prs := fun y hy => hex ⟨y, hy⟩
        rw [nomem_lk fun y hy => hno y (List.mem_reverse.1 hy)] at hl
        rw [nomem_lk fun y hy => hno y ((selL_sub _ _ _).subset hy)]
        exact hl
    have done : ∀ (listed : Array Bool), listed.size = ops.size → Region.ready .any ops listed = [] → ∀ j, j < ops.size → listed.getD j false = true := by
      intro listed hsz hr j
      induction j using Nat.strongRecOn with
      | ind j ih =>
        intro hj
        cases hlj : listed.getD j false with
        | true => rfl
        | false =>
          exfalso
          have : j ∈ Region.ready .any ops listed := by
            rw [mem_ready]
            refine ⟨?_, ops[j], Array.getElem?_eq_getElem hj, fun e he hb => ?_⟩
            · rw [Array.getD_eq_getD_getElem?] at hlj ⊢
              rw [Array.getElem?_eq_getElem (by omega)] at hlj ⊢
              exact hlj
            · have hlt := dep.below j ops[j] (Array.getElem?_eq_getElem hj) e he hb
              exact ih e.on hlt (by omega)
          rw [hr] at this
          cases this
    induction fuel with
    | zero =>
      intro listed o' h' tm' w' hsz hnl hc
      omega
    | succ fuel ih =>
      intro listed o' h' tm' w' hsz hnl hc hcl hs' hx
      refine ⟨fun hr => (by have := done listed hsz hr n (by omega); rw [hnl n (Nat.le_refl n)] at this; cases this), fun i hi => ?_⟩
      by_cases hin : n ≤ i
      · obtain ⟨hun, op, hop', haft⟩ := mem_ready.1 hi
        have hlt : i < ops.size := (Array.getElem?_eq_some_iff.1 hop').1
        have hall : ∀ d j, j < i → i ≤ j + d → listed.getD j false = true := by
          intro d
          induction d with
          | zero => intro j h1 h2; omega
          | succ d ihd =>
            intro j h1 h2
            obtain ⟨q, oq, h3, h3', h4, e, h5, h6, h7⟩ := hstep i hin hlt j h1
            by_cases hqi : q = i
            · subst hqi
              rw [hop'] at h4
              cases h4
              rw [← h7]; exact haft e h5 h6
            · have := ihd q (by omega) (by omega)
              rw [← h7]; exact hcl q oq h4 this e h5 h6
        have hi0 : i = n := by
          rcases Nat.lt_or_ge n i with h | h
          · have := hall i n h (by omega)
            rw [hnl n (Nat.le_refl n)] at this; cases this
          · omega
        subst hi0
        have hf := full listed o' h' tm' w' (fun j hj => hall i j hj (by omega)) hs' hx
        exact (tailSeq hstep dep.below (ops.size - i) i (fuel + 1) listed ⟨tm', []⟩ w' (by omega) (Nat.le_refl _) hsz (fun j hj => hall i j hj (by omega)) hnl (by omega) hf).2 i hi
      obtain ⟨hun, op, hop', haft⟩ := mem_ready.1 hi
      have hlt : i < ops.size := (Array.getElem?_eq_some_iff.1 hop').1
      have hun' : listed.getD i false = false := by
        rw [Array.getD_eq_getD_getElem?, Array.getElem?_eq_getElem (by omega)] at hun ⊢
        exact hun
      obtain ⟨d, y, ψ, g1, g2, g3, g4, g5⟩ := hop i op (by omega) hop'
      have hle : St.le ⟨A.n, pickS ((prs.take i).reverse ++ A.sl) (looks ops op), A.rs⟩ ⟨A.n, selL (fun j => listed.getD j false) 0 prs ++ A.sl, A.rs⟩ := by
        refine ⟨rfl, rfl, fun t x hl => ?_⟩
        obtain ⟨e1, hm⟩ := pickS_lk hl
        simp only at e1 ⊢
        by_cases hex : ∃ (j : Nat) (y' : SV), prs[j]? = some (t, y')
        · obtain ⟨j, y', hj⟩ := hex
          obtain ⟨oj, hoj, hdj⟩ := hinv j t y' hj
          have huniq : ∀ (j' : Nat) y'', prs[j']? = some (t, y'') → j' = j := fun j' y'' hj' => by
            obtain ⟨oj', hoj', hdj'⟩ := hinv j' t y'' hj'
            exact dep.dist j' j oj' oj t hoj' hoj hdj' hdj
          rcases dep.look i j op oj t hop' hoj hdj hm with ⟨hji, e, he, hb, heq⟩ | ⟨hij, e, he, hb, heq⟩
          · have hlj : listed.getD j false = true := by rw [← heq]; exact haft e he hb
            rw [mem_lk (List.pairwise_reverse.2 ((hpw.sublist (List.take_sublist i prs)).imp fun h => Ne.symm h)) (List.mem_reverse.2 (List.mem_of_getElem? (i := j) (by rw [List.getElem?_take, if_pos hji]; exact hj)))] at e1
            cases e1
            exact mem_lk (hpw.sublist (selL_sub _ _ _)) (selL_mem.2 ⟨j, hj, by simpa using hlj⟩)
          · have hlj : listed.getD j false = false := by
              cases hlj : listed.getD j false with
              | false => rfl
              | true =>
                have := hcl j oj hoj hlj e he hb
                rw [heq, hun'] at this
                cases this
            rw [nomem_lk fun y'' hy => ?_] at e1
            · rw [nomem_lk fun y'' hy => ?_]
              · exact e1
              · obtain ⟨j', hj', hl'⟩ := selL_mem.1 hy
                rw [huniq j' y'' hj'] at hl'
                simp [hlj] at hl'
            · obtain ⟨j', hj'⟩ := List.mem_iff_getElem?.1 (List.mem_reverse.1 hy)
              rw [List.getElem?_take] at hj'
              split at hj'
              · have := huniq j' y'' hj'; omega
              · cases hj'
        · have hno : ∀ y, (t, y) ∉ prs := fun y hy => by
            obtain ⟨j, hj⟩ := List.mem_iff_getElem?.1 hy
            exact hex ⟨j, y, hj⟩
          rw [nomem_lk fun y hy => hno y (List.mem_of_mem_take (List.mem_reverse.1 hy))] at e1
          rw [nomem_lk fun y hy => hno y ((selL_sub _ _ _).subset hy)]
          exact e1
      refine stepD_wp hl hT hop' hle hs' g2 g3 g4 g5 fun o2 h2 v w1 hs2 hext => ?_
      have hget : ∀ j, (listed.setIfInBounds i true).getD j false = if j = i then true else listed.getD j false := fun j => by
        by_cases hji : j = i
        · subst hji
          rw [if_pos rfl, Array.getD_eq_getD_getElem?, Array.getElem?_setIfInBounds_self]
          simp [hsz, hlt]
        · rw [if_neg hji, getD_set_ne false (Ne.symm hji)]
      refine ih (listed.setIfInBounds i true) o2 h2 _ w1 (by simp [hsz]) (fun j hj => by rw [hget, if_neg (by omega)]; exact hnl j hj) ?_ ?_ ⟨hs2.size, hs2.tags, fun t x hlk => hs2.slot t x ?_, hs2.res⟩ (hx.trans hext)
      · have := cntU_upd (ls := fun j => listed.getD j false) (ls' := fun j => (listed.setIfInBounds i true).getD j false) (i := i) (n := n) (by omega) hun' (by simp [hget]) fun j hj => by simp [hget, hj]
        omega
      · intro j oj hoj hlj e he hb
        rw [hget] at hlj ⊢
        by_cases he' : e.on = i
        · rw [if_pos he']
        · rw [if_neg he']
          by_cases hji : j = i
          · subst hji
            rw [hop'] at hoj
            cases hoj
            exact haft e he hb
          · rw [if_neg hji] at hlj
            exact hcl j oj hoj hlj e he hb
      · simp only at hlk ⊢
        rw [lk_cons]
        by_cases hdt : d = t
        · subst hdt
          rw [if_pos rfl]
          have := mem_lk (base := A.sl) (hpw.sublist (selL_sub (fun j => (listed.setIfInBounds i true).getD j false) 0 prs)) (selL_mem.2 ⟨i, g1, by simp [hget]⟩)
          rw [this] at hlk
          exact hlk
        · rw [if_neg hdt]
          by_cases hex : ∃ (j : Nat) (y' : SV), prs[j]? = some (t, y') ∧ (listed.setIfInBounds i true).getD j false = true
          · obtain ⟨j, y', hj, hlj⟩ := hex
            have hji : j ≠ i := by
              rintro rfl
              rw [g1] at hj
              cases hj
              exact hdt rfl
            rw [hget, if_neg hji] at hlj
            have := mem_lk (base := A.sl) (hpw.sublist (selL_sub (fun j => (listed.setIfInBounds i true).getD j false) 0 prs)) (selL_mem.2 ⟨j, hj, by simpa [hget, hji] using hlj⟩)
            rw [this] at hlk
            cases hlk
            exact mem_lk (hpw.sublist (selL_sub _ _ _)) (selL_mem.2 ⟨j, hj, by simpa using hlj⟩)
          · rw [nomem_lk fun y' hy => ?_] at hlk
            · rw [nomem_lk fun y' hy => ?_]
              · exact hlk
              · obtain ⟨j, hj, hlj⟩ := selL_mem.1 hy
                refine hex ⟨j, y', hj, ?_⟩
                rw [hget]
                split
                · rfl
                · simpa using hlj
            · obtain ⟨j, hj, hlj⟩ := selL_mem.1 hy
              exact hex ⟨j, y', hj, by simpa using hlj⟩
  refine main ops.size (Array.replicate ops.size false) o h tm w.drew (by simp) (fun j _ => by simp [Array.getD_eq_getD_getElem?, Array.getElem?_replicate]; split <;> rfl) ?_ ?_ ?_ (Ext.drew o w)
  · have : ∀ n, cntU (fun j => (Array.replicate ops.size false).getD j false) n ≤ n := by
      intro n
      induction n with
      | zero => exact Nat.le_refl _
      | succ n ih => simp only [cntU]; split <;> omega
    have := this n
    omega
  · intro i oi hoi hli
    simp [Array.getD_eq_getD_getElem?, Array.getElem?_replicate] at hli
    split at hli <;> cases hli
  · have hs' := hs.drew
    refine ⟨hs'.size, hs'.tags, fun t x hlk => hs'.slot t x ?_, hs'.res⟩
    rw [nomem_lk fun y hy => ?_] at hlk
    · exact hlk
    · obtain ⟨j, hj, hlj⟩ := selL_mem.1 hy
      simp [Array.getD_eq_getD_getElem?, Array.getElem?_replicate] at hlj
      split at hlj <;> cases hlj


/-- as far as a region that draws its order and ends in such operations -/
theorem KW.goDS {k k' : List K} {e : Exit} {A'' : St} (hl : LayOk P lay) (hT : FnsOk P fns) (hm : P.follows .mixedOrders = true) (f : Nat) {id : Nat} {ops : Array Oper} {φ ψ : Prop} (h : run2 lay fns f k e A True = (.code (.region id ops true) :: k', .normal, A', φ)) (n : Nat) (hsz0 : Nat.blt n ops.size = true) (hdep : depOk ops = true) (htl : tailsOk ops n = true)
    (hg : drawGo lay fns ops (takeN n ops.toList) A' True = some (A'', ψ)) (hφ : φ) (hψ : ψ) (hn : KW P (.ops ops (dropN n ops.toList) :: k') .normal A'' Q) : KW P k e A Q :=
  KW.go hl hT f h hφ (KW.drawnTails hl hT hm hsz0 hdep htl hg hψ hn)
end
end Go.Sy
