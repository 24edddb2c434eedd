/-
  SyX, PuN, FmA, FmH, PuR, PuT, one text.
-/
import Derived.Test.YtocnofkagckhkaaGreatDoorKac
section
set_option linter.unusedSectionVars false
set_option linter.unusedVariables false
set_option linter.unusedSimpArgs false
namespace Go.Sy
variable [Drw]
section
variable {P : Program} {lay : Lay} {o : Nat → Tag} {h : Nat → Value} {A A' : St} {tm : Array Value} {w : World} {Q : Exit → St → Prop} {k : List K}
def KA (P : Program) (ops : Array Oper) (k : List K) (Q : Exit → St → Prop) (fuel : Nat) (listed : Array Bool) (A : St) : Prop :=
  ∀ o0 w0 o h tm w, Sat o h A tm w → Ext o0 w0 o w → wpAny P .any ops (kq P (lift Q o0 w0) k) fuel listed ⟨tm, []⟩ w
theorem KW.orders (hm : P.follows .mixedOrders = true) {id : Nat} {ops : Array Oper} (hh : KA P ops k Q ops.size (Array.replicate ops.size false) A) : KW P (.code (.region id ops true) :: k) .normal A Q := by
  intro o h tm w hs
  exact wp_region_any hm (hh o w o h tm w.drew hs.drew (Ext.drew o w))
theorem KA.done {ops : Array Oper} {fuel : Nat} {listed : Array Bool} (hr : Region.ready .any ops listed = []) (hn : KW P k .normal A Q) : KA P ops k Q fuel listed A := by
  intro o0 w0 o h tm w hs hx
  exact wpAny_done hr (kq_mono (lift_trans hx) k .normal _ w (hn o h tm w hs)) fuel
theorem upon_out {o : Oper} {a : Act} {next next' : Act → World → Prop} {Q Q' : Exit → Act → World → Prop}
    (hn : ∀ a w, next a w → next' a w) (hq : ∀ e a w, e ≠ .normal → Q e a w → Q' e a w) {r : Result Next} (h : o.upon P a next Q r) : o.upon P a next' Q' r := by
  cases r with
  | ok x w' =>
    cases x with
    | value v => exact hn _ _ h
    | skip => exact hn _ _ h
    | defer d => exact hn _ _ h
    | enter f args =>
      refine Calls.mono h ?_
      intro e w'' h
      cases e with
      | returned v => exact hn _ _ h
      | panicked ch => exact hq _ _ _ (by simp) h
      | outgrown => exact let ⟨a, w, h⟩ := h; ⟨a, w, hq _ _ _ (by simp) h⟩
    | row row args => exact Rows.mono h fun v w'' h => hn _ _ h
    | _ => exact h.elim
  | halt x w' =>
    cases x with
    | panic v => exact hq _ _ _ (by simp) h
    | _ => exact h.elim
theorem KA.step {ops : Array Oper} {fuel : Nat} {listed : Array Bool} {rs : List Nat} (hr : Region.ready .any ops listed = rs) (hne : rs ≠ [])
    (hh : ∀ i ∈ rs, ∃ op, ops[i]? = some op ∧ KW P [.ops ops [op]] .normal A fun e A' => e = .normal ∧ KA P ops k Q fuel (listed.setIfInBounds i true) A') : KA P ops k Q (fuel + 1) listed A := by
  intro o0 w0 o h tm w hs hx
  refine wpAny_all hr hne fun i hi => ?_
  obtain ⟨op, hop, hk⟩ := hh i hi
  have h1 := hk o h tm w hs
  replace h1 : wpList P ops (lift (fun e A' => e = .normal ∧ KA P ops k Q fuel (listed.setIfInBounds i true) A') o w) [op] ⟨tm, []⟩ w := h1
  have hnx : ∀ a w', lift (fun e A' => e = Exit.normal ∧ KA P ops k Q fuel (listed.setIfInBounds i true) A') o w .normal a w' → wpAny P .any ops (kq P (lift Q o0 w0) k) fuel (listed.setIfInBounds i true) a w' := by
    rintro ⟨tm', d⟩ w' ⟨hd, o', h', A', ⟨_, hka⟩, hs', hx'⟩
    simp only at hd hs'
    subst hd
    exact hka o0 w0 o' h' tm' w' hs' (hx.trans hx')
  unfold wpOp
  rw [hop]
  simp only
  unfold wpList at h1
  split
  · rename_i hw
    rw [if_pos hw] at h1
    rcases h1 with h1 | ⟨_, a', w', h2⟩
    · refine .inl (upon_out (fun a w' h => hnx a w' (by unfold wpList at h; exact h)) (fun e a w' hne' hq => ?_) h1)
      obtain ⟨_, _, _, _, ⟨e0, _⟩, _⟩ := hq
      exact absurd e0 hne'
    · obtain ⟨_, _, _, _, ⟨e0, _⟩, _⟩ := h2
      cases e0
  · rename_i hw
    rw [if_neg hw] at h1
    exact hnx _ _ (by unfold wpList at h1; exact h1)
theorem KW.stop {e : Exit} (hq : Q e A) : KW P [] e A Q := fun o h tm w hs => ⟨rfl, o, h, A, hq, hs, Ext.refl o w⟩
end
end Go.Sy
namespace Go.Sy
variable [Drw]
theorem own_catB0 (E : Nat) {b c : List Bool} (h : b = c) : some (Res.own E (bools b)) = some (Res.own E (bools c)) := by rw [h]
theorem KW.updB {P : Program} {k : List K} {A : St} {Q : Exit → St → Prop} {ex : Exit} (i : Nat) {E e : Nat} {a : List Bool} {v : Bool} (hl : lk A.rs i = some (.own E (updV (bools a) e 0 [.lit (.bool v)])))
    (hk : KW P k ex ⟨A.n, A.sl, (i, .own E (bools (a.set e v))) :: A.rs⟩ Q) : KW P k ex A Q := by
  refine KW.convR i (bools (a.set e v)) (g := fun e' _ => .lit (.bool ((a.set e v).getD e' false))) hl (by simp only [bools, List.length_set]) (fun e' q he hq => ?_) hk
  have : q = 0 := by omega
  subst this
  by_cases h : e' = e
  · subst h
    simp [Nat.beq_refl, Nat.blt, nthD, List.getD_eq_getElem?_getD, he]
    exact CVEq.refl (.lit (.bool v))
  · have hb : Nat.beq e' e = false := by
      cases hb : Nat.beq e' e with
      | false => rfl
      | true => exact absurd (Nat.eq_of_beq_eq_true hb) h
    simp [hb, CVEq, List.getD_eq_getElem?_getD, List.getElem?_set_ne (Ne.symm h)]
def rows {α : Type} (k : Nat) (enc : α → Nat → CV) (d : α) (xs : List α) : CV := .sl xs.length k fun e q => enc (xs.getD e d) q
theorem catV_rows {α : Type} {k : Nat} {enc : α → Nat → CV} {d : α} (a b : List α) : catV (rows k enc d a) (rows k enc d b) = rows k enc d (a ++ b) := by
  simp only [catV, rows, List.length_append]
  congr 1
  funext e q
  by_cases h : e < a.length
  · have : Nat.blt e a.length = true := by simpa [Nat.blt, Nat.succ_le_iff] using h
    simp [this, List.getD_eq_getElem?_getD, List.getElem?_append_left h, h]
  · have : Nat.blt e a.length = false := by
      cases hb : Nat.blt e a.length with
      | false => rfl
      | true => exact absurd (by simpa [Nat.blt, Nat.succ_le_iff] using hb) h
    simp [this, List.getD_eq_getElem?_getD, List.getElem?_append_right (Nat.le_of_not_lt h)]
section
variable {P : Program} {K0 : List K} {A : St} {Q : Exit → St → Prop} {ex : Exit} {α : Type}
theorem KW.catG (i : Nat) {E k : Nat} {enc : α → Nat → CV} {d : α} {xs : List α} {cs : List CV} (x : α) (hl : lk A.rs i = some (.own E (catV (rows k enc d xs) (rowsC k 1 cs))))
    (hx : ∀ q, q < k → CVEq (nthD (.lit undef) cs q) (enc x q)) (hk : KW P K0 ex ⟨A.n, A.sl, (i, .own E (rows k enc d (xs ++ [x]))) :: A.rs⟩ Q) : KW P K0 ex A Q := by
  refine KW.convR i (rows k enc d (xs ++ [x])) (g := fun e q => enc ((xs ++ [x]).getD e d) q) hl (by simp [rows]) (fun e q he hq => ?_) hk
  by_cases h : e < xs.length
  · have : Nat.blt e xs.length = true := by simpa [Nat.blt, Nat.succ_le_iff] using h
    simp [this, List.getD_eq_getElem?_getD, List.getElem?_append_left h, h]
    exact CVEq.refl _
  · have h2 : e = xs.length := by omega
    subst h2
    have : Nat.blt xs.length xs.length = false := by
      cases hb : Nat.blt xs.length xs.length with
      | false => rfl
      | true => exact absurd (Nat.le_of_ble_eq_true hb) (Nat.not_succ_le_self _)
    simp [this, List.getD_eq_getElem?_getD]
    exact hx q hq
theorem KW.updG (i : Nat) {E k e : Nat} {enc : α → Nat → CV} {d : α} {xs : List α} {cs : List CV} (x : α) (hl : lk A.rs i = some (.own E (updV (rows k enc d xs) e 0 cs))) (hc : cs.length = k)
    (hx : ∀ q, q < k → CVEq (nthD (.lit undef) cs q) (enc x q)) (hk : KW P K0 ex ⟨A.n, A.sl, (i, .own E (rows k enc d (xs.set e x))) :: A.rs⟩ Q) : KW P K0 ex A Q := by
  refine KW.convR i (rows k enc d (xs.set e x)) (g := fun e' q => enc ((xs.set e x).getD e' d) q) hl (by simp [rows]) (fun e' q he hq => ?_) hk
  by_cases h : e' = e
  · subst h
    have hb : Nat.blt q cs.length = true := by simpa [Nat.blt, Nat.succ_le_iff, hc] using hq
    simp [Nat.beq_refl, hb, List.getD_eq_getElem?_getD, he]
    exact hx q hq
  · have hb : Nat.beq e' e = false := by
      cases hb : Nat.beq e' e with
      | false => rfl
      | true => exact absurd (Nat.eq_of_beq_eq_true hb) h
    simp [hb, List.getD_eq_getElem?_getD, List.getElem?_set_ne (Ne.symm h)]
    exact CVEq.refl _
end
theorem KW.catB {P : Program} {K0 : List K} {A : St} {Q : Exit → St → Prop} {ex : Exit} (i : Nat) {E : Nat} {xs : List Bool} {b : Bool} (hl : lk A.rs i = some (.own E (catV (bools xs) (rowsC 1 1 [.lit (.bool b)]))))
    (hk : KW P K0 ex ⟨A.n, A.sl, (i, .own E (bools (xs ++ [b]))) :: A.rs⟩ Q) : KW P K0 ex A Q :=
  KW.catG (k := 1) (enc := fun b _ => .lit (.bool b)) (d := false) i b hl (fun q hq => match q, hq with | 0, _ => CVEq.refl (.lit (.bool b))) hk
end Go.Sy
namespace Go.Sy
variable [Drw]
def tailsOk (ops : Array Oper) (n : Nat) : Bool := (List.range (ops.size - n)).all fun k => tailAll (ops.toList.take (n + k + 1)) 0 (ops.toList.take (n + k + 1))
theorem tailsOk_ok {ops : Array Oper} {n : Nat} (h : tailsOk ops n = true) : ∀ i, n ≤ i → i < ops.size → ∀ j, j < i → ∃ (q : Nat) (o : Oper), j < q ∧ q ≤ i ∧ ops[q]? = some o ∧ ∃ e ∈ o.after, Region.binds .any e = true ∧ e.on = j := by
  intro i h1 h2 j h3
  simp only [tailsOk, List.all_eq_true, List.mem_range] at h
  have h4 := h (i - n) (by omega)
  rw [show n + (i - n) + 1 = i + 1 by omega] at h4
  obtain ⟨q, o, h5, h6, e, h7, h8, h9⟩ := tailAll_ok h4 j (by simp; omega)
  rw [List.getElem?_take] at h6
  split at h6
  · exact ⟨q, o, h5, by omega, by simpa using h6, e, by simpa using h7, h8, by omega⟩
  · cases h6
section
variable {P : Program} {lay : Lay} {A A' : St} {Q : Exit → St → Prop} {fns : Fns}
theorem tailSeq {ops : Array Oper} {n : Nat} {QQ : Exit → Act → World → Prop} (hstep : ∀ i, n ≤ i → i < ops.size → ∀ j, j < i → ∃ (q : Nat) (o : Oper), j < q ∧ q ≤ i ∧ ops[q]? = some o ∧ ∃ e ∈ o.after, Region.binds .any e = true ∧ e.on = j)
    (hbelow : ∀ (i : Nat) oi, ops[i]? = some oi → ∀ e ∈ oi.after, Region.binds .any e = true → e.on < i) :
    ∀ (m i fuel : Nat) (listed : Array Bool) (a : Act) (w : World), i + m = ops.size → n ≤ i → listed.size = ops.size → (∀ j, j < i → listed.getD j false = true) → (∀ j, i ≤ j → listed.getD j false = false) → m ≤ fuel →
      wpList P ops QQ (ops.toList.drop i) a w → wpAny P .any ops QQ fuel listed a w := by
  intro m
  induction m with
  | zero =>
    intro i fuel listed a w him hni hsz hl hnl hmf hw
    rw [List.drop_of_length_le (by simp; omega)] at hw
    have hrdy : Region.ready .any ops listed = [] := by
      cases hr : Region.ready .any ops listed with
      | nil => rfl
      | cons j l =>
        exfalso
        have hj : j ∈ Region.ready .any ops listed := by rw [hr]; exact .head _
        obtain ⟨h1, oj, h2, _⟩ := mem_ready.1 hj
        have hlt : j < ops.size := (Array.getElem?_eq_some_iff.1 h2).1
        have := hl j (by omega)
        rw [Array.getD_eq_getD_getElem?, Array.getElem?_eq_getElem (by omega)] at this h1
        simp at this h1
        rw [h1] at this
        cases this
    replace hw : QQ .normal a w := hw
    cases fuel with
    | zero => exact ⟨hrdy, hw⟩
    | succ _ => exact ⟨fun _ => hw, fun j hj => by rw [hrdy] at hj; cases hj⟩
  | succ m ih =>
    intro i fuel listed a w him hni hsz hl hnl hmf hw
    obtain ⟨f, rfl⟩ : ∃ f, fuel = f + 1 := ⟨fuel - 1, by omega⟩
    have hlt : i < ops.size := by omega
    have hread : i ∈ Region.ready .any ops listed := by
      rw [mem_ready]
      refine ⟨?_, ops[i], Array.getElem?_eq_getElem hlt, fun e he hb => ?_⟩
      · have := hnl i (Nat.le_refl _)
        rw [Array.getD_eq_getD_getElem?] at this ⊢
        rw [Array.getElem?_eq_getElem (by omega)] at this ⊢
        exact this
      · exact hl e.on (hbelow i ops[i] (Array.getElem?_eq_getElem hlt) e he hb)
    refine ⟨fun hr => (by rw [hr] at hread; cases hread), fun j hj => ?_⟩
    obtain ⟨hun, oj, hoj, haft⟩ := mem_ready.1 hj
    have hjs : j < ops.size := (Array.getElem?_eq_some_iff.1 hoj).1
    have hge : i ≤ j := by
      rcases Nat.lt_or_ge j i with h | h
      · exfalso
        have := hl j h
        rw [Array.getD_eq_getD_getElem?, Array.getElem?_eq_getElem (by omega)] at this hun
        simp at this hun
        rw [hun] at this; cases this
      · exact h
    have hno : ∀ d x, i ≤ x → x < j → j ≤ x + d → False := by
      intro d
      induction d with
      | zero => intro x h1 h2 h3; omega
      | succ d ihd =>
        intro x h1 h2 h3
        obtain ⟨q, oq, h4, h5, h6, e, h7, h8, h9⟩ := hstep j (by omega) hjs x h2
        by_cases hqj : q = j
        · subst hqj
          rw [hoj] at h6; cases h6
          have := haft e h7 h8
          rw [h9, hnl x h1] at this; cases this
        · exact ihd q (by omega) (by omega) (by omega)
    have hji : j = i := by
      rcases Nat.lt_or_ge i j with h | h
      · exact (hno (j - i) i (Nat.le_refl _) h (by omega)).elim
      · omega
    subst hji
    have hdrop : ops.toList.drop j = oj :: ops.toList.drop (j + 1) := by
      rw [List.drop_eq_getElem_cons (by simpa using hlt)]
      congr 1
      have := (Array.getElem?_eq_some_iff.1 hoj).2
      simpa using this
    rw [hdrop] at hw
    have hget : ∀ x, (listed.setIfInBounds j true).getD x false = if x = j then true else listed.getD x false := fun x => by
      by_cases hxj : x = j
      · subst hxj
        rw [if_pos rfl, Array.getD_eq_getD_getElem?, Array.getElem?_setIfInBounds_self]
        simp [hsz, hlt]
      · rw [if_neg hxj, getD_set_ne false (Ne.symm hxj)]
    have hnext : ∀ a w, wpList P ops QQ (ops.toList.drop (j + 1)) a w → wpAny P .any ops QQ f (listed.setIfInBounds j true) a w := fun a w hq =>
      ih (j + 1) f (listed.setIfInBounds j true) a w (by omega) (by omega) (by simp [hsz]) (fun x hx => by
        rw [hget]; split
        · rfl
        · exact hl x (by omega)) (fun x hx => by rw [hget, if_neg (by omega)]; exact hnl x (by omega)) (by omega) hq
    unfold wpOp
    simp only [hoj]
    unfold wpList at hw
    split at hw
    · rename_i hww
      rw [if_pos hww]
      exact hw.imp (fun h => upon_mono (fun a w => hnext a w) (fun _ _ _ h => h) h) (fun h => h)
    · rename_i hww
      rw [if_neg hww]
      exact hnext _ _ hw
theorem KW.drawnTails (hl : LayOk P lay) (hT : FnsOk P fns) (hm : P.follows .mixedOrders = true) {id : Nat} {ops : Array Oper} {k : List K} {φ : Prop} {n : Nat} (hsz0 : Nat.blt n ops.size = true) (hdep : depOk ops = true) (htl : tailsOk ops n = true) (hg : drawGo lay fns ops (takeN n ops.toList) A True = some (A', φ)) (hφ : φ)
    (hn : KW P (.ops ops (dropN n ops.toList) :: k) .normal A' Q) : KW P (.code (.region id ops true) :: k) .normal A Q := by
  rw [takeN_eq] at hg
  rw [dropN_eq] at hn
  have hsize : n < ops.size := by simpa [Nat.blt, Nat.succ_le_iff] using hsz0
  obtain ⟨_, prs, hlen, hA', hprs⟩ := drawGo_spec hg hφ
  have dep := depOk_ok hdep
  have hlen' : prs.length = n := by simp only [List.length_take, Array.length_toList] at hlen; omega
  have hstep := tailsOk_ok htl
  have hop : ∀ (i : Nat) op, i < n → ops[i]? = some op → ∃ d y ψ, prs[i]? = some (d, y) ∧ op.dst = some d ∧ Nat.blt d A.n = true ∧ stepD lay fns ⟨A.n, pickS ((prs.take i).reverse ++ A.sl) (looks ops op), A.rs⟩ ops op = some (y, ψ) ∧ ψ :=
    fun i op hin hi => hprs i op (by rw [List.getElem?_take, if_pos hin]; simpa using hi)
  have hinv : ∀ (j : Nat) d y, prs[j]? = some (d, y) → ∃ op, ops[j]? = some op ∧ op.dst = some d := fun j d y hj => by
    have hltn : j < n := by rw [← hlen']; exact (List.getElem?_eq_some_iff.1 hj).1
    have hlt : j < ops.size := by omega
    obtain ⟨d', y', ψ, g1, g2, _⟩ := hop j ops[j] hltn (Array.getElem?_eq_getElem hlt)
    rw [hj] at g1
    cases g1
    exact ⟨_, Array.getElem?_eq_getElem hlt, g2⟩
  have hpw : prs.Pairwise (fun a b => a.1 ≠ b.1) := by
    rw [List.pairwise_iff_getElem]
    intro i j hi hj hij e
    obtain ⟨oi, h1, h2⟩ := hinv i prs[i].1 prs[i].2 (List.getElem?_eq_getElem hi)
    obtain ⟨oj, h3, h4⟩ := hinv j prs[j].1 prs[j].2 (List.getElem?_eq_getElem hj)
    have := dep.dist i j oi oj _ h1 h3 h2 (by rw [h4, e])
    omega
  intro o h tm w hs
  show (Code.region id ops true).wp P (kq P (lift Q o w) k) ⟨tm, []⟩ w
  refine wp_region_any hm ?_
  have main : ∀ (fuel : Nat) (listed : Array Bool) (o' : Nat → Tag) (h' : Nat → Value) (tm' : Array Value) (w' : World), listed.size = ops.size → (∀ j, n ≤ j → listed.getD j false = false) → cntU (fun j => listed.getD j false) n + (ops.size - n) ≤ fuel →
      (∀ (i : Nat) oi, ops[i]? = some oi → listed.getD i false = true → ∀ e ∈ oi.after, Region.binds .any e = true → listed.getD e.on false = true) →
      Sat o' h' ⟨A.n, selL (fun j => listed.getD j false) 0 prs ++ A.sl, A.rs⟩ tm' w' → Ext o w o' w' → wpAny P .any ops (kq P (lift Q o w) k) fuel listed ⟨tm', []⟩ w' := by
    intro fuel
    -- all have come up
    have full : ∀ (listed : Array Bool) (o' : Nat → Tag) (h' : Nat → Value) (tm' : Array Value) (w' : World), (∀ j, j < n → listed.getD j false = true) →
        Sat o' h' ⟨A.n, selL (fun j => listed.getD j false) 0 prs ++ A.sl, A.rs⟩ tm' w' → Ext o w o' w' → kq P (lift Q o w) (.ops ops (ops.toList.drop n) :: k) .normal ⟨tm', []⟩ w' := by
      intro listed o' h' tm' w' hall hs' hx
      refine kq_mono (lift_trans hx) (.ops ops (ops.toList.drop n) :: k) .normal _ w' (hn o' h' tm' w' ?_)
      subst hA'
      refine ⟨hs'.size, hs'.tags, fun t x hl => hs'.slot t x ?_, hs'.res⟩
      simp only at hl ⊢
      by_cases hex : ∃ y, (t, y) ∈ prs
      · obtain ⟨y, hy⟩ := hex
        have e1 := mem_lk (base := A.sl) (l := prs.reverse) (List.pairwise_reverse.2 (hpw.imp fun h => Ne.symm h)) (List.mem_reverse.2 hy)
        rw [e1] at hl
        cases hl
        obtain ⟨j, hj⟩ := List.mem_iff_getElem?.1 hy
        refine mem_lk (hpw.sublist (selL_sub _ _ _)) (selL_mem.2 ⟨j, hj, ?_⟩)
        have : j < n := by rw [← hlen']; exact (List.getElem?_eq_some_iff.1 hj).1
        simpa using hall j this
      · have hno : ∀ y, (t, y) ∉ prs := fun y hy => hex ⟨y, hy⟩
        rw [nomem_lk fun y hy => hno y (List.mem_reverse.1 hy)] at hl
        rw [nomem_lk fun y hy => hno y ((selL_sub _ _ _).subset hy)]
        exact hl
    have done : ∀ (listed : Array Bool), listed.size = ops.size → Region.ready .any ops listed = [] → ∀ j, j < ops.size → listed.getD j false = true := by
      intro listed hsz hr j
      induction j using Nat.strongRecOn with
      | ind j ih =>
        intro hj
        cases hlj : listed.getD j false with
        | true => rfl
        | false =>
          exfalso
          have : j ∈ Region.ready .any ops listed := by
            rw [mem_ready]
            refine ⟨?_, ops[j], Array.getElem?_eq_getElem hj, fun e he hb => ?_⟩
            · rw [Array.getD_eq_getD_getElem?] at hlj ⊢
              rw [Array.getElem?_eq_getElem (by omega)] at hlj ⊢
              exact hlj
            · have hlt := dep.below j ops[j] (Array.getElem?_eq_getElem hj) e he hb
              exact ih e.on hlt (by omega)
          rw [hr] at this
          cases this
    induction fuel with
    | zero =>
      intro listed o' h' tm' w' hsz hnl hc
      omega
    | succ fuel ih =>
      intro listed o' h' tm' w' hsz hnl hc hcl hs' hx
      refine ⟨fun hr => (by have := done listed hsz hr n (by omega); rw [hnl n (Nat.le_refl n)] at this; cases this), fun i hi => ?_⟩
      by_cases hin : n ≤ i
      · obtain ⟨hun, op, hop', haft⟩ := mem_ready.1 hi
        have hlt : i < ops.size := (Array.getElem?_eq_some_iff.1 hop').1
        have hall : ∀ d j, j < i → i ≤ j + d → listed.getD j false = true := by
          intro d
          induction d with
          | zero => intro j h1 h2; omega
          | succ d ihd =>
            intro j h1 h2
            obtain ⟨q, oq, h3, h3', h4, e, h5, h6, h7⟩ := hstep i hin hlt j h1
            by_cases hqi : q = i
            · subst hqi
              rw [hop'] at h4
              cases h4
              rw [← h7]; exact haft e h5 h6
            · have := ihd q (by omega) (by omega)
              rw [← h7]; exact hcl q oq h4 this e h5 h6
        have hi0 : i = n := by
          rcases Nat.lt_or_ge n i with h | h
          · have := hall i n h (by omega)
            rw [hnl n (Nat.le_refl n)] at this; cases this
          · omega
        subst hi0
        have hf := full listed o' h' tm' w' (fun j hj => hall i j hj (by omega)) hs' hx
        exact (tailSeq hstep dep.below (ops.size - i) i (fuel + 1) listed ⟨tm', []⟩ w' (by omega) (Nat.le_refl _) hsz (fun j hj => hall i j hj (by omega)) hnl (by omega) hf).2 i hi
      obtain ⟨hun, op, hop', haft⟩ := mem_ready.1 hi
      have hlt : i < ops.size := (Array.getElem?_eq_some_iff.1 hop').1
      have hun' : listed.getD i false = false := by
        rw [Array.getD_eq_getD_getElem?, Array.getElem?_eq_getElem (by omega)] at hun ⊢
        exact hun
      obtain ⟨d, y, ψ, g1, g2, g3, g4, g5⟩ := hop i op (by omega) hop'
      have hle : St.le ⟨A.n, pickS ((prs.take i).reverse ++ A.sl) (looks ops op), A.rs⟩ ⟨A.n, selL (fun j => listed.getD j false) 0 prs ++ A.sl, A.rs⟩ := by
        refine ⟨rfl, rfl, fun t x hl => ?_⟩
        obtain ⟨e1, hm⟩ := pickS_lk hl
        simp only at e1 ⊢
        by_cases hex : ∃ (j : Nat) (y' : SV), prs[j]? = some (t, y')
        · obtain ⟨j, y', hj⟩ := hex
          obtain ⟨oj, hoj, hdj⟩ := hinv j t y' hj
          have huniq : ∀ (j' : Nat) y'', prs[j']? = some (t, y'') → j' = j := fun j' y'' hj' => by
            obtain ⟨oj', hoj', hdj'⟩ := hinv j' t y'' hj'
            exact dep.dist j' j oj' oj t hoj' hoj hdj' hdj
          rcases dep.look i j op oj t hop' hoj hdj hm with ⟨hji, e, he, hb, heq⟩ | ⟨hij, e, he, hb, heq⟩
          · have hlj : listed.getD j false = true := by rw [← heq]; exact haft e he hb
            rw [mem_lk (List.pairwise_reverse.2 ((hpw.sublist (List.take_sublist i prs)).imp fun h => Ne.symm h)) (List.mem_reverse.2 (List.mem_of_getElem? (i := j) (by rw [List.getElem?_take, if_pos hji]; exact hj)))] at e1
            cases e1
            exact mem_lk (hpw.sublist (selL_sub _ _ _)) (selL_mem.2 ⟨j, hj, by simpa using hlj⟩)
          · have hlj : listed.getD j false = false := by
              cases hlj : listed.getD j false with
              | false => rfl
              | true =>
                have := hcl j oj hoj hlj e he hb
                rw [heq, hun'] at this
                cases this
            rw [nomem_lk fun y'' hy => ?_] at e1
            · rw [nomem_lk fun y'' hy => ?_]
              · exact e1
              · obtain ⟨j', hj', hl'⟩ := selL_mem.1 hy
                rw [huniq j' y'' hj'] at hl'
                simp [hlj] at hl'
            · obtain ⟨j', hj'⟩ := List.mem_iff_getElem?.1 (List.mem_reverse.1 hy)
              rw [List.getElem?_take] at hj'
              split at hj'
              · have := huniq j' y'' hj'; omega
              · cases hj'
        · have hno : ∀ y, (t, y) ∉ prs := fun y hy => by
            obtain ⟨j, hj⟩ := List.mem_iff_getElem?.1 hy
            exact hex ⟨j, y, hj⟩
          rw [nomem_lk fun y hy => hno y (List.mem_of_mem_take (List.mem_reverse.1 hy))] at e1
          rw [nomem_lk fun y hy => hno y ((selL_sub _ _ _).subset hy)]
          exact e1
      refine stepD_wp hl hT hop' hle hs' g2 g3 g4 g5 fun o2 h2 v w1 hs2 hext => ?_
      have hget : ∀ j, (listed.setIfInBounds i true).getD j false = if j = i then true else listed.getD j false := fun j => by
        by_cases hji : j = i
        · subst hji
          rw [if_pos rfl, Array.getD_eq_getD_getElem?, Array.getElem?_setIfInBounds_self]
          simp [hsz, hlt]
        · rw [if_neg hji, getD_set_ne false (Ne.symm hji)]
      refine ih (listed.setIfInBounds i true) o2 h2 _ w1 (by simp [hsz]) (fun j hj => by rw [hget, if_neg (by omega)]; exact hnl j hj) ?_ ?_ ⟨hs2.size, hs2.tags, fun t x hlk => hs2.slot t x ?_, hs2.res⟩ (hx.trans hext)
      · have := cntU_upd (ls := fun j => listed.getD j false) (ls' := fun j => (listed.setIfInBounds i true).getD j false) (i := i) (n := n) (by omega) hun' (by simp [hget]) fun j hj => by simp [hget, hj]
        omega
      · intro j oj hoj hlj e he hb
        rw [hget] at hlj ⊢
        by_cases he' : e.on = i
        · rw [if_pos he']
        · rw [if_neg he']
          by_cases hji : j = i
          · subst hji
            rw [hop'] at hoj
            cases hoj
            exact haft e he hb
          · rw [if_neg hji] at hlj
            exact hcl j oj hoj hlj e he hb
      · simp only at hlk ⊢
        rw [lk_cons]
        by_cases hdt : d = t
        · subst hdt
          rw [if_pos rfl]
          have := mem_lk (base := A.sl) (hpw.sublist (selL_sub (fun j => (listed.setIfInBounds i true).getD j false) 0 prs)) (selL_mem.2 ⟨i, g1, by simp [hget]⟩)
          rw [this] at hlk
          exact hlk
        · rw [if_neg hdt]
          by_cases hex : ∃ (j : Nat) (y' : SV), prs[j]? = some (t, y') ∧ (listed.setIfInBounds i true).getD j false = true
          · obtain ⟨j, y', hj, hlj⟩ := hex
            have hji : j ≠ i := by
              rintro rfl
              rw [g1] at hj
              cases hj
              exact hdt rfl
            rw [hget, if_neg hji] at hlj
            have := mem_lk (base := A.sl) (hpw.sublist (selL_sub (fun j => (listed.setIfInBounds i true).getD j false) 0 prs)) (selL_mem.2 ⟨j, hj, by simpa [hget, hji] using hlj⟩)
            rw [this] at hlk
            cases hlk
            exact mem_lk (hpw.sublist (selL_sub _ _ _)) (selL_mem.2 ⟨j, hj, by simpa using hlj⟩)
          · rw [nomem_lk fun y' hy => ?_] at hlk
            · rw [nomem_lk fun y' hy => ?_]
              · exact hlk
              · obtain ⟨j, hj, hlj⟩ := selL_mem.1 hy
                refine hex ⟨j, y', hj, ?_⟩
                rw [hget]
                split
                · rfl
                · simpa using hlj
            · obtain ⟨j, hj, hlj⟩ := selL_mem.1 hy
              exact hex ⟨j, y', hj, by simpa using hlj⟩
  refine main ops.size (Array.replicate ops.size false) o h tm w.drew (by simp) (fun j _ => by simp [Array.getD_eq_getD_getElem?, Array.getElem?_replicate]; split <;> rfl) ?_ ?_ ?_ (Ext.drew o w)
  · have : ∀ n, cntU (fun j => (Array.replicate ops.size false).getD j false) n ≤ n := by
      intro n
      induction n with
      | zero => exact Nat.le_refl _
      | succ n ih => simp only [cntU]; split <;> omega
    have := this n
    omega
  · intro i oi hoi hli
    simp [Array.getD_eq_getD_getElem?, Array.getElem?_replicate] at hli
    split at hli <;> cases hli
  · have hs' := hs.drew
    refine ⟨hs'.size, hs'.tags, fun t x hlk => hs'.slot t x ?_, hs'.res⟩
    rw [nomem_lk fun y hy => ?_] at hlk
    · exact hlk
    · obtain ⟨j, hj, hlj⟩ := selL_mem.1 hy
      simp [Array.getD_eq_getD_getElem?, Array.getElem?_replicate] at hlj
      split at hlj <;> cases hlj
theorem KW.goDS {k k' : List K} {e : Exit} {A'' : St} (hl : LayOk P lay) (hT : FnsOk P fns) (hm : P.follows .mixedOrders = true) (f : Nat) {id : Nat} {ops : Array Oper} {φ ψ : Prop} (h : run2 lay fns f k e A True = (.code (.region id ops true) :: k', .normal, A', φ)) (n : Nat) (hsz0 : Nat.blt n ops.size = true) (hdep : depOk ops = true) (htl : tailsOk ops n = true)
    (hg : drawGo lay fns ops (takeN n ops.toList) A' True = some (A'', ψ)) (hφ : φ) (hψ : ψ) (hn : KW P (.ops ops (dropN n ops.toList) :: k') .normal A'' Q) : KW P k e A Q :=
  KW.go hl hT f h hφ (KW.drawnTails hl hT hm hsz0 hdep htl hg hψ hn)
end
end Go.Sy
namespace Go.Sy
open Go.Sort Go.Lib Go.Shelf Go.Proofs
variable [Drw]
section
variable {α : Type} [Inhabited α] {enc : α → List Value} {k : Nat} {cenc : α → Nat → CV} {d0 : α}
end
section
variable {P : Program} {ρ : Ren}
omit [Drw] in
end
end Go.Sy
namespace Go.Sy
variable [Drw]
def rvE (lay : Lay) (A : St) : ResultVar → Option EV
  | .tmp t => match lk A.sl t with
    | some (.e x) => some x
    | _ => none
  | .cell a t => match lk lay t, lk A.sl a with
    | some ⟨s, agg, _, _⟩, some (.e (.r i)) => match lk A.rs i with
      | some (.box _ cs _) => match ldBox agg s cs 0 True with
        | some (.e x, _) => some x
        | _ => none
      | _ => none
    | _, _ => none
def rvEs (lay : Lay) (A : St) : List ResultVar → Option (List EV)
  | [] => some []
  | x :: l => match rvE lay A x, rvEs lay A l with
    | some e, some es => some (e :: es)
    | _, _ => none
def retC (lay : Lay) (A : St) (rv : List ResultVar) : Option SV :=
  match rv with
  | [x] => match rvE lay A x with
    | some e => some (.e e)
    | none => none
  | rv => match rvEs lay A rv with
    | some es => some (.tup es)
    | none => none
section
variable {P : Program} {lay : Lay} {A A' : St} {Q : Exit → St → Prop} {k k' : List K} {e : Exit} {o : Nat → Tag} {h : Nat → Value} {tm : Array Value} {w : World}
theorem rvE_ok (hl : LayOk P lay) (hs : Sat o h A tm w) {x : ResultVar} {y : EV} (hr : rvE lay A x = some y) : ∃ v, (rvS tm x).run P w = .ok v w ∧ EvOk o h w y v := by
  unfold rvE at hr
  split at hr
  · rename_i t
    split at hr
    · rename_i z hz
      simp only [Option.some.injEq] at hr
      subst hr
      exact ⟨_, rfl, hs.slot t _ hz⟩
    · cases hr
  · rename_i a t
    split at hr
    · rename_i s agg td z i hT ha
      split at hr
      · rename_i T cs bk hb
        split at hr
        · rename_i z0 p0 hld
          simp only [Option.some.injEq] at hr
          subst hr
          obtain ⟨b, vs, hbk, h1, h2, h3, h4, h5⟩ := hs.res i _ hb
          obtain ⟨v, hv, hx⟩ := ldBox_ok hl hT h2 h4 h5 hld
          have h0 : tm.getD a undef = h i := hs.slot a _ ha
          refine ⟨v, ?_, hx⟩
          rw [← hv]
          simp [rvS, h0, h1, asAddr, Instr.loadAt, Instr.sureAddr]
        · cases hr
      · cases hr
    · cases hr
theorem rvEs_ok (hl : LayOk P lay) (hs : Sat o h A tm w) : ∀ {l : List ResultVar} {ys : List EV}, rvEs lay A l = some ys → ∃ vs : List Value, (l.mapM (rvS tm)).run P w = .ok vs w ∧ vs.length = ys.length ∧ ∀ (q : Nat) y, ys[q]? = some y → ∃ v, vs[q]? = some v ∧ EvOk o h w y v
  | [], ys, hr => by
    simp only [rvEs, Option.some.injEq] at hr
    subst hr
    exact ⟨[], rfl, rfl, by simp⟩
  | x :: l, ys, hr => by
    simp only [rvEs] at hr
    split at hr
    · rename_i e es h1 h2
      simp only [Option.some.injEq] at hr
      subst hr
      obtain ⟨v, g1, g2⟩ := rvE_ok hl hs h1
      obtain ⟨vs, g3, g4, g5⟩ := rvEs_ok hl hs h2
      refine ⟨v :: vs, by simp only [List.mapM_cons, Sem.run_bind, g1, g3, Result.andThen_ok, Sem.run_pure], by simp [g4], fun q y hq => ?_⟩
      cases q with
      | zero => simp at hq; subst hq; exact ⟨v, rfl, g2⟩
      | succ q => simp at hq; simpa using g5 q y hq
    · cases hr
theorem resultsC_ok (hl : LayOk P lay) (hs : Sat o h A tm w) {fn : Func} {y : SV} (hr : retC lay A fn.results.toList = some y) : ∃ v, (results fn tm).run P w = .ok v w ∧ SvOk o h w y v := by
  have hM : ∀ vs : List Value, (fn.results.toList.mapM (rvS tm)).run P w = .ok vs w → (results fn tm).run P w = .ok (if h : vs.toArray.size = 1 then vs.toArray[0] else .tuple vs.toArray) w := fun vs hv => by
    have : (fn.results.mapM (rvS tm)).run P w = .ok vs.toArray w := by
      rw [Array.mapM_eq_mapM_toList]
      simp only [Sem.run_map]
      rw [hv]; rfl
    rw [results_eq]
    simp only [Sem.run_bind, this, Result.andThen_ok, Sem.run_pure]
  unfold retC at hr
  split at hr
  · rename_i x hx
    split at hr
    · rename_i e he
      simp only [Option.some.injEq] at hr
      subst hr
      obtain ⟨v, g1, g2⟩ := rvE_ok hl hs he
      exact ⟨_, hM [v] (by rw [hx]; simp [g1]), g2⟩
    · cases hr
  · rename_i rv hne
    split at hr
    · rename_i es he
      simp only [Option.some.injEq] at hr
      subst hr
      obtain ⟨vs, g3, g4, g5⟩ := rvEs_ok hl hs he
      refine ⟨_, hM vs g3, ?_⟩
      have hlen : vs.toArray.size ≠ 1 := by
        intro h1
        have hl2 : es.length = 1 := by rw [← g4]; simpa using h1
        match hres : fn.results.toList, he with
        | [], he => simp only [rvEs, Option.some.injEq] at he; subst he; simp at hl2
        | [x], _ => exact hne x hres
        | x :: x' :: l, he =>
          simp only [rvEs] at he
          split at he
          · rename_i e es' _ h2
            split at h2
            · simp only [Option.some.injEq] at he h2
              subst h2; subst he; simp at hl2
            · cases h2
          · cases he
      rw [dif_neg hlen]
      exact ⟨_, rfl, by simp [g4], fun q x hq => by simpa using g5 q x hq⟩
    · cases hr
theorem DoesF.ofC (hlay : LayOk P lay) {f : FuncId} {fn : Func} {c : Code} {ys : List EV} {rs rs' : List (Nat × Res)} {y : SV} (n : Nat) (hf : P.funcs[f]? = some fn) (hb : fn.body = some c) (hnt : fn.ntmps = n) (hn : Nat.ble ys.length n = true)
    (hk : KW P [.code c] .normal ⟨n, idx 0 ys, rs⟩ fun e A' => (e = .ret ∨ e = .normal) ∧ ∃ y0 ρ, retC lay A' fn.results.toList = some y0 ∧ oneB ρ = true ∧ y0 = y.ren ρ ∧ subR ρ A' rs') :
    DoesF P f ys rs y rs' := by
  subst hnt
  have hn : ys.length ≤ fn.ntmps := by simpa using hn
  intro o h args w hs
  refine calls_of_wp hf hb ?_
  have hsz : args.size = ys.length := hs.size
  have hs' : Sat o h ⟨fn.ntmps, idx 0 ys, rs⟩ (args ++ Array.replicate (fn.ntmps - args.size) undef) w := by
    refine ⟨by simp [hsz]; omega, hs.tags, fun s x hl => ?_, hs.res⟩
    have := hs.slot s x hl
    obtain ⟨_, hlt, _⟩ := idx_lt ys 0 s x hl
    have e1 : (args ++ Array.replicate (fn.ntmps - args.size) undef).getD s undef = args.getD s undef := by
      rw [Array.getD_eq_getD_getElem?, Array.getD_eq_getD_getElem?, Array.getElem?_append_left (by omega)]
    rw [e1]; exact this
  refine wp_mono (codeQ_wp (hk o h _ w hs')) ?_
  rintro e ⟨tm', ds⟩ w' hl
  obtain ⟨hd, o', h', A', ⟨he, y0, ρ, hr, h1, rfl, hR⟩, hs2, hx⟩ : lift _ o w e ⟨tm', ds⟩ w' := by
    cases e <;> exact hl
  simp only at hd
  subst hd
  obtain ⟨v, hv, hy⟩ := resultsC_ok (P := P) hlay hs2 hr
  have hfin : ∃ v o' h', Ending.returned v = .returned v ∧ Sat o' h' ⟨1, [(0, y)], rs'⟩ #[v] w' ∧ Ext o w o' w' ∧ (results fn tm').run P w' = .ok v w' := by
    refine ⟨v, viewO ρ (fun _ => false) o', viewH ρ h', rfl, ⟨rfl, tags_view hs2 ρ _, fun s x hl => ?_, fun j r hl => ?_⟩, hx.trans ⟨Nat.le_refl _, rfl, rfl, rfl, Nat.le_refl _, fun b hb _ => ⟨viewO_sh hb, rfl⟩, fun b hb _ => ⟨viewO_no hb, rfl⟩⟩, hv⟩
    · rw [lk_cons] at hl
      split at hl
      · rename_i e; subst e; cases hl; exact hy.view (keep_view ρ _)
      · simp [lk] at hl
    · obtain ⟨i, hi, hr⟩ := subR_ok hR j r hl
      exact (hs2.res i _ hr).view h1 hi
  obtain ⟨v, o2, h2, _, g1, g2, g3⟩ := hfin
  rcases he with rfl | rfl
  · exact ⟨rfl, v, g3, v, o2, h2, rfl, g1, g2⟩
  · exact ⟨rfl, v, g3, v, o2, h2, rfl, g1, g2⟩
def RetQC (lay : Lay) (rv : List ResultVar) (y : SV) (rs' : List (Nat × Res)) : Exit → St → Prop := fun e A' =>
  (e = .ret ∨ e = .normal) ∧ ∃ y0 ρ, retC lay A' rv = some y0 ∧ oneB ρ = true ∧ y0 = y.ren ρ ∧ subR ρ A' rs'
theorem DoesF.bodyC {f : FuncId} {fn : Func} {c : Code} {ys : List EV} {rs rs' : List (Nat × Res)} {y : SV} {rv : List ResultVar} (hl : LayOk P lay) (n : Nat) (hf : P.funcs[f]? = some fn) (hb : fn.body = some c) (hnt : fn.ntmps = n) (hn : Nat.ble ys.length n = true)
    (hrv : fn.results.toList = rv) (hk : KW P [.code c] .normal ⟨n, idx 0 ys, rs⟩ (RetQC lay rv y rs')) : DoesF P f ys rs y rs' := by
  subst hrv
  exact DoesF.ofC hl n hf hb hnt hn hk
theorem KW.finC {rv : List ResultVar} {y y0 : SV} {rs' : List (Nat × Res)} (ρ : List (Nat × Nat)) (h1 : retC lay A rv = some y0) (h2 : oneB ρ = true) (h3 : y0 = y.ren ρ) (h4 : subR ρ A rs') : KW P [] .ret A (RetQC lay rv y rs') :=
  KW.done ⟨.inl rfl, y0, ρ, h1, h2, h3, h4⟩
theorem KW.goRetC {fns : Fns} (hl : LayOk P lay) (hT : FnsOk P fns) (f : Nat) {φ : Prop} (h : run2 lay fns f k e A True = ([], .ret, A', φ)) {rv : List ResultVar} {y y0 : SV} {rs' : List (Nat × Res)} (h1 : retC lay A' rv = some y0) (h3 : y0 = y.ren []) (hφ : φ) (h4 : subR [] A' rs') : KW P k e A (RetQC lay rv y rs') :=
  KW.go hl hT f h hφ (KW.finC [] h1 rfl h3 h4)
theorem KW.one (hl : LayOk P lay) {all : Array Oper} {op : Oper} {rest : List Oper} {d : Nat} {x : SV} {φ : Prop} (hg : op.guard = none) (hd : op.dst = some d) (hlt : Nat.blt d A.n = true) (he : evP lay A op = some (x, φ)) (hφ : φ)
    (hn : KW P (.ops all rest :: k) .normal ⟨A.n, (d, x) :: A.sl, A.rs⟩ Q) : KW P (.ops all (op :: rest) :: k) .normal A Q := by
  intro o h tm w hs
  have hlt : d < A.n := by simpa [Nat.blt, Nat.succ_le_iff] using hlt
  show wpList P all (kq P (lift Q o w) k) (op :: rest) ⟨tm, []⟩ w
  unfold wpList
  rw [if_pos (by simp [Region.wanted, hg])]
  left
  unfold Oper.wp
  show op.upon P ⟨tm, []⟩ _ _ ((execOp (evl tm) op).run P w)
  obtain ⟨v, hr, hv⟩ := evP_ok hl hs he hφ
  rw [hr]
  show wpList P all (kq P (lift Q o w) k) rest ((⟨tm, []⟩ : Act).put op.dst _) w
  have hput : (⟨tm, []⟩ : Act).put op.dst v = ⟨tm.setIfInBounds d v, []⟩ := by simp [Act.put, hd]
  rw [hput]
  exact hn o h _ w (hs.put hlt hv)
end
end Go.Sy
namespace Go.Sy
variable [Drw]
abbrev Tri := Nat × SV × List (Nat × Res)
def slotsX (ps : List Tri) : List (Nat × SV) := ps.map fun p => (p.1, p.2.1)
def resOf (ls : Nat → Bool) : Nat → List Tri → List (Nat × Res)
  | _, [] => []
  | k, p :: l => (if ls k = true then p.2.2 else []) ++ resOf ls (k + 1) l
theorem slotsX_length (ps : List Tri) : (slotsX ps).length = ps.length := by simp [slotsX]
theorem slotsX_get {ps : List Tri} {j d : Nat} {y : SV} {rn : List (Nat × Res)} (h : ps[j]? = some (d, y, rn)) : (slotsX ps)[j]? = some (d, y) := by simp [slotsX, h]
theorem slotsX_inv {ps : List Tri} {j d : Nat} {y : SV} (h : (slotsX ps)[j]? = some (d, y)) : ∃ y' rn, ps[j]? = some (d, y', rn) := by
  simp only [slotsX, List.getElem?_map, Option.map_eq_some_iff] at h
  obtain ⟨⟨d', y', rn⟩, h1, h2⟩ := h
  cases h2
  exact ⟨_, _, h1⟩
theorem resOf_congr_k {ls ls' : Nat → Bool} : ∀ {ps : List Tri} {k : Nat}, (∀ j, j < ps.length → ls (k + j) = ls' (k + j)) → resOf ls k ps = resOf ls' k ps
  | [], k, h => rfl
  | p :: l, k, h => by
    have h0 := h 0 (by simp)
    simp only [Nat.add_zero] at h0
    simp only [resOf, h0]
    congr 1
    exact resOf_congr_k fun j hj => by have := h (j + 1) (by simpa using hj); rwa [show k + (j + 1) = k + 1 + j by omega] at this
theorem resOf_congr {ls ls' : Nat → Bool} {ps : List Tri} (h : ∀ j, j < ps.length → ls j = ls' j) : resOf ls 0 ps = resOf ls' 0 ps := resOf_congr_k fun j hj => by simpa using h j hj
theorem resOf_none_k {ls : Nat → Bool} (h : ∀ j, ls j = false) : ∀ {ps : List Tri} {k : Nat}, resOf ls k ps = []
  | [], k => rfl
  | p :: l, k => by simp [resOf, h k, resOf_none_k h]
theorem resOf_none {ls : Nat → Bool} {ps : List Tri} (h : ∀ j, ls j = false) : resOf ls 0 ps = [] := resOf_none_k h
theorem resOf_mem_k {ls : Nat → Bool} {t : Nat} {r : Res} : ∀ {ps : List Tri} {k : Nat}, (t, r) ∈ resOf ls k ps → ∃ (j d : Nat) (y : SV) (rn : List (Nat × Res)), ps[j]? = some (d, y, rn) ∧ ls (k + j) = true ∧ (t, r) ∈ rn
  | [], k, h => by simp [resOf] at h
  | (d, y, rn) :: l, k, h => by
    simp only [resOf, List.mem_append] at h
    rcases h with h | h
    · split at h
      · rename_i hk; exact ⟨0, d, y, rn, rfl, hk, h⟩
      · cases h
    · obtain ⟨j, d', y', rn', h1, h2, h3⟩ := resOf_mem_k h
      exact ⟨j + 1, d', y', rn', by simpa using h1, by rw [show k + (j + 1) = k + 1 + j by omega]; exact h2, h3⟩
theorem resOf_mem {ls : Nat → Bool} {ps : List Tri} {t : Nat} {r : Res} (h : (t, r) ∈ resOf ls 0 ps) : ∃ (j d : Nat) (y : SV) (rn : List (Nat × Res)), ps[j]? = some (d, y, rn) ∧ ls (0 + j) = true ∧ (t, r) ∈ rn := resOf_mem_k h
def OwnKeys (ps : List Tri) : Prop := ∀ (j d : Nat) (y : SV) (rn : List (Nat × Res)), ps[j]? = some (d, y, rn) → rn = [] ∨ ∃ r, rn = [(d, r)]
theorem lk_app_none {l base : List (Nat × Res)} {i : Nat} (h : ∀ r, (i, r) ∉ l) : lk (l ++ base) i = lk base i := by
  induction l with
  | nil => rfl
  | cons p l ih =>
    obtain ⟨k, r⟩ := p
    rw [List.cons_append, lk_cons, if_neg (fun e => h r (by rw [← e]; exact .head _)), ih fun r' hr => h r' (.tail _ hr)]
theorem freshR_mem {d : Nat} : ∀ {l : List (Nat × Res)}, freshR d l = true → ∀ {t : Nat} {r : Res}, (t, r) ∈ l → t ≠ d ∧ r.men d = false
  | [], _, t, r, h => by cases h
  | (j, r0) :: l, hf, t, r, h => by
    simp only [freshR, Bool.and_eq_true, Bool.not_eq_true'] at hf
    rcases List.mem_cons.1 h with e | e
    · cases e
      exact ⟨fun e => by subst e; simp at hf, hf.2.1⟩
    · exact freshR_mem hf.2.2 e
theorem freshR_of {d : Nat} : ∀ {l : List (Nat × Res)}, (∀ (t : Nat) (r : Res), (t, r) ∈ l → t ≠ d ∧ r.men d = false) → freshR d l = true
  | [], _ => rfl
  | (j, r0) :: l, h => by
    have h0 := h j r0 (.head _)
    have hb : Nat.beq j d = false := by
      cases hb : Nat.beq j d with
      | false => rfl
      | true => exact absurd (Nat.eq_of_beq_eq_true hb) h0.1
    simp only [freshR, hb, h0.2, Bool.not_false, Bool.true_and]
    exact freshR_of fun t r hm => h t r (.tail _ hm)
theorem freshS_of {d : Nat} : ∀ {l : List (Nat × SV)}, (∀ (t : Nat) (x : SV), (t, x) ∈ l → x.men d = false) → freshS d l = true
  | [], _ => rfl
  | (j, x) :: l, h => by
    simp only [freshS, h j x (.head _), Bool.not_false, Bool.true_and]
    exact freshS_of fun t x hm => h t x (.tail _ hm)
theorem freshS_mem {d : Nat} : ∀ {l : List (Nat × SV)}, freshS d l = true → ∀ {t : Nat} {x : SV}, (t, x) ∈ l → x.men d = false
  | [], _, t, x, h => by cases h
  | (j, x0) :: l, hf, t, x, h => by
    simp only [freshS, Bool.and_eq_true, Bool.not_eq_true'] at hf
    rcases List.mem_cons.1 h with e | e
    · cases e; exact hf.1
    · exact freshS_mem hf.2 e
theorem fresh_super {n d : Nat} {sl sl0 : List (Nat × SV)} {rs rs0 : List (Nat × Res)} (f2 : freshS d sl0 = true) (f3 : freshR d rs0 = true) (h1 : ∀ (t : Nat) (x : SV), (t, x) ∈ sl → x.men d = false) (h2 : ∀ (t : Nat) (r : Res), (t, r) ∈ rs → t ≠ d ∧ r.men d = false) : freshB ⟨n, sl ++ sl0, rs ++ rs0⟩ d = true := by
  simp only [freshB, Bool.and_eq_true]
  refine ⟨freshS_of fun t x hm => ?_, freshR_of fun t r hm => ?_⟩
  · rcases List.mem_append.1 hm with h | h
    · exact h1 t x h
    · exact freshS_mem f2 h
  · rcases List.mem_append.1 hm with h | h
    · exact h2 t r h
    · exact freshR_mem f3 h
theorem lk_mem {α : Type} : ∀ {l : List (Nat × α)} {i : Nat} {r : α}, lk l i = some r → (i, r) ∈ l
  | [], _, _, h => by simp [lk] at h
  | (j, x) :: l, i, r, h => by
    rw [lk_cons] at h
    split at h
    · rename_i e; subst e; cases h; exact .head _
    · exact .tail _ (lk_mem h)
theorem resOf_base {ls : Nat → Bool} {ps : List Tri} {rs : List (Nat × Res)} (hk : OwnKeys ps) (hf : ∀ (j d : Nat) (y : SV) (rn : List (Nat × Res)), ps[j]? = some (d, y, rn) → rn ≠ [] → freshR d rs = true) {i : Nat} {r : Res} (h : lk rs i = some r) : lk (resOf ls 0 ps ++ rs) i = some r := by
  rw [lk_app_none fun r' hm => ?_]
  · exact h
  · obtain ⟨j, d, y, rn, h1, h2, h3⟩ := resOf_mem hm
    rcases hk j d y rn h1 with e | ⟨r0, e⟩
    · rw [e] at h3; cases h3
    · rw [e] at h3
      simp only [List.mem_singleton, Prod.mk.injEq] at h3
      have := freshR_mem (hf j d y rn h1 (by rw [e]; simp)) (lk_mem h)
      exact this.1 h3.1
theorem resOf_upd {ls ls' : Nat → Bool} {base : List (Nat × Res)} {d : Nat} {y : SV} {rn : List (Nat × Res)} {t : Nat} (ht : ∀ r, (t, r) ∉ rn) : ∀ {ps : List Tri} {k i : Nat}, ps[i]? = some (d, y, rn) → (∀ j, j ≠ i → ls' (k + j) = ls (k + j)) → lk (resOf ls' k ps ++ base) t = lk (resOf ls k ps ++ base) t
  | [], k, i, h, _ => by simp at h
  | p :: l, k, 0, h, hl => by
    simp at h
    subst h
    have : resOf ls' (k + 1) l = resOf ls (k + 1) l := resOf_congr_k fun j hj => by have := hl (j + 1) (by omega); rwa [show k + (j + 1) = k + 1 + j by omega] at this
    simp only [resOf, this, List.append_assoc]
    have e1 : ∀ (b : Bool) (X : List (Nat × Res)), lk ((if b = true then rn else []) ++ X) t = lk X t := fun b X => lk_app_none fun r hm => by
      split at hm
      · exact ht r hm
      · cases hm
    rw [e1, e1]
  | p :: l, k, i + 1, h, hl => by
    have h0 := hl 0 (by omega)
    simp only [Nat.add_zero] at h0
    have ih := resOf_upd (ls := ls) (ls' := ls') (base := base) ht (ps := l) (k := k + 1) (i := i) (by simpa using h) fun j hj => by have := hl (j + 1) (by omega); rwa [show k + (j + 1) = k + 1 + j by omega] at this
    simp only [resOf, h0, List.append_assoc]
    generalize (if ls k = true then p.2.2 else []) = pre
    induction pre with
    | nil => exact ih
    | cons q pre ih2 => rw [List.cons_append, List.cons_append, lk_cons, lk_cons, ih2]
theorem resOf_hit {ls : Nat → Bool} {base : List (Nat × Res)} {d : Nat} {y : SV} {r : Res} : ∀ {ps : List Tri} {k i : Nat}, ps[i]? = some (d, y, [(d, r)]) → ls (k + i) = true → OwnKeys ps → (slotsX ps).Pairwise (fun a b => a.1 ≠ b.1) → lk (resOf ls k ps ++ base) d = some r
  | [], k, i, h, _, _, _ => by simp at h
  | p :: l, k, 0, h, hl, _, _ => by
    simp at h
    subst h
    simp only [Nat.add_zero] at hl
    simp only [resOf, hl, if_true, List.cons_append, lk_cons]
  | p :: l, k, i + 1, h, hl, hk, hpw => by
    have hpw' : (slotsX (p :: l)) = (p.1, p.2.1) :: slotsX l := rfl
    rw [hpw'] at hpw
    obtain ⟨hp1, hp2⟩ := List.pairwise_cons.1 hpw
    have hi : l[i]? = some (d, y, [(d, r)]) := by simpa using h
    have ih := resOf_hit (base := base) hi (by rw [show k + 1 + i = k + (i + 1) by omega]; exact hl) (fun j d' y' rn' hj => hk (j + 1) d' y' rn' (by simpa using hj)) hp2
    simp only [resOf, List.append_assoc]
    rw [lk_app_none fun r' hm => ?_]
    · exact ih
    · split at hm
      · rcases hk 0 p.1 p.2.1 p.2.2 rfl with e | ⟨r0, e⟩
        · rw [e] at hm; cases hm
        · rw [e] at hm
          simp only [List.mem_singleton, Prod.mk.injEq] at hm
          exact hp1 (d, y) (List.mem_of_getElem? (slotsX_get hi)) hm.1.symm
      · cases hm
theorem resOf_step {ls ls' : Nat → Bool} {base : List (Nat × Res)} {d : Nat} {y : SV} {rn : List (Nat × Res)} {ps : List Tri} {i : Nat} (hk : OwnKeys ps) (hpw : (slotsX ps).Pairwise (fun a b => a.1 ≠ b.1)) (h : ps[i]? = some (d, y, rn)) (hi : ls' i = true) (hl : ∀ j, j ≠ i → ls' j = ls j) {t : Nat} {r : Res} (hr : lk (resOf ls' 0 ps ++ base) t = some r) :
    lk (rn ++ (resOf ls 0 ps ++ base)) t = some r := by
  rcases hk i d y rn h with e | ⟨r0, e⟩
  · subst e
    rw [resOf_upd (ls := ls) (by simp) h (by simpa using hl)] at hr
    exact hr
  · subst e
    rw [List.cons_append, lk_cons]
    split
    · rename_i htd
      subst htd
      rw [resOf_hit (k := 0) h (by simpa using hi) hk hpw] at hr
      exact hr
    · rename_i htd
      rw [resOf_upd (ls := ls) (fun r' hm => by simp at hm; exact htd hm.1.symm) h (by simpa using hl)] at hr
      exact hr
def isNew : Op → Bool
  | .alloc _ => true
  | .buildSlice _ _ _ => true
  | _ => false
def stepX (lay : Lay) (fns : Fns) (B : St) (ops : Array Oper) (op : Oper) : Option (SV × List (Nat × Res) × Prop) :=
  match stepD lay fns B ops op with
  | some (y, φ) => some (y, [], φ)
  | none => match isNew op.op, op.guard, op.dst, evE lay B op with
    | true, none, some d, some (⟨_, _, (_, r) :: _⟩, φ) => some (.e (.r d), [(d, r)], φ)
    | _, _, _, _ => none
def drawX (lay : Lay) (fns : Fns) (ops : Array Oper) (rs0 : List (Nat × Res)) (n : Nat) : List Oper → List (Nat × SV) → Prop → Option (List Tri × Prop)
  | [], _, φ => some ([], φ)
  | op :: l, sl, φ => match op.dst with
    | some d => match Nat.blt d n, stepX lay fns ⟨n, pickS sl (looks ops op), rs0⟩ ops op with
      | true, some (y, rn, ψ) => match drawX lay fns ops rs0 n l ((d, y) :: sl) (φ ∧ ψ) with
        | some (ps, χ) => some ((d, y, rn) :: ps, χ)
        | none => none
      | _, _ => none
    | none => none
theorem drawX_spec {lay : Lay} {fns : Fns} {ops : Array Oper} {rs0 : List (Nat × Res)} {n : Nat} : ∀ {l : List Oper} {sl : List (Nat × SV)} {prs : List Tri} {φ φ' : Prop}, drawX lay fns ops rs0 n l sl φ = some (prs, φ') → φ' → φ ∧ prs.length = l.length ∧
    ∀ (i : Nat) op, l[i]? = some op → ∃ d y rn ψ, prs[i]? = some (d, y, rn) ∧ op.dst = some d ∧ Nat.blt d n = true ∧ stepX lay fns ⟨n, pickS (((slotsX prs).take i).reverse ++ sl) (looks ops op), rs0⟩ ops op = some (y, rn, ψ) ∧ ψ
  | [], sl, prs, φ, φ', h, hφ => by
    simp only [drawX, Option.some.injEq, Prod.mk.injEq] at h
    obtain ⟨rfl, rfl⟩ := h
    exact ⟨hφ, rfl, by simp⟩
  | op :: l, sl, prs, φ, φ', h, hφ => by
    simp only [drawX] at h
    split at h
    · rename_i d hd
      split at h
      · rename_i y rn ψ hlt hs
        split at h
        · rename_i ps χ hrec
          simp only [Option.some.injEq, Prod.mk.injEq] at h
          obtain ⟨rfl, rfl⟩ := h
          obtain ⟨h1, h2, h4⟩ := drawX_spec hrec hφ
          refine ⟨h1.1, by simp [h2], fun i op' hi => ?_⟩
          cases i with
          | zero => simp at hi; subst hi; exact ⟨d, y, rn, ψ, by simp, hd, hlt, by simpa using hs, h1.2⟩
          | succ i =>
            simp at hi
            obtain ⟨d', y', rn', ψ', g1, g2, g3, g4, g5⟩ := h4 i op' hi
            exact ⟨d', y', rn', ψ', by simpa using g1, g2, g3, by simpa [slotsX] using g4, g5⟩
        · cases h
      · cases h
    · cases h
theorem stepX_rn {lay : Lay} {fns : Fns} {ops : Array Oper} {rs0 : List (Nat × Res)} {n : Nat} {l : List Oper} {sl : List (Nat × SV)} {prs : List Tri} (hlen : prs.length = l.length)
    (h : ∀ (i : Nat) op, l[i]? = some op → ∃ d y rn ψ, prs[i]? = some (d, y, rn) ∧ op.dst = some d ∧ Nat.blt d n = true ∧ stepX lay fns ⟨n, pickS (((slotsX prs).take i).reverse ++ sl) (looks ops op), rs0⟩ ops op = some (y, rn, ψ) ∧ ψ) : OwnKeys prs := by
  intro j d y rn hj
  have hlt : j < l.length := by rw [← hlen]; exact (List.getElem?_eq_some_iff.1 hj).1
  obtain ⟨d', y', rn', ψ, g1, g2, g3, g4, g5⟩ := h j l[j] (List.getElem?_eq_getElem hlt)
  rw [hj] at g1
  cases g1
  unfold stepX at g4
  split at g4
  · simp only [Option.some.injEq, Prod.mk.injEq] at g4
    exact .inl g4.2.1.symm
  · split at g4
    · rename_i d2 n2 sl2 k2 r2 l2 φ2 _ _ hd2 _
      simp only [Option.some.injEq, Prod.mk.injEq] at g4
      rw [g2] at hd2
      cases hd2
      exact .inr ⟨_, g4.2.1.symm⟩
    · cases g4
def freshAt (d j : Nat) : Nat → List Tri → Bool
  | _, [] => true
  | k, (_, y, rn) :: l => (Nat.beq k j || (!y.men d && freshR d rn)) && freshAt d j (k + 1) l
def freshX1 (prs : List Tri) (A : St) : Nat → List Tri → Bool
  | _, [] => true
  | j, (d, _, rn) :: l => (match rn with
    | [] => true
    | _ => freshAt d j 0 prs && (freshS d A.sl && freshR d A.rs)) && freshX1 prs A (j + 1) l
def freshX (prs : List Tri) (A : St) : Bool := freshX1 prs A 0 prs
theorem freshAt_ok {d j : Nat} : ∀ {l : List Tri} {k : Nat}, freshAt d j k l = true → ∀ (i d' : Nat) (y : SV) (rn : List (Nat × Res)), l[i]? = some (d', y, rn) → k + i ≠ j → y.men d = false ∧ freshR d rn = true
  | [], _, _, i, d', y, rn, h, _ => by simp at h
  | (a, b, c) :: l, k, hf, i, d', y, rn, h, hne => by
    simp only [freshAt, Bool.and_eq_true, Bool.or_eq_true, Bool.not_eq_true'] at hf
    cases i with
    | zero =>
      simp at h
      obtain ⟨rfl, rfl, rfl⟩ := h
      rcases hf.1 with h1 | h1
      · exact absurd (Nat.eq_of_beq_eq_true h1) (by simpa using hne)
      · exact h1
    | succ i => exact freshAt_ok hf.2 i d' y rn (by simpa using h) (by omega)
theorem freshX1_ok {prs : List Tri} {A : St} : ∀ {l : List Tri} {k : Nat}, freshX1 prs A k l = true → ∀ (i d : Nat) (y : SV) (rn : List (Nat × Res)), l[i]? = some (d, y, rn) → rn ≠ [] → freshAt d (k + i) 0 prs = true ∧ freshS d A.sl = true ∧ freshR d A.rs = true
  | [], _, _, i, d, y, rn, h, _ => by simp at h
  | (a, b, c) :: l, k, hf, i, d, y, rn, h, hne => by
    simp only [freshX1, Bool.and_eq_true] at hf
    cases i with
    | zero =>
      simp at h
      obtain ⟨rfl, rfl, rfl⟩ := h
      have h1 := hf.1
      split at h1
      · exact absurd rfl hne
      · simpa [Bool.and_eq_true, and_assoc] using h1
    | succ i =>
      have := freshX1_ok hf.2 i d y rn (by simpa using h) hne
      rwa [show k + 1 + i = k + (i + 1) by omega] at this
theorem freshX_ok {prs : List Tri} {A : St} (h : freshX prs A = true) : ∀ (j d : Nat) (y : SV) (rn : List (Nat × Res)), prs[j]? = some (d, y, rn) → rn ≠ [] → (∀ (i d' : Nat) (y' : SV) (rn' : List (Nat × Res)), prs[i]? = some (d', y', rn') → i ≠ j → y'.men d = false ∧ freshR d rn' = true) ∧ freshS d A.sl = true ∧ freshR d A.rs = true := by
  intro j d y rn hj hne
  obtain ⟨h1, h2, h3⟩ := freshX1_ok h j d y rn hj hne
  exact ⟨fun i d' y' rn' hi hij => freshAt_ok h1 i d' y' rn' hi (by omega), h2, h3⟩
section
variable {P : Program} {lay : Lay} {A A' B : St} {Q : Exit → St → Prop} {fns : Fns} {o : Nat → Tag} {h : Nat → Value} {tm : Array Value} {w : World}
structure St.sub (B A : St) : Prop where
  n : B.n = A.n
  rs : ∀ i r, lk B.rs i = some r → lk A.rs i = some r
  sl : ∀ t x, lk B.sl t = some x → lk A.sl t = some x
theorem Sat.subX (hle : St.sub B A) (hs : Sat o h A tm w) : Sat o h B tm w := ⟨hle.n ▸ hs.size, hs.tags, fun s x hl => hs.slot s x (hle.sl s x hl), fun i r hl => hs.res i r (hle.rs i r hl)⟩
theorem rd_upS (hle : St.sub B A) {x : Operand} {r : EV × Prop} (hr : rd B x = some r) : rd A x = some r := by
  cases x with
  | tmp t =>
    simp only [rd] at hr ⊢
    split at hr
    · rename_i e; rw [hle.sl _ _ e]; exact hr
    · rename_i x hne e
      rw [hle.sl _ _ e]
      cases x with
      | gd b y => exact (hne b y rfl).elim
      | _ => exact hr
    · cases hr
  | _ => exact hr
theorem argE_upS (hle : St.sub B A) {z : EV} {r : EV × List Nat} (hr : argE B z = some r) : argE A z = some r := by
  unfold argE at hr ⊢
  split at hr
  · exact hr
  · exact hr
  · split at hr
    · rename_i e; rw [hle.rs _ _ e]; exact hr
    · cases hr
  · cases hr
theorem argsE_upS (hle : St.sub B A) : ∀ {xs : List Operand} {r}, argsE B xs = some r → argsE A xs = some r
  | [], r, hr => hr
  | x :: xs, r, hr => by
    simp only [argsE] at hr ⊢
    split at hr
    · rename_i z p e
      rw [rd_upS hle e]
      split at hr
      · rename_i y L e2
        have e2' : argE A z = some (y, L) := argE_upS hle e2
        simp only [e2']
        split at hr
        · rename_i e3
          rw [argsE_upS hle e3]; exact hr
        · cases hr
      · cases hr
    · cases hr
theorem stepC_upS (hle : St.sub B A) {op : Oper} {r : SV × Prop} (hr : stepC fns B op = some r) : stepC fns A op = some r := by
  unfold stepC at hr ⊢
  split at hr
  · split at hr
    · split at hr
      · split at hr
        · rename_i e2
          simp only [argsE_upS hle e2]
          exact hr
        · cases hr
      · cases hr
    · cases hr
  · cases hr
theorem stepD_wpS (hl : LayOk P lay) (hT : FnsOk P fns) {ops : Array Oper} {i : Nat} {op : Oper} (hi : ops[i]? = some op) {y : SV} {φ : Prop} {d : Nat} (hle : St.sub B A) (hs : Sat o h A tm w) (hd : op.dst = some d) (hlt : Nat.blt d A.n = true)
    (hc : stepD lay fns B ops op = some (y, φ)) (hφ : φ) {K : Act → World → Prop} {QQ : Exit → Act → World → Prop}
    (hn : ∀ o2 h2 v w1, Sat o2 h2 ⟨A.n, (d, y) :: A.sl, A.rs⟩ (tm.setIfInBounds d v) w1 → Ext o w o2 w1 → K ⟨tm.setIfInBounds d v, []⟩ w1) : wpOp P ops QQ i K ⟨tm, []⟩ w := by
  have hsB := hs.subX hle
  have hlt' : d < A.n := by simpa [Nat.blt, Nat.succ_le_iff] using hlt
  have hput : ∀ v, (⟨tm, []⟩ : Act).put op.dst v = ⟨tm.setIfInBounds d v, []⟩ := fun v => by simp [Act.put, hd]
  have pure_wp : ∀ {x φ'}, evP lay B op = some (x, φ') → φ' → ∀ y', (∀ v, SvOk o h w x v → SvOk o h w y' v) → (∀ o2 h2 v w1, Sat o2 h2 ⟨A.n, (d, y') :: A.sl, A.rs⟩ (tm.setIfInBounds d v) w1 → Ext o w o2 w1 → K ⟨tm.setIfInBounds d v, []⟩ w1) → op.wp P ⟨tm, []⟩ w K QQ := by
    intro x φ' he hφ' y' hy' hn'
    obtain ⟨v, hr, hv⟩ := evP_ok hl hsB he hφ'
    unfold Oper.wp
    show op.upon P ⟨tm, []⟩ _ _ ((execOp (evl tm) op).run P w)
    rw [hr]
    show K ((⟨tm, []⟩ : Act).put op.dst v) w
    rw [hput]
    exact hn' o h v w (hs.put hlt' (hy' v hv)) (Ext.refl o w)
  have skip_ok : ∀ {x}, SvOk o h w (.e (.gd false x)) undef := fun {x} => ⟨fun e => Bool.noConfusion e, fun _ => rfl⟩
  unfold wpOp
  simp only [hi]
  unfold stepD at hc
  split at hc
  · rename_i hg
    rw [if_pos (by simp [Region.wanted, hg])]
    left
    split at hc
    · rename_i r he
      simp only [Option.some.injEq] at hc
      subst hc
      exact pure_wp he hφ y (fun v hv => hv) hn
    · exact stepC_wp hT hs hd hlt (stepC_upS hle hc) hφ hn
  · rename_i j want hg
    split at hc
    · rename_i b hb
      have hskip : ∀ x, y = .e (.gd b x) → b = false → K (Act.put ⟨tm, []⟩ op.dst undef) w := by
        intro x hy hbf
        subst hy
        rw [hput]
        exact hn o h undef w (hs.put hlt' (by rw [hbf]; exact skip_ok)) (Ext.refl o w)
      have hwant : b = true → Region.wanted op (yielded ops (⟨tm, []⟩ : Act).tmps) = true := fun hbt => by simp [Region.wanted, hg, gdOf_true hsB hb hbt]
      have hwant' : b = false → ¬ Region.wanted op (yielded ops (⟨tm, []⟩ : Act).tmps) = true := fun hbf => by simp [Region.wanted, hg, gdOf_false hsB hb hbf]
      split at hc
      · rename_i x φ' he
        simp only [Option.some.injEq, Prod.mk.injEq] at hc
        obtain ⟨rfl, rfl⟩ := hc
        cases hbb : b with
        | true =>
          rw [if_pos (hwant hbb)]
          left
          exact pure_wp he (hφ hbb) (.e (.gd b x)) (fun v hv => (show SvOk o h w (.e (.gd b x)) v from ⟨fun _ => hv, fun e => by rw [hbb] at e; cases e⟩)) hn
        | false => rw [if_neg (hwant' hbb)]; exact hskip x rfl hbb
      · split at hc
        · rename_i x φ' he
          simp only [Option.some.injEq, Prod.mk.injEq] at hc
          obtain ⟨rfl, rfl⟩ := hc
          cases hbb : b with
          | true =>
            rw [if_pos (hwant hbb)]
            left
            refine stepC_wp hT hs hd hlt (stepC_upS hle he) (hφ hbb) fun o2 h2 v w1 hs2 hext => hn o2 h2 v w1 ?_ hext
            refine ⟨hs2.size, hs2.tags, fun s z hl => ?_, hs2.res⟩
            rw [lk_cons] at hl
            split at hl
            · rename_i e; cases hl; exact (show SvOk o2 h2 w1 (.e (.gd b x)) _ from ⟨fun _ => hs2.slot s (.e x) (by rw [lk_cons, if_pos e]), fun e => by rw [hbb] at e; cases e⟩)
            · rename_i hne; exact hs2.slot s z (by rw [lk_cons, if_neg hne]; exact hl)
          | false => rw [if_neg (hwant' hbb)]; exact hskip x rfl hbb
        · cases hc
    · cases hc
theorem partC_up (hle : St.sub B A) {x : Operand} {r : List CV × Prop} (hr : partC B x = some r) : partC A x = some r := by
  unfold partC at hr ⊢
  split at hr
  · rename_i y p e; rw [rd_upS hle e]; exact hr
  · rename_i cs p e; rw [rd_upS hle e]; exact hr
  · cases hr
theorem fillC_up (hle : St.sub B A) {place : Nat → Option (Nat × Nat)} : ∀ {ps : List (Nat × Operand)} {cs : List CV} {r : List CV × Prop}, fillC B place cs ps = some r → fillC A place cs ps = some r
  | [], cs, r, hr => hr
  | (i, x) :: rest, cs, r, hr => by
    simp only [fillC] at hr ⊢
    split at hr
    · rename_i off s xs p e1 e2
      simp only [e1, partC_up hle e2]
      split at hr
      · split at hr
        · rename_i cs' q e3
          simp only [fillC_up hle e3]
          exact hr
        · cases hr
      · cases hr
    · cases hr
theorem evE_up (hle : St.sub B A) {op : Oper} {d : Nat} (hd : op.dst = some d) (hnew : isNew op.op = true) (hf : freshB A d = true) {n : Nat} {sl : List (Nat × SV)} {k : Nat} {r : Res} {rs : List (Nat × Res)} {φ : Prop} (he : evE lay B op = some (⟨n, sl, (k, r) :: rs⟩, φ)) :
    evE lay A op = some (⟨A.n, (d, .e (.r d)) :: A.sl, (d, r) :: A.rs⟩, φ) := by
  cases hop : op.op <;> simp only [hop, isNew, Bool.false_eq_true] at hnew
  · rename_i T
    simp only [evE, hop, hd] at he ⊢
    split at he
    · rename_i rw1 e1 e2 e3
      simp only [Option.some.injEq, Prod.mk.injEq, St.mk.injEq, List.cons.injEq] at he
      obtain ⟨⟨_, _, ⟨_, hr⟩, _⟩, hφ⟩ := he
      rw [hle.n] at e2
      simp only [e1, e2, hf, ← hr, ← hφ]
    · cases he
  · rename_i T len ps
    simp only [evE, hop, hd] at he ⊢
    split at he
    · rename_i sz ag E es by' z e1 e2 e3
      rw [hle.n] at e2
      simp only [e1, e2, hf]
      split at he
      · rename_i rE e4 e5
        try simp only [e4, e5]
        split at he
        · rename_i cs p e6
          simp only [fillC_up hle e6]
          split at he
          · rename_i xs e7 e8
            try simp only [e7, e8]
            split at he
            · rename_i e9
              try simp only [e9]
              simp only [Option.some.injEq, Prod.mk.injEq, St.mk.injEq, List.cons.injEq] at he
              obtain ⟨⟨_, _, ⟨_, hr⟩, _⟩, hφ⟩ := he
              simp only [← hr, ← hφ]
            · cases he
          · rename_i e7
            simp only [Option.some.injEq, Prod.mk.injEq, St.mk.injEq, List.cons.injEq] at he
            obtain ⟨⟨_, _, ⟨_, hr⟩, _⟩, hφ⟩ := he
            simp only [← hr, ← hφ]
        · cases he
      · cases he
    · cases he
theorem stepX_wp (hl : LayOk P lay) (hT : FnsOk P fns) {ops : Array Oper} {i : Nat} {op : Oper} (hi : ops[i]? = some op) {y : SV} {rn : List (Nat × Res)} {φ : Prop} {d : Nat} (hle : St.sub B A) (hs : Sat o h A tm w) (hd : op.dst = some d) (hlt : Nat.blt d A.n = true)
    (hc : stepX lay fns B ops op = some (y, rn, φ)) (hφ : φ) (hfr : rn ≠ [] → freshB A d = true) {K : Act → World → Prop} {QQ : Exit → Act → World → Prop}
    (hn : ∀ o2 h2 v w1, Sat o2 h2 ⟨A.n, (d, y) :: A.sl, rn ++ A.rs⟩ (tm.setIfInBounds d v) w1 → Ext o w o2 w1 → K ⟨tm.setIfInBounds d v, []⟩ w1) : wpOp P ops QQ i K ⟨tm, []⟩ w := by
  unfold stepX at hc
  split at hc
  · rename_i y' φ' hD
    simp only [Option.some.injEq, Prod.mk.injEq] at hc
    obtain ⟨rfl, rfl, rfl⟩ := hc
    exact stepD_wpS hl hT hi hle hs hd hlt hD hφ hn
  · split at hc
    · rename_i d' n2 sl2 k2 r2 l2 φ2 hnew hg hd2 hE
      simp only [Option.some.injEq, Prod.mk.injEq] at hc
      obtain ⟨rfl, rfl, rfl⟩ := hc
      rw [hd] at hd2
      cases hd2
      have hA := evE_up hle hd hnew (hfr (by simp)) hE
      obtain ⟨x, v, w', o', h', hr, hx, hs', hext⟩ := evE_ok hl hA hφ o h tm w hs
      unfold wpOp
      simp only [hi]
      rw [if_pos (by simp [Region.wanted, hg])]
      left
      unfold Oper.wp
      show op.upon P ⟨tm, []⟩ _ _ ((execOp (evl tm) op).run P w)
      rw [hr]
      have hput : ∀ v, (⟨tm, []⟩ : Act).put op.dst v = ⟨tm.setIfInBounds d v, []⟩ := fun v => by simp [Act.put, hd]
      rw [hput] at hs'
      rcases hx with rfl | ⟨rfl, rfl⟩
      · show K ((⟨tm, []⟩ : Act).put op.dst v) w'
        rw [hput]
        exact hn o' h' v w' hs' hext
      · show K ((⟨tm, []⟩ : Act).put op.dst undef) w'
        rw [hput]
        exact hn o' h' undef w' hs' hext
    · cases hc
theorem KW.drawnX (hl : LayOk P lay) (hT : FnsOk P fns) (hm : P.follows .mixedOrders = true) {id : Nat} {ops : Array Oper} {k : List K} {φ : Prop} {n : Nat} (hsz0 : Nat.blt n ops.size = true) (hdep : depOk ops = true) (htl : tailsOk ops n = true) {prs : List (Nat × SV × List (Nat × Res))} (hg : drawX lay fns ops A.rs A.n (takeN n ops.toList) A.sl True = some (prs, φ)) (hfr : freshX prs A = true) (hφ : φ)
    (hn : KW P (.ops ops (dropN n ops.toList) :: k) .normal ⟨A.n, (slotsX prs).reverse ++ A.sl, resOf (fun _ => true) 0 prs ++ A.rs⟩ Q) : KW P (.code (.region id ops true) :: k) .normal A Q := by
  rw [takeN_eq] at hg
  rw [dropN_eq] at hn
  have hsize : n < ops.size := by simpa [Nat.blt, Nat.succ_le_iff] using hsz0
  obtain ⟨_, hlen, hprs⟩ := drawX_spec hg hφ
  have hfx := freshX_ok hfr
  have hrn := stepX_rn hlen hprs
  have dep := depOk_ok hdep
  have hlen' : prs.length = n := by simp only [List.length_take, Array.length_toList] at hlen; omega
  have hstep := tailsOk_ok htl
  have hop : ∀ (i : Nat) op, i < n → ops[i]? = some op → ∃ d y rn ψ, prs[i]? = some (d, y, rn) ∧ op.dst = some d ∧ Nat.blt d A.n = true ∧ stepX lay fns ⟨A.n, pickS (((slotsX prs).take i).reverse ++ A.sl) (looks ops op), A.rs⟩ ops op = some (y, rn, ψ) ∧ ψ :=
    fun i op hin hi => hprs i op (by rw [List.getElem?_take, if_pos hin]; simpa using hi)
  have hslen : (slotsX prs).length = n := by rw [slotsX_length]; exact hlen'
  have hinv : ∀ (j : Nat) d y, (slotsX prs)[j]? = some (d, y) → ∃ op, ops[j]? = some op ∧ op.dst = some d := fun j d y hj => by
    have hltn : j < n := by rw [← hslen]; exact (List.getElem?_eq_some_iff.1 hj).1
    have hlt : j < ops.size := by omega
    obtain ⟨d', y', rn', ψ, g1, g2, _⟩ := hop j ops[j] hltn (Array.getElem?_eq_getElem hlt)
    rw [slotsX_get g1] at hj
    cases hj
    exact ⟨_, Array.getElem?_eq_getElem hlt, g2⟩
  have hpw : (slotsX prs).Pairwise (fun a b => a.1 ≠ b.1) := by
    rw [List.pairwise_iff_getElem]
    intro i j hi hj hij e
    obtain ⟨oi, h1, h2⟩ := hinv i (slotsX prs)[i].1 (slotsX prs)[i].2 (List.getElem?_eq_getElem hi)
    obtain ⟨oj, h3, h4⟩ := hinv j (slotsX prs)[j].1 (slotsX prs)[j].2 (List.getElem?_eq_getElem hj)
    have := dep.dist i j oi oj _ h1 h3 h2 (by rw [h4, e])
    omega
  intro o h tm w hs
  show (Code.region id ops true).wp P (kq P (lift Q o w) k) ⟨tm, []⟩ w
  refine wp_region_any hm ?_
  have main : ∀ (fuel : Nat) (listed : Array Bool) (o' : Nat → Tag) (h' : Nat → Value) (tm' : Array Value) (w' : World), listed.size = ops.size → (∀ j, n ≤ j → listed.getD j false = false) → cntU (fun j => listed.getD j false) n + (ops.size - n) ≤ fuel →
      (∀ (i : Nat) oi, ops[i]? = some oi → listed.getD i false = true → ∀ e ∈ oi.after, Region.binds .any e = true → listed.getD e.on false = true) →
      Sat o' h' ⟨A.n, selL (fun j => listed.getD j false) 0 (slotsX prs) ++ A.sl, resOf (fun j => listed.getD j false) 0 prs ++ A.rs⟩ tm' w' → Ext o w o' w' → wpAny P .any ops (kq P (lift Q o w) k) fuel listed ⟨tm', []⟩ w' := by
    intro fuel
    -- all have come up
    have full : ∀ (listed : Array Bool) (o' : Nat → Tag) (h' : Nat → Value) (tm' : Array Value) (w' : World), (∀ j, j < n → listed.getD j false = true) →
        Sat o' h' ⟨A.n, selL (fun j => listed.getD j false) 0 (slotsX prs) ++ A.sl, resOf (fun j => listed.getD j false) 0 prs ++ A.rs⟩ tm' w' → Ext o w o' w' → kq P (lift Q o w) (.ops ops (ops.toList.drop n) :: k) .normal ⟨tm', []⟩ w' := by
      intro listed o' h' tm' w' hall hs' hx
      refine kq_mono (lift_trans hx) (.ops ops (ops.toList.drop n) :: k) .normal _ w' (hn o' h' tm' w' ?_)
      have hrs : resOf (fun j => listed.getD j false) 0 prs = resOf (fun _ => true) 0 prs := resOf_congr fun j hj => by simpa using hall j (by omega)
      refine ⟨hs'.size, hs'.tags, fun t x hl => hs'.slot t x ?_, fun i r hl => hs'.res i r (by simp only at hl ⊢; rw [hrs]; exact hl)⟩
      simp only at hl ⊢
      by_cases hex : ∃ y, (t, y) ∈ slotsX prs
      · obtain ⟨y, hy⟩ := hex
        have e1 := mem_lk (base := A.sl) (l := (slotsX prs).reverse) (List.pairwise_reverse.2 (hpw.imp fun h => Ne.symm h)) (List.mem_reverse.2 hy)
        rw [e1] at hl
        cases hl
        obtain ⟨j, hj⟩ := List.mem_iff_getElem?.1 hy
        refine mem_lk (hpw.sublist (selL_sub _ _ _)) (selL_mem.2 ⟨j, hj, ?_⟩)
        have : j < n := by rw [← hslen]; exact (List.getElem?_eq_some_iff.1 hj).1
        simpa using hall j this
      · have hno : ∀ y, (t, y) ∉ slotsX prs := fun y hy => hex ⟨y, hy⟩
        rw [nomem_lk fun y hy => hno y (List.mem_reverse.1 hy)] at hl
        rw [nomem_lk fun y hy => hno y ((selL_sub _ _ _).subset hy)]
        exact hl
    have done : ∀ (listed : Array Bool), listed.size = ops.size → Region.ready .any ops listed = [] → ∀ j, j < ops.size → listed.getD j false = true := by
      intro listed hsz hr j
      induction j using Nat.strongRecOn with
      | ind j ih =>
        intro hj
        cases hlj : listed.getD j false with
        | true => rfl
        | false =>
          exfalso
          have : j ∈ Region.ready .any ops listed := by
            rw [mem_ready]
            refine ⟨?_, ops[j], Array.getElem?_eq_getElem hj, fun e he hb => ?_⟩
            · rw [Array.getD_eq_getD_getElem?] at hlj ⊢
              rw [Array.getElem?_eq_getElem (by omega)] at hlj ⊢
              exact hlj
            · have hlt := dep.below j ops[j] (Array.getElem?_eq_getElem hj) e he hb
              exact ih e.on hlt (by omega)
          rw [hr] at this
          cases this
    induction fuel with
    | zero =>
      intro listed o' h' tm' w' hsz hnl hc
      omega
    | succ fuel ih =>
      intro listed o' h' tm' w' hsz hnl hc hcl hs' hx
      refine ⟨fun hr => (by have := done listed hsz hr n (by omega); rw [hnl n (Nat.le_refl n)] at this; cases this), fun i hi => ?_⟩
      by_cases hin : n ≤ i
      · obtain ⟨hun, op, hop', haft⟩ := mem_ready.1 hi
        have hlt : i < ops.size := (Array.getElem?_eq_some_iff.1 hop').1
        have hall : ∀ d j, j < i → i ≤ j + d → listed.getD j false = true := by
          intro d
          induction d with
          | zero => intro j h1 h2; omega
          | succ d ihd =>
            intro j h1 h2
            obtain ⟨q, oq, h3, h3', h4, e, h5, h6, h7⟩ := hstep i hin hlt j h1
            by_cases hqi : q = i
            · subst hqi
              rw [hop'] at h4
              cases h4
              rw [← h7]; exact haft e h5 h6
            · have := ihd q (by omega) (by omega)
              rw [← h7]; exact hcl q oq h4 this e h5 h6
        have hi0 : i = n := by
          rcases Nat.lt_or_ge n i with h | h
          · have := hall i n h (by omega)
            rw [hnl n (Nat.le_refl n)] at this; cases this
          · omega
        subst hi0
        have hf := full listed o' h' tm' w' (fun j hj => hall i j hj (by omega)) hs' hx
        exact (tailSeq hstep dep.below (ops.size - i) i (fuel + 1) listed ⟨tm', []⟩ w' (by omega) (Nat.le_refl _) hsz (fun j hj => hall i j hj (by omega)) hnl (by omega) hf).2 i hi
      obtain ⟨hun, op, hop', haft⟩ := mem_ready.1 hi
      have hlt : i < ops.size := (Array.getElem?_eq_some_iff.1 hop').1
      have hun' : listed.getD i false = false := by
        rw [Array.getD_eq_getD_getElem?, Array.getElem?_eq_getElem (by omega)] at hun ⊢
        exact hun
      obtain ⟨d, y, rn, ψ, g1, g2, g3, g4, g5⟩ := hop i op (by omega) hop'
      have gs := slotsX_get g1
      have hle : St.sub ⟨A.n, pickS (((slotsX prs).take i).reverse ++ A.sl) (looks ops op), A.rs⟩ ⟨A.n, selL (fun j => listed.getD j false) 0 (slotsX prs) ++ A.sl, resOf (fun j => listed.getD j false) 0 prs ++ A.rs⟩ := by
        refine ⟨rfl, fun i r hr => resOf_base hrn (fun j d y rn hj hne => (hfx j d y rn hj hne).2.2) hr, fun t x hl => ?_⟩
        obtain ⟨e1, hm⟩ := pickS_lk hl
        simp only at e1 ⊢
        by_cases hex : ∃ (j : Nat) (y' : SV), (slotsX prs)[j]? = some (t, y')
        · obtain ⟨j, y', hj⟩ := hex
          obtain ⟨oj, hoj, hdj⟩ := hinv j t y' hj
          have huniq : ∀ (j' : Nat) y'', (slotsX prs)[j']? = some (t, y'') → j' = j := fun j' y'' hj' => by
            obtain ⟨oj', hoj', hdj'⟩ := hinv j' t y'' hj'
            exact dep.dist j' j oj' oj t hoj' hoj hdj' hdj
          rcases dep.look i j op oj t hop' hoj hdj hm with ⟨hji, e, he, hb, heq⟩ | ⟨hij, e, he, hb, heq⟩
          · have hlj : listed.getD j false = true := by rw [← heq]; exact haft e he hb
            rw [mem_lk (List.pairwise_reverse.2 ((hpw.sublist (List.take_sublist i (slotsX prs))).imp fun h => Ne.symm h)) (List.mem_reverse.2 (List.mem_of_getElem? (i := j) (by rw [List.getElem?_take, if_pos hji]; exact hj)))] at e1
            cases e1
            exact mem_lk (hpw.sublist (selL_sub _ _ _)) (selL_mem.2 ⟨j, hj, by simpa using hlj⟩)
          · have hlj : listed.getD j false = false := by
              cases hlj : listed.getD j false with
              | false => rfl
              | true =>
                have := hcl j oj hoj hlj e he hb
                rw [heq, hun'] at this
                cases this
            rw [nomem_lk fun y'' hy => ?_] at e1
            · rw [nomem_lk fun y'' hy => ?_]
              · exact e1
              · obtain ⟨j', hj', hl'⟩ := selL_mem.1 hy
                rw [huniq j' y'' hj'] at hl'
                simp [hlj] at hl'
            · obtain ⟨j', hj'⟩ := List.mem_iff_getElem?.1 (List.mem_reverse.1 hy)
              rw [List.getElem?_take] at hj'
              split at hj'
              · have := huniq j' y'' hj'; omega
              · cases hj'
        · have hno : ∀ y, (t, y) ∉ slotsX prs := fun y hy => by
            obtain ⟨j, hj⟩ := List.mem_iff_getElem?.1 hy
            exact hex ⟨j, y, hj⟩
          rw [nomem_lk fun y hy => hno y (List.mem_of_mem_take (List.mem_reverse.1 hy))] at e1
          rw [nomem_lk fun y hy => hno y ((selL_sub _ _ _).subset hy)]
          exact e1
      have hfr' : rn ≠ [] → freshB ⟨A.n, selL (fun j => listed.getD j false) 0 (slotsX prs) ++ A.sl, resOf (fun j => listed.getD j false) 0 prs ++ A.rs⟩ d = true := fun hne => by
        obtain ⟨f1, f2, f3⟩ := hfx i d y rn g1 hne
        refine fresh_super f2 f3 (fun t x hm => ?_) (fun t r hm => ?_)
        · obtain ⟨j, hj, hlj⟩ := selL_mem.1 hm
          obtain ⟨y', rn', hj'⟩ := slotsX_inv hj
          simp only [Nat.zero_add] at hlj
          exact (f1 j _ _ _ hj' (by rintro rfl; rw [hun'] at hlj; cases hlj)).1 |> fun h => by rw [slotsX_get hj'] at hj; cases hj; exact h
        · obtain ⟨j, d', y', rn', hj, hlj, hm'⟩ := resOf_mem hm
          simp only [Nat.zero_add] at hlj
          have := (f1 j d' y' rn' hj (by rintro rfl; rw [hun'] at hlj; cases hlj)).2
          exact freshR_mem this hm'
      refine stepX_wp hl hT hop' hle hs' g2 g3 g4 g5 hfr' fun o2 h2 v w1 hs2 hext => ?_
      have hget : ∀ j, (listed.setIfInBounds i true).getD j false = if j = i then true else listed.getD j false := fun j => by
        by_cases hji : j = i
        · subst hji
          rw [if_pos rfl, Array.getD_eq_getD_getElem?, Array.getElem?_setIfInBounds_self]
          simp [hsz, hlt]
        · rw [if_neg hji, getD_set_ne false (Ne.symm hji)]
      refine ih (listed.setIfInBounds i true) o2 h2 _ w1 (by simp [hsz]) (fun j hj => by rw [hget, if_neg (by omega)]; exact hnl j hj) ?_ ?_ ⟨hs2.size, hs2.tags, fun t x hlk => hs2.slot t x ?_, fun t r hlk => hs2.res t r (resOf_step hrn hpw g1 (by simp [hget]) (fun j hj => by simp [hget, hj]) hlk)⟩ (hx.trans hext)
      · have := cntU_upd (ls := fun j => listed.getD j false) (ls' := fun j => (listed.setIfInBounds i true).getD j false) (i := i) (n := n) (by omega) hun' (by simp [hget]) fun j hj => by simp [hget, hj]
        omega
      · intro j oj hoj hlj e he hb
        rw [hget] at hlj ⊢
        by_cases he' : e.on = i
        · rw [if_pos he']
        · rw [if_neg he']
          by_cases hji : j = i
          · subst hji
            rw [hop'] at hoj
            cases hoj
            exact haft e he hb
          · rw [if_neg hji] at hlj
            exact hcl j oj hoj hlj e he hb
      · simp only at hlk ⊢
        rw [lk_cons]
        by_cases hdt : d = t
        · subst hdt
          rw [if_pos rfl]
          have := mem_lk (base := A.sl) (hpw.sublist (selL_sub (fun j => (listed.setIfInBounds i true).getD j false) 0 (slotsX prs))) (selL_mem.2 ⟨i, gs, by simp [hget]⟩)
          rw [this] at hlk
          exact hlk
        · rw [if_neg hdt]
          by_cases hex : ∃ (j : Nat) (y' : SV), (slotsX prs)[j]? = some (t, y') ∧ (listed.setIfInBounds i true).getD j false = true
          · obtain ⟨j, y', hj, hlj⟩ := hex
            have hji : j ≠ i := by
              rintro rfl
              rw [gs] at hj
              cases hj
              exact hdt rfl
            rw [hget, if_neg hji] at hlj
            have := mem_lk (base := A.sl) (hpw.sublist (selL_sub (fun j => (listed.setIfInBounds i true).getD j false) 0 (slotsX prs))) (selL_mem.2 ⟨j, hj, by simpa [hget, hji] using hlj⟩)
            rw [this] at hlk
            cases hlk
            exact mem_lk (hpw.sublist (selL_sub _ _ _)) (selL_mem.2 ⟨j, hj, by simpa using hlj⟩)
          · rw [nomem_lk fun y' hy => ?_] at hlk
            · rw [nomem_lk fun y' hy => ?_]
              · exact hlk
              · obtain ⟨j, hj, hlj⟩ := selL_mem.1 hy
                refine hex ⟨j, y', hj, ?_⟩
                rw [hget]
                split
                · rfl
                · simpa using hlj
            · obtain ⟨j, hj, hlj⟩ := selL_mem.1 hy
              exact hex ⟨j, y', hj, by simpa using hlj⟩
  refine main ops.size (Array.replicate ops.size false) o h tm w.drew (by simp) (fun j _ => by simp [Array.getD_eq_getD_getElem?, Array.getElem?_replicate]; split <;> rfl) ?_ ?_ ?_ (Ext.drew o w)
  · have : ∀ n, cntU (fun j => (Array.replicate ops.size false).getD j false) n ≤ n := by
      intro n
      induction n with
      | zero => exact Nat.le_refl _
      | succ n ih => simp only [cntU]; split <;> omega
    have := this n
    omega
  · intro i oi hoi hli
    simp [Array.getD_eq_getD_getElem?, Array.getElem?_replicate] at hli
    split at hli <;> cases hli
  · have hs' := hs.drew
    have hr0 : resOf (fun j => (Array.replicate ops.size false).getD j false) 0 prs = [] := resOf_none fun j => by
      simp [Array.getD_eq_getD_getElem?, Array.getElem?_replicate]
      split <;> rfl
    refine ⟨hs'.size, hs'.tags, fun t x hlk => hs'.slot t x ?_, fun i r hlk => hs'.res i r (by simp only at hlk ⊢; rw [hr0] at hlk; exact hlk)⟩
    rw [nomem_lk fun y hy => ?_] at hlk
    · exact hlk
    · obtain ⟨j, hj, hlj⟩ := selL_mem.1 hy
      simp [Array.getD_eq_getD_getElem?, Array.getElem?_replicate] at hlj
      split at hlj <;> cases hlj
theorem KW.goDX {k k' : List K} {e : Exit} (hl : LayOk P lay) (hT : FnsOk P fns) (hm : P.follows .mixedOrders = true) (f : Nat) {id : Nat} {ops : Array Oper} {φ ψ : Prop} (h : run2 lay fns f k e A True = (.code (.region id ops true) :: k', .normal, A', φ)) (n : Nat) (hsz0 : Nat.blt n ops.size = true) (hdep : depOk ops = true) (htl : tailsOk ops n = true)
    {prs : List (Nat × SV × List (Nat × Res))} (hg : drawX lay fns ops A'.rs A'.n (takeN n ops.toList) A'.sl True = some (prs, ψ)) (hfr : freshX prs A' = true) (hφ : φ) (hψ : ψ) (hn : KW P (.ops ops (dropN n ops.toList) :: k') .normal ⟨A'.n, (slotsX prs).reverse ++ A'.sl, resOf (fun _ => true) 0 prs ++ A'.rs⟩ Q) : KW P k e A Q :=
  KW.go hl hT f h hφ (KW.drawnX hl hT hm hsz0 hdep htl hg hfr hψ hn)
end
end Go.Sy
namespace Go.Sy
variable [Drw]
section
variable {P : Program} {K0 : List K} {A : St} {Q : Exit → St → Prop} {ex : Exit} {o : Nat → Tag} {h : Nat → Value} {tm : Array Value} {w : World}
theorem Sat.nilB (hs : Sat o h A tm w) {i q d E k T : Nat} {f : Nat → Nat → CV} {cs : List EV} {bk : Option Nat} (hi : lk A.rs i = some (.box T cs bk)) (hq : nth cs q = some (.c (.lit (.slice none 0 0)))) (hf : freshB A d = true) (hid : i ≠ d) :
    Sat o (updH h d (.slice none 0 0)) ⟨A.n, A.sl, (i, .box T (setN cs q (.r d)) bk) :: (d, .own E (.sl 0 k f)) :: A.rs⟩ tm w := by
  have hc : Chg o h w o (updH h d (.slice none 0 0)) w (fun _ => False) A := by
    refine ⟨fun b hb => ⟨hb, rfl⟩, fun j b _ hb => ⟨hb, rfl⟩, fun j hj => ?_⟩
    have : j = d := Classical.byContradiction fun hne => hj (by simp [updH, hne])
    subst this; exact hf
  refine ⟨hs.size, hs.tags, fun s' x' hl' => hc.slot hs s' x' hl', fun j r hl' => ?_⟩
  rw [lk_cons] at hl'
  split at hl'
  · rename_i e
    subst e; cases hl'
    obtain ⟨b, vs, h0, h1, h2, h3, h4, h5⟩ := hc.resOk hs i _ (fun e => e) hi
    refine ⟨b, vs, h0, h1, h2, h3, by rw [setN_eq, List.length_set]; exact h4, fun q' x hx => ?_⟩
    rw [setN_eq, List.getElem?_set] at hx
    split at hx
    · rename_i e
      subst e
      split at hx
      · cases hx
        have hq' : cs[q]? = some (.c (.lit (.slice none 0 0))) := by rw [← nth_eq]; exact hq
        obtain ⟨u, hu, h6, h7⟩ := h5 q _ hq'
        refine ⟨u, hu, h6, ?_⟩
        have : u = .slice none 0 0 := h7.1
        rw [this]; simp [EvOk, updH]
      · cases hx
    · exact h5 q' x hx
  · rw [lk_cons] at hl'
    split at hl'
    · rename_i e
      subst e; cases hl'
      exact ⟨[], by simpa [updH] using World.ownsRow_nil w 0 E k, fun b hb => by simp [updH, Value.ownBlock] at hb, fun e q he => by omega⟩
    · exact hc.resOk hs j r (fun e => e) hl'
theorem KW.nilB (i q d E : Nat) (y : CV) {k' T : Nat} {f : Nat → Nat → CV} {cs : List EV} {bk : Option Nat} (hi : lk A.rs i = some (.box T cs bk)) (hq : nth cs q = some (.c (.lit (.slice none 0 0)))) (hy : y = .sl 0 k' f) (hf : freshB A d = true) (hid : Nat.beq i d = false)
    (hk : KW P K0 ex ⟨A.n, A.sl, (i, .box T (setN cs q (.r d)) bk) :: (d, .own E y) :: A.rs⟩ Q) : KW P K0 ex A Q := by
  subst hy
  exact KW.weaken (fun o h tm w hs => ⟨o, _, hs.nilB hi hq hf (fun e => by subst e; rw [Nat.beq_refl] at hid; cases hid), Ext.refl o w⟩) hk
theorem Sat.frzB (hs : Sat o h A tm w) {i j q T E n k : Nat} {f : Nat → Nat → CV} {cs : List EV} {bk : Option Nat} (hi : lk A.rs i = some (.box T cs bk)) (hq : nth cs q = some (.r j)) (hl : lk A.rs j = some (.own E (.sl n k f))) :
    Sat (frzO o j) h ⟨A.n, A.sl, (i, .box T (setN cs q (.c (.sl n k f))) bk) :: (j, .gone) :: A.rs⟩ tm w ∧ Ext o w (frzO o j) w := by
  have hk : Keep o w (frzO o j) w := fun b hb => ⟨by simp [frzO, hb], rfl⟩
  obtain ⟨h1, h2⟩ := hs.frz hl (ss := []) rfl
  have hij : j ≠ i := fun e => by subst e; rw [hl] at hi; cases hi
  have hrep : RepV (frzO o j) w (.sl n k f) (h j) := by
    obtain ⟨vs, hown, htag, hv⟩ := hs.res j _ hl
    rcases hown.2 with ⟨k1, rfl⟩ | ⟨b, cap, cur, k1, k2, k3, k4, k5, k6, k7⟩
    · exact ⟨none, 0, k1, Nat.le_refl _, Nat.zero_le _, .inl rfl⟩
    · refine ⟨_, cap, k1, k4, k5, .inr ⟨b, 0, rfl, by simp [frzO, htag b (by rw [k1]; rfl)], fun e q he hq => ?_⟩⟩
      obtain ⟨u, hu, hx⟩ := hv e q he hq
      have := hown.cells (g := b) (by rw [k1]; rfl) _ _ hu
      rw [addr_add] at this
      exact ⟨u, this, hx.keep hk⟩
  refine ⟨⟨h1.size, h1.tags, h1.slot, fun j' r hl' => ?_⟩, h2⟩
  rw [lk_cons] at hl'
  split at hl'
  · rename_i e
    subst e; cases hl'
    obtain ⟨b, vs, g0, g1, g2, g3, g4, g5⟩ := h1.res i (.box T cs bk) (by rw [lk_cons, if_neg hij]; exact hi)
    refine ⟨b, vs, g0, g1, g2, g3, by rw [setN_eq, List.length_set]; exact g4, fun q' x hx => ?_⟩
    rw [setN_eq, List.getElem?_set] at hx
    split at hx
    · rename_i e
      subst e
      split at hx
      · cases hx
        have hq' : cs[q]? = some (.r j) := by rw [← nth_eq]; exact hq
        obtain ⟨u, hu, h6, h7⟩ := g5 q _ hq'
        refine ⟨u, hu, h6, ?_⟩
        have : u = h j := h7
        subst this; exact hrep
      · cases hx
    · exact g5 q' x hx
  · exact h1.res j' r hl'
theorem KW.frzB (i q j : Nat) {T E n k' : Nat} {f : Nat → Nat → CV} {x : CV} {cs : List EV} {bk : Option Nat} (hi : lk A.rs i = some (.box T cs bk)) (hq : nth cs q = some (.r j)) (hl : lk A.rs j = some (.own E x)) (hx : x = .sl n k' f)
    (hk : KW P K0 ex ⟨A.n, A.sl, (i, .box T (setN cs q (.c x)) bk) :: (j, .gone) :: A.rs⟩ Q) : KW P K0 ex A Q := by
  subst hx
  exact KW.weaken (fun o h tm w hs => ⟨_, _, hs.frzB hi hq hl⟩) hk
end
end Go.Sy
end
section
set_option linter.unusedSectionVars false
set_option linter.unusedVariables false
set_option linter.unusedSimpArgs false
namespace Go.Pu
open Go.Sy
variable [Drw]
structure NodeP where
  kind : Int
  k : Int
  args : List Int
structure FormP where
  vars : Int
  nodes : List NodeP
  top : Int
def node0 : NodeP := ⟨0, 0, []⟩
def nodeC (x : NodeP) (q : Nat) : CV := match q with
  | 0 => .lit (.int .i64 x.kind)
  | 1 => .lit (.int .i64 x.k)
  | _ => ints x.args
def nodesC (ns : List NodeP) : CV := .sl ns.length 3 fun e q => nodeC (ns.getD e node0) q
def formC (f : FormP) : List CV := [.lit (.int .i64 f.vars), nodesC f.nodes, .lit (.int .i64 f.top)]
structure NodeIn (x : NodeP) : Prop where
  kind : inK .i64 x.kind
  k : inK .i64 x.k
  args : ∀ a ∈ x.args, inK .i64 a
structure FormIn (f : FormP) : Prop where
  vars : inK .i64 f.vars
  top : inK .i64 f.top
  nodes : ∀ x ∈ f.nodes, NodeIn x
def argsB (kind : Int) (n : Int) : Bool := if kind = 0 then decide (n = 0) else if kind = 1 then decide (n = 1) else decide (1 ≤ n) && decide (n ≤ 16)
def kE (x : NodeP) : Int :=
  if x.kind = 0 then if x.k ≠ 0 ∧ x.k ≠ 1 then 3 else 0
  else if x.kind = 4 then if x.k < 1 ∨ (x.args.length : Int) < x.k then 3 else 0
  else if x.k ≠ 0 then 2 else 0
def nodeE (vars : Int) (i : Nat) (x : NodeP) : Int :=
  if x.kind < 0 ∨ 5 < x.kind then 7
  else if argsB x.kind x.args.length = false then 11
  else if (x.args.any fun a => decide (a < 0) || decide (vars + i ≤ a)) = true then 10
  else kE x
def nodesE (vars : Int) : Nat → List NodeP → Int
  | _, [] => 0
  | i, x :: r => if nodeE vars i x = 0 then nodesE vars (i + 1) r else nodeE vars i x
def argB (f : FormP) (a : Int) : Bool := decide (0 ≤ f.vars) && decide (0 ≤ a) && (decide (a < f.vars) || decide (a - f.vars < f.nodes.length))
def formE (f : FormP) : Int :=
  if f.vars < 0 ∨ 24 < f.vars then 3
  else if 128 < f.nodes.length then 4
  else if nodesE f.vars 0 f.nodes = 0 then if argB f f.top = true then 0 else 10
  else nodesE f.vars 0 f.nodes
def stateE (f : FormP) (s : Int) : Int := if formE f = 0 then if s < 0 ∨ ishl 1 f.vars ≤ s then 3 else 0 else formE f
def cntT (v : List Bool) (args : List Int) : Int := ((args.filter fun a => v.getD a.toNat false).length : Nat)
def nodeV (x : NodeP) (n : Int) : Bool :=
  if x.kind = 0 then decide (x.k = 1) else if x.kind = 1 then decide (n = 0) else if x.kind = 2 then decide (n = x.args.length)
  else if x.kind = 3 then decide (0 < n) else if x.kind = 4 then decide (x.k ≤ n) else if x.kind = 5 then decide (n % 2 = 1) else false
def valuesF (v : List Bool) : List NodeP → List Bool
  | [] => v
  | x :: r => valuesF (v ++ [nodeV x (cntT v x.args)]) r
def eventsV (s : Int) (n : Nat) : List Bool := (List.range n).map fun i => bit s i
def valsF (f : FormP) (s : Int) : List Bool := valuesF (eventsV s f.vars.toNat) f.nodes
def valueF (f : FormP) (s : Int) : Bool := (valsF f s).getD f.top.toNat false
theorem valuesF_length : ∀ (r : List NodeP) (v : List Bool), (valuesF v r).length = v.length + r.length
  | [], v => by simp [valuesF]
  | x :: r, v => by rw [valuesF, valuesF_length r]; simp; omega
theorem eventsV_length (s : Int) (n : Nat) : (eventsV s n).length = n := by simp [eventsV]
end Go.Pu
namespace Go.Sy
open Go.Pu
variable [Drw]
def unN : CV → List NodeP
  | .sl n _ f => (List.range n).map fun e => ⟨cvInt (f e 0), cvInt (f e 1), unI (f e 2)⟩
  | _ => []
def isN (x : CV) : Prop := CVEq x (nodesC (unN x))
@[simp] theorem unN_nodesC (ns : List NodeP) : unN (nodesC ns) = ns := by
  unfold unN nodesC
  refine List.ext_getElem (by simp) fun j h1 h2 => ?_
  simp only [List.getElem_map, List.getElem_range]
  have e : ns.getD j node0 = ns[j] := by simp [List.getD_eq_getElem?_getD, h2]
  rw [e]
  simp [nodeC, cvInt]
@[simp] theorem isN_nodesC (ns : List NodeP) : isN (nodesC ns) := by unfold isN; rw [unN_nodesC]; exact CVEq.refl _
def fF (g : FormP → SV) (p : FormP → Prop) : List EV → Option (SV × Prop)
  | [.ag [.lit (.int .i64 a), x, .lit (.int .i64 b)]] => some (g ⟨a, unN x, b⟩, isN x ∧ p ⟨a, unN x, b⟩)
  | _ => none
def fFI (g : FormP → Int → SV) (p : FormP → Int → Prop) : List EV → Option (SV × Prop)
  | [.ag [.lit (.int .i64 a), x, .lit (.int .i64 b)], .c (.lit (.int .i64 s))] => some (g ⟨a, unN x, b⟩ s, isN x ∧ p ⟨a, unN x, b⟩ s)
  | _ => none
theorem form_eq {a b : Int} {x : CV} (h : isN x) : EvEq (.ag [.lit (.int .i64 a), x, .lit (.int .i64 b)]) (.ag (formC ⟨a, unN x, b⟩)) :=
  ⟨rfl, fun q y z hy hz => by
    match q, hy, hz with
    | 0, hy, hz => simp [formC] at hy hz; subst hy; subst hz; exact CVEq.refl _
    | 1, hy, hz => simp [formC] at hy hz; subst hy; subst hz; exact h
    | 2, hy, hz => simp [formC] at hy hz; subst hy; subst hz; exact CVEq.refl _
    | q + 3, hy, hz => simp at hy⟩
section
variable {P : Program} {f : FuncId}
theorem fF_ok {g : FormP → SV} {p : FormP → Prop} (h : ∀ x, p x → DoesF P f [.ag (formC x)] [] (g x) []) : ∀ ys y φ, fF g p ys = some (y, φ) → φ → DoesF P f ys [] y [] := by
  intro ys y φ he hφ
  unfold fF at he
  split at he
  · simp only [Option.some.injEq, Prod.mk.injEq] at he
    obtain ⟨rfl, rfl⟩ := he
    refine DoesF.conv ?_ (h _ hφ.2)
    exact ⟨form_eq hφ.1, trivial⟩
  · cases he
theorem fFI_ok {g : FormP → Int → SV} {p : FormP → Int → Prop} (h : ∀ x s, p x s → DoesF P f [.ag (formC x), iV s] [] (g x s) []) : ∀ ys y φ, fFI g p ys = some (y, φ) → φ → DoesF P f ys [] y [] := by
  intro ys y φ he hφ
  unfold fFI at he
  split at he
  · simp only [Option.some.injEq, Prod.mk.injEq] at he
    obtain ⟨rfl, rfl⟩ := he
    refine DoesF.conv ?_ (h _ _ hφ.2)
    exact ⟨form_eq hφ.1, CVEq.refl _, trivial⟩
  · cases he
end
end Go.Sy
namespace Go.Pu
open Go.Sy
variable [Drw]
structure NodeOk (m : Int) (x : NodeP) : Prop where
  kind : 0 ≤ x.kind ∧ x.kind ≤ 5
  cnt : argsB x.kind x.args.length = true
  args : ∀ a ∈ x.args, 0 ≤ a ∧ a < m
  k : kE x = 0
structure FormOk (f : FormP) : Prop where
  vars : 0 ≤ f.vars ∧ f.vars ≤ 24
  len : f.nodes.length ≤ 128
  nodes : ∀ (q : Nat) (h : q < f.nodes.length), NodeOk (f.vars + q) f.nodes[q]
  top : 0 ≤ f.top ∧ f.top < f.vars + f.nodes.length
theorem nodeE_ok {vars : Int} {i : Nat} {x : NodeP} (h : nodeE vars i x = 0) : NodeOk (vars + i) x := by
  unfold nodeE at h
  split at h
  · cases h
  · rename_i h1
    split at h
    · cases h
    · rename_i h2
      split at h
      · cases h
      · rename_i h3
        refine ⟨by omega, by simpa using h2, fun a ha => ?_, h⟩
        simp only [List.any_eq_true, Bool.or_eq_true, decide_eq_true_eq, not_exists, not_and, not_or] at h3
        have := h3 a ha
        omega
theorem nodesE_ok {vars : Int} : ∀ {ns : List NodeP} {i : Nat}, nodesE vars i ns = 0 → ∀ (q : Nat) (h : q < ns.length), NodeOk (vars + (i + q : Nat)) ns[q]
  | [], _, _, q, h => by simp at h
  | x :: r, i, h, q, hq => by
    unfold nodesE at h
    split at h
    · rename_i h1
      cases q with
      | zero => exact nodeE_ok h1
      | succ q =>
        have := nodesE_ok (i := i + 1) h q (by simpa using hq)
        have e : i + 1 + q = i + (q + 1) := by omega
        rw [e] at this
        simpa using this
    · rename_i h1; exact absurd h h1
theorem formE_ok {f : FormP} (h : formE f = 0) : FormOk f := by
  unfold formE at h
  split at h
  · cases h
  · rename_i h1
    split at h
    · cases h
    · rename_i h2
      split at h
      · rename_i h3
        split at h
        · rename_i h4
          refine ⟨by omega, by omega, fun q hq => by simpa using nodesE_ok h3 q hq, ?_⟩
          simp only [argB, Bool.and_eq_true, Bool.or_eq_true, decide_eq_true_eq] at h4
          omega
        · cases h
      · rename_i h3; exact absurd h h3
theorem stateE_ok {f : FormP} {s : Int} (h : stateE f s = 0) : formE f = 0 ∧ 0 ≤ s ∧ s < ishl 1 f.vars := by
  unfold stateE at h
  split at h
  · split at h
    · cases h
    · exact ⟨by assumption, by omega, by omega⟩
  · contradiction
theorem stateE_eq {f : FormP} {s : Int} (h : formE f = 0) (h' : 0 ≤ s ∧ s < ishl 1 f.vars) : stateE f s = 0 := by
  rw [stateE, if_pos h, if_neg (by omega)]
theorem valuesF_app : ∀ (r r' : List NodeP) (v : List Bool), valuesF v (r ++ r') = valuesF (valuesF v r) r'
  | [], r', v => rfl
  | x :: r, r', v => by simp only [List.cons_append, valuesF]; exact valuesF_app r r' _
theorem valuesF_one (r : List NodeP) (x : NodeP) (v : List Bool) : valuesF v (r ++ [x]) = valuesF v r ++ [nodeV x (cntT (valuesF v r) x.args)] := by
  rw [valuesF_app]; rfl
theorem valuesF_pre : ∀ (r : List NodeP) (v : List Bool), ∃ w, valuesF v r = v ++ w
  | [], v => ⟨[], by simp [valuesF]⟩
  | x :: r, v => by
    obtain ⟨w, hw⟩ := valuesF_pre r (v ++ [nodeV x (cntT v x.args)])
    exact ⟨_, by rw [valuesF, hw, List.append_assoc]⟩
theorem valuesF_get (r : List NodeP) (v : List Bool) {i : Nat} (h : i < v.length) : (valuesF v r).getD i false = v.getD i false := by
  obtain ⟨w, hw⟩ := valuesF_pre r v
  rw [hw, List.getD_eq_getElem?_getD, List.getElem?_append_left h, ← List.getD_eq_getElem?_getD]
theorem cntT_congr {v w : List Bool} {args : List Int} (h : ∀ a ∈ args, v.getD a.toNat false = w.getD a.toNat false) : cntT v args = cntT w args := by
  unfold cntT
  congr 2
  exact List.filter_congr h
def valsN (f : FormP) (s : Int) (q : Nat) : List Bool := valuesF (eventsV s f.vars.toNat) (f.nodes.take q)
theorem valsN_zero (f : FormP) (s : Int) : valsN f s 0 = eventsV s f.vars.toNat := rfl
theorem valsN_all (f : FormP) (s : Int) {q : Nat} (h : f.nodes.length ≤ q) : valsN f s q = valsF f s := by rw [valsN, List.take_of_length_le h]; rfl
theorem valsN_length (f : FormP) (s : Int) {q : Nat} (h : q ≤ f.nodes.length) : (valsN f s q).length = f.vars.toNat + q := by
  rw [valsN, valuesF_length, eventsV_length, List.length_take]; omega
theorem valsN_succ (f : FormP) (s : Int) {q : Nat} (h : q < f.nodes.length) : valsN f s (q + 1) = valsN f s q ++ [nodeV f.nodes[q] (cntT (valsN f s q) f.nodes[q].args)] := by
  rw [valsN, List.take_succ_eq_append_getElem h, valuesF_one]; rfl
theorem valsN_pre (f : FormP) (s : Int) {q : Nat} (h : q ≤ f.nodes.length) {i : Nat} (hi : i < f.vars.toNat + q) : (valsN f s q).getD i false = (valsF f s).getD i false := by
  have e : valsF f s = valuesF (valsN f s q) (f.nodes.drop q) := by
    rw [valsN, ← valuesF_app, List.take_append_drop]; rfl
  rw [e, valuesF_get _ _ (by rw [valsN_length f s h]; exact hi)]
theorem valsF_length (f : FormP) (s : Int) : (valsF f s).length = f.vars.toNat + f.nodes.length := by
  rw [← valsN_all f s (Nat.le_refl _), valsN_length f s (Nat.le_refl _)]
theorem valsF_event (f : FormP) (s : Int) {i : Nat} (hi : i < f.vars.toNat) : (valsF f s).getD i false = bit s i := by
  rw [← valsN_pre f s (Nat.zero_le _) (by omega), valsN_zero, eventsV, List.getD_eq_getElem?_getD]
  simp [hi]
theorem valsF_node {f : FormP} (hf : FormOk f) (s : Int) {q : Nat} (hq : q < f.nodes.length) : (valsF f s).getD (f.vars.toNat + q) false = nodeV f.nodes[q] (cntT (valsF f s) f.nodes[q].args) := by
  rw [← valsN_pre f s (q := q + 1) (by omega) (by omega), valsN_succ f s hq, List.getD_eq_getElem?_getD, List.getElem?_append_right (by rw [valsN_length f s (by omega)]; omega), valsN_length f s (by omega)]
  simp only [Nat.sub_self, List.getElem?_cons_zero, Option.getD_some]
  congr 1
  refine cntT_congr fun a ha => valsN_pre f s (by omega) ?_
  have h1 := (hf.nodes q hq).args a ha
  have h2 := hf.vars
  omega
theorem cntT_take (v : List Bool) (l : List Int) {j : Nat} (h : j < l.length) : cntT v (l.take (j + 1)) = cntT v (l.take j) + if v.getD l[j].toNat false = true then 1 else 0 := by
  unfold cntT
  rw [List.take_succ_eq_append_getElem h, List.filter_append, List.length_append]
  cases hb : v.getD l[j].toNat false <;> simp [List.filter_cons, List.filter_nil, hb, -List.getD_eq_getElem?_getD]
theorem cntT_rng (v : List Bool) (l : List Int) : 0 ≤ cntT v l ∧ cntT v l ≤ l.length := by
  unfold cntT
  have := List.length_filter_le (fun a => v.getD a.toNat false) l
  omega
theorem argsB_le {k : Int} {n : Nat} (h : argsB k n = true) : n ≤ 16 := by
  unfold argsB at h
  split at h
  · simp at h; omega
  · split at h
    · simp at h; omega
    · simp at h; omega
end Go.Pu
namespace Go.Pu
open Go.Sy Go.Sort Go.Lib Go.Proofs
variable [Drw]
def inN (n : Nat) (x : Int) : Prop := validS x = true ∧ ∀ i, n ≤ i → bit x i = false
theorem inN_iff {n : Nat} (hn : n ≤ 24) {x : Int} : inN n x ↔ 0 ≤ x ∧ x < ((2 ^ n : Nat) : Int) := by
  have hp : 2 ^ n ≤ 2 ^ 24 := Nat.pow_le_pow_right (by decide) hn
  constructor
  · rintro ⟨h1, h2⟩
    have h3 := validS_iff.1 h1
    obtain ⟨m, rfl⟩ := Int.eq_ofNat_of_zero_le h3.1
    refine ⟨h3.1, ?_⟩
    have : m < 2 ^ n := Nat.lt_pow_two_of_testBit m fun i hi => by
      rw [← bit_nat (by omega) i]; exact h2 i hi
    omega
  · rintro ⟨h1, h2⟩
    obtain ⟨m, rfl⟩ := Int.eq_ofNat_of_zero_le h1
    have hm : m < 2 ^ n := by omega
    have h3 : m < 16777216 := by
      have : (2 : Nat) ^ 24 = 16777216 := rfl
      omega
    refine ⟨validS_iff.2 ⟨h1, by omega⟩, fun i hi => ?_⟩
    rw [bit_nat (by omega) i]
    exact Nat.testBit_lt_two_pow (Nat.lt_of_lt_of_le hm (Nat.pow_le_pow_right (by decide) hi))
theorem inN_of {n : Nat} {x : Int} (hn : n ≤ 24) (hr : rng x) (h : ∀ i, n ≤ i → bit x i = false) : inN n x := ⟨validS_of hr fun i hi => h i (by omega), h⟩
theorem inN.ext {n : Nat} {x y : Int} (hx : inN n x) (hy : inN n y) (h : ∀ i, i < n → bit x i = bit y i) : x = y :=
  valid_ext hx.1 hy.1 fun i _ => by
    by_cases hi : i < n
    · exact h i hi
    · rw [hx.2 i (by omega), hy.2 i (by omega)]
def allN (n : Nat) : Int := ((2 ^ n - 1 : Nat) : Int)
theorem bit_allN {n : Nat} (hn : n ≤ 24) (i : Nat) : bit (allN n) i = decide (i < n) := by
  have hp : 2 ^ n ≤ 2 ^ 24 := Nat.pow_le_pow_right (by decide) hn
  have h24 : (2 : Nat) ^ 24 = 16777216 := rfl
  rw [allN, bit_nat (by omega), Nat.testBit_two_pow_sub_one]
theorem inN_allN {n : Nat} (hn : n ≤ 24) : inN n (allN n) := (inN_iff hn).2 ⟨by unfold allN; omega, by unfold allN; have := Nat.two_pow_pos n; omega⟩
theorem ishl_one (n : Nat) : ishl 1 (n : Int) = ((2 ^ n : Nat) : Int) := one_eq n
theorem inN_iand {n : Nat} (hn : n ≤ 24) {x y : Int} (h : inN n x) : inN n (iand .i64 x y) := inN_of hn (by simp) fun i hi => by simp [h.2 i hi]
theorem inN_iandNot {n : Nat} (hn : n ≤ 24) {x y : Int} (h : inN n x) : inN n (iandNot .i64 x y) := inN_of hn (by simp) fun i hi => by simp [h.2 i hi]
theorem inN_ior {n : Nat} (hn : n ≤ 24) {x y : Int} (h : inN n x) (h' : inN n y) : inN n (ior .i64 x y) := inN_of hn (by simp) fun i hi => by simp [h.2 i hi, h'.2 i hi]
@[simp] theorem rng_ixor (a b : Int) : rng (ixor .i64 a b) := by rw [ixor_eq]; exact toInt_rng _
theorem iand_zero' {x y : Int} : iand .i64 x y = 0 ↔ ∀ i, i < 64 → (bit x i && bit y i) = false := by
  rw [eq_zero_iff (by simp)]
  simp
def tabF (f : FormP) (n : Nat) : List Bool := (List.range (2 ^ n)).map fun x : Nat => valueF f x
theorem tabF_length (f : FormP) (n : Nat) : (tabF f n).length = 2 ^ n := by simp [tabF]
theorem tabF_get (f : FormP) {n : Nat} {x : Nat} (hx : x < 2 ^ n) : (tabF f n).getD x false = valueF f x := by
  rw [List.getD_eq_getElem?_getD]; simp [tabF, hx]
def cubeC (c : Int × Int) (q : Nat) : CV := match q with
  | 0 => .lit (.int .i64 c.1)
  | _ => .lit (.int .i64 c.2)
def cubes (l : List (Int × Int)) : CV := rows 2 cubeC (0, 0) l
def ordC (a b : Int × Int) : Int :=
  if cmpI (popc (ior .i64 a.1 a.2)) (popc (ior .i64 b.1 b.2)) ≠ 0 then cmpI (popc (ior .i64 a.1 a.2)) (popc (ior .i64 b.1 b.2))
  else if cmpI a.1 b.1 ≠ 0 then cmpI a.1 b.1 else cmpI a.2 b.2
theorem cmpI_neg {a b : Int} : cmpI a b < 0 ↔ a < b := by unfold cmpI; split <;> (try split) <;> omega
theorem cmpI_zero {a b : Int} : cmpI a b = 0 ↔ a = b := by unfold cmpI; split <;> (try split) <;> omega
theorem ordC_neg (a b : Int × Int) : ordC a b < 0 ↔ popc (ior .i64 a.1 a.2) < popc (ior .i64 b.1 b.2) ∨ (popc (ior .i64 a.1 a.2) = popc (ior .i64 b.1 b.2) ∧ (a.1 < b.1 ∨ (a.1 = b.1 ∧ a.2 < b.2))) := by
  unfold ordC
  split
  · rename_i h; rw [cmpI_neg]; rw [Ne, cmpI_zero] at h; omega
  · rename_i h
    rw [Ne, cmpI_zero, Decidable.not_not] at h
    split
    · rename_i h2; rw [cmpI_neg]; rw [Ne, cmpI_zero] at h2; omega
    · rename_i h2; rw [cmpI_neg]; rw [Ne, cmpI_zero, Decidable.not_not] at h2; omega
def AscC (l : List (Int × Int)) : Prop := l.Pairwise fun a b => ordC a b < 0
theorem AscC.unique {l l' : List (Int × Int)} (h : AscC l) (h' : AscC l') (hm : ∀ x, x ∈ l ↔ x ∈ l') : l = l' := by
  induction l generalizing l' with
  | nil =>
    cases l' with
    | nil => rfl
    | cons y l' => exact absurd ((hm y).2 (.head _)) (by simp)
  | cons x l ih =>
    cases l' with
    | nil => exact absurd ((hm x).1 (.head _)) (by simp)
    | cons y l' =>
      have h1 := List.pairwise_cons.1 h
      have h2 := List.pairwise_cons.1 h'
      have irr : ∀ z, ¬ ordC z z < 0 := fun z => by simp [ordC_neg]
      have asy : ∀ a b, ordC a b < 0 → ¬ ordC b a < 0 := fun a b => by simp only [ordC_neg]; omega
      have exy : x = y := by
        rcases List.mem_cons.1 ((hm x).1 (.head _)) with e | e
        · exact e
        · rcases List.mem_cons.1 ((hm y).2 (.head _)) with e' | e'
          · exact e'.symm
          · exact absurd (h1.1 y e') (asy _ _ (h2.1 x e))
      subst exy
      rw [ih h1.2 h2.2 fun z => ?_]
      constructor
      · intro hz
        rcases List.mem_cons.1 ((hm z).1 (.tail _ hz)) with e | e
        · subst e; exact absurd (h1.1 z hz) (irr z)
        · exact e
      · intro hz
        rcases List.mem_cons.1 ((hm z).2 (.tail _ hz)) with e | e
        · subst e; exact absurd (h2.1 z hz) (irr z)
        · exact e
end Go.Pu
namespace Go.Pu
open Go.Sy
variable [Drw]
def markA (c : Int → Bool) (m : List Bool) (args : List Int) : List Bool := args.foldl (fun m a => m.set a.toNat (m.getD a.toNat false || c a)) m
def markN (n : Nat) (ns : List NodeP) (c : Nat → Int → Bool) : Nat → List Bool → List Bool
  | 0, m => m
  | i + 1, m => markN n ns c i (if m.getD (n + i) false = true then markA (c i) m (ns.getD i node0).args else m)
def mark0 (f : FormP) : List Bool := (List.replicate (f.vars.toNat + f.nodes.length) false).set f.top.toNat true
def marksF (f : FormP) (c : Nat → Int → Bool) : List Bool := markN f.vars.toNat f.nodes c f.nodes.length (mark0 f)
theorem markA_length (c : Int → Bool) : ∀ (args : List Int) (m : List Bool), (markA c m args).length = m.length
  | [], m => rfl
  | a :: r, m => by
    have := markA_length c r (m.set a.toNat (m.getD a.toNat false || c a))
    rw [List.length_set] at this
    exact this
theorem markA_cons (c : Int → Bool) (m : List Bool) (a : Int) (r : List Int) : markA c m (a :: r) = markA c (m.set a.toNat (m.getD a.toNat false || c a)) r := rfl
theorem mark0_length (f : FormP) : (mark0 f).length = f.vars.toNat + f.nodes.length := by simp [mark0]
theorem markN_length (n : Nat) (ns : List NodeP) (c : Nat → Int → Bool) : ∀ (i : Nat) (m : List Bool), (markN n ns c i m).length = m.length
  | 0, m => rfl
  | i + 1, m => by
    rw [markN, markN_length n ns c i]
    split
    · exact markA_length _ _ _
    · rfl
theorem marksF_length (f : FormP) (c : Nat → Int → Bool) : (marksF f c).length = f.vars.toNat + f.nodes.length := by rw [marksF, markN_length, mark0_length]
theorem cntT_all {v : List Bool} {args : List Int} : cntT v args = args.length ↔ ∀ a ∈ args, v.getD a.toNat false = true := by
  unfold cntT
  rw [Int.natCast_inj]
  exact List.length_filter_eq_length_iff
theorem cntT_pos {v : List Bool} {args : List Int} : 0 < cntT v args ↔ ∃ a ∈ args, v.getD a.toNat false = true := by
  unfold cntT
  rw [Int.natCast_pos, List.length_pos_iff_exists_mem]
  simp only [List.mem_filter]
end Go.Pu
end
section
set_option linter.unusedSectionVars false
set_option linter.unusedVariables false
set_option linter.unusedSimpArgs false
namespace Go.Proofs.YtocnofkagckhkaaGreatDoor
open Go.Sy Go.Pu
variable [Drw]
theorem arguments_does (kind n : Int) : DoesF Tryz.prog 134 [iV kind, iV n] [] (sB (argsB kind n)) [] := by
  refine DoesF.body _ Tryz.func134 rfl rfl rfl rfl ?_
  refine KW.goIf lay_ok T9_ok 100 rfl (by simp) rfl trivial (fun h => ?_) fun h => ?_
  · have h' : kind = 0 := by simpa using h
    refine KW.goRet lay_ok T9_ok 100 rfl rfl ?_ (by simp) trivial
    subst h'
    simp [SV.ren, EV.ren, argsB]
    rw [Bool.eq_iff_iff]; simp
  · have h' : ¬ kind = 0 := by simpa using h
    refine KW.goIf lay_ok T9_ok 100 rfl (by simp) rfl trivial (fun h => ?_) fun h => ?_
    · have h2 : kind = 1 := by simpa using h
      refine KW.goRet lay_ok T9_ok 100 rfl rfl ?_ (by simp) trivial
      subst h2
      simp [SV.ren, EV.ren, argsB]
      rw [Bool.eq_iff_iff]; simp
    · have h2 : ¬ kind = 1 := by simpa using h
      refine KW.goRet lay_ok T9_ok 100 rfl rfl ?_ (by simp) trivial
      simp [SV.ren, EV.ren, argsB, h', h2]
theorem validF_does (f : FormP) (a : Int) (hf : inK .i64 f.vars) (ha : inK .i64 a) : DoesF Tryz.prog 118 [.ag (formC f), iV a] [] (sB (argB f a)) [] := by
  refine DoesF.body _ Tryz.func118 rfl rfl rfl rfl ?_
  refine KW.goRet lay_ok T9_ok 100 rfl rfl ?_ ?_ trivial
  · simp [SV.ren, EV.ren, argB]
  · simp only [inK] at hf ha
    simp +contextual [inK] <;> (intros; omega)
theorem rvalidF_does (f : FormP) (a : Int) (hf : inK .i64 f.vars) (ha : inK .i64 a) : DoesF Tryz.prog 59 [.ag (formC f), iV a] [] (sB (argB f a)) [] := by
  refine DoesF.body _ Tryz.func59 rfl rfl rfl rfl ?_
  refine KW.goRet lay_ok T9_ok 100 rfl rfl ?_ ?_ trivial
  · simp [SV.ren, EV.ren, argB]
  · simp only [inK] at hf ha
    simp +contextual [inK] <;> (intros; omega)
end Go.Proofs.YtocnofkagckhkaaGreatDoor
namespace Go.Proofs.YtocnofkagckhkaaGreatDoor
open Go.Sy Go.Pu
variable [Drw]
def F1 : Fns := (134, fII (fun k n => sB (argsB k n)) fun _ _ => True) ::
  (118, fFI (fun f a => sB (argB f a)) fun f a => inK .i64 f.vars ∧ inK .i64 a) ::
  T9
theorem F1_ok : FnsOk Tryz.prog F1 := .cons (.cons (T9_ok) Tryz.func118 rfl rfl (fFI_ok fun f a h => validF_does f a h.1 h.2)) Tryz.func134 rfl rfl (fII_ok fun k n _ => arguments_does k n)
theorem checkNode_does (f : FormP) (i : Nat) (hi : i < f.nodes.length) (hin : FormIn f) (hv : 0 ≤ f.vars ∧ f.vars ≤ 24) (hl : f.nodes.length ≤ 128) :
    DoesF Tryz.prog 117 [.ag (formC f), iV i] [] (.e (eV (nodeE f.vars i (f.nodes.getD i node0)))) [] := by
  refine DoesF.body _ Tryz.func117 rfl rfl rfl rfl ?_
  obtain ⟨vars, ns, top⟩ := f
  simp only at hi hv hl ⊢
  have hx : NodeIn (ns.getD i node0) := hin.nodes _ (by rw [List.getD_eq_getElem?_getD, List.getElem?_eq_getElem hi]; exact List.getElem_mem hi)
  generalize hX : ns.getD i node0 = X at hx
  have hXi : ns.getD (Int.toNat (i : Int)) node0 = X := hX
  refine KW.goIf lay_ok F1_ok 100 rfl (by simp; omega) rfl trivial (fun h => ?_) fun h => ?_
  · have h' : X.kind < 0 ∨ 5 < X.kind := by
      have e : (decide (X.kind < 0) || decide (5 < X.kind)) = true := by rw [← hXi]; exact h
      simpa using e
    refine KW.goRet lay_ok F1_ok 100 rfl rfl ?_ (by simp) trivial
    simp [SV.ren, EV.ren, nodeE, h', errV]
  · have h1 : ¬ (X.kind < 0 ∨ 5 < X.kind) := by
      have e : (decide (X.kind < 0) || decide (5 < X.kind)) = false := by rw [← hXi]; exact h
      simpa using e
    refine KW.goIf lay_ok F1_ok 100 rfl (by simp) rfl trivial (fun h => ?_) fun h => ?_
    · have h2 : argsB X.kind X.args.length = false := by
        have e : (!argsB X.kind X.args.length) = true := by rw [← hXi]; exact h
        simpa using e
      refine KW.goRet lay_ok F1_ok 100 rfl rfl ?_ (by simp) trivial
      simp [SV.ren, EV.ren, nodeE, h1, h2, errV]
    · have h2 : argsB X.kind X.args.length = true := by
        have e : (!argsB X.kind X.args.length) = false := by rw [← hXi]; exact h
        simpa using e
      have hal : X.args.length ≤ 16 := by
        unfold argsB at h2
        split at h2
        · rw [decide_eq_true_iff] at h2; omega
        · split at h2
          · rw [decide_eq_true_iff] at h2; omega
          · rw [Bool.and_eq_true, decide_eq_true_iff, decide_eq_true_iff] at h2; omega
      refine KW.goLpR lay_ok F1_ok 100 rfl (I := fun q : Nat => ⟨Tryz.f117.ntmps, [(1, sI i), (2, .e (.r 2)), (5, .e (.r 5)), (31, .e (lV X.args)), (32, sI X.args.length), (33, sI q)],
          [(2, .box 24 [iV vars, .c (nodesC ns), iV top] none), (5, .box 66 [iV X.kind, iV X.k, lV X.args] none)]⟩)
        (R := fun q => q ≤ X.args.length ∧ ((X.args.take q).any fun a => decide (a < 0) || decide (vars + i ≤ a)) = false) (m := fun q => X.args.length - q) 0 [(2, 2), (5, 5)] rfl rfl ⟨rfl, rfl, rfl, (by rw [← hXi]; rfl), (by rw [← hXi]; rfl), rfl, trivial⟩ (by simp) ⟨by simp, by simp⟩ ⟨rfl, (by rw [← hXi]; rfl), trivial⟩ ?_
      rintro q ⟨g1, g2⟩
      refine KW.goIf lay_ok F1_ok 100 rfl (by simp) rfl trivial (fun h => ?_) fun h => ?_
      · have hq : q < X.args.length := by simpa using h
        have hg : X.args.getD (Int.toNat (q : Int)) 0 = X.args[q] := by simp [List.getD_eq_getElem?_getD, hq]
        refine KW.goIf lay_ok F1_ok 100 rfl (by simp [inK] <;> omega) rfl trivial (fun h => ?_) fun h => ?_
        · have h3 : (decide (X.args[q] < 0) || decide (vars + i ≤ X.args[q])) = true := by rw [← hg]; exact h
          have h4 : (X.args.any fun a => decide (a < 0) || decide (vars + i ≤ a)) = true := List.any_eq_true.2 ⟨_, List.getElem_mem hq, h3⟩
          refine KW.goOutR lay_ok F1_ok 100 rfl (by simp) ?_
          refine KW.goRet lay_ok F1_ok 100 rfl rfl ?_ (by simp) trivial
          unfold nodeE
          rw [if_neg h1, if_neg (by rw [h2]; simp), if_pos h4]
          simp [SV.ren, EV.ren, errV]
        · have h3 : (decide (X.args[q] < 0) || decide (vars + i ≤ X.args[q])) = false := by rw [← hg]; exact h
          refine KW.goToR lay_ok F1_ok 100 rfl (q + 1) [(2, 2), (5, 5)] rfl rfl ⟨rfl, rfl, rfl, rfl, rfl, rfl, trivial⟩ (by simp [inK]; omega) ⟨⟨by omega, ?_⟩, by omega⟩ ⟨rfl, rfl, trivial⟩
          rw [List.take_succ_eq_append_getElem hq, List.any_append, g2]
          simpa using h3
      · have hq : q = X.args.length := by simp at h; omega
        rw [hq, List.take_length] at g2
        have hE : nodeE vars i X = kE X := by
          unfold nodeE
          rw [if_neg h1, if_neg (by rw [h2]; simp), if_neg (by rw [g2]; simp)]
        rw [hE]
        refine KW.goOut lay_ok F1_ok 100 rfl (by simp) ?_
        refine KW.goIf lay_ok F1_ok 100 rfl (by simp) rfl trivial (fun h => ?_) fun h => ?_
        · have hk : X.kind = 0 := by simpa using h
          refine KW.goIf lay_ok F1_ok 100 rfl (by simp +contextual) rfl trivial (fun h => ?_) fun h => ?_
          · have hk2 : X.k ≠ 0 ∧ X.k ≠ 1 := by simpa using h
            refine KW.goRet lay_ok F1_ok 100 rfl rfl ?_ (by simp) trivial
            unfold kE
            rw [if_pos hk, if_pos hk2]
            simp [SV.ren, EV.ren, errV]
          · have hk2 : ¬ (X.k ≠ 0 ∧ X.k ≠ 1) := by
              intro hc; simp [hc.1, hc.2] at h
            refine KW.goRet lay_ok F1_ok 100 rfl rfl ?_ (by simp) trivial
            unfold kE
            rw [if_pos hk, if_neg hk2]
            simp [SV.ren, EV.ren, errV]
        · have hk : ¬ X.kind = 0 := by simpa using h
          refine KW.goIf lay_ok F1_ok 100 rfl (by simp) rfl trivial (fun h => ?_) fun h => ?_
          · have hk4 : X.kind = 4 := by simpa using h
            refine KW.goIf lay_ok F1_ok 100 rfl (by simp +contextual) rfl trivial (fun h => ?_) fun h => ?_
            · have hk2 : X.k < 1 ∨ (X.args.length : Int) < X.k := by simpa using h
              refine KW.goRet lay_ok F1_ok 100 rfl rfl ?_ (by simp) trivial
              unfold kE
              rw [if_neg hk, if_pos hk4, if_pos hk2]
              simp [SV.ren, EV.ren, errV]
            · have hk2 : ¬ (X.k < 1 ∨ (X.args.length : Int) < X.k) := by
                intro hc
                have e : (decide (X.k < 1) || decide ((X.args.length : Int) < X.k)) = false := h
                rw [Bool.or_eq_false_iff, decide_eq_false_iff_not, decide_eq_false_iff_not] at e
                exact hc.elim e.1 e.2
              refine KW.goRet lay_ok F1_ok 100 rfl rfl ?_ (by simp) trivial
              unfold kE
              rw [if_neg hk, if_pos hk4, if_neg hk2]
              simp [SV.ren, EV.ren, errV]
          · have hk4 : ¬ X.kind = 4 := by simpa using h
            refine KW.goIf lay_ok F1_ok 100 rfl (by simp) rfl trivial (fun h => ?_) fun h => ?_
            · have hk2 : X.k ≠ 0 := by simpa using h
              refine KW.goRet lay_ok F1_ok 100 rfl rfl ?_ (by simp) trivial
              unfold kE
              rw [if_neg hk, if_neg hk4, if_pos hk2]
              simp [SV.ren, EV.ren, errV]
            · have hk2 : ¬ X.k ≠ 0 := by simpa using h
              refine KW.goRet lay_ok F1_ok 100 rfl rfl ?_ (by simp) trivial
              unfold kE
              rw [if_neg hk, if_neg hk4, if_neg hk2]
              simp [SV.ren, EV.ren, errV]
end Go.Proofs.YtocnofkagckhkaaGreatDoor
namespace Go.Proofs.YtocnofkagckhkaaGreatDoor
open Go.Sy Go.Pu
variable [Drw]
def nodePre (f : FormP) (i : Int) : Prop := ∃ n : Nat, i = n ∧ n < f.nodes.length ∧ FormIn f ∧ (0 ≤ f.vars ∧ f.vars ≤ 24) ∧ f.nodes.length ≤ 128
def F2 : Fns := (117, fFI (fun f i => .e (eV (nodeE f.vars i.toNat (f.nodes.getD i.toNat node0)))) nodePre) ::
  F1
theorem F2_ok : FnsOk Tryz.prog F2 := .cons (F1_ok) Tryz.func117 rfl rfl (fFI_ok fun f i h => by obtain ⟨n, rfl, h1, h2, h3, h4⟩ := h; exact checkNode_does f n h1 h2 h3 h4)
theorem checkF_does (f : FormP) (hin : FormIn f) : DoesF Tryz.prog 89 [.ag (formC f)] [] (.e (eV (formE f))) [] := by
  refine DoesF.body _ Tryz.func89 rfl rfl rfl rfl ?_
  obtain ⟨vars, ns, top⟩ := f
  refine KW.goIf lay_ok F2_ok 100 rfl (by simp +contextual) rfl trivial (fun h => ?_) fun h => ?_
  · have h1 : vars < 0 ∨ 24 < vars := by simpa using h
    refine KW.goRet lay_ok F2_ok 100 rfl rfl ?_ (by simp) trivial
    simp [SV.ren, EV.ren, formE, h1, errV]
  · have h1 : ¬ (vars < 0 ∨ 24 < vars) := by
      intro hc
      have e : (decide (vars < 0) || decide (24 < vars)) = false := h
      rw [Bool.or_eq_false_iff, decide_eq_false_iff_not, decide_eq_false_iff_not] at e
      exact hc.elim e.1 e.2
    refine KW.goIf lay_ok F2_ok 100 rfl (by simp) rfl trivial (fun h => ?_) fun h => ?_
    · have h2 : 128 < ns.length := by
        have e : decide ((128 : Int) < (ns.length : Int)) = true := h
        rw [decide_eq_true_iff] at e; omega
      refine KW.goRet lay_ok F2_ok 100 rfl rfl ?_ (by simp) trivial
      simp [SV.ren, EV.ren, formE, h1, h2, errV]
    · have h2 : ¬ 128 < ns.length := by
        have e : decide ((128 : Int) < (ns.length : Int)) = false := h
        rw [decide_eq_false_iff_not] at e; omega
      refine KW.goLpR lay_ok F2_ok 100 rfl (I := fun q : Nat => ⟨Tryz.f89.ntmps, [(1, .e (.r 1)), (21, sI ns.length), (22, sI q)], [(1, .box 24 [iV vars, .c (nodesC ns), iV top] none)]⟩)
        (R := fun q => q ≤ ns.length ∧ nodesE vars q (ns.drop q) = nodesE vars 0 ns) (m := fun q => ns.length - q) 0 [(1, 1)] rfl rfl ⟨rfl, rfl, rfl, trivial⟩ (by simp) ⟨by simp, by simp⟩ ⟨rfl, trivial⟩ ?_
      rintro q ⟨g1, g2⟩
      refine KW.goIf lay_ok F2_ok 100 rfl (by simp) rfl trivial (fun h => ?_) fun h => ?_
      · have hq : q < ns.length := by simpa using h
        have hg : ns.getD q node0 = ns[q] := by simp [List.getD_eq_getElem?_getD, hq]
        rw [List.drop_eq_getElem_cons hq, nodesE] at g2
        have hpre : nodePre ⟨vars, ns, top⟩ q := ⟨q, rfl, hq, hin, by simp only; omega, by simp only; omega⟩
        refine KW.goIf lay_ok F2_ok 100 rfl (by simp only [unN_nodesC, isN_nodesC, true_and, and_true, ifcV_errV]; exact hpre) rfl trivial (fun h => ?_) fun h => ?_
        · simp only [unN_nodesC, Int.toNat_natCast, hg] at h
          have h3 : ¬ nodeE vars q ns[q] = 0 := by
            have e : (!isNilB (errV 47 (nodeE vars q ns[q]))) = true := h
            simpa using e
          rw [if_neg h3] at g2
          refine KW.goOutR lay_ok F2_ok 100 rfl (by simp) ?_
          refine KW.goRet lay_ok F2_ok 100 rfl rfl ?_ (by simp) trivial
          simp only [unN_nodesC, Int.toNat_natCast, hg]
          have e : formE ⟨vars, ns, top⟩ = nodeE vars q ns[q] := by
            unfold formE
            simp only [if_neg h1, if_neg h2, ← g2, if_neg h3]
          rw [e]; rfl
        · simp only [unN_nodesC, Int.toNat_natCast, hg] at h
          have h3 : nodeE vars q ns[q] = 0 := by
            have e : (!isNilB (errV 47 (nodeE vars q ns[q]))) = false := h
            simpa using e
          rw [if_pos h3] at g2
          exact KW.goToR lay_ok F2_ok 100 rfl (q + 1) [(1, 1)] rfl rfl ⟨rfl, rfl, rfl, trivial⟩ (by simp [inK]; omega) ⟨⟨by omega, g2⟩, by omega⟩ ⟨rfl, trivial⟩
      · have hq : q = ns.length := by simp at h; omega
        rw [hq, List.drop_length, nodesE] at g2
        refine KW.goOut lay_ok F2_ok 100 rfl (by simp) ?_
        refine KW.goIf lay_ok F2_ok 100 rfl (by simp only [unN_nodesC, isN_nodesC, true_and, and_true]; exact ⟨hin.vars, hin.top⟩) rfl trivial (fun h => ?_) fun h => ?_
        · simp only [unN_nodesC] at h
          have h3 : argB ⟨vars, ns, top⟩ top = false := by
            have e : (!argB ⟨vars, ns, top⟩ top) = true := h
            simpa using e
          refine KW.goRet lay_ok F2_ok 100 rfl rfl ?_ (by simp) trivial
          simp [SV.ren, EV.ren, formE, h1, h2, ← g2, h3, errV]
        · simp only [unN_nodesC] at h
          have h3 : argB ⟨vars, ns, top⟩ top = true := by
            have e : (!argB ⟨vars, ns, top⟩ top) = false := h
            simpa using e
          refine KW.goRet lay_ok F2_ok 100 rfl rfl ?_ (by simp) trivial
          simp [SV.ren, EV.ren, formE, h1, h2, ← g2, h3, errV]
end Go.Proofs.YtocnofkagckhkaaGreatDoor
namespace Go.Proofs.YtocnofkagckhkaaGreatDoor
open Go.Sy Go.Pu
variable [Drw]
theorem rnode_does (f : FormP) (i : Nat) (hi : i < f.nodes.length) (hin : FormIn f) (hv : 0 ≤ f.vars ∧ f.vars ≤ 24) (hl : f.nodes.length ≤ 128) :
    DoesF Tryz.prog 58 [.ag (formC f), iV i] [] (sI (nodeE f.vars i (f.nodes.getD i node0))) [] := by
  refine DoesF.body _ Tryz.func58 rfl rfl rfl rfl ?_
  obtain ⟨vars, ns, top⟩ := f
  simp only at hi hv hl ⊢
  have hx : NodeIn (ns.getD i node0) := hin.nodes _ (by rw [List.getD_eq_getElem?_getD, List.getElem?_eq_getElem hi]; exact List.getElem_mem hi)
  generalize hX : ns.getD i node0 = X at hx
  have hXi : ns.getD (Int.toNat (i : Int)) node0 = X := hX
  refine KW.goIf lay_ok F2_ok 100 rfl (by simp; omega) rfl trivial (fun h => ?_) fun h => ?_
  · have hk : X.kind = 0 := by rw [← hXi]; simpa using h
    have h1 : ¬ (X.kind < 0 ∨ 5 < X.kind) := by omega
    refine KW.goIf lay_ok F2_ok 100 rfl (by simp +contextual) rfl trivial (fun h => ?_) fun h => ?_
    · have e : (decide ((X.args.length : Int) < 0) || decide ((0 : Int) < (X.args.length : Int))) = true := by rw [← hXi]; exact h
      have h2 : argsB X.kind X.args.length = false := by
        rw [Bool.or_eq_true, decide_eq_true_iff, decide_eq_true_iff] at e
        rw [hk, Bool.eq_false_iff]
        intro hc
        simp only [argsB] at hc
        simp at hc; simp [hc] at e
      refine KW.goRet lay_ok F2_ok 100 rfl rfl ?_ (by simp) trivial
      simp [SV.ren, EV.ren, nodeE, h1, h2]
    · have e : (decide ((X.args.length : Int) < 0) || decide ((0 : Int) < (X.args.length : Int))) = false := by rw [← hXi]; exact h
      rw [Bool.or_eq_false_iff, decide_eq_false_iff_not, decide_eq_false_iff_not] at e
      have h2 : argsB X.kind X.args.length = true := by
        rw [hk]
        simp only [argsB]
        rw [if_pos trivial, decide_eq_true_iff]; omega
      refine KW.goLpR lay_ok F2_ok 100 rfl (I := fun q : Nat => ⟨Tryz.f58.ntmps, [(1, sI i), (2, .e (.r 2)), (5, .e (.r 5)), (39, .e (lV X.args)), (40, sI X.args.length), (41, sI q)],
          [(2, .box 24 [iV vars, .c (nodesC ns), iV top] none), (5, .box 66 [iV X.kind, iV X.k, lV X.args] none)]⟩)
        (R := fun q => q ≤ X.args.length ∧ ((X.args.take q).any fun a => decide (a < 0) || decide (vars + i ≤ a)) = false) (m := fun q => X.args.length - q) 0 [(2, 2), (5, 5)] rfl rfl ⟨rfl, rfl, rfl, (by rw [← hXi]; rfl), (by rw [← hXi]; rfl), rfl, trivial⟩ (by simp) ⟨by simp, by simp⟩ ⟨rfl, (by rw [← hXi]; rfl), trivial⟩ ?_
      rintro q ⟨g1, g2⟩
      refine KW.goIf lay_ok F2_ok 100 rfl (by simp) rfl trivial (fun h => ?_) fun h => ?_
      · have hq : q < X.args.length := by simpa using h
        have hg : X.args.getD (Int.toNat (q : Int)) 0 = X.args[q] := by simp [List.getD_eq_getElem?_getD, hq]
        refine KW.goIf lay_ok F2_ok 100 rfl (by simp [inK] <;> omega) rfl trivial (fun h => ?_) fun h => ?_
        · have h3 : (decide (X.args[q] < 0) || decide (vars + i ≤ X.args[q])) = true := by rw [← hg]; exact h
          have h4 : (X.args.any fun a => decide (a < 0) || decide (vars + i ≤ a)) = true := List.any_eq_true.2 ⟨_, List.getElem_mem hq, h3⟩
          refine KW.goOutR lay_ok F2_ok 100 rfl (by simp) ?_
          refine KW.goRet lay_ok F2_ok 100 rfl rfl ?_ (by simp) trivial
          unfold nodeE
          rw [if_neg h1, if_neg (by rw [h2]; simp), if_pos h4]
          simp [SV.ren, EV.ren]
        · have h3 : (decide (X.args[q] < 0) || decide (vars + i ≤ X.args[q])) = false := by rw [← hg]; exact h
          refine KW.goToR lay_ok F2_ok 100 rfl (q + 1) [(2, 2), (5, 5)] rfl rfl ⟨rfl, rfl, rfl, rfl, rfl, rfl, trivial⟩ (by simp [inK]; omega) ⟨⟨by omega, ?_⟩, by omega⟩ ⟨rfl, rfl, trivial⟩
          rw [List.take_succ_eq_append_getElem hq, List.any_append, g2]
          simpa using h3
      · have hq : q = X.args.length := by simp at h; omega
        rw [hq, List.take_length] at g2
        have hE : nodeE vars i X = kE X := by
          unfold nodeE
          rw [if_neg h1, if_neg (by rw [h2]; simp), if_neg (by rw [g2]; simp)]
        rw [hE]
        refine KW.goOut lay_ok F2_ok 100 rfl (by simp) ?_
        refine KW.goIf lay_ok F2_ok 100 rfl (by simp) rfl trivial (fun h => ?_) fun h => ?_
        · refine KW.goIf lay_ok F2_ok 100 rfl (by simp +contextual) rfl trivial (fun h => ?_) fun h => ?_
          · have hk2 : X.k ≠ 0 ∧ X.k ≠ 1 := by simpa using h
            refine KW.goRet lay_ok F2_ok 100 rfl rfl ?_ (by simp) trivial
            unfold kE
            rw [if_pos hk, if_pos hk2]
            simp [SV.ren, EV.ren]
          · have hk2 : ¬ (X.k ≠ 0 ∧ X.k ≠ 1) := by
              intro hc; simp [hc.1, hc.2] at h
            refine KW.goRet lay_ok F2_ok 100 rfl rfl ?_ (by simp) trivial
            unfold kE
            rw [if_pos hk, if_neg hk2]
            simp [SV.ren, EV.ren]
        · exact absurd hk (by simpa using h)
  · have hn0 : ¬ X.kind = 0 := by rw [← hXi]; simpa using h
    refine KW.goIf lay_ok F2_ok 100 rfl (by simp) rfl trivial (fun h => ?_) fun h => ?_
    · have hk : X.kind = 1 := by rw [← hXi]; simpa using h
      have h1 : ¬ (X.kind < 0 ∨ 5 < X.kind) := by omega
      refine KW.goIf lay_ok F2_ok 100 rfl (by simp +contextual) rfl trivial (fun h => ?_) fun h => ?_
      · have e : (decide ((X.args.length : Int) < 1) || decide ((1 : Int) < (X.args.length : Int))) = true := by rw [← hXi]; exact h
        have h2 : argsB X.kind X.args.length = false := by
          rw [Bool.or_eq_true, decide_eq_true_iff, decide_eq_true_iff] at e
          rw [hk, Bool.eq_false_iff]
          intro hc
          simp only [argsB] at hc
          simp at hc; omega
        refine KW.goRet lay_ok F2_ok 100 rfl rfl ?_ (by simp) trivial
        simp [SV.ren, EV.ren, nodeE, h1, h2]
      · have e : (decide ((X.args.length : Int) < 1) || decide ((1 : Int) < (X.args.length : Int))) = false := by rw [← hXi]; exact h
        rw [Bool.or_eq_false_iff, decide_eq_false_iff_not, decide_eq_false_iff_not] at e
        have h2 : argsB X.kind X.args.length = true := by
          rw [hk]
          simp only [argsB]
          first | (rw [if_pos trivial, decide_eq_true_iff]; omega) | (rw [if_neg (by decide), if_pos trivial, decide_eq_true_iff]; omega)
        refine KW.goLpR lay_ok F2_ok 100 rfl (I := fun q : Nat => ⟨Tryz.f58.ntmps, [(1, sI i), (2, .e (.r 2)), (5, .e (.r 5)), (39, .e (lV X.args)), (40, sI X.args.length), (41, sI q)],
            [(2, .box 24 [iV vars, .c (nodesC ns), iV top] none), (5, .box 66 [iV X.kind, iV X.k, lV X.args] none)]⟩)
          (R := fun q => q ≤ X.args.length ∧ ((X.args.take q).any fun a => decide (a < 0) || decide (vars + i ≤ a)) = false) (m := fun q => X.args.length - q) 0 [(2, 2), (5, 5)] rfl rfl ⟨rfl, rfl, rfl, (by rw [← hXi]; rfl), (by rw [← hXi]; rfl), rfl, trivial⟩ (by simp) ⟨by simp, by simp⟩ ⟨rfl, (by rw [← hXi]; rfl), trivial⟩ ?_
        rintro q ⟨g1, g2⟩
        refine KW.goIf lay_ok F2_ok 100 rfl (by simp) rfl trivial (fun h => ?_) fun h => ?_
        · have hq : q < X.args.length := by simpa using h
          have hg : X.args.getD (Int.toNat (q : Int)) 0 = X.args[q] := by simp [List.getD_eq_getElem?_getD, hq]
          refine KW.goIf lay_ok F2_ok 100 rfl (by simp [inK] <;> omega) rfl trivial (fun h => ?_) fun h => ?_
          · have h3 : (decide (X.args[q] < 0) || decide (vars + i ≤ X.args[q])) = true := by rw [← hg]; exact h
            have h4 : (X.args.any fun a => decide (a < 0) || decide (vars + i ≤ a)) = true := List.any_eq_true.2 ⟨_, List.getElem_mem hq, h3⟩
            refine KW.goOutR lay_ok F2_ok 100 rfl (by simp) ?_
            refine KW.goRet lay_ok F2_ok 100 rfl rfl ?_ (by simp) trivial
            unfold nodeE
            rw [if_neg h1, if_neg (by rw [h2]; simp), if_pos h4]
            simp [SV.ren, EV.ren]
          · have h3 : (decide (X.args[q] < 0) || decide (vars + i ≤ X.args[q])) = false := by rw [← hg]; exact h
            refine KW.goToR lay_ok F2_ok 100 rfl (q + 1) [(2, 2), (5, 5)] rfl rfl ⟨rfl, rfl, rfl, rfl, rfl, rfl, trivial⟩ (by simp [inK]; omega) ⟨⟨by omega, ?_⟩, by omega⟩ ⟨rfl, rfl, trivial⟩
            rw [List.take_succ_eq_append_getElem hq, List.any_append, g2]
            simpa using h3
        · have hq : q = X.args.length := by simp at h; omega
          rw [hq, List.take_length] at g2
          have hE : nodeE vars i X = kE X := by
            unfold nodeE
            rw [if_neg h1, if_neg (by rw [h2]; simp), if_neg (by rw [g2]; simp)]
          rw [hE]
          refine KW.goOut lay_ok F2_ok 100 rfl (by simp) ?_
          refine KW.goIf lay_ok F2_ok 100 rfl (by simp) rfl trivial (fun h => ?_) fun h => ?_
          · exact absurd (show X.kind = 0 by simpa using h) (by omega)
          · clear h
            refine KW.goIf lay_ok F2_ok 100 rfl (by simp) rfl trivial (fun h => ?_) fun h => ?_
            · exact absurd (show X.kind = 4 by simpa using h) (by omega)
            · refine KW.goIf lay_ok F2_ok 100 rfl (by simp) rfl trivial (fun h => ?_) fun h => ?_
              · have hk2 : X.k ≠ 0 := by simpa using h
                refine KW.goRet lay_ok F2_ok 100 rfl rfl ?_ (by simp) trivial
                unfold kE
                rw [if_neg (by omega), if_neg (by omega), if_pos hk2]
                simp [SV.ren, EV.ren]
              · have hk2 : ¬ X.k ≠ 0 := by simpa using h
                refine KW.goRet lay_ok F2_ok 100 rfl rfl ?_ (by simp) trivial
                unfold kE
                rw [if_neg (by omega), if_neg (by omega), if_neg hk2]
                simp [SV.ren, EV.ren]
    · have hn1 : ¬ X.kind = 1 := by rw [← hXi]; simpa using h
      refine KW.goIf lay_ok F2_ok 100 rfl (by simp) rfl trivial (fun h => ?_) fun h => ?_
      · have hk : X.kind = 2 := by rw [← hXi]; simpa using h
        refine KW.goIf lay_ok F2_ok 100 rfl (by simp) rfl trivial (fun h => ?_) fun h => absurd hk (by rw [← hXi]; simpa using h)
        have h1 : ¬ (X.kind < 0 ∨ 5 < X.kind) := by omega
        refine KW.goIf lay_ok F2_ok 100 rfl (by simp +contextual) rfl trivial (fun h => ?_) fun h => ?_
        · have e : (decide ((X.args.length : Int) < 1) || decide ((16 : Int) < (X.args.length : Int))) = true := by rw [← hXi]; exact h
          have h2 : argsB X.kind X.args.length = false := by
            rw [Bool.or_eq_true, decide_eq_true_iff, decide_eq_true_iff] at e
            rw [hk, Bool.eq_false_iff]
            intro hc
            simp only [argsB] at hc
            simp at hc; omega
          refine KW.goRet lay_ok F2_ok 100 rfl rfl ?_ (by simp) trivial
          simp [SV.ren, EV.ren, nodeE, h1, h2]
        · have e : (decide ((X.args.length : Int) < 1) || decide ((16 : Int) < (X.args.length : Int))) = false := by rw [← hXi]; exact h
          rw [Bool.or_eq_false_iff, decide_eq_false_iff_not, decide_eq_false_iff_not] at e
          have h2 : argsB X.kind X.args.length = true := by
            rw [hk]
            simp only [argsB]
            first | (rw [Bool.and_eq_true, decide_eq_true_iff, decide_eq_true_iff]; omega) | (simp; omega)
          refine KW.goLpR lay_ok F2_ok 100 rfl (I := fun q : Nat => ⟨Tryz.f58.ntmps, [(1, sI i), (2, .e (.r 2)), (5, .e (.r 5)), (39, .e (lV X.args)), (40, sI X.args.length), (41, sI q)],
              [(2, .box 24 [iV vars, .c (nodesC ns), iV top] none), (5, .box 66 [iV X.kind, iV X.k, lV X.args] none)]⟩)
            (R := fun q => q ≤ X.args.length ∧ ((X.args.take q).any fun a => decide (a < 0) || decide (vars + i ≤ a)) = false) (m := fun q => X.args.length - q) 0 [(2, 2), (5, 5)] rfl rfl ⟨rfl, rfl, rfl, (by rw [← hXi]; rfl), (by rw [← hXi]; rfl), rfl, trivial⟩ (by simp) ⟨by simp, by simp⟩ ⟨rfl, (by rw [← hXi]; rfl), trivial⟩ ?_
          rintro q ⟨g1, g2⟩
          refine KW.goIf lay_ok F2_ok 100 rfl (by simp) rfl trivial (fun h => ?_) fun h => ?_
          · have hq : q < X.args.length := by simpa using h
            have hg : X.args.getD (Int.toNat (q : Int)) 0 = X.args[q] := by simp [List.getD_eq_getElem?_getD, hq]
            refine KW.goIf lay_ok F2_ok 100 rfl (by simp [inK] <;> omega) rfl trivial (fun h => ?_) fun h => ?_
            · have h3 : (decide (X.args[q] < 0) || decide (vars + i ≤ X.args[q])) = true := by rw [← hg]; exact h
              have h4 : (X.args.any fun a => decide (a < 0) || decide (vars + i ≤ a)) = true := List.any_eq_true.2 ⟨_, List.getElem_mem hq, h3⟩
              refine KW.goOutR lay_ok F2_ok 100 rfl (by simp) ?_
              refine KW.goRet lay_ok F2_ok 100 rfl rfl ?_ (by simp) trivial
              unfold nodeE
              rw [if_neg h1, if_neg (by rw [h2]; simp), if_pos h4]
              simp [SV.ren, EV.ren]
            · have h3 : (decide (X.args[q] < 0) || decide (vars + i ≤ X.args[q])) = false := by rw [← hg]; exact h
              refine KW.goToR lay_ok F2_ok 100 rfl (q + 1) [(2, 2), (5, 5)] rfl rfl ⟨rfl, rfl, rfl, rfl, rfl, rfl, trivial⟩ (by simp [inK]; omega) ⟨⟨by omega, ?_⟩, by omega⟩ ⟨rfl, rfl, trivial⟩
              rw [List.take_succ_eq_append_getElem hq, List.any_append, g2]
              simpa using h3
          · have hq : q = X.args.length := by simp at h; omega
            rw [hq, List.take_length] at g2
            have hE : nodeE vars i X = kE X := by
              unfold nodeE
              rw [if_neg h1, if_neg (by rw [h2]; simp), if_neg (by rw [g2]; simp)]
            rw [hE]
            refine KW.goOut lay_ok F2_ok 100 rfl (by simp) ?_
            refine KW.goIf lay_ok F2_ok 100 rfl (by simp) rfl trivial (fun h => ?_) fun h => ?_
            · exact absurd (show X.kind = 0 by simpa using h) (by omega)
            · clear h
              refine KW.goIf lay_ok F2_ok 100 rfl (by simp) rfl trivial (fun h => ?_) fun h => ?_
              · exact absurd (show X.kind = 4 by simpa using h) (by omega)
              · refine KW.goIf lay_ok F2_ok 100 rfl (by simp) rfl trivial (fun h => ?_) fun h => ?_
                · have hk2 : X.k ≠ 0 := by simpa using h
                  refine KW.goRet lay_ok F2_ok 100 rfl rfl ?_ (by simp) trivial
                  unfold kE
                  rw [if_neg (by omega), if_neg (by omega), if_pos hk2]
                  simp [SV.ren, EV.ren]
                · have hk2 : ¬ X.k ≠ 0 := by simpa using h
                  refine KW.goRet lay_ok F2_ok 100 rfl rfl ?_ (by simp) trivial
                  unfold kE
                  rw [if_neg (by omega), if_neg (by omega), if_neg hk2]
                  simp [SV.ren, EV.ren]
      · have hn2 : ¬ X.kind = 2 := by rw [← hXi]; simpa using h
        refine KW.goIf lay_ok F2_ok 100 rfl (by simp) rfl trivial (fun h => ?_) fun h => ?_
        · have hk : X.kind = 3 := by rw [← hXi]; simpa using h
          refine KW.goIf lay_ok F2_ok 100 rfl (by simp) rfl trivial (fun h => ?_) fun h => absurd hk (by rw [← hXi]; simpa using h)
          have h1 : ¬ (X.kind < 0 ∨ 5 < X.kind) := by omega
          refine KW.goIf lay_ok F2_ok 100 rfl (by simp +contextual) rfl trivial (fun h => ?_) fun h => ?_
          · have e : (decide ((X.args.length : Int) < 1) || decide ((16 : Int) < (X.args.length : Int))) = true := by rw [← hXi]; exact h
            have h2 : argsB X.kind X.args.length = false := by
              rw [Bool.or_eq_true, decide_eq_true_iff, decide_eq_true_iff] at e
              rw [hk, Bool.eq_false_iff]
              intro hc
              simp only [argsB] at hc
              simp at hc; omega
            refine KW.goRet lay_ok F2_ok 100 rfl rfl ?_ (by simp) trivial
            simp [SV.ren, EV.ren, nodeE, h1, h2]
          · have e : (decide ((X.args.length : Int) < 1) || decide ((16 : Int) < (X.args.length : Int))) = false := by rw [← hXi]; exact h
            rw [Bool.or_eq_false_iff, decide_eq_false_iff_not, decide_eq_false_iff_not] at e
            have h2 : argsB X.kind X.args.length = true := by
              rw [hk]
              simp only [argsB]
              first | (rw [Bool.and_eq_true, decide_eq_true_iff, decide_eq_true_iff]; omega) | (simp; omega)
            refine KW.goLpR lay_ok F2_ok 100 rfl (I := fun q : Nat => ⟨Tryz.f58.ntmps, [(1, sI i), (2, .e (.r 2)), (5, .e (.r 5)), (39, .e (lV X.args)), (40, sI X.args.length), (41, sI q)],
                [(2, .box 24 [iV vars, .c (nodesC ns), iV top] none), (5, .box 66 [iV X.kind, iV X.k, lV X.args] none)]⟩)
              (R := fun q => q ≤ X.args.length ∧ ((X.args.take q).any fun a => decide (a < 0) || decide (vars + i ≤ a)) = false) (m := fun q => X.args.length - q) 0 [(2, 2), (5, 5)] rfl rfl ⟨rfl, rfl, rfl, (by rw [← hXi]; rfl), (by rw [← hXi]; rfl), rfl, trivial⟩ (by simp) ⟨by simp, by simp⟩ ⟨rfl, (by rw [← hXi]; rfl), trivial⟩ ?_
            rintro q ⟨g1, g2⟩
            refine KW.goIf lay_ok F2_ok 100 rfl (by simp) rfl trivial (fun h => ?_) fun h => ?_
            · have hq : q < X.args.length := by simpa using h
              have hg : X.args.getD (Int.toNat (q : Int)) 0 = X.args[q] := by simp [List.getD_eq_getElem?_getD, hq]
              refine KW.goIf lay_ok F2_ok 100 rfl (by simp [inK] <;> omega) rfl trivial (fun h => ?_) fun h => ?_
              · have h3 : (decide (X.args[q] < 0) || decide (vars + i ≤ X.args[q])) = true := by rw [← hg]; exact h
                have h4 : (X.args.any fun a => decide (a < 0) || decide (vars + i ≤ a)) = true := List.any_eq_true.2 ⟨_, List.getElem_mem hq, h3⟩
                refine KW.goOutR lay_ok F2_ok 100 rfl (by simp) ?_
                refine KW.goRet lay_ok F2_ok 100 rfl rfl ?_ (by simp) trivial
                unfold nodeE
                rw [if_neg h1, if_neg (by rw [h2]; simp), if_pos h4]
                simp [SV.ren, EV.ren]
              · have h3 : (decide (X.args[q] < 0) || decide (vars + i ≤ X.args[q])) = false := by rw [← hg]; exact h
                refine KW.goToR lay_ok F2_ok 100 rfl (q + 1) [(2, 2), (5, 5)] rfl rfl ⟨rfl, rfl, rfl, rfl, rfl, rfl, trivial⟩ (by simp [inK]; omega) ⟨⟨by omega, ?_⟩, by omega⟩ ⟨rfl, rfl, trivial⟩
                rw [List.take_succ_eq_append_getElem hq, List.any_append, g2]
                simpa using h3
            · have hq : q = X.args.length := by simp at h; omega
              rw [hq, List.take_length] at g2
              have hE : nodeE vars i X = kE X := by
                unfold nodeE
                rw [if_neg h1, if_neg (by rw [h2]; simp), if_neg (by rw [g2]; simp)]
              rw [hE]
              refine KW.goOut lay_ok F2_ok 100 rfl (by simp) ?_
              refine KW.goIf lay_ok F2_ok 100 rfl (by simp) rfl trivial (fun h => ?_) fun h => ?_
              · exact absurd (show X.kind = 0 by simpa using h) (by omega)
              · clear h
                refine KW.goIf lay_ok F2_ok 100 rfl (by simp) rfl trivial (fun h => ?_) fun h => ?_
                · exact absurd (show X.kind = 4 by simpa using h) (by omega)
                · refine KW.goIf lay_ok F2_ok 100 rfl (by simp) rfl trivial (fun h => ?_) fun h => ?_
                  · have hk2 : X.k ≠ 0 := by simpa using h
                    refine KW.goRet lay_ok F2_ok 100 rfl rfl ?_ (by simp) trivial
                    unfold kE
                    rw [if_neg (by omega), if_neg (by omega), if_pos hk2]
                    simp [SV.ren, EV.ren]
                  · have hk2 : ¬ X.k ≠ 0 := by simpa using h
                    refine KW.goRet lay_ok F2_ok 100 rfl rfl ?_ (by simp) trivial
                    unfold kE
                    rw [if_neg (by omega), if_neg (by omega), if_neg hk2]
                    simp [SV.ren, EV.ren]
        · have hn3 : ¬ X.kind = 3 := by rw [← hXi]; simpa using h
          refine KW.goIf lay_ok F2_ok 100 rfl (by simp) rfl trivial (fun h => ?_) fun h => ?_
          · have hk : X.kind = 4 := by rw [← hXi]; simpa using h
            refine KW.goIf lay_ok F2_ok 100 rfl (by simp) rfl trivial (fun h => ?_) fun h => absurd hk (by rw [← hXi]; simpa using h)
            have h1 : ¬ (X.kind < 0 ∨ 5 < X.kind) := by omega
            refine KW.goIf lay_ok F2_ok 100 rfl (by simp +contextual) rfl trivial (fun h => ?_) fun h => ?_
            · have e : (decide ((X.args.length : Int) < 1) || decide ((16 : Int) < (X.args.length : Int))) = true := by rw [← hXi]; exact h
              have h2 : argsB X.kind X.args.length = false := by
                rw [Bool.or_eq_true, decide_eq_true_iff, decide_eq_true_iff] at e
                rw [hk, Bool.eq_false_iff]
                intro hc
                simp only [argsB] at hc
                simp at hc; omega
              refine KW.goRet lay_ok F2_ok 100 rfl rfl ?_ (by simp) trivial
              simp [SV.ren, EV.ren, nodeE, h1, h2]
            · have e : (decide ((X.args.length : Int) < 1) || decide ((16 : Int) < (X.args.length : Int))) = false := by rw [← hXi]; exact h
              rw [Bool.or_eq_false_iff, decide_eq_false_iff_not, decide_eq_false_iff_not] at e
              have h2 : argsB X.kind X.args.length = true := by
                rw [hk]
                simp only [argsB]
                first | (rw [Bool.and_eq_true, decide_eq_true_iff, decide_eq_true_iff]; omega) | (simp; omega)
              refine KW.goLpR lay_ok F2_ok 100 rfl (I := fun q : Nat => ⟨Tryz.f58.ntmps, [(1, sI i), (2, .e (.r 2)), (5, .e (.r 5)), (39, .e (lV X.args)), (40, sI X.args.length), (41, sI q)],
                  [(2, .box 24 [iV vars, .c (nodesC ns), iV top] none), (5, .box 66 [iV X.kind, iV X.k, lV X.args] none)]⟩)
                (R := fun q => q ≤ X.args.length ∧ ((X.args.take q).any fun a => decide (a < 0) || decide (vars + i ≤ a)) = false) (m := fun q => X.args.length - q) 0 [(2, 2), (5, 5)] rfl rfl ⟨rfl, rfl, rfl, (by rw [← hXi]; rfl), (by rw [← hXi]; rfl), rfl, trivial⟩ (by simp) ⟨by simp, by simp⟩ ⟨rfl, (by rw [← hXi]; rfl), trivial⟩ ?_
              rintro q ⟨g1, g2⟩
              refine KW.goIf lay_ok F2_ok 100 rfl (by simp) rfl trivial (fun h => ?_) fun h => ?_
              · have hq : q < X.args.length := by simpa using h
                have hg : X.args.getD (Int.toNat (q : Int)) 0 = X.args[q] := by simp [List.getD_eq_getElem?_getD, hq]
                refine KW.goIf lay_ok F2_ok 100 rfl (by simp [inK] <;> omega) rfl trivial (fun h => ?_) fun h => ?_
                · have h3 : (decide (X.args[q] < 0) || decide (vars + i ≤ X.args[q])) = true := by rw [← hg]; exact h
                  have h4 : (X.args.any fun a => decide (a < 0) || decide (vars + i ≤ a)) = true := List.any_eq_true.2 ⟨_, List.getElem_mem hq, h3⟩
                  refine KW.goOutR lay_ok F2_ok 100 rfl (by simp) ?_
                  refine KW.goRet lay_ok F2_ok 100 rfl rfl ?_ (by simp) trivial
                  unfold nodeE
                  rw [if_neg h1, if_neg (by rw [h2]; simp), if_pos h4]
                  simp [SV.ren, EV.ren]
                · have h3 : (decide (X.args[q] < 0) || decide (vars + i ≤ X.args[q])) = false := by rw [← hg]; exact h
                  refine KW.goToR lay_ok F2_ok 100 rfl (q + 1) [(2, 2), (5, 5)] rfl rfl ⟨rfl, rfl, rfl, rfl, rfl, rfl, trivial⟩ (by simp [inK]; omega) ⟨⟨by omega, ?_⟩, by omega⟩ ⟨rfl, rfl, trivial⟩
                  rw [List.take_succ_eq_append_getElem hq, List.any_append, g2]
                  simpa using h3
              · have hq : q = X.args.length := by simp at h; omega
                rw [hq, List.take_length] at g2
                have hE : nodeE vars i X = kE X := by
                  unfold nodeE
                  rw [if_neg h1, if_neg (by rw [h2]; simp), if_neg (by rw [g2]; simp)]
                rw [hE]
                refine KW.goOut lay_ok F2_ok 100 rfl (by simp) ?_
                refine KW.goIf lay_ok F2_ok 100 rfl (by simp) rfl trivial (fun h => ?_) fun h => ?_
                · exact absurd (show X.kind = 0 by simpa using h) (by omega)
                · clear h
                  refine KW.goIf lay_ok F2_ok 100 rfl (by simp) rfl trivial (fun h => ?_) fun h => ?_
                  · refine KW.goIf lay_ok F2_ok 100 rfl (by simp +contextual) rfl trivial (fun h => ?_) fun h => ?_
                    · have hk2 : X.k < 1 ∨ (X.args.length : Int) < X.k := by simpa using h
                      refine KW.goRet lay_ok F2_ok 100 rfl rfl ?_ (by simp) trivial
                      unfold kE
                      rw [if_neg (by omega), if_pos hk, if_pos hk2]
                      simp [SV.ren, EV.ren]
                    · have hk2 : ¬ (X.k < 1 ∨ (X.args.length : Int) < X.k) := by
                        intro hc
                        have e : (decide (X.k < 1) || decide ((X.args.length : Int) < X.k)) = false := h
                        rw [Bool.or_eq_false_iff, decide_eq_false_iff_not, decide_eq_false_iff_not] at e
                        exact hc.elim e.1 e.2
                      refine KW.goRet lay_ok F2_ok 100 rfl rfl ?_ (by simp) trivial
                      unfold kE
                      rw [if_neg (by omega), if_pos hk, if_neg hk2]
                      simp [SV.ren, EV.ren]
                  · exact absurd hk (by simpa using h)
          · have hn4 : ¬ X.kind = 4 := by rw [← hXi]; simpa using h
            refine KW.goIf lay_ok F2_ok 100 rfl (by simp) rfl trivial (fun h => ?_) fun h => ?_
            · have hk : X.kind = 5 := by rw [← hXi]; simpa using h
              have h1 : ¬ (X.kind < 0 ∨ 5 < X.kind) := by omega
              refine KW.goIf lay_ok F2_ok 100 rfl (by simp +contextual) rfl trivial (fun h => ?_) fun h => ?_
              · have e : (decide ((X.args.length : Int) < 1) || decide ((16 : Int) < (X.args.length : Int))) = true := by rw [← hXi]; exact h
                have h2 : argsB X.kind X.args.length = false := by
                  rw [Bool.or_eq_true, decide_eq_true_iff, decide_eq_true_iff] at e
                  rw [hk, Bool.eq_false_iff]
                  intro hc
                  simp only [argsB] at hc
                  simp at hc; omega
                refine KW.goRet lay_ok F2_ok 100 rfl rfl ?_ (by simp) trivial
                simp [SV.ren, EV.ren, nodeE, h1, h2]
              · have e : (decide ((X.args.length : Int) < 1) || decide ((16 : Int) < (X.args.length : Int))) = false := by rw [← hXi]; exact h
                rw [Bool.or_eq_false_iff, decide_eq_false_iff_not, decide_eq_false_iff_not] at e
                have h2 : argsB X.kind X.args.length = true := by
                  rw [hk]
                  simp only [argsB]
                  first | (rw [Bool.and_eq_true, decide_eq_true_iff, decide_eq_true_iff]; omega) | (simp; omega)
                refine KW.goLpR lay_ok F2_ok 100 rfl (I := fun q : Nat => ⟨Tryz.f58.ntmps, [(1, sI i), (2, .e (.r 2)), (5, .e (.r 5)), (39, .e (lV X.args)), (40, sI X.args.length), (41, sI q)],
                    [(2, .box 24 [iV vars, .c (nodesC ns), iV top] none), (5, .box 66 [iV X.kind, iV X.k, lV X.args] none)]⟩)
                  (R := fun q => q ≤ X.args.length ∧ ((X.args.take q).any fun a => decide (a < 0) || decide (vars + i ≤ a)) = false) (m := fun q => X.args.length - q) 0 [(2, 2), (5, 5)] rfl rfl ⟨rfl, rfl, rfl, (by rw [← hXi]; rfl), (by rw [← hXi]; rfl), rfl, trivial⟩ (by simp) ⟨by simp, by simp⟩ ⟨rfl, (by rw [← hXi]; rfl), trivial⟩ ?_
                rintro q ⟨g1, g2⟩
                refine KW.goIf lay_ok F2_ok 100 rfl (by simp) rfl trivial (fun h => ?_) fun h => ?_
                · have hq : q < X.args.length := by simpa using h
                  have hg : X.args.getD (Int.toNat (q : Int)) 0 = X.args[q] := by simp [List.getD_eq_getElem?_getD, hq]
                  refine KW.goIf lay_ok F2_ok 100 rfl (by simp [inK] <;> omega) rfl trivial (fun h => ?_) fun h => ?_
                  · have h3 : (decide (X.args[q] < 0) || decide (vars + i ≤ X.args[q])) = true := by rw [← hg]; exact h
                    have h4 : (X.args.any fun a => decide (a < 0) || decide (vars + i ≤ a)) = true := List.any_eq_true.2 ⟨_, List.getElem_mem hq, h3⟩
                    refine KW.goOutR lay_ok F2_ok 100 rfl (by simp) ?_
                    refine KW.goRet lay_ok F2_ok 100 rfl rfl ?_ (by simp) trivial
                    unfold nodeE
                    rw [if_neg h1, if_neg (by rw [h2]; simp), if_pos h4]
                    simp [SV.ren, EV.ren]
                  · have h3 : (decide (X.args[q] < 0) || decide (vars + i ≤ X.args[q])) = false := by rw [← hg]; exact h
                    refine KW.goToR lay_ok F2_ok 100 rfl (q + 1) [(2, 2), (5, 5)] rfl rfl ⟨rfl, rfl, rfl, rfl, rfl, rfl, trivial⟩ (by simp [inK]; omega) ⟨⟨by omega, ?_⟩, by omega⟩ ⟨rfl, rfl, trivial⟩
                    rw [List.take_succ_eq_append_getElem hq, List.any_append, g2]
                    simpa using h3
                · have hq : q = X.args.length := by simp at h; omega
                  rw [hq, List.take_length] at g2
                  have hE : nodeE vars i X = kE X := by
                    unfold nodeE
                    rw [if_neg h1, if_neg (by rw [h2]; simp), if_neg (by rw [g2]; simp)]
                  rw [hE]
                  refine KW.goOut lay_ok F2_ok 100 rfl (by simp) ?_
                  refine KW.goIf lay_ok F2_ok 100 rfl (by simp) rfl trivial (fun h => ?_) fun h => ?_
                  · exact absurd (show X.kind = 0 by simpa using h) (by omega)
                  · clear h
                    refine KW.goIf lay_ok F2_ok 100 rfl (by simp) rfl trivial (fun h => ?_) fun h => ?_
                    · exact absurd (show X.kind = 4 by simpa using h) (by omega)
                    · refine KW.goIf lay_ok F2_ok 100 rfl (by simp) rfl trivial (fun h => ?_) fun h => ?_
                      · have hk2 : X.k ≠ 0 := by simpa using h
                        refine KW.goRet lay_ok F2_ok 100 rfl rfl ?_ (by simp) trivial
                        unfold kE
                        rw [if_neg (by omega), if_neg (by omega), if_pos hk2]
                        simp [SV.ren, EV.ren]
                      · have hk2 : ¬ X.k ≠ 0 := by simpa using h
                        refine KW.goRet lay_ok F2_ok 100 rfl rfl ?_ (by simp) trivial
                        unfold kE
                        rw [if_neg (by omega), if_neg (by omega), if_neg hk2]
                        simp [SV.ren, EV.ren]
            · have hn5 : ¬ X.kind = 5 := by rw [← hXi]; simpa using h
              refine KW.goRet lay_ok F2_ok 100 rfl rfl ?_ (by simp) trivial
              have h' : X.kind < 0 ∨ 5 < X.kind := by omega
              simp [SV.ren, EV.ren, nodeE, h']
end Go.Proofs.YtocnofkagckhkaaGreatDoor
namespace Go.Proofs.YtocnofkagckhkaaGreatDoor
open Go.Sy Go.Pu
variable [Drw]
def F3 : Fns := (89, fF (fun f => .e (eV (formE f))) FormIn) ::
  (58, fFI (fun f i => sI (nodeE f.vars i.toNat (f.nodes.getD i.toNat node0))) nodePre) ::
  (59, fFI (fun f a => sB (argB f a)) fun f a => inK .i64 f.vars ∧ inK .i64 a) ::
  F2
theorem F3_ok : FnsOk Tryz.prog F3 := .cons (.cons (.cons (F2_ok) Tryz.func59 rfl rfl (fFI_ok fun f a h => rvalidF_does f a h.1 h.2)) Tryz.func58 rfl rfl (fFI_ok fun f i h => by obtain ⟨n, rfl, h1, h2, h3, h4⟩ := h; exact rnode_does f n h1 h2 h3 h4)) Tryz.func89 rfl rfl (fF_ok fun f h => checkF_does f h)
theorem rcheckF_does (f : FormP) (hin : FormIn f) : DoesF Tryz.prog 26 [.ag (formC f)] [] (sI (formE f)) [] := by
  refine DoesF.body _ Tryz.func26 rfl rfl rfl rfl ?_
  obtain ⟨vars, ns, top⟩ := f
  refine KW.goIf lay_ok F3_ok 100 rfl (by simp +contextual) rfl trivial (fun h => ?_) fun h => ?_
  · have h1 : vars < 0 ∨ 24 < vars := by simpa using h
    refine KW.goRet lay_ok F3_ok 100 rfl rfl ?_ (by simp) trivial
    simp [SV.ren, EV.ren, formE, h1]
  · have h1 : ¬ (vars < 0 ∨ 24 < vars) := by
      intro hc
      have e : (decide (vars < 0) || decide (24 < vars)) = false := h
      rw [Bool.or_eq_false_iff, decide_eq_false_iff_not, decide_eq_false_iff_not] at e
      exact hc.elim e.1 e.2
    refine KW.goIf lay_ok F3_ok 100 rfl (by simp) rfl trivial (fun h => ?_) fun h => ?_
    · have h2 : 128 < ns.length := by
        have e : decide ((128 : Int) < (ns.length : Int)) = true := h
        rw [decide_eq_true_iff] at e; omega
      refine KW.goRet lay_ok F3_ok 100 rfl rfl ?_ (by simp) trivial
      simp [SV.ren, EV.ren, formE, h1, h2]
    · have h2 : ¬ 128 < ns.length := by
        have e : decide ((128 : Int) < (ns.length : Int)) = false := h
        rw [decide_eq_false_iff_not] at e; omega
      refine KW.goLpR lay_ok F3_ok 100 rfl (I := fun q : Nat => ⟨Tryz.f26.ntmps, [(1, .e (.r 1)), (19, sI ns.length), (20, sI q)], [(1, .box 24 [iV vars, .c (nodesC ns), iV top] none)]⟩)
        (R := fun q => q ≤ ns.length ∧ nodesE vars q (ns.drop q) = nodesE vars 0 ns) (m := fun q => ns.length - q) 0 [(1, 1)] rfl rfl ⟨rfl, rfl, rfl, trivial⟩ (by simp) ⟨by simp, by simp⟩ ⟨rfl, trivial⟩ ?_
      rintro q ⟨g1, g2⟩
      refine KW.goIf lay_ok F3_ok 100 rfl (by simp) rfl trivial (fun h => ?_) fun h => ?_
      · have hq : q < ns.length := by simpa using h
        have hg : ns.getD q node0 = ns[q] := by simp [List.getD_eq_getElem?_getD, hq]
        rw [List.drop_eq_getElem_cons hq, nodesE] at g2
        have hpre : nodePre ⟨vars, ns, top⟩ q := ⟨q, rfl, hq, hin, by simp only; omega, by simp only; omega⟩
        refine KW.goIf lay_ok F3_ok 100 rfl (by simp only [unN_nodesC, isN_nodesC, true_and, and_true]; exact hpre) rfl trivial (fun h => ?_) fun h => ?_
        · simp only [unN_nodesC, Int.toNat_natCast, hg] at h
          have h3 : ¬ nodeE vars q ns[q] = 0 := by
            have e : (nodeE vars q ns[q] != 0) = true := h
            simpa using e
          rw [if_neg h3] at g2
          refine KW.goOutR lay_ok F3_ok 100 rfl (by simp) ?_
          refine KW.goRet lay_ok F3_ok 100 rfl rfl ?_ (by simp) trivial
          simp only [unN_nodesC, Int.toNat_natCast, hg]
          have e : formE ⟨vars, ns, top⟩ = nodeE vars q ns[q] := by
            unfold formE
            simp only [if_neg h1, if_neg h2, ← g2, if_neg h3]
          rw [e]; rfl
        · simp only [unN_nodesC, Int.toNat_natCast, hg] at h
          have h3 : nodeE vars q ns[q] = 0 := by
            have e : (nodeE vars q ns[q] != 0) = false := h
            simpa using e
          rw [if_pos h3] at g2
          exact KW.goToR lay_ok F3_ok 100 rfl (q + 1) [(1, 1)] rfl rfl ⟨rfl, rfl, rfl, trivial⟩ (by simp [inK]; omega) ⟨⟨by omega, g2⟩, by omega⟩ ⟨rfl, trivial⟩
      · have hq : q = ns.length := by simp at h; omega
        rw [hq, List.drop_length, nodesE] at g2
        refine KW.goOut lay_ok F3_ok 100 rfl (by simp) ?_
        refine KW.goIf lay_ok F3_ok 100 rfl (by simp only [unN_nodesC, isN_nodesC, true_and, and_true]; exact ⟨hin.vars, hin.top⟩) rfl trivial (fun h => ?_) fun h => ?_
        · simp only [unN_nodesC] at h
          have h3 : argB ⟨vars, ns, top⟩ top = false := by
            have e : (!argB ⟨vars, ns, top⟩ top) = true := h
            simpa using e
          refine KW.goRet lay_ok F3_ok 100 rfl rfl ?_ (by simp) trivial
          simp [SV.ren, EV.ren, formE, h1, h2, ← g2, h3]
        · simp only [unN_nodesC] at h
          have h3 : argB ⟨vars, ns, top⟩ top = true := by
            have e : (!argB ⟨vars, ns, top⟩ top) = false := h
            simpa using e
          refine KW.goRet lay_ok F3_ok 100 rfl rfl ?_ (by simp) trivial
          simp [SV.ren, EV.ren, formE, h1, h2, ← g2, h3]
end Go.Proofs.YtocnofkagckhkaaGreatDoor
namespace Go.Proofs.YtocnofkagckhkaaGreatDoor
open Go.Sy Go.Pu
variable [Drw]
def F4 : Fns := (26, fF (fun f => sI (formE f)) FormIn) ::
  F3
theorem F4_ok : FnsOk Tryz.prog F4 := .cons (F3_ok) Tryz.func26 rfl rfl (fF_ok fun f h => rcheckF_does f h)
theorem formE_vars {f : FormP} (h : formE f = 0) : 0 ≤ f.vars ∧ f.vars ≤ 24 := by
  unfold formE at h
  split at h
  · cases h
  · omega
theorem shl_rng {v : Int} (h : 0 ≤ v ∧ v ≤ 24) : 1 ≤ ishl 1 v ∧ ishl 1 v ≤ 16777216 := by
  obtain ⟨n, rfl⟩ := Int.eq_ofNat_of_zero_le h.1
  have key : ∀ m : Fin 25, 1 ≤ ishl 1 (m.val : Int) ∧ ishl 1 (m.val : Int) ≤ 16777216 := by decide +kernel
  exact key ⟨n, by omega⟩
theorem fcheck_does (f : FormP) (s : Int) (hin : FormIn f) : DoesF Tryz.prog 44 [.ag (formC f), iV s] [] (.e (eV (stateE f s))) [] := by
  refine DoesF.body _ Tryz.func44 rfl rfl rfl rfl ?_
  obtain ⟨vars, ns, top⟩ := f
  refine KW.goIf lay_ok F4_ok 100 rfl (by simp only [unN_nodesC, isN_nodesC, true_and, and_true, ifcV_errV]; exact hin) rfl trivial (fun h => ?_) fun h => ?_
  · simp only [unN_nodesC] at h
    have h1 : ¬ formE ⟨vars, ns, top⟩ = 0 := by
      have e : (!isNilB (errV 47 (formE ⟨vars, ns, top⟩))) = true := h
      simpa using e
    refine KW.goRet lay_ok F4_ok 100 rfl rfl ?_ (by simp) trivial
    simp only [unN_nodesC, SV.ren, EV.ren]
    rw [stateE, if_neg h1]
  · simp only [unN_nodesC] at h
    have h1 : formE ⟨vars, ns, top⟩ = 0 := by
      have e : (!isNilB (errV 47 (formE ⟨vars, ns, top⟩))) = false := h
      simpa using e
    have hv := formE_vars h1
    have hs := shl_rng hv
    refine KW.goIf lay_ok F4_ok 100 rfl (by simp only [inK, bitsI, true_and, and_true]; simp only at hv hs; simp; omega) rfl trivial (fun h => ?_) fun h => ?_
    · have h2 : s < 0 ∨ ishl 1 vars ≤ s := by
        have e : (decide (s < 0) || decide (ishl 1 vars ≤ s)) = true := h
        simpa using e
      refine KW.goRet lay_ok F4_ok 100 rfl rfl ?_ (by simp) trivial
      rw [stateE, if_pos h1, if_pos h2]
      simp [SV.ren, EV.ren, errV]
    · have h2 : ¬ (s < 0 ∨ ishl 1 vars ≤ s) := by
        have e : (decide (s < 0) || decide (ishl 1 vars ≤ s)) = false := h
        rw [Bool.or_eq_false_iff, decide_eq_false_iff_not, decide_eq_false_iff_not] at e
        exact fun hc => hc.elim e.1 e.2
      refine KW.goRet lay_ok F4_ok 100 rfl rfl ?_ (by simp) trivial
      rw [stateE, if_pos h1, if_neg h2]
      simp [SV.ren, EV.ren, errV]
end Go.Proofs.YtocnofkagckhkaaGreatDoor
namespace Go.Proofs.YtocnofkagckhkaaGreatDoor
open Go.Sy Go.Pu
variable [Drw]
def setB (f : FormP) (s : Int) : Bool := decide (0 ≤ s) && decide (s < ishl 1 f.vars)
theorem set_does (f : FormP) (s : Int) (hv : 0 ≤ f.vars ∧ f.vars ≤ 24) : DoesF Tryz.prog 63 [.ag (formC f), iV s] [] (sB (setB f s)) [] := by
  refine DoesF.body _ Tryz.func63 rfl rfl rfl rfl ?_
  obtain ⟨vars, ns, top⟩ := f
  have hs := shl_rng hv
  refine KW.goRet lay_ok F4_ok 100 rfl rfl ?_ ?_ trivial
  · simp [SV.ren, EV.ren, setB]
  · simp only at hv hs
    simp +contextual [inK, bitsI] <;> (intros; omega)
def F5 : Fns := (63, fFI (fun f s => sB (setB f s)) fun f s => 0 ≤ f.vars ∧ f.vars ≤ 24) ::
  (44, fFI (fun f s => .e (eV (stateE f s))) fun f s => FormIn f) ::
  F4
theorem F5_ok : FnsOk Tryz.prog F5 := .cons (.cons (F4_ok) Tryz.func44 rfl rfl (fFI_ok fun f s h => fcheck_does f s h)) Tryz.func63 rfl rfl (fFI_ok fun f s h => set_does f s h)
end Go.Proofs.YtocnofkagckhkaaGreatDoor
namespace Go.Proofs.YtocnofkagckhkaaGreatDoor
open Go.Sy Go.Pu
variable [Drw]
def F6 : Fns := F5
theorem F6_ok : FnsOk Tryz.prog F6 := F5_ok
end Go.Proofs.YtocnofkagckhkaaGreatDoor
end
section
set_option linter.unusedSectionVars false
set_option linter.unusedVariables false
set_option linter.unusedSimpArgs false
namespace Go.Proofs.YtocnofkagckhkaaGreatDoor
open Go.Sy Go.Pu
variable [Drw]
theorem values_does (f : FormP) (s : Int) (hin : FormIn f) (hE : stateE f s = 0) : DoesF Tryz.prog 45 [.ag (formC f), iV s] [] (.e (.c (bools (valsF f s)))) [] := by
  refine DoesF.body _ Tryz.func45 rfl rfl rfl rfl ?_
  obtain ⟨vars, ns, top⟩ := f
  have h0 : formE ⟨vars, ns, top⟩ = 0 := by
    unfold stateE at hE
    split at hE
    · assumption
    · contradiction
  have hv := formE_vars h0
  obtain ⟨n, rfl⟩ := Int.eq_ofNat_of_zero_le hv.1
  simp only at hv
  have hl : ns.length ≤ 128 := by
    unfold formE at h0
    simp only at h0
    split at h0
    · cases h0
    · split at h0
      · cases h0
      · omega
  refine KW.goLpR lay_ok F5_ok 100 rfl (I := fun q : Nat => ⟨Tryz.f45.ntmps, [(1, sI s), (2, .e (.r 2)), (5, .e (.r 5)), (23, sI n), (24, sI q)],
      [(2, .box 24 [iV n, .c (nodesC ns), iV top] none), (5, .own 4 (bools (eventsV s q ++ List.replicate (n - q) false)))]⟩)
    (R := fun q => q ≤ n) (m := fun q => n - q) 0 [(2, 2), (5, 21)] rfl rfl ⟨rfl, rfl, rfl, ?_, rfl, trivial⟩ (by simp [inK]; omega) (by simp) ⟨rfl, ?_, trivial⟩ ?_
  · show some (sI ((List.replicate (Int.toNat (n : Int)) false).length : Nat)) = some (sI n)
    simp
  · show some (Res.own _ (bools (List.replicate (Int.toNat (n : Int)) false))) = some (Res.own _ (bools (eventsV s 0 ++ List.replicate (n - 0) false)))
    simp [eventsV]
  rintro q hq
  have hlen : (eventsV s q ++ List.replicate (n - q) false).length = n := by rw [List.length_append, eventsV_length, List.length_replicate]; omega
  refine KW.goIf lay_ok F5_ok 100 rfl (by simp) rfl trivial (fun h => ?_) fun h => ?_
  · have hq' : q < n := by simpa using h
    refine KW.go lay_ok F5_ok 100 rfl (by simp only [inK, bitsI, true_and, and_true, hlen]; omega) ?_
    refine KW.updB 5 rfl ?_
    have hst : (eventsV s q ++ List.replicate (n - q) false).set (Int.toNat (q : Int)) (iand .i64 (ishr s q) 1 == 1) = eventsV s (q + 1) ++ List.replicate (n - (q + 1)) false := by
      have e : (iand .i64 (ishr s q) 1 == 1) = bit s q := by
        rw [ishr_bit s (by omega)]
        cases bit s q <;> rfl
      rw [e, Int.toNat_natCast, List.set_append_right _ _ (by rw [eventsV_length]; omega), eventsV_length, Nat.sub_self]
      have e2 : n - q = (n - (q + 1)) + 1 := by omega
      rw [e2, List.replicate_succ, List.set_cons_zero]
      simp [eventsV, List.range_succ]
    rw [hst]
    exact KW.to (q + 1) ⟨by omega, by omega⟩ [(2, 2), (5, 5)] ⟨rfl, rfl, ⟨rfl, rfl, rfl, rfl, rfl, trivial⟩, ⟨rfl, rfl, trivial⟩⟩
  · have hq' : q = n := by simp at h; omega
    subst hq'
    refine KW.goOut lay_ok F5_ok 100 rfl (by simp) ?_
    have ok : FormOk ⟨q, ns, top⟩ := formE_ok h0
    have e0 : eventsV s q ++ List.replicate (q - q) false = valsN ⟨q, ns, top⟩ s 0 := by simp [valsN_zero]
    refine KW.goLpR lay_ok F5_ok 100 rfl (I := fun p : Nat => ⟨Tryz.f45.ntmps, [(5, .e (.r 5)), (37, .e (.c (nodesC ns))), (38, sI ns.length), (39, sI p)], [(5, .own 4 (bools (valsN ⟨q, ns, top⟩ s p)))]⟩)
      (R := fun p => p ≤ ns.length) (m := fun p => ns.length - p) 0 [(5, 5)] rfl rfl ⟨rfl, rfl, rfl, rfl, trivial⟩ (by simp) (by simp) ⟨own_catB0 _ e0, trivial⟩ ?_
    rintro p hp
    have hlen := valsN_length ⟨q, ns, top⟩ s hp
    simp only [Int.toNat_natCast] at hlen
    refine KW.goIf lay_ok F5_ok 100 rfl (by simp) rfl trivial (fun h => ?_) fun h => ?_
    · have hp' : p < ns.length := by simpa using h
      have okp := ok.nodes p hp'
      simp only at okp
      have hX : ns.getD (Int.toNat (p : Int)) node0 = ns[p] := by simp [List.getD_eq_getElem?_getD, hp']
      have hinX : NodeIn ns[p] := hin.nodes _ (List.getElem_mem hp')
      have hsucc := valsN_succ ⟨q, ns, top⟩ s hp'
      simp only at hsucc
      generalize ns[p] = X at okp hX hinX hsucc
      have h16 := argsB_le okp.cnt
      generalize hV : valsN ⟨q, ns, top⟩ s p = V at hlen hsucc
      refine KW.goLpR lay_ok F5_ok 100 rfl (I := fun j : Nat => ⟨Tryz.f45.ntmps, [(5, .e (.r 5)), (8, .e (.r 8)), (9, sI (cntT V (X.args.take j))), (37, .e (.c (nodesC ns))), (38, sI ns.length), (39, sI p), (44, .e (lV X.args)), (45, sI X.args.length), (46, sI j)],
          [(5, .own 4 (bools V)), (8, .box 66 [iV X.kind, iV X.k, lV X.args] none)]⟩)
        (R := fun j => j ≤ X.args.length) (m := fun j => X.args.length - j) 0 [(5, 5), (8, 8)] rfl rfl ⟨rfl, rfl, rfl, rfl, rfl, rfl, (by rw [← hX]; rfl), (by rw [← hX]; rfl), rfl, trivial⟩ (by simp; omega) (by simp) ⟨by rw [← hV]; rfl, (by rw [← hX]; rfl), trivial⟩ ?_
      rintro j hj
      have hc := cntT_rng V (X.args.take j)
      have hcl : (X.args.take j).length ≤ 16 := by simp; omega
      refine KW.goIf lay_ok F5_ok 100 rfl (by simp) rfl trivial (fun h => ?_) fun h => ?_
      · have hj' : j < X.args.length := by simpa using h
        have hg : X.args.getD (Int.toNat (j : Int)) 0 = X.args[j] := by simp [List.getD_eq_getElem?_getD, hj']
        have ha := okp.args _ (List.getElem_mem hj')
        have ht := cntT_take V X.args hj'
        generalize X.args[j] = a at hg ha ht
        refine KW.goIf lay_ok F5_ok 100 rfl (by rw [hg, hlen]; simp; omega) rfl trivial (fun h => ?_) fun h => ?_
        · rw [hg] at h
          refine KW.goToR lay_ok F5_ok 100 rfl (j + 1) [(5, 5), (8, 8)] rfl rfl ⟨rfl, rfl, ?_, rfl, rfl, rfl, rfl, rfl, rfl, trivial⟩ (by simp only [inK, true_and, and_true]; omega) ⟨by omega, by omega⟩ ⟨rfl, rfl, trivial⟩
          rw [ht, if_pos (by simpa using h)]; rfl
        · rw [hg] at h
          refine KW.goToR lay_ok F5_ok 100 rfl (j + 1) [(5, 5), (8, 8)] rfl rfl ⟨rfl, rfl, ?_, rfl, rfl, rfl, rfl, rfl, rfl, trivial⟩ (by simp only [inK, true_and, and_true]; omega) ⟨by omega, by omega⟩ ⟨rfl, rfl, trivial⟩
          rw [ht, if_neg (by simpa using h), Int.add_zero]; rfl
      · have hj' : j = X.args.length := by simp at h; omega
        subst hj'
        rw [List.take_length] at hc ⊢
        refine KW.goOut lay_ok F5_ok 100 rfl (by simp) ?_
        have fin : ∀ b, b = nodeV X (cntT V X.args) → V ++ [b] = valsN ⟨q, ns, top⟩ s (p + 1) := fun b hb => by rw [hb, hsucc]
        refine KW.goIf lay_ok F5_ok 100 rfl (by simp) rfl trivial (fun h => ?_) fun h => ?_
        · have k0 : X.kind = 0 := by simpa using h
          refine KW.go lay_ok F5_ok 100 rfl (by simp only [inK, true_and, and_true, hlen]; omega) (KW.catB 93 rfl (KW.to (p + 1) ⟨by omega, by omega⟩ [(5, 93)] ⟨rfl, rfl, ⟨rfl, rfl, rfl, rfl, trivial⟩, ⟨own_catB0 _ (fin _ ?_), trivial⟩⟩))
          simp [nodeV, k0]
          try (rw [Bool.eq_iff_iff]; simp)
        · have n0 : ¬ X.kind = 0 := by simpa using h
          refine KW.goIf lay_ok F5_ok 100 rfl (by simp) rfl trivial (fun h => ?_) fun h => ?_
          · have k1 : X.kind = 1 := by simpa using h
            refine KW.go lay_ok F5_ok 100 rfl (by simp only [inK, true_and, and_true, hlen]; omega) (KW.catB 93 rfl (KW.to (p + 1) ⟨by omega, by omega⟩ [(5, 93)] ⟨rfl, rfl, ⟨rfl, rfl, rfl, rfl, trivial⟩, ⟨own_catB0 _ (fin _ ?_), trivial⟩⟩))
            simp [nodeV, k1]
            try (rw [Bool.eq_iff_iff]; simp)
          · have n1 : ¬ X.kind = 1 := by simpa using h
            refine KW.goIf lay_ok F5_ok 100 rfl (by simp) rfl trivial (fun h => ?_) fun h => ?_
            · have k2 : X.kind = 2 := by simpa using h
              refine KW.go lay_ok F5_ok 100 rfl (by simp only [inK, true_and, and_true, hlen]; omega) (KW.catB 93 rfl (KW.to (p + 1) ⟨by omega, by omega⟩ [(5, 93)] ⟨rfl, rfl, ⟨rfl, rfl, rfl, rfl, trivial⟩, ⟨own_catB0 _ (fin _ ?_), trivial⟩⟩))
              simp [nodeV, k2]
              rw [Bool.eq_iff_iff]; simp
            · have n2 : ¬ X.kind = 2 := by simpa using h
              refine KW.goIf lay_ok F5_ok 100 rfl (by simp) rfl trivial (fun h => ?_) fun h => ?_
              · have k3 : X.kind = 3 := by simpa using h
                refine KW.go lay_ok F5_ok 100 rfl (by simp only [inK, true_and, and_true, hlen]; omega) (KW.catB 93 rfl (KW.to (p + 1) ⟨by omega, by omega⟩ [(5, 93)] ⟨rfl, rfl, ⟨rfl, rfl, rfl, rfl, trivial⟩, ⟨own_catB0 _ (fin _ ?_), trivial⟩⟩))
                simp [nodeV, k3]
                try (rw [Bool.eq_iff_iff]; simp)
              · have n3 : ¬ X.kind = 3 := by simpa using h
                refine KW.goIf lay_ok F5_ok 100 rfl (by simp) rfl trivial (fun h => ?_) fun h => ?_
                · have k4 : X.kind = 4 := by simpa using h
                  refine KW.go lay_ok F5_ok 100 rfl (by simp only [inK, true_and, and_true, hlen]; omega) (KW.catB 93 rfl (KW.to (p + 1) ⟨by omega, by omega⟩ [(5, 93)] ⟨rfl, rfl, ⟨rfl, rfl, rfl, rfl, trivial⟩, ⟨own_catB0 _ (fin _ ?_), trivial⟩⟩))
                  simp [nodeV, k4]
                  try (rw [Bool.eq_iff_iff]; simp)
                · have n4 : ¬ X.kind = 4 := by simpa using h
                  refine KW.goIf lay_ok F5_ok 100 rfl (by simp) rfl trivial (fun h => ?_) fun h => ?_
                  · have k5 : X.kind = 5 := by simpa using h
                    refine KW.go lay_ok F5_ok 100 rfl (by simp only [inK, true_and, and_true, hlen]; omega) (KW.catB 93 rfl (KW.to (p + 1) ⟨by omega, by omega⟩ [(5, 93)] ⟨rfl, rfl, ⟨rfl, rfl, rfl, rfl, trivial⟩, ⟨own_catB0 _ (fin _ ?_), trivial⟩⟩))
                    simp [nodeV, k5]
                    rw [Int.tmod_eq_emod_of_nonneg hc.1, Bool.eq_iff_iff]; simp
                  · have n5 : ¬ X.kind = 5 := by simpa using h
                    exact absurd okp.kind (by omega)
    · have hp' : p = ns.length := by simp at h; omega
      refine KW.goOut lay_ok F5_ok 100 rfl (by simp) ?_
      have e9 : valsN ⟨q, ns, top⟩ s p = valsF ⟨q, ns, top⟩ s := valsN_all _ _ (by rw [hp']; exact Nat.le_refl _)
      rw [← e9]
      exact KW.goRetO lay_ok F5_ok 100 rfl 5 4 rfl rfl rfl rfl (by simp)
def F7 : Fns := (45, fFI (fun f s => .e (.c (bools (valsF f s)))) fun f s => FormIn f ∧ stateE f s = 0) ::
  F6
theorem F7_ok : FnsOk Tryz.prog F7 := .cons (F6_ok) Tryz.func45 rfl rfl (fFI_ok fun f s h => values_does f s h.1 h.2)
def valV (f : FormP) (s : Int) : Bool := decide (stateE f s = 0) && valueF f s
theorem value_does (f : FormP) (s : Int) (hin : FormIn f) : DoesF Tryz.prog 19 [.ag (formC f), iV s] [] (.tup [bV (valV f s), eV (stateE f s)]) [] := by
  refine DoesF.body _ Tryz.func19 rfl rfl rfl rfl ?_
  obtain ⟨vars, ns, top⟩ := f
  refine KW.goIf lay_ok F7_ok 100 rfl (by simp only [unN_nodesC, isN_nodesC, true_and, and_true, ifcV_errV]; exact hin) rfl trivial (fun h => ?_) fun h => ?_
  · simp only [unN_nodesC] at h
    have h1 : ¬ stateE ⟨vars, ns, top⟩ s = 0 := by
      have e : (!isNilB (errV 47 (stateE ⟨vars, ns, top⟩ s))) = true := h
      simpa using e
    refine KW.goRet lay_ok F7_ok 100 rfl rfl ?_ (by simp) trivial
    simp [SV.ren, renL, EV.ren, valV, h1]
  · simp only [unN_nodesC] at h
    have h1 : stateE ⟨vars, ns, top⟩ s = 0 := by
      have e : (!isNilB (errV 47 (stateE ⟨vars, ns, top⟩ s))) = false := h
      simpa using e
    have ok : FormOk ⟨vars, ns, top⟩ := formE_ok (stateE_ok h1).1
    have ht := ok.top
    have hl := valsF_length ⟨vars, ns, top⟩ s
    simp only at ht hl
    refine KW.goD lay_ok F7_ok rfl 100 rfl (by decide) rfl (by simp) (by simp only [unN_nodesC, isN_nodesC, true_and, and_true, hl]; exact ⟨⟨⟨hin, h1⟩, by omega⟩, by omega⟩) ?_
    refine KW.goRet lay_ok F7_ok 100 rfl rfl ?_ (by simp) trivial
    simp [SV.ren, renL, EV.ren, valV, h1, valueF, errV]
end Go.Proofs.YtocnofkagckhkaaGreatDoor
namespace Go.Sy
open Go.Pu
variable [Drw]
def cvBool : CV → Bool
  | .lit (.bool b) => b
  | _ => false
def unB : CV → List Bool
  | .sl n _ f => (List.range n).map fun e => cvBool (f e 0)
  | _ => []
def isB (x : CV) : Prop := CVEq x (bools (unB x))
@[simp] theorem unB_bools (xs : List Bool) : unB (bools xs) = xs := by
  unfold unB bools
  refine List.ext_getElem (by simp) fun j h1 h2 => ?_
  simp [List.getD_eq_getElem?_getD, h2, cvBool]
@[simp] theorem isB_bools (xs : List Bool) : isB (bools xs) := by unfold isB; rw [unB_bools]; exact CVEq.refl _
def fFBII (g : FormP → List Bool → Int → Int → SV) (p : FormP → List Bool → Int → Int → Prop) : List EV → Option (SV × Prop)
  | [.ag [.lit (.int .i64 a), x, .lit (.int .i64 b)], .c v, .c (.lit (.int .i64 s)), .c (.lit (.int .i64 i))] => some (g ⟨a, unN x, b⟩ (unB v) s i, isN x ∧ isB v ∧ p ⟨a, unN x, b⟩ (unB v) s i)
  | _ => none
section
variable {P : Program} {f : FuncId}
theorem fFBII_ok {g : FormP → List Bool → Int → Int → SV} {p : FormP → List Bool → Int → Int → Prop} (h : ∀ x v s i, p x v s i → DoesF P f [.ag (formC x), .c (bools v), iV s, iV i] [] (g x v s i) []) : ∀ ys y φ, fFBII g p ys = some (y, φ) → φ → DoesF P f ys [] y [] := by
  intro ys y φ he hφ
  unfold fFBII at he
  split at he
  · simp only [Option.some.injEq, Prod.mk.injEq] at he
    obtain ⟨rfl, rfl⟩ := he
    refine DoesF.conv ?_ (h _ _ _ _ hφ.2.2)
    exact ⟨form_eq hφ.1, hφ.2.1, CVEq.refl _, CVEq.refl _, trivial⟩
  · cases he
end
end Go.Sy
namespace Go.Proofs.YtocnofkagckhkaaGreatDoor
open Go.Sy Go.Pu
variable [Drw]
abbrev blV (l : List Bool) : EV := .c (bools l)
def ofB (f : FormP) (vs : List Bool) (s a : Int) : Bool := if a < f.vars then bit s a.toNat else vs.getD (a - f.vars).toNat false
theorem of_does (f : FormP) (vs : List Bool) (s a : Int) (hv : 0 ≤ f.vars ∧ f.vars ≤ 24) (ha : 0 ≤ a ∧ a < f.vars + vs.length) : DoesF Tryz.prog 150 [.ag (formC f), blV vs, iV s, iV a] [] (sB (ofB f vs s a)) [] := by
  refine DoesF.body _ Tryz.func150 rfl rfl rfl rfl ?_
  obtain ⟨vars, ns, top⟩ := f
  simp only at hv ha
  refine KW.len 1 rfl rfl fun hl => ?_
  refine KW.goIf lay_ok F7_ok 100 rfl (by simp) rfl trivial (fun h => ?_) fun h => ?_
  · have h1 : a < vars := by simpa using h
    obtain ⟨n, rfl⟩ := Int.eq_ofNat_of_zero_le ha.1
    refine KW.goRet lay_ok F7_ok 100 rfl rfl ?_ (by simp only [inK, bitsI]; simp; omega) trivial
    rw [ofB, if_pos (by simpa using h1), Int.toNat_natCast]
    have e : (iand .i64 (ishr s n) 1 == 1) = bit s n := by
      rw [ishr_bit s (by omega)]
      cases bit s n <;> rfl
    rw [← e]; rfl
  · have h1 : ¬ a < vars := by
      have e : decide (a < vars) = false := h
      rwa [decide_eq_false_iff_not] at e
    refine KW.goRet lay_ok F7_ok 100 rfl rfl ?_ (by simp only [inK]; simp; omega) trivial
    rw [ofB, if_neg (by simpa using h1)]
    rfl
def F8 : Fns := (150, fFBII (fun f vs s a => sB (ofB f vs s a)) fun f vs s a => (0 ≤ f.vars ∧ f.vars ≤ 24) ∧ (0 ≤ a ∧ a < f.vars + vs.length)) ::
  (19, fFI (fun f s => .tup [bV (valV f s), eV (stateE f s)]) fun f s => FormIn f) ::
  F7
theorem F8_ok : FnsOk Tryz.prog F8 := .cons (.cons (F7_ok) Tryz.func19 rfl rfl (fFI_ok fun f s h => value_does f s h)) Tryz.func150 rfl rfl (fFBII_ok fun f vs s a h => of_does f vs s a h.1 h.2)
def nodesV (f : FormP) (s : Int) : List Bool := (valsF f s).drop f.vars.toNat
theorem nodesV_length (f : FormP) (s : Int) : (nodesV f s).length = f.nodes.length := by rw [nodesV, List.length_drop, valsF_length]; omega
theorem ofB_pre {f : FormP} {s : Int} {q : Nat} (hv : 0 ≤ f.vars) (hq : q ≤ f.nodes.length) (pad : List Bool) {a : Int} (h0 : 0 ≤ a) (h1 : a < f.vars + q) :
    ofB f ((valsN f s q).drop f.vars.toNat ++ pad) s a = (valsN f s q).getD a.toNat false := by
  have hl := valsN_length f s hq
  unfold ofB
  split
  · rename_i h
    rw [valsN_pre f s hq (by omega), valsF_event f s (by omega)]
  · rename_i h
    rw [List.getD_eq_getElem?_getD, List.getElem?_append_left (by rw [List.length_drop]; omega), List.getElem?_drop, List.getD_eq_getElem?_getD]
    congr 2
    omega
theorem rvalues_does (f : FormP) (s : Int) (hin : FormIn f) (h0 : formE f = 0) : DoesF Tryz.prog 151 [.ag (formC f), iV s] [] (.e (blV (nodesV f s))) [] := by
  refine DoesF.body _ Tryz.func151 rfl rfl rfl rfl ?_
  obtain ⟨vars, ns, top⟩ := f
  have ok : FormOk ⟨vars, ns, top⟩ := formE_ok h0
  have hv := ok.vars
  have hn := ok.len
  simp only at hv hn
  obtain ⟨n, rfl⟩ := Int.eq_ofNat_of_zero_le hv.1
  have e0 : List.replicate (Int.toNat (ns.length : Int)) false = (valsN ⟨n, ns, top⟩ s 0).drop n ++ List.replicate (ns.length - 0) false := by
    rw [List.drop_of_length_le (by rw [valsN_length _ _ (Nat.zero_le _)]; simp)]; simp
  refine KW.goLpR lay_ok F8_ok 100 rfl (I := fun p : Nat => ⟨Tryz.f151.ntmps, [(1, sI s), (2, .e (.r 2)), (5, .e (.r 5)), (16, .e (.c (nodesC ns))), (17, sI ns.length), (18, sI p)],
      [(2, .box 24 [iV n, .c (nodesC ns), iV top] none), (5, .own 4 (bools ((valsN ⟨n, ns, top⟩ s p).drop n ++ List.replicate (ns.length - p) false)))]⟩)
    (R := fun p => p ≤ ns.length) (m := fun p => ns.length - p) 0 [(2, 2), (5, 14)] rfl rfl ⟨rfl, rfl, rfl, rfl, rfl, rfl, trivial⟩ (by simp [inK]; omega) (by simp) ⟨rfl, own_catB0 _ e0, trivial⟩ ?_
  rintro p hp
  have hlen := valsN_length ⟨n, ns, top⟩ s hp
  simp only [Int.toNat_natCast] at hlen
  refine KW.goIf lay_ok F8_ok 100 rfl (by simp) rfl trivial (fun h => ?_) fun h => ?_
  · have hp' : p < ns.length := by simpa using h
    have okp := ok.nodes p hp'
    simp only at okp
    have hX : ns.getD (Int.toNat (p : Int)) node0 = ns[p] := by simp [List.getD_eq_getElem?_getD, hp']
    have hinX : NodeIn ns[p] := hin.nodes _ (List.getElem_mem hp')
    have hsucc := valsN_succ ⟨n, ns, top⟩ s hp'
    have hof := fun (a : Int) h0 h1 => ofB_pre (f := ⟨n, ns, top⟩) (s := s) (a := a) (by simp) hp (List.replicate (ns.length - p) false) h0 h1
    simp only [Int.toNat_natCast] at hsucc hof
    generalize ns[p] = X at okp hX hinX hsucc
    have h16 := argsB_le okp.cnt
    generalize hV : valsN ⟨n, ns, top⟩ s p = V at hlen hsucc hof
    have hrl : (V.drop n ++ List.replicate (ns.length - p) false).length = ns.length := by rw [List.length_append, List.length_drop, List.length_replicate]; omega
    generalize hW : V.drop n ++ List.replicate (ns.length - p) false = W at hof hrl
    refine KW.goLpR lay_ok F8_ok 100 rfl (I := fun j : Nat => ⟨Tryz.f151.ntmps, [(1, sI s), (2, .e (.r 2)), (5, .e (.r 5)), (6, sI p), (7, .e (.r 7)), (8, sI (cntT V (X.args.take j))), (16, .e (.c (nodesC ns))), (17, sI ns.length), (18, sI p), (24, .e (lV X.args)), (25, sI X.args.length), (26, sI j)],
        [(2, .box 24 [iV n, .c (nodesC ns), iV top] none), (5, .own 4 (bools W)), (7, .box 66 [iV X.kind, iV X.k, lV X.args] none)]⟩)
      (R := fun j => j ≤ X.args.length) (m := fun j => X.args.length - j) 0 [(2, 2), (5, 5), (7, 7)] rfl rfl ⟨rfl, rfl, rfl, rfl, rfl, rfl, rfl, rfl, rfl, (by rw [← hX]; rfl), (by rw [← hX]; rfl), rfl, trivial⟩ (by simp; omega) (by simp) ⟨rfl, by rw [← hW, ← hV]; rfl, (by rw [← hX]; rfl), trivial⟩ ?_
    rintro j hj
    have hc := cntT_rng V (X.args.take j)
    have hcl : (X.args.take j).length ≤ 16 := by simp; omega
    refine KW.goIf lay_ok F8_ok 100 rfl (by simp) rfl trivial (fun h => ?_) fun h => ?_
    · have hj' : j < X.args.length := by simpa using h
      have hg : X.args.getD (Int.toNat (j : Int)) 0 = X.args[j] := by simp [List.getD_eq_getElem?_getD, hj']
      have ha := okp.args _ (List.getElem_mem hj')
      have ht := cntT_take V X.args hj'
      generalize X.args[j] = a at hg ha ht
      refine KW.goIf lay_ok F8_ok 100 rfl (by rw [hg]; simp only [unN_nodesC, isN_nodesC, unB_bools, isB_bools, true_and, and_true, hrl]; simp; omega) rfl trivial (fun h => ?_) fun h => ?_
      · rw [hg] at h
        simp only [unN_nodesC, unB_bools] at h
        refine KW.goToR lay_ok F8_ok 100 rfl (j + 1) [(2, 2), (5, 5), (7, 7)] rfl rfl ⟨rfl, rfl, rfl, rfl, rfl, ?_, rfl, rfl, rfl, rfl, rfl, rfl, trivial⟩ (by simp only [inK, true_and, and_true]; omega) ⟨by omega, by omega⟩ ⟨rfl, rfl, rfl, trivial⟩
        have e : ofB ⟨n, ns, top⟩ W s a = true := h
        rw [ht, if_pos (by rw [← hof a ha.1 ha.2]; exact e)]; rfl
      · rw [hg] at h
        simp only [unN_nodesC, unB_bools] at h
        refine KW.goToR lay_ok F8_ok 100 rfl (j + 1) [(2, 2), (5, 5), (7, 7)] rfl rfl ⟨rfl, rfl, rfl, rfl, rfl, ?_, rfl, rfl, rfl, rfl, rfl, rfl, trivial⟩ (by simp only [inK, true_and, and_true]; omega) ⟨by omega, by omega⟩ ⟨rfl, rfl, rfl, trivial⟩
        have e : ofB ⟨n, ns, top⟩ W s a = false := h
        rw [ht, if_neg (by rw [← hof a ha.1 ha.2, e]; decide), Int.add_zero]; rfl
    · have hj' : j = X.args.length := by simp at h; omega
      subst hj'
      rw [List.take_length] at hc ⊢
      refine KW.goOut lay_ok F8_ok 100 rfl (by simp) ?_
      have fin : ∀ b, b = nodeV X (cntT V X.args) → W.set (Int.toNat (p : Int)) b = (valsN ⟨n, ns, top⟩ s (p + 1)).drop n ++ List.replicate (ns.length - (p + 1)) false := fun b hb => by
        rw [hb, hsucc, ← hW, Int.toNat_natCast, List.drop_append_of_le_length (by omega), List.set_append_right _ _ (by rw [List.length_drop]; omega), List.length_drop]
        have e1 : p - (V.length - n) = 0 := by omega
        have e2 : ns.length - p = (ns.length - (p + 1)) + 1 := by omega
        rw [e1, e2, List.replicate_succ, List.set_cons_zero]; simp
      refine KW.goIf lay_ok F8_ok 100 rfl (by simp) rfl trivial (fun h => ?_) fun h => ?_
      · have k0 : X.kind = 0 := by simpa using h
        refine KW.go lay_ok F8_ok 100 rfl (by simp only [inK, true_and, and_true, hrl]; omega) (KW.updB 5 rfl (KW.to (p + 1) ⟨by omega, by omega⟩ [(2, 2), (5, 5)] ⟨rfl, rfl, ⟨rfl, rfl, rfl, rfl, rfl, rfl, trivial⟩, ⟨rfl, own_catB0 _ (fin _ ?_), trivial⟩⟩))
        simp [nodeV, k0]
        try (rw [Bool.eq_iff_iff]; simp)
      · have n0 : ¬ X.kind = 0 := by simpa using h
        refine KW.goIf lay_ok F8_ok 100 rfl (by simp) rfl trivial (fun h => ?_) fun h => ?_
        · have k1 : X.kind = 1 := by simpa using h
          refine KW.go lay_ok F8_ok 100 rfl (by simp only [inK, true_and, and_true, hrl]; omega) (KW.updB 5 rfl (KW.to (p + 1) ⟨by omega, by omega⟩ [(2, 2), (5, 5)] ⟨rfl, rfl, ⟨rfl, rfl, rfl, rfl, rfl, rfl, trivial⟩, ⟨rfl, own_catB0 _ (fin _ ?_), trivial⟩⟩))
          simp [nodeV, k1]
          try (rw [Bool.eq_iff_iff]; simp)
        · have n1 : ¬ X.kind = 1 := by simpa using h
          refine KW.goIf lay_ok F8_ok 100 rfl (by simp) rfl trivial (fun h => ?_) fun h => ?_
          · have k2 : X.kind = 2 := by simpa using h
            refine KW.go lay_ok F8_ok 100 rfl (by simp only [inK, true_and, and_true, hrl]; omega) (KW.updB 5 rfl (KW.to (p + 1) ⟨by omega, by omega⟩ [(2, 2), (5, 5)] ⟨rfl, rfl, ⟨rfl, rfl, rfl, rfl, rfl, rfl, trivial⟩, ⟨rfl, own_catB0 _ (fin _ ?_), trivial⟩⟩))
            simp [nodeV, k2]
            try (rw [Bool.eq_iff_iff]; simp)
          · have n2 : ¬ X.kind = 2 := by simpa using h
            refine KW.goIf lay_ok F8_ok 100 rfl (by simp) rfl trivial (fun h => ?_) fun h => ?_
            · have k3 : X.kind = 3 := by simpa using h
              refine KW.go lay_ok F8_ok 100 rfl (by simp only [inK, true_and, and_true, hrl]; omega) (KW.updB 5 rfl (KW.to (p + 1) ⟨by omega, by omega⟩ [(2, 2), (5, 5)] ⟨rfl, rfl, ⟨rfl, rfl, rfl, rfl, rfl, rfl, trivial⟩, ⟨rfl, own_catB0 _ (fin _ ?_), trivial⟩⟩))
              simp [nodeV, k3]
              try (rw [Bool.eq_iff_iff]; simp)
            · have n3 : ¬ X.kind = 3 := by simpa using h
              refine KW.goIf lay_ok F8_ok 100 rfl (by simp) rfl trivial (fun h => ?_) fun h => ?_
              · have k4 : X.kind = 4 := by simpa using h
                refine KW.go lay_ok F8_ok 100 rfl (by simp only [inK, true_and, and_true, hrl]; omega) (KW.updB 5 rfl (KW.to (p + 1) ⟨by omega, by omega⟩ [(2, 2), (5, 5)] ⟨rfl, rfl, ⟨rfl, rfl, rfl, rfl, rfl, rfl, trivial⟩, ⟨rfl, own_catB0 _ (fin _ ?_), trivial⟩⟩))
                simp [nodeV, k4]
                try (rw [Bool.eq_iff_iff]; simp)
              · have n4 : ¬ X.kind = 4 := by simpa using h
                have k5 : X.kind = 5 := by have := okp.kind; omega
                refine KW.go lay_ok F8_ok 100 rfl (by simp only [inK, true_and, and_true, hrl]; omega) (KW.updB 5 rfl (KW.to (p + 1) ⟨by omega, by omega⟩ [(2, 2), (5, 5)] ⟨rfl, rfl, ⟨rfl, rfl, rfl, rfl, rfl, rfl, trivial⟩, ⟨rfl, own_catB0 _ (fin _ ?_), trivial⟩⟩))
                simp [nodeV, k5]
                rw [Int.tmod_eq_emod_of_nonneg hc.1, Bool.eq_iff_iff]; simp
  · have hp' : p = ns.length := by simp at h; omega
    refine KW.goOut lay_ok F8_ok 100 rfl (by simp) ?_
    refine KW.goRetO lay_ok F8_ok 100 rfl 5 4 rfl rfl rfl ?_ (by simp)
    rw [hp', valsN_all _ _ (Nat.le_refl _), Nat.sub_self]
    simp [nodesV]
end Go.Proofs.YtocnofkagckhkaaGreatDoor
end
section
set_option linter.unusedSectionVars false
set_option linter.unusedVariables false
set_option linter.unusedSimpArgs false
namespace Go.Pu
open Go.Sy
variable [Drw]
theorem getD_set (m : List Bool) (i j : Nat) (b : Bool) : (m.set i b).getD j false = if i = j ∧ j < m.length then b else m.getD j false := by
  rw [List.getD_eq_getElem?_getD, List.getElem?_set, List.getD_eq_getElem?_getD]
  by_cases h : i = j
  · subst h
    by_cases h2 : i < m.length
    · simp [h2]
    · simp [h2]
  · simp [h]
theorem markA_mono (c : Int → Bool) : ∀ (args : List Int) (m : List Bool) {j : Nat}, m.getD j false = true → (markA c m args).getD j false = true
  | [], m, j, h => h
  | a :: r, m, j, h => by
    rw [markA_cons]
    refine markA_mono c r _ ?_
    rw [getD_set]
    split
    · rename_i hh; rw [hh.1, h]; rfl
    · exact h
theorem markA_set (c : Int → Bool) : ∀ (args : List Int) (m : List Bool) {a : Int}, a ∈ args → c a = true → a.toNat < m.length → (markA c m args).getD a.toNat false = true
  | b :: r, m, a, ha, hc, hl => by
    rw [markA_cons]
    rcases List.mem_cons.1 ha with rfl | ha
    · refine markA_mono c r _ ?_
      rw [getD_set, if_pos ⟨rfl, hl⟩, hc, Bool.or_true]
    · exact markA_set c r _ ha hc (by rw [List.length_set]; exact hl)
theorem markA_far (c : Int → Bool) : ∀ (args : List Int) (m : List Bool) {j : Nat}, (∀ a ∈ args, a.toNat ≠ j) → (markA c m args).getD j false = m.getD j false
  | [], m, j, h => rfl
  | a :: r, m, j, h => by
    rw [markA_cons, markA_far c r _ fun b hb => h b (.tail _ hb), getD_set, if_neg (fun hh => h a (.head _) hh.1)]
theorem markN_far {n : Nat} {ns : List NodeP} (c : Nat → Int → Bool) (hn : ∀ (q : Nat) (h : q < ns.length), ∀ a ∈ ns[q].args, a.toNat < n + q) : ∀ (i : Nat) (m : List Bool), i ≤ ns.length → ∀ {j : Nat}, n + i ≤ j → (markN n ns c i m).getD j false = m.getD j false
  | 0, m, _, j, _ => rfl
  | i + 1, m, hi, j, hj => by
    rw [markN, markN_far c hn i _ (by omega) (by omega)]
    split
    · refine markA_far _ _ _ fun a ha => ?_
      rw [List.getD_eq_getElem?_getD, List.getElem?_eq_getElem (by omega)] at ha
      have := hn i (by omega) a ha
      omega
    · rfl
theorem markN_mono {n : Nat} {ns : List NodeP} (c : Nat → Int → Bool) : ∀ (i : Nat) (m : List Bool) {j : Nat}, m.getD j false = true → (markN n ns c i m).getD j false = true
  | 0, m, j, h => h
  | i + 1, m, j, h => by
    rw [markN]
    refine markN_mono c i _ ?_
    split
    · exact markA_mono _ _ _ h
    · exact h
theorem markN_closed {n : Nat} {ns : List NodeP} (c : Nat → Int → Bool) (hn : ∀ (q : Nat) (h : q < ns.length), ∀ a ∈ ns[q].args, a.toNat < n + q) : ∀ (i : Nat) (m : List Bool), i ≤ ns.length → m.length = n + ns.length → ∀ (q : Nat) (h : q < ns.length), q < i → (markN n ns c i m).getD (n + q) false = true →
    ∀ a ∈ ns[q].args, c q a = true → (markN n ns c i m).getD a.toNat false = true
  | 0, m, _, _, q, h, hq, _ => by omega
  | i + 1, m, hi, hl, q, h, hq, hm => by
    intro a ha hc
    rw [markN] at hm ⊢
    by_cases hqi : q = i
    · subst hqi
      rw [markN_far c hn q _ (by omega) (Nat.le_refl _)] at hm
      have hg : ns.getD q node0 = ns[q] := by simp [List.getD_eq_getElem?_getD, h]
      split at hm
      · rename_i h1
        rw [if_pos h1, hg]
        exact markN_mono c q _ (markA_set _ _ _ ha hc (by have := hn q h a ha; omega))
      · rename_i h1
        exact absurd hm h1
    · refine markN_closed c hn i _ (by omega) ?_ q h (by omega) hm a ha hc
      split
      · rw [markA_length]; exact hl
      · exact hl
theorem FormOk.args_lt {f : FormP} (ok : FormOk f) : ∀ (q : Nat) (h : q < f.nodes.length), ∀ a ∈ f.nodes[q].args, a.toNat < f.vars.toNat + q := fun q h a ha => by
  have h1 := (ok.nodes q h).args a ha
  have h2 := ok.vars
  omega
theorem marksF_closed {f : FormP} (ok : FormOk f) (c : Nat → Int → Bool) {q : Nat} (h : q < f.nodes.length) (hm : (marksF f c).getD (f.vars.toNat + q) false = true) {a : Int} (ha : a ∈ f.nodes[q].args) (hc : c q a = true) : (marksF f c).getD a.toNat false = true :=
  markN_closed c ok.args_lt f.nodes.length (mark0 f) (Nat.le_refl _) (mark0_length f) q h h hm a ha hc
theorem marksF_top {f : FormP} (ok : FormOk f) (c : Nat → Int → Bool) : (marksF f c).getD f.top.toNat false = true := by
  refine markN_mono c _ _ ?_
  have h1 := ok.top
  have h2 := ok.vars
  have hlt : f.top.toNat < (List.replicate (f.vars.toNat + f.nodes.length) false).length := by simp; omega
  rw [mark0, getD_set, if_pos ⟨rfl, hlt⟩]
theorem cntT_mono {v w : List Bool} : ∀ {args : List Int}, (∀ a ∈ args, v.getD a.toNat false = true → w.getD a.toNat false = true) → cntT v args ≤ cntT w args := by
  intro args h
  unfold cntT
  have : (args.filter fun a => v.getD a.toNat false).length ≤ (args.filter fun a => w.getD a.toNat false).length := by
    induction args with
    | nil => simp
    | cons a r ih =>
      have ih' := ih fun b hb => h b (.tail _ hb)
      have ha := h a (.head _)
      rw [List.filter_cons, List.filter_cons]
      split
      · rename_i hv
        rw [if_pos (ha hv)]; simp only [List.length_cons]; omega
      · split
        · simp only [List.length_cons]; omega
        · exact ih'
  omega
end Go.Pu
end
section
set_option linter.unusedSectionVars false
set_option linter.unusedVariables false
set_option linter.unusedSimpArgs false
namespace Go.Pu
open Go.Sy
variable [Drw]
def belowF (f : FormP) : List Bool := marksF f fun _ _ => true
theorem belowF_length (f : FormP) : (belowF f).length = f.vars.toNat + f.nodes.length := marksF_length _ _
def trimN (n : Nat) (ns : List NodeP) (m : List Bool) : Nat → List Int × List NodeP
  | 0 => ((List.range (n + ns.length)).map fun i => if i < n then (i : Int) else 0, [])
  | i + 1 => if m.getD (n + i) false = true then ((trimN n ns m i).1.set (n + i) ((n : Int) + ((trimN n ns m i).2.length : Int)), (trimN n ns m i).2 ++ [⟨(ns.getD i node0).kind, (ns.getD i node0).k, (ns.getD i node0).args.map fun a => (trimN n ns m i).1.getD a.toNat 0⟩])
    else trimN n ns m i
theorem trimN_succ (n : Nat) (ns : List NodeP) (m : List Bool) (i : Nat) : trimN n ns m (i + 1) = if m.getD (n + i) false = true then ((trimN n ns m i).1.set (n + i) ((n : Int) + ((trimN n ns m i).2.length : Int)), (trimN n ns m i).2 ++ [⟨(ns.getD i node0).kind, (ns.getD i node0).k, (ns.getD i node0).args.map fun a => (trimN n ns m i).1.getD a.toNat 0⟩])
    else trimN n ns m i := rfl
theorem trimN_len (n : Nat) (ns : List NodeP) (m : List Bool) : ∀ i, (trimN n ns m i).1.length = n + ns.length ∧ (trimN n ns m i).2.length ≤ i
  | 0 => ⟨by simp [trimN], by simp [trimN]⟩
  | i + 1 => by
    have := trimN_len n ns m i
    unfold trimN
    split
    · simp; omega
    · exact ⟨this.1, by omega⟩
theorem trimN_kinds (n : Nat) (ns : List NodeP) (m : List Bool) : ∀ i, (trimN n ns m i).2.map NodeP.kind = ((List.range i).filter fun j => m.getD (n + j) false).map fun j => (ns.getD j node0).kind
  | 0 => rfl
  | i + 1 => by
    unfold trimN
    rw [List.range_succ, List.filter_append, List.map_append, ← trimN_kinds n ns m i]
    split
    · rename_i h; simp [h, -List.getD_eq_getElem?_getD]
    · rename_i h
      have : m.getD (n + i) false = false := by simpa using h
      simp [this, -List.getD_eq_getElem?_getD]
def trimF (f : FormP) : FormP := ⟨f.vars, (trimN f.vars.toNat f.nodes (belowF f) f.nodes.length).2, (trimN f.vars.toNat f.nodes (belowF f) f.nodes.length).1.getD f.top.toNat 0⟩
def cohF (f : FormP) : Bool := (List.range f.nodes.length).all fun i => !((belowF f).getD (f.vars.toNat + i) false && ((f.nodes.getD i node0).kind == 1 || (f.nodes.getD i node0).kind == 5))
theorem cohF_trim (f : FormP) : cohF f = (trimF f).nodes.all fun x => !(x.kind == 1 || x.kind == 5) := by
  have e : (trimF f).nodes.map NodeP.kind = _ := trimN_kinds f.vars.toNat f.nodes (belowF f) f.nodes.length
  have e2 : ((trimF f).nodes.all fun x => !(x.kind == 1 || x.kind == 5)) = ((trimF f).nodes.map NodeP.kind).all fun k => !(k == 1 || k == 5) := by rw [List.all_map]; rfl
  rw [e2, e, List.all_map, List.all_filter, cohF]
  congr 1
  funext i
  simp only [Function.comp_apply]
  cases (belowF f).getD (f.vars.toNat + i) false <;> simp
end Go.Pu
namespace Go.Pu
open Go.Sy
variable [Drw]
theorem nodeV_mono {X : NodeP} (hk : 0 ≤ X.kind ∧ X.kind ≤ 5) (h1 : ¬ X.kind = 1) (h5 : ¬ X.kind = 5) {c d : Int} (hcd : c ≤ d) (hd : d ≤ X.args.length) (h : nodeV X c = true) : nodeV X d = true := by
  have : X.kind = 0 ∨ X.kind = 2 ∨ X.kind = 3 ∨ X.kind = 4 := by omega
  unfold nodeV at h ⊢
  rcases this with hc | hc | hc | hc <;> simp only [hc, Int.reduceEq, if_true, if_false, decide_eq_true_eq] at h ⊢ <;> omega
theorem coh_node {f : FormP} (hc : cohF f = true) {q : Nat} (hq : q < f.nodes.length) (hm : (belowF f).getD (f.vars.toNat + q) false = true) : ¬ f.nodes[q].kind = 1 ∧ ¬ f.nodes[q].kind = 5 := by
  unfold cohF at hc
  rw [List.all_eq_true] at hc
  have := hc q (by simpa using hq)
  rw [hm, List.getD_eq_getElem?_getD, List.getElem?_eq_getElem hq] at this
  simpa using this
theorem value_mono {f : FormP} (ok : FormOk f) (hc : cohF f = true) {x y : Int} (h : ∀ i, i < f.vars.toNat → bit x i = true → bit y i = true) (hv : valueF f x = true) : valueF f y = true := by
  have key : ∀ j, j < f.vars.toNat + f.nodes.length → (belowF f).getD j false = true → (valsF f x).getD j false = true → (valsF f y).getD j false = true := by
    intro j
    induction j using Nat.strongRecOn with
    | ind j ih =>
      intro hj hm hx
      by_cases hjn : j < f.vars.toNat
      · rw [valsF_event f x hjn] at hx
        rw [valsF_event f y hjn]
        exact h j hjn hx
      · obtain ⟨q, rfl⟩ : ∃ q, j = f.vars.toNat + q := ⟨j - f.vars.toNat, by omega⟩
        have hq : q < f.nodes.length := by omega
        rw [valsF_node ok x hq] at hx
        rw [valsF_node ok y hq]
        obtain ⟨k1, k5⟩ := coh_node hc hq hm
        refine nodeV_mono (ok.nodes q hq).kind k1 k5 (cntT_mono fun a ha hax => ?_) (cntT_rng _ _).2 hx
        have hlt := ok.args_lt q hq a ha
        exact ih a.toNat hlt (by omega) (marksF_closed ok (fun _ _ => true) hq hm ha rfl) hax
  have h1 := ok.top
  have h2 := ok.vars
  exact key f.top.toNat (by omega) (marksF_top ok _) hv
section
variable {f : FormP} {n : Nat} {s T : Int}
end
theorem count_one {α : Type} [DecidableEq α] {p : α → Bool} {a : α} : ∀ {l : List α}, l.Nodup → (∀ c ∈ l, p c = true ↔ c = a) → (l.filter p).length = if a ∈ l then 1 else 0
  | [], _, _ => by simp
  | c :: l, hd, h => by
    have hd' := List.nodup_cons.1 hd
    have ih := count_one hd'.2 fun c' hc' => h c' (.tail _ hc')
    have hc := h c (.head _)
    rw [List.filter_cons]
    by_cases hpc : p c = true
    · have e := hc.1 hpc
      subst e
      rw [if_pos hpc, if_pos (.head _), List.length_cons, ih, if_neg hd'.1]
    · rw [if_neg hpc, ih]
      have hne : ¬ c = a := fun e => hpc (hc.2 e)
      simp [Ne.symm hne]
end Go.Pu
end
