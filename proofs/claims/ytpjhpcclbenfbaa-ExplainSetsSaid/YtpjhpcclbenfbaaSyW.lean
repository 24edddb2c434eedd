/-
  SYMBOLIC STATES, PART W: a region that draws its order and ends in one operation that waits for all others; contracts of the library that leave memory as it is.
-/
import Derived.Test.YtpjhpcclbenfbaaSyV
set_option linter.unusedVariables false
set_option linter.unusedSimpArgs false
namespace Go.Sy
/-- every operation but the last must come before a later one -/
def edgeTo : List Edge → Nat → Bool
  | [], _ => false
  | e :: l, j => (Region.binds .any e && Nat.beq e.on j) || edgeTo l j
def laterTo : List Oper → Nat → Bool
  | [], _ => false
  | o :: l, j => edgeTo o.after.toList j || laterTo l j
def tailAll (l : List Oper) : Nat → List Oper → Bool
  | _, [] => true
  | _, [_] => true
  | j, _ :: r => laterTo r j && tailAll l (j + 1) r
def tailOk (ops : Array Oper) : Bool := tailAll ops.toList 0 ops.toList
theorem edgeTo_ok : ∀ {l : List Edge} {j : Nat}, edgeTo l j = true → ∃ e ∈ l, Region.binds .any e = true ∧ e.on = j
  | [], _, h => by simp [edgeTo] at h
  | e :: l, j, h => by
    simp only [edgeTo, Bool.or_eq_true, Bool.and_eq_true] at h
    rcases h with ⟨h1, h2⟩ | h
    · exact ⟨e, .head _, h1, Nat.eq_of_beq_eq_true h2⟩
    · obtain ⟨e', h1, h2⟩ := edgeTo_ok h; exact ⟨e', .tail _ h1, h2⟩
theorem laterTo_ok : ∀ {l : List Oper} {j : Nat}, laterTo l j = true → ∃ (i : Nat) (o : Oper), l[i]? = some o ∧ ∃ e ∈ o.after.toList, Region.binds .any e = true ∧ e.on = j
  | [], _, h => by simp [laterTo] at h
  | o :: l, j, h => by
    simp only [laterTo, Bool.or_eq_true] at h
    rcases h with h | h
    · exact ⟨0, o, rfl, edgeTo_ok h⟩
    · obtain ⟨i, o', h1, h2⟩ := laterTo_ok h; exact ⟨i + 1, o', by simpa using h1, h2⟩
theorem tailAll_ok {L : List Oper} : ∀ {l : List Oper} {j : Nat}, tailAll L j l = true → ∀ i, i + 1 < l.length → ∃ (q : Nat) (o : Oper), i < q ∧ l[q]? = some o ∧ ∃ e ∈ o.after.toList, Region.binds .any e = true ∧ e.on = j + i
  | [], _, _, i, hi => by simp at hi
  | [_], _, _, i, hi => by simp at hi
  | x :: y :: r, j, h, i, hi => by
    simp only [tailAll, Bool.and_eq_true] at h
    cases i with
    | zero =>
      obtain ⟨q, o, h1, h2⟩ := laterTo_ok h.1
      exact ⟨q + 1, o, by omega, by simpa using h1, by simpa using h2⟩
    | succ i =>
      obtain ⟨q, o, h0, h1, h2⟩ := tailAll_ok h.2 i (by simpa using hi)
      exact ⟨q + 1, o, by omega, by simpa using h1, by rw [show j + (i + 1) = j + 1 + i by omega]; exact h2⟩

section
variable {P : Program} {lay : Lay} {A A' : St} {Q : Exit → St → Prop} {fns : Fns}
/-- A region that draws its order, whose last operation waits for all others: the others come to what the written order comes to, then the last goes. -/
theorem KW.drawnTail (hl : LayOk P lay) (hT : FnsOk P fns) (hm : P.follows .mixedOrders = true) {id : Nat} {ops : Array Oper} {k : List K} {φ : Prop} {n : Nat} {last : Oper} (hsize : ops.size = n + 1) (hlast : ops[n]? = some last) (hdep : depOk ops = true) (htl : tailOk ops = true) (hg : drawGo lay fns ops (takeN n ops.toList) A True = some (A', φ)) (hφ : φ)
    (hn : KW P (.ops ops [last] :: k) .normal A' Q) : KW P (.code (.region id ops true) :: k) .normal A Q := by
  rw [takeN_eq] at hg
  obtain ⟨_, prs, hlen, hA', hprs⟩ := drawGo_spec hg hφ
  have dep := depOk_ok hdep
  have hlen' : prs.length = n := by simp only [List.length_take, Array.length_toList, hsize] at hlen; omega
  have htail : ∀ i, i < n → ∃ (q : Nat) (o : Oper), i < q ∧ ops[q]? = some o ∧ ∃ e ∈ o.after, Region.binds .any e = true ∧ e.on = i := fun i hi => by
    obtain ⟨q, o, h0, h1, e, h2, h3, h4⟩ := tailAll_ok htl i (by simp [hsize, hi])
    exact ⟨q, o, h0, by simpa using h1, e, by simpa using h2, h3, by simpa using h4⟩
  have hop : ∀ (i : Nat) op, i < n → ops[i]? = some op → ∃ d y ψ, prs[i]? = some (d, y) ∧ op.dst = some d ∧ Nat.blt d A.n = true ∧ stepD lay fns ⟨A.n, pickS ((prs.take i).reverse ++ A.sl) (looks ops op), A.rs⟩ ops op = some (y, ψ) ∧ ψ :=
    fun i op hin hi => hprs i op (by rw [List.getElem?_take, if_pos hin]; simpa using hi)
  have hinv : ∀ (j : Nat) d y, prs[j]? = some (d, y) → ∃ op, ops[j]? = some op ∧ op.dst = some d := fun j d y hj => by
    have hltn : j < n := by rw [← hlen']; exact (List.getElem?_eq_some_iff.1 hj).1
    have hlt : j < ops.size := by omega
    obtain ⟨d', y', ψ, g1, g2, _⟩ := hop j ops[j] hltn (Array.getElem?_eq_getElem hlt)
    rw [hj] at g1
    cases g1
    exact ⟨_, Array.getElem?_eq_getElem hlt, g2⟩
  have hpw : prs.Pairwise (fun a b => a.1 ≠ b.1) := by
    rw [List.pairwise_iff_getElem]
    intro i j hi hj hij e
    obtain ⟨oi, h1, h2⟩ := hinv i prs[i].1 prs[i].2 (List.getElem?_eq_getElem hi)
    obtain ⟨oj, h3, h4⟩ := hinv j prs[j].1 prs[j].2 (List.getElem?_eq_getElem hj)
    have := dep.dist i j oi oj _ h1 h3 h2 (by rw [h4, e])
    omega
  intro o h tm w hs
  show (Code.region id ops true).wp P (kq P (lift Q o w) k) ⟨tm, []⟩ w
  refine wp_region_any hm ?_
  have main : ∀ (fuel : Nat) (listed : Array Bool) (o' : Nat → Tag) (h' : Nat → Value) (tm' : Array Value) (w' : World), listed.size = ops.size → listed.getD n false = false → cntU (fun j => listed.getD j false) n + 1 ≤ fuel →
      (∀ (i : Nat) oi, ops[i]? = some oi → listed.getD i false = true → ∀ e ∈ oi.after, Region.binds .any e = true → listed.getD e.on false = true) →
      Sat o' h' ⟨A.n, selL (fun j => listed.getD j false) 0 prs ++ A.sl, A.rs⟩ tm' w' → Ext o w o' w' → wpAny P .any ops (kq P (lift Q o w) k) fuel listed ⟨tm', []⟩ w' := by
    intro fuel
    -- all have come up
    have full : ∀ (listed : Array Bool) (o' : Nat → Tag) (h' : Nat → Value) (tm' : Array Value) (w' : World), (∀ j, j < n → listed.getD j false = true) →
        Sat o' h' ⟨A.n, selL (fun j => listed.getD j false) 0 prs ++ A.sl, A.rs⟩ tm' w' → Ext o w o' w' → kq P (lift Q o w) (.ops ops [last] :: k) .normal ⟨tm', []⟩ w' := by
      intro listed o' h' tm' w' hall hs' hx
      refine kq_mono (lift_trans hx) (.ops ops [last] :: k) .normal _ w' (hn o' h' tm' w' ?_)
      subst hA'
      refine ⟨hs'.size, hs'.tags, fun t x hl => hs'.slot t x ?_, hs'.res⟩
      simp only at hl ⊢
      by_cases hex : ∃ y, (t, y) ∈ prs
      · obtain ⟨y, hy⟩ := hex
        have e1 := mem_lk (base := A.sl) (l := prs.reverse) (List.pairwise_reverse.2 (hpw.imp fun h => Ne.symm h)) (List.mem_reverse.2 hy)
        rw [e1] at hl
        cases hl
        obtain ⟨j, hj⟩ := List.mem_iff_getElem?.1 hy
        refine mem_lk (hpw.sublist (selL_sub _ _ _)) (selL_mem.2 ⟨j, hj, ?_⟩)
        have : j < n := by rw [← hlen']; exact (List.getElem?_eq_some_iff.1 hj).1
        simpa using hall j this
      · have hno : ∀ y, (t, y) ∉ prs := fun y hy => hex ⟨y, hy⟩
        rw [nomem_lk fun y hy => hno y (List.mem_reverse.1 hy)] at hl
        rw [nomem_lk fun y hy => hno y ((selL_sub _ _ _).subset hy)]
        exact hl
    have done : ∀ (listed : Array Bool), listed.size = ops.size → Region.ready .any ops listed = [] → ∀ j, j < ops.size → listed.getD j false = true := by
      intro listed hsz hr j
      induction j using Nat.strongRecOn with
      | ind j ih =>
        intro hj
        cases hlj : listed.getD j false with
        | true => rfl
        | false =>
          exfalso
          have : j ∈ Region.ready .any ops listed := by
            rw [mem_ready]
            refine ⟨?_, ops[j], Array.getElem?_eq_getElem hj, fun e he hb => ?_⟩
            · rw [Array.getD_eq_getD_getElem?] at hlj ⊢
              rw [Array.getElem?_eq_getElem (by omega)] at hlj ⊢
              exact hlj
            · have hlt := dep.below j ops[j] (Array.getElem?_eq_getElem hj) e he hb
              exact ih e.on hlt (by omega)
          rw [hr] at this
          cases this
    induction fuel with
    | zero =>
      intro listed o' h' tm' w' hsz hnl hc
      omega
    | succ fuel ih =>
      intro listed o' h' tm' w' hsz hnl hc hcl hs' hx
      refine ⟨fun hr => (by have := done listed hsz hr n (by omega); rw [hnl] at this; cases this), fun i hi => ?_⟩
      obtain ⟨hun, op, hop', haft⟩ := mem_ready.1 hi
      by_cases hin : i = n
      · subst hin
        rw [hlast] at hop'
        cases hop'
        have hall : ∀ d j, j < i → i ≤ j + d → listed.getD j false = true := by
          intro d
          induction d with
          | zero => intro j h1 h2; omega
          | succ d ihd =>
            intro j h1 h2
            obtain ⟨q, oq, h3, h4, e, h5, h6, h7⟩ := htail j h1
            have hq : q < ops.size := (Array.getElem?_eq_some_iff.1 h4).1
            by_cases hqi : q = i
            · subst hqi
              rw [hlast] at h4
              cases h4
              rw [← h7]; exact haft e h5 h6
            · have := ihd q (by omega) (by omega)
              rw [← h7]; exact hcl q oq h4 this e h5 h6
        have hf := full listed o' h' tm' w' (fun j hj => hall i j hj (by omega)) hs' hx
        have hget : ∀ j, j < ops.size → (listed.setIfInBounds i true).getD j false = true := fun j hj => by
          by_cases hji : j = i
          · subst hji
            rw [Array.getD_eq_getD_getElem?, Array.getElem?_setIfInBounds_self]
            simp [hsz, hj]
          · rw [getD_set_ne false (Ne.symm hji)]
            exact hall i j (by omega) (by omega)
        have hrdy : Region.ready .any ops (listed.setIfInBounds i true) = [] := by
          cases hr : Region.ready .any ops (listed.setIfInBounds i true) with
          | nil => rfl
          | cons j l =>
            exfalso
            have hj : j ∈ Region.ready .any ops (listed.setIfInBounds i true) := by rw [hr]; exact .head _
            obtain ⟨h1, oj, h2, _⟩ := mem_ready.1 hj
            have hlt : j < ops.size := (Array.getElem?_eq_some_iff.1 h2).1
            have := hget j hlt
            rw [Array.getD_eq_getD_getElem?, Array.getElem?_eq_getElem (by simp; omega)] at this h1
            simp at this h1
            rw [h1] at this
            cases this
        have hnext : ∀ a wz, kq P (lift Q o w) k .normal a wz → wpAny P .any ops (kq P (lift Q o w) k) fuel (listed.setIfInBounds i true) a wz := fun a wz hq => by
          cases fuel with
          | zero => exact ⟨hrdy, hq⟩
          | succ _ => exact ⟨fun _ => hq, fun j hj => by rw [hrdy] at hj; cases hj⟩
        unfold wpOp
        simp only [hlast]
        replace hf : wpList P ops (kq P (lift Q o w) k) [last] ⟨tm', []⟩ w' := hf
        unfold wpList at hf
        split at hf
        · rename_i hw
          rw [if_pos hw]
          exact hf.imp (fun h => upon_mono (fun a w => hnext a w) (fun _ _ _ h => h) h) (fun h => h)
        · rename_i hw
          rw [if_neg hw]
          exact hnext _ _ hf
      have hlt : i < ops.size := (Array.getElem?_eq_some_iff.1 hop').1
      have hun' : listed.getD i false = false := by
        rw [Array.getD_eq_getD_getElem?, Array.getElem?_eq_getElem (by omega)] at hun ⊢
        exact hun
      obtain ⟨d, y, ψ, g1, g2, g3, g4, g5⟩ := hop i op (by omega) hop'
      have hle : St.le ⟨A.n, pickS ((prs.take i).reverse ++ A.sl) (looks ops op), A.rs⟩ ⟨A.n, selL (fun j => listed.getD j false) 0 prs ++ A.sl, A.rs⟩ := by
        refine ⟨rfl, rfl, fun t x hl => ?_⟩
        obtain ⟨e1, hm⟩ := pickS_lk hl
        simp only at e1 ⊢
        by_cases hex : ∃ (j : Nat) (y' : SV), prs[j]? = some (t, y')
        · obtain ⟨j, y', hj⟩ := hex
          obtain ⟨oj, hoj, hdj⟩ := hinv j t y' hj
          have huniq : ∀ (j' : Nat) y'', prs[j']? = some (t, y'') → j' = j := fun j' y'' hj' => by
            obtain ⟨oj', hoj', hdj'⟩ := hinv j' t y'' hj'
            exact dep.dist j' j oj' oj t hoj' hoj hdj' hdj
          rcases dep.look i j op oj t hop' hoj hdj hm with ⟨hji, e, he, hb, heq⟩ | ⟨hij, e, he, hb, heq⟩
          · have hlj : listed.getD j false = true := by rw [← heq]; exact haft e he hb
            rw [mem_lk (List.pairwise_reverse.2 ((hpw.sublist (List.take_sublist i prs)).imp fun h => Ne.symm h)) (List.mem_reverse.2 (List.mem_of_getElem? (i := j) (by rw [List.getElem?_take, if_pos hji]; exact hj)))] at e1
            cases e1
            exact mem_lk (hpw.sublist (selL_sub _ _ _)) (selL_mem.2 ⟨j, hj, by simpa using hlj⟩)
          · have hlj : listed.getD j false = false := by
              cases hlj : listed.getD j false with
              | false => rfl
              | true =>
                have := hcl j oj hoj hlj e he hb
                rw [heq, hun'] at this
                cases this
            rw [nomem_lk fun y'' hy => ?_] at e1
            · rw [nomem_lk fun y'' hy => ?_]
              · exact e1
              · obtain ⟨j', hj', hl'⟩ := selL_mem.1 hy
                rw [huniq j' y'' hj'] at hl'
                simp [hlj] at hl'
            · obtain ⟨j', hj'⟩ := List.mem_iff_getElem?.1 (List.mem_reverse.1 hy)
              rw [List.getElem?_take] at hj'
              split at hj'
              · have := huniq j' y'' hj'; omega
              · cases hj'
        · have hno : ∀ y, (t, y) ∉ prs := fun y hy => by
            obtain ⟨j, hj⟩ := List.mem_iff_getElem?.1 hy
            exact hex ⟨j, y, hj⟩
          rw [nomem_lk fun y hy => hno y (List.mem_of_mem_take (List.mem_reverse.1 hy))] at e1
          rw [nomem_lk fun y hy => hno y ((selL_sub _ _ _).subset hy)]
          exact e1
      refine stepD_wp hl hT hop' hle hs' g2 g3 g4 g5 fun o2 h2 v w1 hs2 hext => ?_
      have hget : ∀ j, (listed.setIfInBounds i true).getD j false = if j = i then true else listed.getD j false := fun j => by
        by_cases hji : j = i
        · subst hji
          rw [if_pos rfl, Array.getD_eq_getD_getElem?, Array.getElem?_setIfInBounds_self]
          simp [hsz, hlt]
        · rw [if_neg hji, getD_set_ne false (Ne.symm hji)]
      refine ih (listed.setIfInBounds i true) o2 h2 _ w1 (by simp [hsz]) (by rw [hget, if_neg (Ne.symm hin)]; exact hnl) ?_ ?_ ⟨hs2.size, hs2.tags, fun t x hlk => hs2.slot t x ?_, hs2.res⟩ (hx.trans hext)
      · have := cntU_upd (ls := fun j => listed.getD j false) (ls' := fun j => (listed.setIfInBounds i true).getD j false) (i := i) (n := n) (by omega) hun' (by simp [hget]) fun j hj => by simp [hget, hj]
        omega
      · intro j oj hoj hlj e he hb
        rw [hget] at hlj ⊢
        by_cases he' : e.on = i
        · rw [if_pos he']
        · rw [if_neg he']
          by_cases hji : j = i
          · subst hji
            rw [hop'] at hoj
            cases hoj
            exact haft e he hb
          · rw [if_neg hji] at hlj
            exact hcl j oj hoj hlj e he hb
      · simp only at hlk ⊢
        rw [lk_cons]
        by_cases hdt : d = t
        · subst hdt
          rw [if_pos rfl]
          have := mem_lk (base := A.sl) (hpw.sublist (selL_sub (fun j => (listed.setIfInBounds i true).getD j false) 0 prs)) (selL_mem.2 ⟨i, g1, by simp [hget]⟩)
          rw [this] at hlk
          exact hlk
        · rw [if_neg hdt]
          by_cases hex : ∃ (j : Nat) (y' : SV), prs[j]? = some (t, y') ∧ (listed.setIfInBounds i true).getD j false = true
          · obtain ⟨j, y', hj, hlj⟩ := hex
            have hji : j ≠ i := by
              rintro rfl
              rw [g1] at hj
              cases hj
              exact hdt rfl
            rw [hget, if_neg hji] at hlj
            have := mem_lk (base := A.sl) (hpw.sublist (selL_sub (fun j => (listed.setIfInBounds i true).getD j false) 0 prs)) (selL_mem.2 ⟨j, hj, by simpa [hget, hji] using hlj⟩)
            rw [this] at hlk
            cases hlk
            exact mem_lk (hpw.sublist (selL_sub _ _ _)) (selL_mem.2 ⟨j, hj, by simpa using hlj⟩)
          · rw [nomem_lk fun y' hy => ?_] at hlk
            · rw [nomem_lk fun y' hy => ?_]
              · exact hlk
              · obtain ⟨j, hj, hlj⟩ := selL_mem.1 hy
                refine hex ⟨j, y', hj, ?_⟩
                rw [hget]
                split
                · rfl
                · simpa using hlj
            · obtain ⟨j, hj, hlj⟩ := selL_mem.1 hy
              exact hex ⟨j, y', hj, by simpa using hlj⟩
  refine main ops.size (Array.replicate ops.size false) o h tm w.drew (by simp) (by simp [Array.getD_eq_getD_getElem?, hsize]) ?_ ?_ ?_ (Ext.drew o w)
  · have : ∀ n, cntU (fun j => (Array.replicate ops.size false).getD j false) n ≤ n := by
      intro n
      induction n with
      | zero => exact Nat.le_refl _
      | succ n ih => simp only [cntU]; split <;> omega
    have := this n
    omega
  · intro i oi hoi hli
    simp [Array.getD_eq_getD_getElem?, Array.getElem?_replicate] at hli
    split at hli <;> cases hli
  · have hs' := hs.drew
    refine ⟨hs'.size, hs'.tags, fun t x hlk => hs'.slot t x ?_, hs'.res⟩
    rw [nomem_lk fun y hy => ?_] at hlk
    · exact hlk
    · obtain ⟨j, hj, hlj⟩ := selL_mem.1 hy
      simp [Array.getD_eq_getD_getElem?, Array.getElem?_replicate] at hlj
      split at hlj <;> cases hlj

/-- as far as a region that draws its order and ends in such an operation -/
theorem KW.goDT {k k' : List K} {e : Exit} {A'' : St} (hl : LayOk P lay) (hT : FnsOk P fns) (hm : P.follows .mixedOrders = true) (f : Nat) {id : Nat} {ops : Array Oper} {φ ψ : Prop} (h : run2 lay fns f k e A True = (.code (.region id ops true) :: k', .normal, A', φ)) (n : Nat) {last : Oper} (hsize : ops.size = n + 1) (hlast : ops[n]? = some last) (hdep : depOk ops = true) (htl : tailOk ops = true)
    (hg : drawGo lay fns ops (takeN n ops.toList) A' True = some (A'', ψ)) (hφ : φ) (hψ : ψ) (hn : KW P (.ops ops [last] :: k') .normal A'' Q) : KW P k e A Q :=
  KW.go hl hT f h hφ (KW.drawnTail hl hT hm hsize hlast hdep htl hg hψ hn)

/-- a function of one number that leaves memory as it is -/
theorem DoesF.ofSame {f : FuncId} {ys : List EV} {args : Array Value} {u : Value} (h1 : u.oneCell' = true) (ha : ∀ (o : Nat → Tag) (h : Nat → Value) (args' : Array Value) (w : World), Sat o h ⟨ys.length, idx 0 ys, []⟩ args' w → args' = args)
    (hc : ∀ w, Calls P f args w fun e w' => e = .returned u ∧ w' = w) : DoesF P f ys [] (.e (.c (.lit u))) [] := by
  intro o h args' w hs
  have := ha o h args' w hs
  subst this
  refine (hc w).mono ?_
  rintro e w' ⟨rfl, rfl⟩
  refine ⟨u, o, h, rfl, ⟨rfl, hs.tags, fun s x hl => ?_, fun i r hl => by simp [lk] at hl⟩, Ext.refl o _⟩
  rw [lk_cons] at hl
  split at hl
  · rename_i e; subst e; cases hl; exact ⟨rfl, h1⟩
  · simp [lk] at hl
end
end Go.Sy
