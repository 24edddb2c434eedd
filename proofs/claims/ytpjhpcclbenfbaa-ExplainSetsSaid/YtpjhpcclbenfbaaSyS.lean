/-
  SYMBOLIC STATES, PART S: the rule for a region that draws its order.
-/
import Derived.Test.YtpjhpcclbenfbaaSyR
set_option linter.unusedVariables false
set_option linter.unusedSimpArgs false
namespace Go.Sy

def pickS (sl : List (Nat × SV)) : List Nat → List (Nat × SV)
  | [] => []
  | t :: ts => match lk sl t with
    | some x => (t, x) :: pickS sl ts
    | none => pickS sl ts
theorem pickS_lk {sl : List (Nat × SV)} : ∀ {ts : List Nat} {t : Nat} {x : SV}, lk (pickS sl ts) t = some x → lk sl t = some x ∧ t ∈ ts
  | [], t, x, h => by simp [pickS, lk] at h
  | s :: ts, t, x, h => by
    simp only [pickS] at h
    split at h
    · rename_i y e
      rw [lk_cons] at h
      split at h
      · rename_i e2; subst e2; cases h; exact ⟨e, .head _⟩
      · exact ⟨(pickS_lk h).1, .tail _ (pickS_lk h).2⟩
    · exact ⟨(pickS_lk h).1, .tail _ (pickS_lk h).2⟩

def tmpsO : List Operand → List Nat
  | [] => []
  | .tmp t :: l => t :: tmpsO l
  | _ :: l => tmpsO l
def looks (ops : Array Oper) (o : Oper) : List Nat := appN (match o.guard with
  | some (j, _) => match nth ops.toList j with
    | some x => match x.dst with
      | some d => [d]
      | none => []
    | none => []
  | none => []) (tmpsO o.op.operands.toList)

def drawGo (lay : Lay) (fns : Fns) (ops : Array Oper) : List Oper → St → Prop → Option (St × Prop)
  | [], A, φ => some (A, φ)
  | op :: l, ⟨n, sl, rs⟩, φ => match op.dst with
    | some d => match Nat.blt d n, stepD lay fns ⟨n, pickS sl (looks ops op), rs⟩ ops op with
      | true, some (y, ψ) => drawGo lay fns ops l ⟨n, (d, y) :: sl, rs⟩ (φ ∧ ψ)
      | _, _ => none
    | none => none

theorem drawGo_spec {lay : Lay} {fns : Fns} {ops : Array Oper} : ∀ {l : List Oper} {A A' : St} {φ φ' : Prop}, drawGo lay fns ops l A φ = some (A', φ') → φ' → φ ∧ ∃ prs : List (Nat × SV), prs.length = l.length ∧ A' = ⟨A.n, prs.reverse ++ A.sl, A.rs⟩ ∧
    ∀ (i : Nat) op, l[i]? = some op → ∃ d y ψ, prs[i]? = some (d, y) ∧ op.dst = some d ∧ Nat.blt d A.n = true ∧ stepD lay fns ⟨A.n, pickS ((prs.take i).reverse ++ A.sl) (looks ops op), A.rs⟩ ops op = some (y, ψ) ∧ ψ
  | [], A, A', φ, φ', h, hφ => by
    simp only [drawGo, Option.some.injEq, Prod.mk.injEq] at h
    obtain ⟨rfl, rfl⟩ := h
    exact ⟨hφ, [], rfl, rfl, by simp⟩
  | op :: l, ⟨n, sl, rs⟩, A', φ, φ', h, hφ => by
    simp only [drawGo] at h
    split at h
    · rename_i d hd
      split at h
      · rename_i y ψ hlt hs
        obtain ⟨h1, prs, h2, h3, h4⟩ := drawGo_spec h hφ
        refine ⟨h1.1, (d, y) :: prs, by simp [h2], by simpa using h3, fun i op' hi => ?_⟩
        cases i with
        | zero => simp at hi; subst hi; exact ⟨d, y, ψ, by simp, hd, hlt, by simpa using hs, h1.2⟩
        | succ i =>
          simp at hi
          obtain ⟨d', y', ψ', g1, g2, g3, g4, g5⟩ := h4 i op' hi
          exact ⟨d', y', ψ', by simpa using g1, g2, g3, by simpa using g4, g5⟩
      · cases h
    · cases h

def anyE : List Edge → Nat → Bool
  | [], _ => false
  | e :: l, j => (Region.binds .any e && Nat.beq e.on j) || anyE l j
def belowE : List Edge → Nat → Bool
  | [], _ => true
  | e :: l, i => (!Region.binds .any e || Nat.blt e.on i) && belowE l i
def depPair (ops : Array Oper) (i : Nat) (oi : Oper) (j : Nat) (oj : Oper) : Bool :=
  match oj.dst with
  | some d => (Nat.beq i j || (match oi.dst with | some d' => !Nat.beq d' d | none => true)) && (!memN d (looks ops oi) || ((Nat.blt j i && anyE oi.after.toList j) || (Nat.blt i j && anyE oj.after.toList i)))
  | none => true
def depRow (ops : Array Oper) (i : Nat) (oi : Oper) : Nat → List Oper → Bool
  | _, [] => true
  | j, oj :: l => depPair ops i oi j oj && depRow ops i oi (j + 1) l
def depAll (ops : Array Oper) : Nat → List Oper → Bool
  | _, [] => true
  | i, oi :: l => belowE oi.after.toList i && (depRow ops i oi 0 ops.toList && depAll ops (i + 1) l)
def depOk (ops : Array Oper) : Bool := depAll ops 0 ops.toList

theorem anyE_ok : ∀ {l : List Edge} {j : Nat}, anyE l j = true → ∃ e ∈ l, Region.binds .any e = true ∧ e.on = j
  | [], j, h => by cases h
  | e :: l, j, h => by
    simp only [anyE, Bool.or_eq_true, Bool.and_eq_true] at h
    rcases h with ⟨h1, h2⟩ | h
    · exact ⟨e, .head _, h1, Nat.eq_of_beq_eq_true h2⟩
    · obtain ⟨e', h1, h2⟩ := anyE_ok h; exact ⟨e', .tail _ h1, h2⟩
theorem belowE_ok : ∀ {l : List Edge} {i : Nat}, belowE l i = true → ∀ e ∈ l, Region.binds .any e = true → e.on < i
  | [], i, h, e, he, _ => by cases he
  | e' :: l, i, h, e, he, hb => by
    simp only [belowE, Bool.and_eq_true, Bool.or_eq_true] at h
    rcases List.mem_cons.1 he with rfl | he
    · rcases h.1 with h1 | h1
      · simp [hb] at h1
      · simpa [Nat.blt, Nat.succ_le_iff] using h1
    · exact belowE_ok h.2 e he hb
theorem depRow_ok {ops : Array Oper} {i : Nat} {oi : Oper} : ∀ {l : List Oper} {k : Nat}, depRow ops i oi k l = true → ∀ (j : Nat) oj, l[j]? = some oj → depPair ops i oi (k + j) oj = true
  | [], k, h, j, oj, hj => by simp at hj
  | x :: l, k, h, j, oj, hj => by
    simp only [depRow, Bool.and_eq_true] at h
    cases j with
    | zero => simp at hj; subst hj; exact h.1
    | succ j => simp at hj; have := depRow_ok h.2 j oj hj; rwa [show k + 1 + j = k + (j + 1) by omega] at this
theorem depAll_ok {ops : Array Oper} : ∀ {l : List Oper} {k : Nat}, depAll ops k l = true → ∀ (i : Nat) oi, l[i]? = some oi → belowE oi.after.toList (k + i) = true ∧ depRow ops (k + i) oi 0 ops.toList = true
  | [], k, h, j, oj, hj => by simp at hj
  | x :: l, k, h, j, oj, hj => by
    simp only [depAll, Bool.and_eq_true] at h
    cases j with
    | zero => simp at hj; subst hj; exact ⟨h.1, h.2.1⟩
    | succ j => simp at hj; have := depAll_ok h.2.2 j oj hj; rwa [show k + 1 + j = k + (j + 1) by omega] at this

structure Dep (ops : Array Oper) : Prop where
  below : ∀ i oi, ops[i]? = some oi → ∀ e ∈ oi.after, Region.binds .any e = true → e.on < i
  dist : ∀ (i j : Nat) oi oj d, ops[i]? = some oi → ops[j]? = some oj → oi.dst = some d → oj.dst = some d → i = j
  look : ∀ (i j : Nat) oi oj d, ops[i]? = some oi → ops[j]? = some oj → oj.dst = some d → d ∈ looks ops oi → (j < i ∧ ∃ e ∈ oi.after, Region.binds .any e = true ∧ e.on = j) ∨ (i < j ∧ ∃ e ∈ oj.after, Region.binds .any e = true ∧ e.on = i)

theorem depOk_ok {ops : Array Oper} (h : depOk ops = true) : Dep ops := by
  have hl : ∀ (i : Nat) oi, ops[i]? = some oi → ops.toList[i]? = some oi := fun i oi h => by simpa using h
  have hp : ∀ (i j : Nat) oi oj, ops[i]? = some oi → ops[j]? = some oj → depPair ops i oi j oj = true := fun i j oi oj hi hj => by
    have := depRow_ok (depAll_ok h i oi (hl i oi hi)).2 j oj (hl j oj hj)
    simpa using this
  refine ⟨fun i oi hi e he hb => ?_, fun i j oi oj d hi hj hdi hdj => ?_, fun i j oi oj d hi hj hdj hm => ?_⟩
  · have := belowE_ok (depAll_ok h i oi (hl i oi hi)).1 e (by simpa using he) hb
    simpa using this
  · have := hp i j oi oj hi hj
    simp only [depPair, hdj, hdi, Bool.and_eq_true, Bool.or_eq_true] at this
    rcases this.1 with h1 | h1
    · exact Nat.eq_of_beq_eq_true h1
    · simp at h1
  · have := hp i j oi oj hi hj
    simp only [depPair, hdj, Bool.and_eq_true, Bool.or_eq_true] at this
    rcases this.2 with h1 | h1
    · rw [memN_of hm] at h1; cases h1
    · rcases h1 with ⟨h1, h2⟩ | ⟨h1, h2⟩
      · obtain ⟨e, g1, g2⟩ := anyE_ok h2
        exact .inl ⟨by simpa [Nat.blt, Nat.succ_le_iff] using h1, e, by simpa using g1, g2⟩
      · obtain ⟨e, g1, g2⟩ := anyE_ok h2
        exact .inr ⟨by simpa [Nat.blt, Nat.succ_le_iff] using h1, e, by simpa using g1, g2⟩

theorem mem_lk {base : List (Nat × SV)} : ∀ {l : List (Nat × SV)} {t : Nat} {y : SV}, l.Pairwise (fun a b => a.1 ≠ b.1) → (t, y) ∈ l → lk (l ++ base) t = some y
  | [], t, y, _, h => by cases h
  | (t', y') :: l, t, y, hp, h => by
    rw [List.cons_append, lk_cons]
    rw [List.pairwise_cons] at hp
    rcases List.mem_cons.1 h with e | h
    · cases e; rw [if_pos rfl]
    · rw [if_neg (hp.1 _ h)]; exact mem_lk hp.2 h
theorem nomem_lk {base : List (Nat × SV)} : ∀ {l : List (Nat × SV)} {t : Nat}, (∀ y, (t, y) ∉ l) → lk (l ++ base) t = lk base t
  | [], t, _ => rfl
  | (t', y') :: l, t, h => by
    rw [List.cons_append, lk_cons, if_neg]
    · exact nomem_lk fun y hy => h y (.tail _ hy)
    · rintro rfl; exact h y' (.head _)

/-- the slots of what has come up -/
def selL (ls : Nat → Bool) : Nat → List (Nat × SV) → List (Nat × SV)
  | _, [] => []
  | k, x :: l => if ls k then x :: selL ls (k + 1) l else selL ls (k + 1) l
theorem selL_sub (ls : Nat → Bool) : ∀ (k : Nat) (l : List (Nat × SV)), (selL ls k l).Sublist l
  | k, [] => .slnil
  | k, x :: l => by
    simp only [selL]
    split
    · exact (selL_sub ls (k + 1) l).cons_cons x
    · exact (selL_sub ls (k + 1) l).cons x
theorem selL_mem {ls : Nat → Bool} {x : Nat × SV} : ∀ {k : Nat} {l : List (Nat × SV)}, x ∈ selL ls k l ↔ ∃ j : Nat, l[j]? = some x ∧ ls (k + j) = true
  | k, [] => by simp [selL]
  | k, y :: l => by
    have ih := @selL_mem ls x (k + 1) l
    have e : (∃ j : Nat, (y :: l)[j]? = some x ∧ ls (k + j) = true) ↔ (y = x ∧ ls k = true) ∨ ∃ j : Nat, l[j]? = some x ∧ ls (k + 1 + j) = true := by
      constructor
      · rintro ⟨j, h1, h2⟩
        cases j with
        | zero => simp at h1; exact .inl ⟨h1, h2⟩
        | succ j => simp at h1; exact .inr ⟨j, h1, by rwa [show k + 1 + j = k + (j + 1) by omega]⟩
      · rintro (⟨rfl, h⟩ | ⟨j, h1, h2⟩)
        · exact ⟨0, by simp, h⟩
        · exact ⟨j + 1, by simpa using h1, by rwa [show k + (j + 1) = k + 1 + j by omega]⟩
    rw [e, ← ih]
    simp only [selL]
    split
    · rename_i hk; simp [hk, eq_comm]
    · rename_i hk; simp [hk]

def cntU (ls : Nat → Bool) : Nat → Nat
  | 0 => 0
  | n + 1 => (if ls n then 0 else 1) + cntU ls n
theorem cntU_congr {ls ls' : Nat → Bool} : ∀ {n : Nat}, (∀ j, j < n → ls j = ls' j) → cntU ls n = cntU ls' n
  | 0, _ => rfl
  | n + 1, h => by simp only [cntU]; rw [h n (by omega), cntU_congr fun j hj => h j (by omega)]
theorem cntU_upd {ls ls' : Nat → Bool} {i : Nat} : ∀ {n : Nat}, i < n → ls i = false → ls' i = true → (∀ j, j ≠ i → ls' j = ls j) → cntU ls' n + 1 = cntU ls n
  | 0, h, _, _, _ => by omega
  | n + 1, h, h1, h2, h3 => by
    simp only [cntU]
    by_cases hn : i = n
    · subst hn
      rw [h1, h2, cntU_congr (ls := ls') (ls' := ls) fun j hj => h3 j (by omega)]
      simp; omega
    · rw [h3 n (Ne.symm hn)]
      have := cntU_upd (n := n) (by omega) h1 h2 h3
      omega
theorem cntU_zero {ls : Nat → Bool} : ∀ {n : Nat}, cntU ls n = 0 → ∀ j, j < n → ls j = true
  | 0, _, j, hj => by omega
  | n + 1, h, j, hj => by
    simp only [cntU] at h
    by_cases hn : j = n
    · subst hn
      cases hl : ls j with
      | true => rfl
      | false => simp [hl] at h
    · exact cntU_zero (n := n) (by omega) j (by omega)

section
variable {P : Program} {lay : Lay} {A A' : St} {Q : Exit → St → Prop} {fns : Fns}

/-- A REGION THAT DRAWS ITS ORDER comes to what the written order comes to. -/
theorem KW.drawn (hl : LayOk P lay) (hT : FnsOk P fns) (hm : P.follows .mixedOrders = true) {id : Nat} {ops : Array Oper} {k : List K} {φ : Prop} (hdep : depOk ops = true) (hg : drawGo lay fns ops ops.toList A True = some (A', φ)) (hφ : φ)
    (hn : KW P k .normal A' Q) : KW P (.code (.region id ops true) :: k) .normal A Q := by
  obtain ⟨_, prs, hlen, hA', hprs⟩ := drawGo_spec hg hφ
  have dep := depOk_ok hdep
  have hlen' : prs.length = ops.size := by simpa using hlen
  have hop : ∀ (i : Nat) op, ops[i]? = some op → ∃ d y ψ, prs[i]? = some (d, y) ∧ op.dst = some d ∧ Nat.blt d A.n = true ∧ stepD lay fns ⟨A.n, pickS ((prs.take i).reverse ++ A.sl) (looks ops op), A.rs⟩ ops op = some (y, ψ) ∧ ψ :=
    fun i op hi => hprs i op (by simpa using hi)
  have hinv : ∀ (j : Nat) d y, prs[j]? = some (d, y) → ∃ op, ops[j]? = some op ∧ op.dst = some d := fun j d y hj => by
    have hlt : j < ops.size := by rw [← hlen']; exact (List.getElem?_eq_some_iff.1 hj).1
    obtain ⟨d', y', ψ, g1, g2, _⟩ := hop j ops[j] (Array.getElem?_eq_getElem hlt)
    rw [hj] at g1
    cases g1
    exact ⟨_, Array.getElem?_eq_getElem hlt, g2⟩
  have hpw : prs.Pairwise (fun a b => a.1 ≠ b.1) := by
    rw [List.pairwise_iff_getElem]
    intro i j hi hj hij e
    obtain ⟨oi, h1, h2⟩ := hinv i prs[i].1 prs[i].2 (List.getElem?_eq_getElem hi)
    obtain ⟨oj, h3, h4⟩ := hinv j prs[j].1 prs[j].2 (List.getElem?_eq_getElem hj)
    have := dep.dist i j oi oj _ h1 h3 h2 (by rw [h4, e])
    omega
  intro o h tm w hs
  show (Code.region id ops true).wp P (kq P (lift Q o w) k) ⟨tm, []⟩ w
  refine wp_region_any hm ?_
  have main : ∀ (fuel : Nat) (listed : Array Bool) (o' : Nat → Tag) (h' : Nat → Value) (tm' : Array Value) (w' : World), listed.size = ops.size → cntU (fun j => listed.getD j false) ops.size ≤ fuel →
      (∀ (i : Nat) oi, ops[i]? = some oi → listed.getD i false = true → ∀ e ∈ oi.after, Region.binds .any e = true → listed.getD e.on false = true) →
      Sat o' h' ⟨A.n, selL (fun j => listed.getD j false) 0 prs ++ A.sl, A.rs⟩ tm' w' → Ext o w o' w' → wpAny P .any ops (kq P (lift Q o w) k) fuel listed ⟨tm', []⟩ w' := by
    intro fuel
    -- all have come up
    have full : ∀ (listed : Array Bool) (o' : Nat → Tag) (h' : Nat → Value) (tm' : Array Value) (w' : World), (∀ j, j < ops.size → listed.getD j false = true) →
        Sat o' h' ⟨A.n, selL (fun j => listed.getD j false) 0 prs ++ A.sl, A.rs⟩ tm' w' → Ext o w o' w' → kq P (lift Q o w) k .normal ⟨tm', []⟩ w' := by
      intro listed o' h' tm' w' hall hs' hx
      refine kq_mono (lift_trans hx) k .normal _ w' (hn o' h' tm' w' ?_)
      subst hA'
      refine ⟨hs'.size, hs'.tags, fun t x hl => hs'.slot t x ?_, hs'.res⟩
      simp only at hl ⊢
      by_cases hex : ∃ y, (t, y) ∈ prs
      · obtain ⟨y, hy⟩ := hex
        have e1 := mem_lk (base := A.sl) (l := prs.reverse) (List.pairwise_reverse.2 (hpw.imp fun h => Ne.symm h)) (List.mem_reverse.2 hy)
        rw [e1] at hl
        cases hl
        obtain ⟨j, hj⟩ := List.mem_iff_getElem?.1 hy
        refine mem_lk (hpw.sublist (selL_sub _ _ _)) (selL_mem.2 ⟨j, hj, ?_⟩)
        have : j < ops.size := by rw [← hlen']; exact (List.getElem?_eq_some_iff.1 hj).1
        simpa using hall j this
      · have hno : ∀ y, (t, y) ∉ prs := fun y hy => hex ⟨y, hy⟩
        rw [nomem_lk fun y hy => hno y (List.mem_reverse.1 hy)] at hl
        rw [nomem_lk fun y hy => hno y ((selL_sub _ _ _).subset hy)]
        exact hl
    have done : ∀ (listed : Array Bool), listed.size = ops.size → Region.ready .any ops listed = [] → ∀ j, j < ops.size → listed.getD j false = true := by
      intro listed hsz hr j
      induction j using Nat.strongRecOn with
      | ind j ih =>
        intro hj
        cases hlj : listed.getD j false with
        | true => rfl
        | false =>
          exfalso
          have : j ∈ Region.ready .any ops listed := by
            rw [mem_ready]
            refine ⟨?_, ops[j], Array.getElem?_eq_getElem hj, fun e he hb => ?_⟩
            · rw [Array.getD_eq_getD_getElem?] at hlj ⊢
              rw [Array.getElem?_eq_getElem (by omega)] at hlj ⊢
              exact hlj
            · have hlt := dep.below j ops[j] (Array.getElem?_eq_getElem hj) e he hb
              exact ih e.on hlt (by omega)
          rw [hr] at this
          cases this
    induction fuel with
    | zero =>
      intro listed o' h' tm' w' hsz hc hcl hs' hx
      have hall := cntU_zero (Nat.le_zero.1 hc)
      refine ⟨?_, full listed o' h' tm' w' hall hs' hx⟩
      cases hr : Region.ready .any ops listed with
      | nil => rfl
      | cons j l =>
        exfalso
        have hj : j ∈ Region.ready .any ops listed := by rw [hr]; exact .head _
        obtain ⟨h1, oj, h2, _⟩ := mem_ready.1 hj
        have hlt : j < ops.size := (Array.getElem?_eq_some_iff.1 h2).1
        have := hall j hlt
        rw [Array.getD_eq_getD_getElem?, Array.getElem?_eq_getElem (by omega)] at this h1
        simp at this h1
        rw [h1] at this
        cases this
    | succ fuel ih =>
      intro listed o' h' tm' w' hsz hc hcl hs' hx
      refine ⟨fun hr => full listed o' h' tm' w' (done listed hsz hr) hs' hx, fun i hi => ?_⟩
      obtain ⟨hun, op, hop', haft⟩ := mem_ready.1 hi
      have hlt : i < ops.size := (Array.getElem?_eq_some_iff.1 hop').1
      have hun' : listed.getD i false = false := by
        rw [Array.getD_eq_getD_getElem?, Array.getElem?_eq_getElem (by omega)] at hun ⊢
        exact hun
      obtain ⟨d, y, ψ, g1, g2, g3, g4, g5⟩ := hop i op hop'
      have hle : St.le ⟨A.n, pickS ((prs.take i).reverse ++ A.sl) (looks ops op), A.rs⟩ ⟨A.n, selL (fun j => listed.getD j false) 0 prs ++ A.sl, A.rs⟩ := by
        refine ⟨rfl, rfl, fun t x hl => ?_⟩
        obtain ⟨e1, hm⟩ := pickS_lk hl
        simp only at e1 ⊢
        by_cases hex : ∃ (j : Nat) (y' : SV), prs[j]? = some (t, y')
        · obtain ⟨j, y', hj⟩ := hex
          obtain ⟨oj, hoj, hdj⟩ := hinv j t y' hj
          have huniq : ∀ (j' : Nat) y'', prs[j']? = some (t, y'') → j' = j := fun j' y'' hj' => by
            obtain ⟨oj', hoj', hdj'⟩ := hinv j' t y'' hj'
            exact dep.dist j' j oj' oj t hoj' hoj hdj' hdj
          rcases dep.look i j op oj t hop' hoj hdj hm with ⟨hji, e, he, hb, heq⟩ | ⟨hij, e, he, hb, heq⟩
          · have hlj : listed.getD j false = true := by rw [← heq]; exact haft e he hb
            rw [mem_lk (List.pairwise_reverse.2 ((hpw.sublist (List.take_sublist i prs)).imp fun h => Ne.symm h)) (List.mem_reverse.2 (List.mem_of_getElem? (i := j) (by rw [List.getElem?_take, if_pos hji]; exact hj)))] at e1
            cases e1
            exact mem_lk (hpw.sublist (selL_sub _ _ _)) (selL_mem.2 ⟨j, hj, by simpa using hlj⟩)
          · have hlj : listed.getD j false = false := by
              cases hlj : listed.getD j false with
              | false => rfl
              | true =>
                have := hcl j oj hoj hlj e he hb
                rw [heq, hun'] at this
                cases this
            rw [nomem_lk fun y'' hy => ?_] at e1
            · rw [nomem_lk fun y'' hy => ?_]
              · exact e1
              · obtain ⟨j', hj', hl'⟩ := selL_mem.1 hy
                rw [huniq j' y'' hj'] at hl'
                simp [hlj] at hl'
            · obtain ⟨j', hj'⟩ := List.mem_iff_getElem?.1 (List.mem_reverse.1 hy)
              rw [List.getElem?_take] at hj'
              split at hj'
              · have := huniq j' y'' hj'; omega
              · cases hj'
        · have hno : ∀ y, (t, y) ∉ prs := fun y hy => by
            obtain ⟨j, hj⟩ := List.mem_iff_getElem?.1 hy
            exact hex ⟨j, y, hj⟩
          rw [nomem_lk fun y hy => hno y (List.mem_of_mem_take (List.mem_reverse.1 hy))] at e1
          rw [nomem_lk fun y hy => hno y ((selL_sub _ _ _).subset hy)]
          exact e1
      refine stepD_wp hl hT hop' hle hs' g2 g3 g4 g5 fun o2 h2 v w1 hs2 hext => ?_
      have hget : ∀ j, (listed.setIfInBounds i true).getD j false = if j = i then true else listed.getD j false := fun j => by
        by_cases hji : j = i
        · subst hji
          rw [if_pos rfl, Array.getD_eq_getD_getElem?, Array.getElem?_setIfInBounds_self]
          simp [hsz, hlt]
        · rw [if_neg hji, getD_set_ne false (Ne.symm hji)]
      refine ih (listed.setIfInBounds i true) o2 h2 _ w1 (by simp [hsz]) ?_ ?_ ⟨hs2.size, hs2.tags, fun t x hlk => hs2.slot t x ?_, hs2.res⟩ (hx.trans hext)
      · have := cntU_upd (ls := fun j => listed.getD j false) (ls' := fun j => (listed.setIfInBounds i true).getD j false) (i := i) (n := ops.size) hlt hun' (by simp [hget]) fun j hj => by simp [hget, hj]
        omega
      · intro j oj hoj hlj e he hb
        rw [hget] at hlj ⊢
        by_cases he' : e.on = i
        · rw [if_pos he']
        · rw [if_neg he']
          by_cases hji : j = i
          · subst hji
            rw [hop'] at hoj
            cases hoj
            exact haft e he hb
          · rw [if_neg hji] at hlj
            exact hcl j oj hoj hlj e he hb
      · simp only at hlk ⊢
        rw [lk_cons]
        by_cases hdt : d = t
        · subst hdt
          rw [if_pos rfl]
          have := mem_lk (base := A.sl) (hpw.sublist (selL_sub (fun j => (listed.setIfInBounds i true).getD j false) 0 prs)) (selL_mem.2 ⟨i, g1, by simp [hget]⟩)
          rw [this] at hlk
          exact hlk
        · rw [if_neg hdt]
          by_cases hex : ∃ (j : Nat) (y' : SV), prs[j]? = some (t, y') ∧ (listed.setIfInBounds i true).getD j false = true
          · obtain ⟨j, y', hj, hlj⟩ := hex
            have hji : j ≠ i := by
              rintro rfl
              rw [g1] at hj
              cases hj
              exact hdt rfl
            rw [hget, if_neg hji] at hlj
            have := mem_lk (base := A.sl) (hpw.sublist (selL_sub (fun j => (listed.setIfInBounds i true).getD j false) 0 prs)) (selL_mem.2 ⟨j, hj, by simpa [hget, hji] using hlj⟩)
            rw [this] at hlk
            cases hlk
            exact mem_lk (hpw.sublist (selL_sub _ _ _)) (selL_mem.2 ⟨j, hj, by simpa using hlj⟩)
          · rw [nomem_lk fun y' hy => ?_] at hlk
            · rw [nomem_lk fun y' hy => ?_]
              · exact hlk
              · obtain ⟨j, hj, hlj⟩ := selL_mem.1 hy
                refine hex ⟨j, y', hj, ?_⟩
                rw [hget]
                split
                · rfl
                · simpa using hlj
            · obtain ⟨j, hj, hlj⟩ := selL_mem.1 hy
              exact hex ⟨j, y', hj, by simpa using hlj⟩
  refine main ops.size (Array.replicate ops.size false) o h tm w.drew (by simp) ?_ ?_ ?_ (Ext.drew o w)
  · have : ∀ n, cntU (fun j => (Array.replicate ops.size false).getD j false) n ≤ n := by
      intro n
      induction n with
      | zero => exact Nat.le_refl _
      | succ n ih => simp only [cntU]; split <;> omega
    exact this _
  · intro i oi hoi hli
    simp [Array.getD_eq_getD_getElem?, Array.getElem?_replicate] at hli
    split at hli <;> cases hli
  · have hs' := hs.drew
    refine ⟨hs'.size, hs'.tags, fun t x hlk => hs'.slot t x ?_, hs'.res⟩
    rw [nomem_lk fun y hy => ?_] at hlk
    · exact hlk
    · obtain ⟨j, hj, hlj⟩ := selL_mem.1 hy
      simp [Array.getD_eq_getD_getElem?, Array.getElem?_replicate] at hlj
      split at hlj <;> cases hlj
end

end Go.Sy
