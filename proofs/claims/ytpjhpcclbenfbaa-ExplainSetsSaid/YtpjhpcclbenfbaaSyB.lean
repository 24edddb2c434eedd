/-
  SYMBOLIC STATES, PART B: the stack of what is left to do, what a call does ('Does'), and the rules of control.
-/
import Derived.Test.YtpjhpcclbenfbaaSyA
import Derived.Orders
namespace Go.Sy

inductive K where
  | code (c : Code)
  | ops (all : Array Oper) (l : List Oper)
  | blk (id : Nat)

def kq (P : Program) (Q : Exit → Act → World → Prop) : List K → Exit → Act → World → Prop
  | [], e, a, w => Q e a w
  | .code c :: k, e, a, w => match e with
    | .normal => c.wp P (kq P Q k) a w
    | e => kq P Q k e a w
  | .ops all l :: k, e, a, w => match e with
    | .normal => wpList P all (kq P Q k) l a w
    | e => kq P Q k e a w
  | .blk id :: k, e, a, w => match e with
    | .exit id' => if id' = id then kq P Q k .normal a w else kq P Q k (.exit id') a w
    | e => kq P Q k e a w

theorem upon_mono {P : Program} {o : Oper} {a : Act} {next next' : Act → World → Prop} {Q Q' : Exit → Act → World → Prop}
    (hn : ∀ a w, next a w → next' a w) (hq : ∀ e a w, Q e a w → Q' e a w) {r : Result Next} (h : o.upon P a next Q r) : o.upon P a next' Q' r := by
  cases r with
  | ok x w' =>
    cases x with
    | value v => exact hn _ _ h
    | skip => exact hn _ _ h
    | defer d => exact hn _ _ h
    | enter f args =>
      refine Calls.mono h ?_
      intro e w'' h
      cases e with
      | returned v => exact hn _ _ h
      | panicked ch => exact hq _ _ _ h
      | outgrown => exact let ⟨a, w, h⟩ := h; ⟨a, w, hq _ _ _ h⟩
    | row row args => exact Rows.mono h fun v w'' h => hn _ _ h
    | _ => exact h.elim
  | halt x w' =>
    cases x with
    | panic v => exact hq _ _ _ h
    | _ => exact h.elim

theorem wpList_mono {P : Program} {all : Array Oper} {Q Q' : Exit → Act → World → Prop} (hq : ∀ e a w, Q e a w → Q' e a w) :
    ∀ (l : List Oper) (a : Act) (w : World), wpList P all Q l a w → wpList P all Q' l a w := by
  intro l
  induction l with
  | nil => intro a w h; exact hq _ _ _ h
  | cons o l ih =>
    intro a w h
    unfold wpList at h ⊢
    split
    · rename_i hw
      rw [if_pos hw] at h
      rcases h with h | ⟨h1, a', w', h2⟩
      · exact .inl (upon_mono (fun a w => ih a w) hq h)
      · exact .inr ⟨h1, a', w', hq _ _ _ h2⟩
    · rename_i hw
      rw [if_neg hw] at h
      exact ih _ _ h

theorem kq_mono {P : Program} {Q Q' : Exit → Act → World → Prop} (hq : ∀ e a w, Q e a w → Q' e a w) :
    ∀ (k : List K) (e : Exit) (a : Act) (w : World), kq P Q k e a w → kq P Q' k e a w := by
  intro k
  induction k with
  | nil => intro e a w h; exact hq _ _ _ h
  | cons x k ih =>
    intro e a w h
    cases x with
    | code c => cases e <;> first | exact wp_mono h ih | exact ih _ _ _ h
    | ops all l => cases e <;> first | exact wpList_mono ih l a w h | exact ih _ _ _ h
    | blk id =>
      cases e with
      | exit id' =>
        simp only [kq] at h ⊢
        split
        · rename_i hi; rw [if_pos hi] at h; exact ih _ _ _ h
        · rename_i hi; rw [if_neg hi] at h; exact ih _ _ _ h
      | _ => exact ih _ _ _ h

def lift (Q : Exit → St → Prop) (o : Nat → Tag) (w : World) : Exit → Act → World → Prop := fun e a w' =>
  a.defers = [] ∧ ∃ o' h' A', Q e A' ∧ Sat o' h' A' a.tmps w' ∧ Ext o w o' w'

/-- from every memory that the state speaks of, what is left to do comes to an end where Q holds -/
def KW (P : Program) (k : List K) (e : Exit) (A : St) (Q : Exit → St → Prop) : Prop :=
  ∀ o h tm w, Sat o h A tm w → kq P (lift Q o w) k e ⟨tm, []⟩ w

/-- 'f', called at what 'pre' says of its parameters (slots 0, 1, ..), returns, and 'post' holds of its result (slot 0) -/
def Does (P : Program) (f : FuncId) (pre post : St) : Prop :=
  ∀ o h args w, Sat o h pre args w → Calls P f args w fun e w' => ∃ v o' h', e = .returned v ∧ Sat o' h' post #[v] w' ∧ Ext o w o' w'

theorem lift_trans {Q : Exit → St → Prop} {o o1 : Nat → Tag} {w w1 : World} (hx : Ext o w o1 w1) : ∀ e a w', lift Q o1 w1 e a w' → lift Q o w e a w' :=
  fun _ _ _ ⟨hd, o', h', A', hq, hs, he⟩ => ⟨hd, o', h', A', hq, hs, hx.trans he⟩

section
variable {P : Program} {k : List K} {A A' : St} {Q Q' : Exit → St → Prop} {e : Exit}

/-- a step that leaves memory as it is and says the same in other words -/
theorem KW.weaken (hw : ∀ o h tm w, Sat o h A tm w → ∃ o' h', Sat o' h' A' tm w ∧ Ext o w o' w) (h : KW P k e A' Q) : KW P k e A Q := by
  intro o hh tm w hs
  obtain ⟨o', h', hs', hx⟩ := hw o hh tm w hs
  exact kq_mono (lift_trans hx) k e _ w (h o' h' tm w hs')

theorem KW.mono (hq : ∀ e A, Q e A → Q' e A) (h : KW P k e A Q) : KW P k e A Q' := by
  intro o hh tm w hs
  refine kq_mono ?_ k e _ w (h o hh tm w hs)
  rintro e a w' ⟨hd, o', h', A', hQ, hr⟩
  exact ⟨hd, o', h', A', hq _ _ hQ, hr⟩

theorem KW.done (h : Q e A) : KW P [] e A Q := fun o hh _ w hs => ⟨rfl, o, hh, A, h, hs, Ext.refl o w⟩
theorem KW.ops_nil {all : Array Oper} (h : KW P k .normal A Q) : KW P (.ops all [] :: k) .normal A Q := fun o hh tm w hs => h o hh tm w hs
theorem KW.blk {id : Nat} (h : KW P k .normal A Q) : KW P (.blk id :: k) .normal A Q := fun o hh tm w hs => h o hh tm w hs
theorem KW.skip (h : KW P k .normal A Q) : KW P (.code .skip :: k) .normal A Q := fun o hh tm w hs => wp_skip (h o hh tm w hs)
theorem KW.label {l : Nat} (h : KW P k .normal A Q) : KW P (.code (.label l) :: k) .normal A Q := fun o hh tm w hs => wp_label (h o hh tm w hs)
theorem KW.exit {id : Nat} (h : KW P k (.exit id) A Q) : KW P (.code (.exit id) :: k) .normal A Q := fun o hh tm w hs => wp_exit (h o hh tm w hs)
theorem KW.ret (h : KW P k .ret A Q) : KW P (.code .ret :: k) .normal A Q := fun o hh tm w hs => wp_ret (h o hh tm w hs)
theorem KW.seq {x y : Code} (h : KW P (.code x :: .code y :: k) .normal A Q) : KW P (.code (.seq x y) :: k) .normal A Q := fun o hh tm w hs => by
  refine wp_seq (wp_mono (h o hh tm w hs) ?_)
  intro e a w' h
  cases e <;> exact h
theorem KW.block {id : Nat} {c : Code} (h : KW P (.code c :: .blk id :: k) .normal A Q) : KW P (.code (.block id c) :: k) .normal A Q := fun o hh tm w hs => by
  refine wp_block (wp_mono (h o hh tm w hs) ?_)
  intro e a w' h
  cases e with
  | exit id' => exact h
  | _ => exact h
theorem KW.region {id : Nat} {ops : Array Oper} (h : KW P (.ops ops ops.toList :: k) .normal A Q) : KW P (.code (.region id ops false) :: k) .normal A Q := fun o hh tm w hs =>
  wp_region_list (h o hh tm w hs)
theorem KW.pop_code {c : Code} (he : e ≠ .normal) (h : KW P k e A Q) : KW P (.code c :: k) e A Q := fun o hh tm w hs => by
  have := h o hh tm w hs
  cases e <;> first | exact this | exact absurd rfl he
theorem KW.pop_ops {all : Array Oper} {l : List Oper} (he : e ≠ .normal) (h : KW P k e A Q) : KW P (.ops all l :: k) e A Q := fun o hh tm w hs => by
  have := h o hh tm w hs
  cases e <;> first | exact this | exact absurd rfl he
theorem KW.blk_exit {id : Nat} (h : KW P k .normal A Q) : KW P (.blk id :: k) (.exit id) A Q := fun o hh tm w hs => by
  simp only [kq, if_true]; exact h o hh tm w hs
theorem KW.blk_other {id id' : Nat} (hne : id' ≠ id) (h : KW P k (.exit id') A Q) : KW P (.blk id :: k) (.exit id') A Q := fun o hh tm w hs => by
  simp only [kq, if_neg hne]; exact h o hh tm w hs
theorem KW.blk_ret {id : Nat} (h : KW P k .ret A Q) : KW P (.blk id :: k) .ret A Q := fun o hh tm w hs => h o hh tm w hs

/-- a cut: what the first part comes to, whatever way it goes -/
theorem KW.cut (M : Exit → St → Prop) (k1 : List K) (h1 : KW P k1 e A M) (h2 : ∀ e A, M e A → KW P k e A Q) : KW P (k1 ++ k) e A Q := by
  intro o hh tm w hs
  have key : ∀ (k1 : List K) (e : Exit) (a : Act) (w' : World), kq P (lift M o w) k1 e a w' → kq P (lift Q o w) (k1 ++ k) e a w' := by
    intro k1
    induction k1 with
    | nil =>
      rintro e ⟨tm', ds⟩ w' ⟨hd, o', h', A', hm, hs', hx⟩
      simp only at hd
      subst hd
      exact kq_mono (lift_trans hx) k e _ w' (h2 e A' hm o' h' _ w' hs')
    | cons x k1 ih =>
      intro e a w' h
      cases x with
      | code c => cases e <;> first | exact wp_mono h ih | exact ih _ _ _ h
      | ops all l => cases e <;> first | exact wpList_mono ih l a w' h | exact ih _ _ _ h
      | blk id =>
        cases e with
        | exit id' =>
          simp only [List.cons_append, kq] at h ⊢
          split
          · rename_i hi; rw [if_pos hi] at h; exact ih _ _ _ h
          · rename_i hi; rw [if_neg hi] at h; exact ih _ _ _ h
        | _ => exact ih _ _ _ h
  exact key k1 e _ w (h1 o hh tm w hs)

/-- a loop: 'I s' holds at each round's head, 'm' goes down -/
theorem KW.loop {c : Code} {σ : Type} (I : σ → St) (m : σ → Nat) (s : σ) (hA : ∀ o h tm w, Sat o h A tm w → ∃ o' h', Sat o' h' (I s) tm w ∧ Ext o w o' w)
    (round : ∀ s, KW P [.code c] .normal (I s) fun e A' => match e with
      | .normal => ∃ s', m s' < m s ∧ ∀ o h tm w, Sat o h A' tm w → ∃ o' h', Sat o' h' (I s') tm w ∧ Ext o w o' w
      | e => KW P k e A' Q) : KW P (.code (.loop c) :: k) .normal A Q := by
  refine KW.weaken hA ?_
  intro o hh tm w hs
  show (Code.loop c).wp P (kq P (lift Q o w) k) ⟨tm, []⟩ w
  let J : Nat → Act → World → Prop := fun n a w' => a.defers = [] ∧ ∃ s, m s = n ∧ ∃ o' h', Sat o' h' (I s) a.tmps w' ∧ Ext o w o' w'
  have hloop : ∀ n, ∀ a w', J n a w' → c.wp P (Exit.then (fun a'' w'' => ∃ n', n' < n ∧ J n' a'' w'') (kq P (lift Q o w) k)) a w' := by
    rintro n ⟨tm1, ds⟩ w1 ⟨hd, s1, rfl, o1, h1, hs1, hx1⟩
    simp only at hd
    subst hd
    refine wp_mono (round s1 o1 h1 tm1 w1 hs1) ?_
    rintro e ⟨tm2, ds2⟩ w2 hl
    obtain ⟨hd, o2, h2, A2, hq, hs2, hx2⟩ := hl
    simp only at hd
    subst hd
    cases e with
    | normal =>
      obtain ⟨s', hlt, hc⟩ := hq
      obtain ⟨o3, h3, hs3, hx3⟩ := hc o2 h2 tm2 w2 hs2
      exact ⟨m s', hlt, rfl, s', rfl, o3, h3, hs3, (hx1.trans hx2).trans hx3⟩
    | exit id => exact kq_mono (lift_trans (hx1.trans hx2)) k _ _ w2 (hq o2 h2 tm2 w2 hs2)
    | goto l => exact kq_mono (lift_trans (hx1.trans hx2)) k _ _ w2 (hq o2 h2 tm2 w2 hs2)
    | ret => exact kq_mono (lift_trans (hx1.trans hx2)) k _ _ w2 (hq o2 h2 tm2 w2 hs2)
    | panic ch => exact kq_mono (lift_trans (hx1.trans hx2)) k _ _ w2 (hq o2 h2 tm2 w2 hs2)
    | outgrown => exact kq_mono (lift_trans (hx1.trans hx2)) k _ _ w2 (hq o2 h2 tm2 w2 hs2)
  intro b k' cs
  have key : ∀ n a w', J n a w' → ∃ e a' w'', kq P (lift Q o w) k e a' w'' ∧ Arrives P (lone (b.at a (.code c :: .inLoop c :: k')) cs w') b k' cs e a' w'' := by
    intro n
    induction n using Nat.strongRecOn with
    | _ n ih =>
      intro a w' hJ
      obtain ⟨e, a₁, w₁, hq, harr⟩ := hloop n a w' hJ b (.inLoop c :: k') cs
      cases e with
      | normal =>
        obtain ⟨n', hlt, hJ'⟩ := hq
        obtain ⟨e₂, a₂, w₂, hq₂, harr₂⟩ := ih n' hlt a₁ w₁ hJ'
        exact ⟨e₂, a₂, w₂, hq₂, .of_steps (Steps.trans harr (.one step_inLoop)) harr₂⟩
      | exit id => exact ⟨_, a₁, w₁, hq, .pass (x := .inLoop c) rfl (fun _ _ => .inl (by simp)) harr⟩
      | goto l => exact ⟨_, a₁, w₁, hq, .pass (x := .inLoop c) rfl (fun _ _ => .inl (by simp)) harr⟩
      | ret => exact ⟨_, a₁, w₁, hq, .pass (x := .inLoop c) rfl (fun _ _ => .inl (by simp)) harr⟩
      | panic ch => exact ⟨_, a₁, w₁, hq, .pass (x := .inLoop c) rfl (fun _ _ => .inl (by simp)) harr⟩
      | outgrown => exact ⟨_, a₁, w₁, hq, .pass (x := .inLoop c) rfl (fun _ _ => .inl (by simp)) harr⟩
  obtain ⟨e, a', w'', hq, harr⟩ := key (m s) ⟨tm, []⟩ w ⟨rfl, s, rfl, o, hh, hs, Ext.refl o w⟩
  exact ⟨e, a', w'', hq, .of_steps (.one step_loop) harr⟩

/-- a test -/
theorem KW.cond {c : Operand} {x y : Code} {b : Bool} (hb : ∀ o h tm w, Sat o h A tm w → (⟨tm, []⟩ : Act).eval c = .bool b)
    (ht : b = true → KW P (.code x :: k) .normal A Q) (hf : b = false → KW P (.code y :: k) .normal A Q) : KW P (.code (.cond c x y) :: k) .normal A Q := by
  intro o hh tm w hs
  exact wp_cond_split (hb o hh tm w hs) (fun h => ht h o hh tm w hs) (fun h => hf h o hh tm w hs)
end

end Go.Sy
