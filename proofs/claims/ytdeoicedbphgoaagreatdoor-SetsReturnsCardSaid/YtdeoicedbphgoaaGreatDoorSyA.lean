/-
  SyA, SyB, SyC, SyD, SyE, one text.
-/
import Derived.Laws.AppendOwn
import Derived.Laws.Append
import Derived.WalkKit
import Derived.WideLaws
import Derived.Orders
import Derived.IntWalk
import Derived.Laws.StructEq
set_option linter.unusedSectionVars false
set_option linter.unusedVariables false
set_option linter.unusedSimpArgs false
/-
  SYMBOLIC STATES, PART A: pure values, what they say of memory, and that they stand while memory grows. No program is named here.
-/
namespace Go.Sy

/-- what a block is to the call that runs: nothing it knows; stable (read by anybody, written by nobody); a resource of its own -/
inductive Tag where
  | no | sh | hd (i : Nat)

/-- one cell's value: plain; a slice of n elements of k cells; a function with m captured stable boxes -/
inductive CV where
  | lit (v : Value)
  | sl (n k : Nat) (f : Nat → Nat → CV)
  | clo (g : FuncId) (m : Nat) (ks : Nat → Nat) (caps : Nat → Nat → CV)

/-- a slot's value -/
inductive EV where
  | dead
  | c (x : CV)
  | ag (cs : List CV)
  | r (i : Nat)
  | pt (i k e q : Nat)
  | pe (n k : Nat) (f : Nat → Nat → CV) (e q : Nat)
  | fn (g : FuncId) (hs : List Nat)
  | gd (b : Bool) (x : EV)

inductive SV where
  | e (x : EV)
  | tup (xs : List EV)

inductive Res where
  | own (E : Nat) (x : CV)
  | box (T : Nat) (cs : List EV) (bk : Option Nat)
  | mset (xs : List Int)
  | glo (b T : Nat) (vs : List Value)
  | gone

structure St where
  n : Nat
  sl : List (Nat × SV)
  rs : List (Nat × Res)

def lk {α : Type} : List (Nat × α) → Nat → Option α
  | [], _ => none
  | (j, x) :: l, s => bif Nat.beq j s then some x else lk l s

theorem lk_cons {α : Type} (j : Nat) (x : α) (l : List (Nat × α)) (s : Nat) : lk ((j, x) :: l) s = if j = s then some x else lk l s := by
  simp only [lk]
  by_cases h : j = s
  · subst h; simp [Nat.beq_refl]
  · have : Nat.beq j s = false := by cases hb : Nat.beq j s with
      | false => rfl
      | true => exact absurd (Nat.eq_of_beq_eq_true hb) h
    simp [this, h]

def RepV (o : Nat → Tag) (w : World) : CV → Value → Prop
  | .lit u, v => v = u ∧ u.oneCell' = true
  | .sl n k f, v => ∃ a cap, v = .slice a n cap ∧ n ≤ cap ∧ cap ≤ maxLen ∧
      (n = 0 ∨ ∃ b off, a = some ⟨b, off, none⟩ ∧ o b = .sh ∧ ∀ e q, e < n → q < k → ∃ u, w.cell? ⟨b, off + (e * k + q), none⟩ = some u ∧ RepV o w (f e q) u)
  | .clo g m ks caps, v => ∃ bs : Nat → Nat, v = .func (.func g) #[] ((List.range m).map fun j => Value.pointer (some ⟨bs j, 0, none⟩)).toArray ∧
      ∀ j, j < m → o (bs j) = .sh ∧ ∀ q, q < ks j → ∃ u, w.cell? ⟨bs j, q, none⟩ = some u ∧ RepV o w (caps j q) u

theorem RepV.one {o : Nat → Tag} {w : World} {x : CV} {v : Value} (h : RepV o w x v) : v.oneCell' = true := by
  cases x with
  | lit u => obtain ⟨rfl, h⟩ := h; exact h
  | sl n k f => obtain ⟨a, cap, rfl, _⟩ := h; rfl
  | clo g m ks caps => obtain ⟨bs, rfl, _⟩ := h; rfl

/-- what is stable stays: the tag, and the block -/
def Keep (o : Nat → Tag) (w : World) (o' : Nat → Tag) (w' : World) : Prop := ∀ b, o b = .sh → o' b = .sh ∧ w'.heap[b]? = w.heap[b]?

theorem Keep.refl (o : Nat → Tag) (w : World) : Keep o w o w := fun _ h => ⟨h, rfl⟩
theorem Keep.trans {o o' o'' : Nat → Tag} {w w' w'' : World} (h : Keep o w o' w') (h' : Keep o' w' o'' w'') : Keep o w o'' w'' :=
  fun b hb => ⟨(h' b (h b hb).1).1, (h' b (h b hb).1).2.trans (h b hb).2⟩

theorem RepV.keep {o o' : Nat → Tag} {w w' : World} (hk : Keep o w o' w') {x : CV} : ∀ {v : Value}, RepV o w x v → RepV o' w' x v := by
  induction x with
  | lit u => intro v h; exact h
  | sl n k f ih =>
    rintro v ⟨a, cap, rfl, h1, h2, h3⟩
    refine ⟨a, cap, rfl, h1, h2, h3.imp id ?_⟩
    rintro ⟨b, off, rfl, hb, hr⟩
    refine ⟨b, off, rfl, (hk b hb).1, fun e q he hq => ?_⟩
    obtain ⟨u, hu, hx⟩ := hr e q he hq
    exact ⟨u, (World.cell?_of_block (a := ⟨b, off + (e * k + q), none⟩) (hk b hb).2).trans hu, ih e q hx⟩
  | clo g m ks caps ih =>
    rintro v ⟨bs, rfl, hr⟩
    refine ⟨bs, rfl, fun j hj => ⟨(hk _ (hr j hj).1).1, fun q hq => ?_⟩⟩
    obtain ⟨u, hu, hx⟩ := (hr j hj).2 q hq
    exact ⟨u, (World.cell?_of_block (a := ⟨bs j, q, none⟩) (hk _ (hr j hj).1).2).trans hu, ih j q hx⟩

/-- two pure values that say the same -/
def CVEq : CV → CV → Prop
  | .lit u, .lit v => u = v
  | .lit u, .sl n _ _ => n = 0 ∧ u = .slice none 0 0
  | .sl n k f, .sl n' k' f' => n = n' ∧ (n = 0 ∨ (k = k' ∧ ∀ e q, e < n → q < k → CVEq (f e q) (f' e q)))
  | .clo g m ks caps, .clo g' m' ks' caps' => g = g' ∧ m = m' ∧ ∀ j, j < m → ks j = ks' j ∧ ∀ q, q < ks j → CVEq (caps j q) (caps' j q)
  | _, _ => False

theorem CVEq.refl : ∀ x : CV, CVEq x x := by
  intro x
  induction x with
  | lit u => rfl
  | sl n k f ih => exact ⟨rfl, .inr ⟨rfl, fun e q _ _ => ih e q⟩⟩
  | clo g m ks caps ih => exact ⟨rfl, rfl, fun j _ => ⟨rfl, fun q _ => ih j q⟩⟩

theorem RepV.conv {o : Nat → Tag} {w : World} {x : CV} : ∀ {y : CV} {v : Value}, CVEq x y → RepV o w x v → RepV o w y v := by
  induction x with
  | lit u =>
    intro y v e h
    cases y with
    | lit u' => simp only [CVEq] at e; exact e ▸ h
    | sl n k f =>
      obtain ⟨rfl, rfl⟩ := e
      obtain ⟨rfl, _⟩ := h
      exact ⟨none, 0, rfl, Nat.le_refl _, Nat.zero_le _, .inl rfl⟩
    | clo _ _ _ _ => exact e.elim
  | sl n k f ih =>
    intro y v e h
    cases y with
    | sl n' k' f' =>
      obtain ⟨rfl, e⟩ := e
      obtain ⟨a, cap, rfl, h1, h2, h3⟩ := h
      rcases e with e | ⟨rfl, e⟩
      · exact ⟨a, cap, rfl, h1, h2, .inl e⟩
      · refine ⟨a, cap, rfl, h1, h2, h3.imp id ?_⟩
        rintro ⟨b, off, rfl, hb, hr⟩
        refine ⟨b, off, rfl, hb, fun e' q he hq => ?_⟩
        obtain ⟨u, hu, hx⟩ := hr e' q he hq
        exact ⟨u, hu, ih e' q (e e' q he hq) hx⟩
    | lit _ => exact e.elim
    | clo _ _ _ _ => exact e.elim
  | clo g m ks caps ih =>
    intro y v e h
    cases y with
    | clo g' m' ks' caps' =>
      obtain ⟨rfl, rfl, e⟩ := e
      obtain ⟨bs, rfl, hr⟩ := h
      refine ⟨bs, rfl, fun j hj => ⟨(hr j hj).1, fun q hq => ?_⟩⟩
      obtain ⟨u, hu, hx⟩ := (hr j hj).2 q ((e j hj).1 ▸ hq)
      exact ⟨u, hu, ih j q ((e j hj).2 q ((e j hj).1 ▸ hq)) hx⟩
    | lit _ => exact e.elim
    | sl _ _ _ => exact e.elim

/-- the block at whose head a handle's value points -/
def headOf : Value → Option Nat
  | .pointer (some ⟨b, 0, none⟩) => some b
  | .slice (some ⟨b, 0, none⟩) _ _ => some b
  | _ => none

def EvOk (o : Nat → Tag) (h : Nat → Value) (w : World) : EV → Value → Prop
  | .dead, _ => True
  | .c x, v => RepV o w x v
  | .ag cs, v => ∃ vs : Array Value, v = .agg vs ∧ vs.size = cs.length ∧ ∀ (q : Nat) x, cs[q]? = some x → ∃ u, vs[q]? = some u ∧ RepV o w x u
  | .r i, v => v = h i
  | .pt i k e q, v => ∃ b, headOf (h i) = some b ∧ v = .pointer (some ⟨b, e * k + q, none⟩)
  | .pe n k f e q, v => ∃ b off, v = .pointer (some ⟨b, off + (e * k + q), none⟩) ∧ o b = .sh ∧
      ∀ e' q', e' < n → q' < k → ∃ u, w.cell? ⟨b, off + (e' * k + q'), none⟩ = some u ∧ RepV o w (f e' q') u
  | .fn g hs, v => v = .func (.func g) #[] (hs.map h).toArray
  | .gd b x, v => (b = true → EvOk o h w x v) ∧ (b = false → v = undef)

def SvOk (o : Nat → Tag) (h : Nat → Value) (w : World) : SV → Value → Prop
  | .e x, v => EvOk o h w x v
  | .tup xs, v => ∃ vs : Array Value, v = .tuple vs ∧ vs.size = xs.length ∧ ∀ (q : Nat) x, xs[q]? = some x → ∃ u, vs[q]? = some u ∧ EvOk o h w x u

theorem EvOk.keep {o o' : Nat → Tag} {h : Nat → Value} {w w' : World} (hk : Keep o w o' w') {x : EV} {v : Value} (hx : EvOk o h w x v) : EvOk o' h w' x v := by
  induction x with
  | dead => trivial
  | c x => exact RepV.keep hk hx
  | ag cs => obtain ⟨vs, rfl, h1, h2⟩ := hx; exact ⟨vs, rfl, h1, fun q x hq => let ⟨u, hu, hr⟩ := h2 q x hq; ⟨u, hu, hr.keep hk⟩⟩
  | r i => exact hx
  | pt i k e q => exact hx
  | pe n k f e q =>
    obtain ⟨b, off, rfl, hb, hr⟩ := hx
    exact ⟨b, off, rfl, (hk b hb).1, fun e' q' he hq => let ⟨u, hu, hx⟩ := hr e' q' he hq
      ⟨u, (World.cell?_of_block (a := ⟨b, off + (e' * k + q'), none⟩) (hk b hb).2).trans hu, hx.keep hk⟩⟩
  | fn g hs => exact hx
  | gd b x ih => exact ⟨fun e => ih (hx.1 e), hx.2⟩

theorem SvOk.keep {o o' : Nat → Tag} {h : Nat → Value} {w w' : World} (hk : Keep o w o' w') {x : SV} {v : Value} (hx : SvOk o h w x v) : SvOk o' h w' x v := by
  cases x with
  | e x => exact EvOk.keep hk hx
  | tup xs => obtain ⟨vs, rfl, h1, h2⟩ := hx; exact ⟨vs, rfl, h1, fun q x hq => let ⟨u, hu, hr⟩ := h2 q x hq; ⟨u, hu, hr.keep hk⟩⟩

/-- a resource's block: tagged so -/
def ResOk (o : Nat → Tag) (h : Nat → Value) (w : World) (i : Nat) : Res → Prop
  | .own E (.sl n k f) => ∃ vs : List Value, w.ownsRow 0 E k (h i) n vs ∧ (∀ b, (h i).ownBlock = some b → o b = .hd i) ∧
      ∀ e q, e < n → q < k → ∃ u, vs[e * k + q]? = some u ∧ RepV o w (f e q) u
  | .own _ _ => False
  | .box T cs bk => ∃ b, ∃ vs : Array Value, (∀ b', bk = some b' → b = b') ∧ h i = .pointer (some ⟨b, 0, none⟩) ∧ w.heap[b]? = some (.cells vs T (0, 0)) ∧ o b = .hd i ∧ vs.size = cs.length ∧
      ∀ (q : Nat) x, cs[q]? = some x → ∃ u, vs[q]? = some u ∧ u.oneCell' = true ∧ EvOk o h w x u
  | .mset xs => ∃ b, ∃ es : Array MapEntry, ∃ clock, h i = .map (some b) ∧ w.heap[b]? = some (.map es clock) ∧ o b = .hd i ∧
      (∀ e ∈ es.toList, ∃ n, e.key = .int .i64 n ∧ e.val = .bool true) ∧ ∀ n : Int, (∃ e ∈ es.toList, e.key = .int .i64 n) ↔ n ∈ xs
  | .glo b T vs => o b = .sh ∧ w.heap[b]? = some (.cells vs.toArray T (0, 0))
  | .gone => True

structure Sat (o : Nat → Tag) (h : Nat → Value) (A : St) (tm : Array Value) (w : World) : Prop where
  size : tm.size = A.n
  tags : ∀ b, (∀ i, o b = .hd i → b < w.heap.size) ∧ (o b = .sh → b < w.heap.size)
  slot : ∀ s x, lk A.sl s = some x → SvOk o h w x (tm.getD s undef)
  res : ∀ i r, lk A.rs i = some r → ResOk o h w i r

/-- how the count of draws is held: as it is, or not at all (contracts of the library that say nothing of it) -/
class Drw where
  low : Nat → Nat
  mono : ∀ a b, a ≤ b → low a ≤ low b
@[reducible] def drwOn : Drw := ⟨fun n => n, fun _ _ h => h⟩
/-- contracts of the library that say nothing of draws -/
@[reducible] def drwNo : Drw := ⟨fun _ => 0, fun _ _ _ => Nat.le_refl _⟩
variable [Drw]
/-- from a state to a later one of the same call: what was no resource of the call's own stands as it was -/
structure Ext (o : Nat → Tag) (w : World) (o' : Nat → Tag) (w' : World) : Prop where
  size : w.heap.size ≤ w'.heap.size
  os : w'.os = w.os
  tape : w'.tape = w.tape
  output : w'.output = w.output
  drawn : Drw.low w.drawn ≤ Drw.low w'.drawn
  sh : ∀ b, o b = .sh → b < w.heap.size → o' b = .sh ∧ w'.heap[b]? = w.heap[b]?
  no : ∀ b, o b = .no → b < w.heap.size → o' b = .no ∧ w'.heap[b]? = w.heap[b]?

theorem Ext.refl (o : Nat → Tag) (w : World) : Ext o w o w := ⟨Nat.le_refl _, rfl, rfl, rfl, Nat.le_refl _, fun _ h _ => ⟨h, rfl⟩, fun _ h _ => ⟨h, rfl⟩⟩
theorem Ext.trans {o o' o'' : Nat → Tag} {w w' w'' : World} (h : Ext o w o' w') (h' : Ext o' w' o'' w'') : Ext o w o'' w'' :=
  ⟨Nat.le_trans h.size h'.size, h'.os.trans h.os, h'.tape.trans h.tape, h'.output.trans h.output, Nat.le_trans h.drawn h'.drawn,
    fun b hb hl => let a := h.sh b hb hl; let c := h'.sh b a.1 (Nat.lt_of_lt_of_le hl h.size); ⟨c.1, c.2.trans a.2⟩,
    fun b hb hl => let a := h.no b hb hl; let c := h'.no b a.1 (Nat.lt_of_lt_of_le hl h.size); ⟨c.1, c.2.trans a.2⟩⟩

theorem Sat.keep {o o' : Nat → Tag} {h : Nat → Value} {A : St} {tm : Array Value} {w w' : World} (hs : Sat o h A tm w) (he : Ext o w o' w') : Keep o w o' w' :=
  fun b hb => he.sh b hb ((hs.tags b).2 hb)

end Go.Sy

/-
  SYMBOLIC STATES, PART B: the stack of what is left to do, what a call does ('Does'), and the rules of control.
-/
namespace Go.Sy
variable [Drw]

inductive K where
  | code (c : Code)
  | ops (all : Array Oper) (l : List Oper)
  | blk (id : Nat)

/-- what a piece of code comes to, along its shape (regions that draw their order: by the machine's own law) -/
def codeQ (P : Program) : Code → (Exit → Act → World → Prop) → Act → World → Prop
  | .seq x y, Q, a, w => codeQ P x (Exit.then (codeQ P y Q) Q) a w
  | .block id c, Q, a, w => codeQ P c (Exit.inBlock id Q) a w
  | .cond c x y, Q, a, w => ∃ b : Bool, a.eval c = .bool b ∧ (b = true → codeQ P x Q a w) ∧ (b = false → codeQ P y Q a w)
  | .loop c, Q, a, w => ∃ J : Nat → Act → World → Prop, (∃ n, J n a w) ∧ ∀ n a w, J n a w → codeQ P c (Exit.then (fun a' w' => ∃ n', n' < n ∧ J n' a' w') Q) a w
  | .skip, Q, a, w => Q .normal a w
  | .label _, Q, a, w => Q .normal a w
  | .exit id, Q, a, w => Q (.exit id) a w
  | .ret, Q, a, w => Q .ret a w
  | .region id ops draw, Q, a, w => match draw with
    | true => (Code.region id ops true).wp P Q a w
    | false => wpList P ops Q ops.toList a w
  | .goto l, Q, a, w => (Code.goto l).wp P Q a w
  | .scope c, Q, a, w => (Code.scope c).wp P Q a w
  | .refuse m, Q, a, w => (Code.refuse m).wp P Q a w
  | .rangeFunc f ps as b, Q, a, w => (Code.rangeFunc f ps as b).wp P Q a w

def kq (P : Program) (Q : Exit → Act → World → Prop) : List K → Exit → Act → World → Prop
  | [], e, a, w => Q e a w
  | .code c :: k, e, a, w => match e with
    | .normal => codeQ P c (kq P Q k) a w
    | e => kq P Q k e a w
  | .ops all l :: k, e, a, w => match e with
    | .normal => wpList P all (kq P Q k) l a w
    | e => kq P Q k e a w
  | .blk id :: k, e, a, w => match e with
    | .exit id' => if id' = id then kq P Q k .normal a w else kq P Q k (.exit id') a w
    | e => kq P Q k e a w

theorem upon_mono {P : Program} {o : Oper} {a : Act} {next next' : Act → World → Prop} {Q Q' : Exit → Act → World → Prop}
    (hn : ∀ a w, next a w → next' a w) (hq : ∀ e a w, Q e a w → Q' e a w) {r : Result Next} (h : o.upon P a next Q r) : o.upon P a next' Q' r := by
  cases r with
  | ok x w' =>
    cases x with
    | value v => exact hn _ _ h
    | skip => exact hn _ _ h
    | defer d => exact hn _ _ h
    | enter f args =>
      refine Calls.mono h ?_
      intro e w'' h
      cases e with
      | returned v => exact hn _ _ h
      | panicked ch => exact hq _ _ _ h
      | outgrown => exact let ⟨a, w, h⟩ := h; ⟨a, w, hq _ _ _ h⟩
    | row row args => exact Rows.mono h fun v w'' h => hn _ _ h
    | _ => exact h.elim
  | halt x w' =>
    cases x with
    | panic v => exact hq _ _ _ h
    | _ => exact h.elim

theorem wpList_mono {P : Program} {all : Array Oper} {Q Q' : Exit → Act → World → Prop} (hq : ∀ e a w, Q e a w → Q' e a w) :
    ∀ (l : List Oper) (a : Act) (w : World), wpList P all Q l a w → wpList P all Q' l a w := by
  intro l
  induction l with
  | nil => intro a w h; exact hq _ _ _ h
  | cons o l ih =>
    intro a w h
    unfold wpList at h ⊢
    split
    · rename_i hw
      rw [if_pos hw] at h
      rcases h with h | ⟨h1, a', w', h2⟩
      · exact .inl (upon_mono (fun a w => ih a w) hq h)
      · exact .inr ⟨h1, a', w', hq _ _ _ h2⟩
    · rename_i hw
      rw [if_neg hw] at h
      exact ih _ _ h

theorem codeQ_mono {P : Program} : ∀ {c : Code} {Q Q' : Exit → Act → World → Prop} {a : Act} {w : World}, codeQ P c Q a w → (∀ e a w, Q e a w → Q' e a w) → codeQ P c Q' a w
  | .seq x y, Q, Q', a, w, h, hq => codeQ_mono (c := x) h fun e a w h => by cases e <;> first | exact codeQ_mono (c := y) h hq | exact hq _ _ _ h
  | .block id c, Q, Q', a, w, h, hq => codeQ_mono (c := c) h fun e a w h => by
    cases e with
    | exit id' =>
      simp only [Exit.inBlock] at h ⊢
      split
      · rename_i hi; rw [if_pos hi] at h; exact hq _ _ _ h
      · rename_i hi; rw [if_neg hi] at h; exact hq _ _ _ h
    | _ => exact hq _ _ _ h
  | .cond c x y, Q, Q', a, w, ⟨b, hb, h1, h2⟩, hq => ⟨b, hb, fun e => codeQ_mono (c := x) (h1 e) hq, fun e => codeQ_mono (c := y) (h2 e) hq⟩
  | .loop c, Q, Q', a, w, ⟨J, h1, h2⟩, hq => ⟨J, h1, fun n a w h => codeQ_mono (c := c) (h2 n a w h) fun e a w h => by cases e <;> first | exact h | exact hq _ _ _ h⟩
  | .skip, _, _, _, _, h, hq => hq _ _ _ h
  | .label _, _, _, _, _, h, hq => hq _ _ _ h
  | .exit _, _, _, _, _, h, hq => hq _ _ _ h
  | .ret, _, _, _, _, h, hq => hq _ _ _ h
  | .region id ops true, _, _, _, _, h, hq => wp_mono h hq
  | .region id ops false, _, _, _, _, h, hq => wpList_mono hq _ _ _ h
  | .goto _, _, _, _, _, h, hq => wp_mono h hq
  | .scope _, _, _, _, _, h, hq => wp_mono h hq
  | .refuse _, _, _, _, _, h, hq => wp_mono h hq
  | .rangeFunc _ _ _ _, _, _, _, _, h, hq => wp_mono h hq

/-- the machine's law follows -/
theorem codeQ_wp {P : Program} : ∀ {c : Code} {Q : Exit → Act → World → Prop} {a : Act} {w : World}, codeQ P c Q a w → c.wp P Q a w
  | .seq x y, Q, a, w, h => wp_seq (wp_mono (codeQ_wp (c := x) h) fun e a w h => by cases e <;> first | exact codeQ_wp (c := y) h | exact h)
  | .block id c, Q, a, w, h => wp_block (codeQ_wp (c := c) h)
  | .cond c x y, Q, a, w, ⟨b, hb, h1, h2⟩ => wp_cond_split hb (fun e => codeQ_wp (c := x) (h1 e)) fun e => codeQ_wp (c := y) (h2 e)
  | .loop c, Q, a, w, ⟨J, ⟨n, h1⟩, h2⟩ => by
    have hloop : ∀ n a w, J n a w → c.wp P (Exit.then (fun a' w' => ∃ n', n' < n ∧ J n' a' w') Q) a w := fun n a w h => codeQ_wp (c := c) (h2 n a w h)
    intro b k' cs
    have key : ∀ n a w', J n a w' → ∃ e a' w'', Q e a' w'' ∧ Arrives P (lone (b.at a (.code c :: .inLoop c :: k')) cs w') b k' cs e a' w'' := by
      intro n
      induction n using Nat.strongRecOn with
      | _ n ih =>
        intro a w' hJ
        obtain ⟨e, a₁, w₁, hq, harr⟩ := hloop n a w' hJ b (.inLoop c :: k') cs
        cases e with
        | normal =>
          obtain ⟨n', hlt, hJ'⟩ := hq
          obtain ⟨e₂, a₂, w₂, hq₂, harr₂⟩ := ih n' hlt a₁ w₁ hJ'
          exact ⟨e₂, a₂, w₂, hq₂, .of_steps (Steps.trans harr (.one step_inLoop)) harr₂⟩
        | exit id => exact ⟨_, a₁, w₁, hq, .pass (x := .inLoop c) rfl (fun _ _ => .inl (by simp)) harr⟩
        | goto l => exact ⟨_, a₁, w₁, hq, .pass (x := .inLoop c) rfl (fun _ _ => .inl (by simp)) harr⟩
        | ret => exact ⟨_, a₁, w₁, hq, .pass (x := .inLoop c) rfl (fun _ _ => .inl (by simp)) harr⟩
        | panic ch => exact ⟨_, a₁, w₁, hq, .pass (x := .inLoop c) rfl (fun _ _ => .inl (by simp)) harr⟩
        | outgrown => exact ⟨_, a₁, w₁, hq, .pass (x := .inLoop c) rfl (fun _ _ => .inl (by simp)) harr⟩
    obtain ⟨e, a', w'', hq, harr⟩ := key n a w h1
    exact ⟨e, a', w'', hq, .of_steps (.one step_loop) harr⟩
  | .skip, _, _, _, h => wp_skip h
  | .label _, _, _, _, h => wp_label h
  | .exit _, _, _, _, h => wp_exit h
  | .ret, _, _, _, h => wp_ret h
  | .region id ops true, _, _, _, h => h
  | .region id ops false, _, _, _, h => wp_region_list h
  | .goto _, _, _, _, h => h
  | .scope _, _, _, _, h => h
  | .refuse _, _, _, _, h => h
  | .rangeFunc _ _ _ _, _, _, _, h => h

/-- code that assigns nothing to the temporary t, and draws no order -/
def stays (t : Nat) : Code → Bool
  | .seq x y => stays t x && stays t y
  | .block _ c => stays t c
  | .cond _ x y => stays t x && stays t y
  | .loop c => stays t c
  | .skip => true
  | .label _ => true
  | .exit _ => true
  | .ret => true
  | .region _ ops draw => !draw && ops.toList.all fun o => match o.dst with
    | some d => !Nat.beq d t
    | none => true
  | _ => false

theorem put_stays {a : Act} {d : Option Tmp} {v : Value} {t : Nat} (h : (match d with | some d => !Nat.beq d t | none => true) = true) : (a.put d v).tmps.getD t undef = a.tmps.getD t undef := by
  cases d with
  | none => rfl
  | some d =>
    have hne : d ≠ t := fun e => by subst e; simp [Nat.beq_refl] at h
    simp only [Act.put, Array.getD_eq_getD_getElem?, Array.getElem?_setIfInBounds_ne hne]

theorem wpList_stays {P : Program} {all : Array Oper} {t : Nat} {v0 : Value} {Q : Exit → Act → World → Prop} : ∀ (l : List Oper), (l.all fun o => match o.dst with
    | some d => !Nat.beq d t
    | none => true) = true → ∀ (a : Act) (w : World), a.tmps.getD t undef = v0 → wpList P all Q l a w → wpList P all (fun e a w => Q e a w ∧ (e ≠ .outgrown → a.tmps.getD t undef = v0)) l a w := by
  intro l
  induction l with
  | nil => intro _ a w ha h; exact ⟨h, fun _ => ha⟩
  | cons o l ih =>
    intro hl a w ha h
    simp only [List.all_cons, Bool.and_eq_true] at hl
    have hput : ∀ v, (a.put o.dst v).tmps.getD t undef = v0 := fun v => (put_stays hl.1).trans ha
    unfold wpList at h ⊢
    split
    · rename_i hw
      rw [if_pos hw] at h
      rcases h with h | ⟨h1, a', w', h2⟩
      · left
        unfold Oper.wp at h ⊢
        generalize (execOp a.eval o).run P w = r at h
        cases r with
        | ok x w' =>
          cases x with
          | value v => exact ih hl.2 _ _ (hput v) h
          | skip => exact ih hl.2 _ _ (hput _) h
          | defer d =>
            refine ih hl.2 _ _ ?_ h
            have := hput undef
            cases hd : o.dst <;> rw [hd] at this <;> exact this
          | enter f args =>
            refine Calls.mono h ?_
            intro e w'' h
            cases e with
            | returned v => exact ih hl.2 _ _ (hput v) h
            | panicked ch => exact ⟨h, fun _ => ha⟩
            | outgrown => exact let ⟨a, w, h⟩ := h; ⟨a, w, h, fun h => absurd rfl h⟩
          | row row args => exact Rows.mono h fun v w'' h => ih hl.2 _ _ (hput v) h
          | _ => exact h.elim
        | halt x w' =>
          cases x with
          | panic v => exact ⟨h, fun _ => ha⟩
          | _ => exact h.elim
      · exact .inr ⟨h1, a', w', h2, fun h => absurd rfl h⟩
    · rename_i hw
      rw [if_neg hw] at h
      exact ih hl.2 _ _ (hput _) h

theorem codeQ_stays {P : Program} {t : Nat} {v0 : Value} : ∀ {c : Code} {Q : Exit → Act → World → Prop} {a : Act} {w : World}, stays t c = true → a.tmps.getD t undef = v0 → codeQ P c Q a w → codeQ P c (fun e a w => Q e a w ∧ (e ≠ .outgrown → a.tmps.getD t undef = v0)) a w
  | .seq x y, Q, a, w, hc, ha, h => by
    simp only [stays, Bool.and_eq_true] at hc
    refine codeQ_mono (c := x) (codeQ_stays (c := x) hc.1 ha h) ?_
    rintro e a w ⟨h, ht⟩
    cases e with
    | normal => exact codeQ_stays (c := y) hc.2 (ht (by simp)) h
    | _ => exact ⟨h, ht⟩
  | .block id c, Q, a, w, hc, ha, h => by
    refine codeQ_mono (c := c) (codeQ_stays (c := c) hc ha h) ?_
    rintro e a w ⟨h, ht⟩
    cases e with
    | exit id' =>
      simp only [Exit.inBlock] at h ⊢
      split
      · rename_i hi; rw [if_pos hi] at h; exact ⟨h, fun _ => ht (by simp)⟩
      · rename_i hi; rw [if_neg hi] at h; exact ⟨h, ht⟩
    | _ => exact ⟨h, ht⟩
  | .cond c x y, Q, a, w, hc, ha, ⟨b, hb, h1, h2⟩ => by
    simp only [stays, Bool.and_eq_true] at hc
    exact ⟨b, hb, fun e => codeQ_stays (c := x) hc.1 ha (h1 e), fun e => codeQ_stays (c := y) hc.2 ha (h2 e)⟩
  | .loop c, Q, a, w, hc, ha, ⟨J, ⟨n, h1⟩, h2⟩ => by
    refine ⟨fun n a w => J n a w ∧ a.tmps.getD t undef = v0, ⟨n, h1, ha⟩, fun n a w ⟨h, ha⟩ => codeQ_mono (c := c) (codeQ_stays (c := c) hc ha (h2 n a w h)) ?_⟩
    rintro e a w ⟨h, ht⟩
    cases e with
    | normal => obtain ⟨n', hn, hj⟩ := h; exact ⟨n', hn, hj, ht (by simp)⟩
    | _ => exact ⟨h, ht⟩
  | .skip, _, _, _, _, ha, h => ⟨h, fun _ => ha⟩
  | .label _, _, _, _, _, ha, h => ⟨h, fun _ => ha⟩
  | .exit _, _, _, _, _, ha, h => ⟨h, fun _ => ha⟩
  | .ret, _, _, _, _, ha, h => ⟨h, fun _ => ha⟩
  | .region id ops true, _, _, _, hc, _, _ => by simp [stays] at hc
  | .region id ops false, _, a, w, hc, ha, h => wpList_stays _ (by simpa [stays] using hc) a w ha h
  | .goto _, _, _, _, hc, _, _ => by simp [stays] at hc
  | .scope _, _, _, _, hc, _, _ => by simp [stays] at hc
  | .refuse _, _, _, _, hc, _, _ => by simp [stays] at hc
  | .rangeFunc _ _ _ _, _, _, _, hc, _, _ => by simp [stays] at hc

theorem kq_mono {P : Program} {Q Q' : Exit → Act → World → Prop} (hq : ∀ e a w, Q e a w → Q' e a w) :
    ∀ (k : List K) (e : Exit) (a : Act) (w : World), kq P Q k e a w → kq P Q' k e a w := by
  intro k
  induction k with
  | nil => intro e a w h; exact hq _ _ _ h
  | cons x k ih =>
    intro e a w h
    cases x with
    | code c => cases e <;> first | exact codeQ_mono h ih | exact ih _ _ _ h
    | ops all l => cases e <;> first | exact wpList_mono ih l a w h | exact ih _ _ _ h
    | blk id =>
      cases e with
      | exit id' =>
        simp only [kq] at h ⊢
        split
        · rename_i hi; rw [if_pos hi] at h; exact ih _ _ _ h
        · rename_i hi; rw [if_neg hi] at h; exact ih _ _ _ h
      | _ => exact ih _ _ _ h

def lift (Q : Exit → St → Prop) (o : Nat → Tag) (w : World) : Exit → Act → World → Prop := fun e a w' =>
  a.defers = [] ∧ ∃ o' h' A', Q e A' ∧ Sat o' h' A' a.tmps w' ∧ Ext o w o' w'

/-- from every memory that the state speaks of, what is left to do comes to an end where Q holds -/
def KW (P : Program) (k : List K) (e : Exit) (A : St) (Q : Exit → St → Prop) : Prop :=
  ∀ o h tm w, Sat o h A tm w → kq P (lift Q o w) k e ⟨tm, []⟩ w

/-- 'f', called at what 'pre' says of its parameters (slots 0, 1, ..), returns, and 'post' holds of its result (slot 0) -/
def Does (P : Program) (f : FuncId) (pre post : St) : Prop :=
  ∀ o h args w, Sat o h pre args w → Calls P f args w fun e w' => ∃ v o' h', e = .returned v ∧ Sat o' h' post #[v] w' ∧ Ext o w o' w'

theorem lift_trans {Q : Exit → St → Prop} {o o1 : Nat → Tag} {w w1 : World} (hx : Ext o w o1 w1) : ∀ e a w', lift Q o1 w1 e a w' → lift Q o w e a w' :=
  fun _ _ _ ⟨hd, o', h', A', hq, hs, he⟩ => ⟨hd, o', h', A', hq, hs, hx.trans he⟩

section
variable {P : Program} {k : List K} {A A' : St} {Q Q' : Exit → St → Prop} {e : Exit}

/-- a step that leaves memory as it is and says the same in other words -/
theorem KW.weaken (hw : ∀ o h tm w, Sat o h A tm w → ∃ o' h', Sat o' h' A' tm w ∧ Ext o w o' w) (h : KW P k e A' Q) : KW P k e A Q := by
  intro o hh tm w hs
  obtain ⟨o', h', hs', hx⟩ := hw o hh tm w hs
  exact kq_mono (lift_trans hx) k e _ w (h o' h' tm w hs')

theorem KW.mono (hq : ∀ e A, Q e A → Q' e A) (h : KW P k e A Q) : KW P k e A Q' := by
  intro o hh tm w hs
  refine kq_mono ?_ k e _ w (h o hh tm w hs)
  rintro e a w' ⟨hd, o', h', A', hQ, hr⟩
  exact ⟨hd, o', h', A', hq _ _ hQ, hr⟩

theorem KW.done (h : Q e A) : KW P [] e A Q := fun o hh _ w hs => ⟨rfl, o, hh, A, h, hs, Ext.refl o w⟩
theorem KW.ops_nil {all : Array Oper} (h : KW P k .normal A Q) : KW P (.ops all [] :: k) .normal A Q := fun o hh tm w hs => h o hh tm w hs
theorem KW.blk {id : Nat} (h : KW P k .normal A Q) : KW P (.blk id :: k) .normal A Q := fun o hh tm w hs => h o hh tm w hs
theorem KW.skip (h : KW P k .normal A Q) : KW P (.code .skip :: k) .normal A Q := fun o hh tm w hs => h o hh tm w hs
theorem KW.label {l : Nat} (h : KW P k .normal A Q) : KW P (.code (.label l) :: k) .normal A Q := fun o hh tm w hs => h o hh tm w hs
theorem KW.exit {id : Nat} (h : KW P k (.exit id) A Q) : KW P (.code (.exit id) :: k) .normal A Q := fun o hh tm w hs => h o hh tm w hs
theorem KW.ret (h : KW P k .ret A Q) : KW P (.code .ret :: k) .normal A Q := fun o hh tm w hs => h o hh tm w hs
theorem KW.seq {x y : Code} (h : KW P (.code x :: .code y :: k) .normal A Q) : KW P (.code (.seq x y) :: k) .normal A Q := fun o hh tm w hs => by
  refine codeQ_mono (c := x) (h o hh tm w hs) ?_
  intro e a w' h
  cases e <;> exact h
theorem KW.block {id : Nat} {c : Code} (h : KW P (.code c :: .blk id :: k) .normal A Q) : KW P (.code (.block id c) :: k) .normal A Q := fun o hh tm w hs => by
  refine codeQ_mono (c := c) (h o hh tm w hs) ?_
  intro e a w' h
  cases e with
  | exit id' => exact h
  | _ => exact h
theorem KW.region {id : Nat} {ops : Array Oper} (h : KW P (.ops ops ops.toList :: k) .normal A Q) : KW P (.code (.region id ops false) :: k) .normal A Q := fun o hh tm w hs =>
  h o hh tm w hs
theorem KW.pop_code {c : Code} (he : e ≠ .normal) (h : KW P k e A Q) : KW P (.code c :: k) e A Q := fun o hh tm w hs => by
  have := h o hh tm w hs
  cases e <;> first | exact this | exact absurd rfl he
theorem KW.pop_ops {all : Array Oper} {l : List Oper} (he : e ≠ .normal) (h : KW P k e A Q) : KW P (.ops all l :: k) e A Q := fun o hh tm w hs => by
  have := h o hh tm w hs
  cases e <;> first | exact this | exact absurd rfl he
theorem KW.blk_exit {id : Nat} (h : KW P k .normal A Q) : KW P (.blk id :: k) (.exit id) A Q := fun o hh tm w hs => by
  simp only [kq, if_true]; exact h o hh tm w hs
theorem KW.blk_other {id id' : Nat} (hne : id' ≠ id) (h : KW P k (.exit id') A Q) : KW P (.blk id :: k) (.exit id') A Q := fun o hh tm w hs => by
  simp only [kq, if_neg hne]; exact h o hh tm w hs
theorem KW.blk_ret {id : Nat} (h : KW P k .ret A Q) : KW P (.blk id :: k) .ret A Q := fun o hh tm w hs => h o hh tm w hs

/-- a cut: what the first part comes to, whatever way it goes -/
theorem KW.cut (M : Exit → St → Prop) (k1 : List K) (h1 : KW P k1 e A M) (h2 : ∀ e A, M e A → KW P k e A Q) : KW P (k1 ++ k) e A Q := by
  intro o hh tm w hs
  have key : ∀ (k1 : List K) (e : Exit) (a : Act) (w' : World), kq P (lift M o w) k1 e a w' → kq P (lift Q o w) (k1 ++ k) e a w' := by
    intro k1
    induction k1 with
    | nil =>
      rintro e ⟨tm', ds⟩ w' ⟨hd, o', h', A', hm, hs', hx⟩
      simp only at hd
      subst hd
      exact kq_mono (lift_trans hx) k e _ w' (h2 e A' hm o' h' _ w' hs')
    | cons x k1 ih =>
      intro e a w' h
      cases x with
      | code c => cases e <;> first | exact codeQ_mono h ih | exact ih _ _ _ h
      | ops all l => cases e <;> first | exact wpList_mono ih l a w' h | exact ih _ _ _ h
      | blk id =>
        cases e with
        | exit id' =>
          simp only [List.cons_append, kq] at h ⊢
          split
          · rename_i hi; rw [if_pos hi] at h; exact ih _ _ _ h
          · rename_i hi; rw [if_neg hi] at h; exact ih _ _ _ h
        | _ => exact ih _ _ _ h
  exact key k1 e _ w (h1 o hh tm w hs)

/-- a loop: 'I s' holds at each round's head, 'm' goes down -/
theorem KW.loop {c : Code} {σ : Type} (I : σ → St) (m : σ → Nat) (s : σ) (hA : ∀ o h tm w, Sat o h A tm w → ∃ o' h', Sat o' h' (I s) tm w ∧ Ext o w o' w)
    (round : ∀ s, KW P [.code c] .normal (I s) fun e A' => match e with
      | .normal => ∃ s', m s' < m s ∧ ∀ o h tm w, Sat o h A' tm w → ∃ o' h', Sat o' h' (I s') tm w ∧ Ext o w o' w
      | e => KW P k e A' Q) : KW P (.code (.loop c) :: k) .normal A Q := by
  refine KW.weaken hA ?_
  intro o hh tm w hs
  let J : Nat → Act → World → Prop := fun n a w' => a.defers = [] ∧ ∃ s, m s = n ∧ ∃ o' h', Sat o' h' (I s) a.tmps w' ∧ Ext o w o' w'
  refine ⟨J, ⟨m s, rfl, s, rfl, o, hh, hs, Ext.refl o w⟩, ?_⟩
  rintro n ⟨tm1, ds⟩ w1 ⟨hd, s1, rfl, o1, h1, hs1, hx1⟩
  simp only at hd
  subst hd
  refine codeQ_mono (c := c) (round s1 o1 h1 tm1 w1 hs1) ?_
  rintro e ⟨tm2, ds2⟩ w2 hl
  obtain ⟨hd, o2, h2, A2, hq, hs2, hx2⟩ : lift _ o1 w1 e ⟨tm2, ds2⟩ w2 := by cases e <;> exact hl
  simp only at hd
  subst hd
  cases e with
  | normal =>
    obtain ⟨s', hlt, hc⟩ := hq
    obtain ⟨o3, h3, hs3, hx3⟩ := hc o2 h2 tm2 w2 hs2
    exact ⟨m s', hlt, rfl, s', rfl, o3, h3, hs3, (hx1.trans hx2).trans hx3⟩
  | exit id => exact kq_mono (lift_trans (hx1.trans hx2)) k _ _ w2 (hq o2 h2 tm2 w2 hs2)
  | goto l => exact kq_mono (lift_trans (hx1.trans hx2)) k _ _ w2 (hq o2 h2 tm2 w2 hs2)
  | ret => exact kq_mono (lift_trans (hx1.trans hx2)) k _ _ w2 (hq o2 h2 tm2 w2 hs2)
  | panic ch => exact kq_mono (lift_trans (hx1.trans hx2)) k _ _ w2 (hq o2 h2 tm2 w2 hs2)
  | outgrown => exact kq_mono (lift_trans (hx1.trans hx2)) k _ _ w2 (hq o2 h2 tm2 w2 hs2)

/-- a test -/
theorem KW.cond {c : Operand} {x y : Code} {b : Bool} (hb : ∀ o h tm w, Sat o h A tm w → (⟨tm, []⟩ : Act).eval c = .bool b)
    (ht : b = true → KW P (.code x :: k) .normal A Q) (hf : b = false → KW P (.code y :: k) .normal A Q) : KW P (.code (.cond c x y) :: k) .normal A Q := by
  intro o hh tm w hs
  exact ⟨b, hb o hh tm w hs, fun h => ht h o hh tm w hs, fun h => hf h o hh tm w hs⟩
end

end Go.Sy

/-
  SYMBOLIC STATES, PART C: what the operations that only compute a value come to ('evP'), and that they do ('evP_ok').
-/
namespace Go.Sy

structure Fld where
  off : Nat
  size : Nat
  agg : Bool

inductive TD where
  | int (k : IntKind)
  | bool
  | str
  | st (fs : List Fld) (eqi : Bool)
  | arr (n es : Nat) (eagg : Bool)
  | sl (E es bytes : Nat)
  | ifc
  | mapIB
  | other

structure TRow where
  size : Nat
  agg : Bool
  td : TD
  zero : List Value

abbrev Lay := List (Nat × TRow)

def aggB (P : Program) (t : Nat) : Bool := match P.underlying t with
  | some (.struct _) | some (.array _ _) => true
  | _ => false

def zEq : Value → Value → Bool
  | .bool a, .bool b => a == b
  | .int k a, .int k' b => decide (k = k') && decide (a = b)
  | .string s, .string t => decide (s.data = #[]) && decide (t.data = #[])
  | .pointer none, .pointer none => true
  | .slice none 0 0, .slice none 0 0 => true
  | .map none, .map none => true
  | .nilFunc, .nilFunc => true
  | .nilIface, .nilIface => true
  | _, _ => false

theorem zEq_ok {a b : Value} (h : zEq a b = true) : a = b ∧ b.oneCell' = true := by
  unfold zEq at h
  split at h <;> simp_all [Value.oneCell']
  rename_i s t
  cases s; cases t; simp_all

def zsEq : List Value → List Value → Bool
  | [], [] => true
  | a :: as, b :: bs => zEq a b && zsEq as bs
  | _, _ => false

theorem zsEq_ok : ∀ {as bs : List Value}, zsEq as bs = true → as = bs ∧ ∀ b ∈ bs, b.oneCell' = true
  | [], [], _ => ⟨rfl, by simp⟩
  | a :: as, b :: bs, h => by
    simp only [zsEq, Bool.and_eq_true] at h
    obtain ⟨rfl, h1⟩ := zEq_ok h.1
    obtain ⟨rfl, h2⟩ := zsEq_ok h.2
    exact ⟨rfl, by simpa using ⟨h1, h2⟩⟩
  | [], _ :: _, h => by simp [zsEq] at h
  | _ :: _, [], h => by simp [zsEq] at h

def fldB (P : Program) (g : Field) (f : Fld) : Bool :=
  g.offset == f.off && (match P.info? g.type with | some j => j.size == f.size && (P.underlying g.type).isSome | none => false) && f.size != 0 && (f.agg == aggB P g.type)

def fldsB (P : Program) : List Field → List Fld → Bool
  | [], [] => true
  | g :: gs, f :: fs => fldB P g f && fldsB P gs fs
  | _, _ => false

def tdB (P : Program) (d : TypeDesc) (agg : Bool) : TD → Bool
  | .int k => !agg && (match d with | .int k' => decide (k' = k) | _ => false)
  | .bool => !agg && (match d with | .bool => true | _ => false)
  | .str => !agg && (match d with | .string => true | _ => false)
  | .st fs _ => agg && (match d with | .struct gs => fldsB P gs.toList fs | _ => false)
  | .arr n es ea => agg && (match d with | .array m e => m == n && (match P.info? e with | some j => j.size == es | none => false) && es != 0 && (ea == aggB P e) | _ => false)
  | .sl E es by' => !agg && (match d with | .slice e => e == E && (match P.info? e with | some j => j.size == es && j.bytes == by' | none => false) && es != 0 | _ => false)
  | .ifc => !agg && (match d with | .interface _ => true | _ => false)
  | .mapIB => !agg && (match d with
    | .map k e => (match P.underlying k with | some (.int .i64) => true | _ => false) && (match P.info? e with | some j => (match j.zero with | some (.bool false) => true | _ => false) | none => false)
    | _ => false)
  | .other => (match d with | .interface _ => false | .struct _ | .array _ _ => agg | _ => !agg)

/-! structs whose cells are all ints, and may be compared -/
def eqFs (P : Program) (g : Nat → Option Nat) : List Field → Nat → Option Nat
  | [], off => some off
  | f :: fs, off => if f.offset = off ∧ f.name ≠ "_" then match g f.type, P.info? f.type with
    | some n, some j => if j.size = n then eqFs P g fs (off + n) else none
    | _, _ => none
    else none
def eqD (P : Program) : Nat → Nat → Option Nat
  | 0, _ => none
  | d + 1, t => match P.underlying t with
    | some (.int .i64) => some 1
    | some (.struct fs) => if P.stoodInHeld t = true then none else eqFs P (eqD P d) fs.toList 0
    | _ => none
def eqiB (P : Program) (t : Nat) (r : TRow) : Bool := match r.td with
  | .st _ true => (match eqD P 3 t with | some n => n == r.size | none => false) && !P.eqGuardType P.depth t
  | _ => true

def rowB (P : Program) (t : Nat) (r : TRow) : Bool :=
  match P.info? t, P.underlying t with
  | some i, some d => i.size == r.size && (match i.zero with | some z => zsEq z.cells.toList r.zero && (match z with | .agg _ => r.agg | _ => !r.agg) | none => false) && tdB P d r.agg r.td && (r.zero.length == r.size) && eqiB P t r
  | _, _ => false

def layB (P : Program) : Lay → Bool
  | [] => true
  | (t, r) :: l => rowB P t r && layB P l

structure RowOk (P : Program) (t : Nat) (r : TRow) : Prop where
  info : ∃ i z, P.info? t = some i ∧ i.size = r.size ∧ i.zero = some z ∧ z.cells.toList = r.zero ∧ (r.agg = true → z = .agg z.cells) ∧ (r.agg = false → z.cells = #[z])
  one : ∀ b ∈ r.zero, b.oneCell' = true
  len : r.zero.length = r.size
  td : ∃ d, P.underlying t = some d ∧ tdB P d r.agg r.td = true
  eqi : eqiB P t r = true

theorem rowB_ok {P : Program} {t : Nat} {r : TRow} (h : rowB P t r = true) : RowOk P t r := by
  unfold rowB at h
  cases hi : P.info? t with
  | none => simp [hi] at h
  | some i =>
    cases hd : P.underlying t with
    | none => simp [hi, hd] at h
    | some d =>
      simp only [hi, hd, Bool.and_eq_true] at h
      obtain ⟨⟨⟨⟨h1, h2⟩, h3⟩, h4⟩, h5⟩ := h
      cases hz : i.zero with
      | none => simp [hz] at h2
      | some z =>
        simp only [hz, Bool.and_eq_true] at h2
        obtain ⟨e1, e2⟩ := zsEq_ok h2.1
        refine ⟨⟨i, z, hi, by simpa using h1, hz, e1, ?_, ?_⟩, e2, by simpa using h4, ⟨d, hd, h3⟩, h5⟩
        · intro ha
          cases z <;> simp_all [Value.cells]
        · intro ha
          cases z <;> simp_all [Value.cells]

def LayOk (P : Program) (lay : Lay) : Prop := ∀ t r, lk lay t = some r → RowOk P t r

theorem layB_ok {P : Program} : ∀ {lay : Lay}, layB P lay = true → LayOk P lay
  | [], _ => fun t r h => by simp [lk] at h
  | (j, x) :: l, h => fun t r hr => by
    simp only [layB, Bool.and_eq_true] at h
    rw [lk_cons] at hr
    split at hr
    · rename_i e; subst e; cases hr; exact rowB_ok h.1
    · exact layB_ok h.2 t r hr

theorem fldsB_nth {P : Program} : ∀ {gs : List Field} {fs : List Fld} {j : Nat} {f : Fld}, fldsB P gs fs = true → fs[j]? = some f → ∃ g, gs[j]? = some g ∧ fldB P g f = true
  | [], [], _, _, _, h => by simp at h
  | g :: gs, f :: fs, 0, f', h, h' => by
    simp only [fldsB, Bool.and_eq_true] at h
    simp at h'; subst h'
    exact ⟨g, rfl, h.1⟩
  | g :: gs, f :: fs, j + 1, f', h, h' => by
    simp only [fldsB, Bool.and_eq_true] at h
    simp at h'
    simpa using fldsB_nth h.2 h'
  | [], _ :: _, _, _, h, _ => by simp [fldsB] at h
  | _ :: _, [], _, _, h, _ => by simp [fldsB] at h

/-! numbers -/

def inK : IntKind → Int → Prop
  | .i64, z => -9223372036854775808 ≤ z ∧ z ≤ 9223372036854775807
  | .u64, z => 0 ≤ z ∧ z ≤ 18446744073709551615
  | .i32, z => -2147483648 ≤ z ∧ z ≤ 2147483647
  | .u32, z => 0 ≤ z ∧ z ≤ 4294967295
  | .i16, z => -32768 ≤ z ∧ z ≤ 32767
  | .u16, z => 0 ≤ z ∧ z ≤ 65535
  | .i8, z => -128 ≤ z ∧ z ≤ 127
  | .u8, z => 0 ≤ z ∧ z ≤ 255

theorem wrap_inK {k : IntKind} {z : Int} (h : inK k z) : k.wrap z = z := by
  cases k
  · exact IntWalk.i8_in z h
  · exact IntWalk.i16_in z h
  · exact IntWalk.i32_in z h
  · exact IntWalk.i64_in z h
  · exact IntWalk.u8_in z h
  · exact IntWalk.u16_in z h
  · exact IntWalk.u32_in z h
  · exact IntWalk.u64_in z h

def iand (k : IntKind) (a b : Int) : Int := k.wrap (BitVec.ofInt k.bits a &&& BitVec.ofInt k.bits b).toNat
def ior (k : IntKind) (a b : Int) : Int := k.wrap (BitVec.ofInt k.bits a ||| BitVec.ofInt k.bits b).toNat
def ixor (k : IntKind) (a b : Int) : Int := k.wrap (BitVec.ofInt k.bits a ^^^ BitVec.ofInt k.bits b).toNat
def iandNot (k : IntKind) (a b : Int) : Int := k.wrap (BitVec.ofInt k.bits a &&& ~~~ BitVec.ofInt k.bits b).toNat
def ishl (a b : Int) : Int := a * 2 ^ b.toNat
def ishr (a b : Int) : Int := a.fdiv (2 ^ b.toNat)

def kEq : IntKind → IntKind → Bool
  | .i64, .i64 | .u64, .u64 | .i32, .i32 | .u32, .u32 | .i16, .i16 | .u16, .u16 | .i8, .i8 | .u8, .u8 => true
  | _, _ => false
theorem kEq_ok {k k' : IntKind} (h : kEq k k' = true) : k = k' := by cases k <;> cases k' <;> simp_all [kEq]

def bitsI : IntKind → Int
  | .i64 | .u64 => 64
  | .i32 | .u32 => 32
  | .i16 | .u16 => 16
  | .i8 | .u8 => 8

def binI (op : BinOp) (k k' : IntKind) (a b : Int) : Option (Value × Prop) :=
  match op with
  | .shl => some (.int k (ishl a b), 0 ≤ b ∧ b ≤ bitsI k ∧ inK k (ishl a b))
  | .shr => some (.int k (ishr a b), 0 ≤ b ∧ b ≤ bitsI k)
  | op => match kEq k k' with
    | false => none
    | true => match op with
      | .add => some (.int k (a + b), inK k (a + b))
      | .sub => some (.int k (a - b), inK k (a - b))
      | .mul => some (.int k (a * b), inK k (a * b))
      | .quo => some (.int k (a.tdiv b), b ≠ 0 ∧ inK k (a.tdiv b))
      | .rem => some (.int k (a.tmod b), b ≠ 0)
      | .and => some (.int k (iand k a b), True)
      | .or => some (.int k (ior k a b), True)
      | .xor => some (.int k (ixor k a b), True)
      | .andNot => some (.int k (iandNot k a b), True)
      | .eql => some (.bool (a == b), True)
      | .neq => some (.bool (a != b), True)
      | .lss => some (.bool (decide (a < b)), True)
      | .leq => some (.bool (decide (a ≤ b)), True)
      | .gtr => some (.bool (decide (b < a)), True)
      | .geq => some (.bool (decide (b ≤ a)), True)
      | _ => none

theorem binI_ok {op : BinOp} {k k' : IntKind} {a b : Int} {v : Value} {φ : Prop} (h : binI op k k' a b = some (v, φ)) (hφ : φ) (P : Program) (w : World) (T : TypeId) :
    (binOp op T (.int k a) (.int k' b)).run P w = .ok v w ∧ v.oneCell' = true := by
  have hb : ∀ k, bitsI k = ((k.bits : Nat) : Int) := by intro k; cases k <;> rfl
  unfold binI at h
  split at h
  · simp only [Option.some.injEq, Prod.mk.injEq] at h
    obtain ⟨rfl, rfl⟩ := h
    obtain ⟨h0, h1, h2⟩ := hφ
    have hm : min b.toNat k.bits = b.toNat := by rw [hb] at h1; omega
    have h2' : inK k (a * 2 ^ b.toNat) := h2
    refine ⟨?_, rfl⟩
    simp [binOp, Op.shift, show ¬ b < 0 by omega, hm, wrap_inK h2', ishl]
  · simp only [Option.some.injEq, Prod.mk.injEq] at h
    obtain ⟨rfl, rfl⟩ := h
    obtain ⟨h0, h1⟩ := hφ
    have hm : min b.toNat k.bits = b.toNat := by rw [hb] at h1; omega
    refine ⟨?_, rfl⟩
    simp [binOp, Op.shift, show ¬ b < 0 by omega, hm, ishr]
  · rename_i h1 h2
    cases hk : kEq k k' with
    | false => simp [hk] at h
    | true =>
      have hkk := kEq_ok hk
      subst hkk
      simp only [hk] at h
      cases op <;> simp only [Option.some.injEq, Prod.mk.injEq, reduceCtorEq] at h <;> first
        | exact (h1 rfl).elim
        | exact (h2 rfl).elim
        | (obtain ⟨rfl, rfl⟩ := h
           first
             | (refine ⟨?_, rfl⟩; simp [binOp, Op.intArith, wrap_inK hφ]; done)
             | (refine ⟨?_, rfl⟩; simp [binOp, Op.intDiv, hφ.1, wrap_inK hφ.2]; done)
             | (refine ⟨?_, rfl⟩; simp [binOp, Op.intDiv, hφ]; done)
             | (refine ⟨?_, rfl⟩; simp [binOp, Op.intBits, iand, ior, ixor, iandNot]; done)
             | (refine ⟨?_, rfl⟩; simp [binOp, Op.intCmp]; done))

end Go.Sy

/-
  SYMBOLIC STATES, PART D: operations that only compute a value.
-/
namespace Go.Sy

def cst : Value → Option (EV × Prop)
  | .agg _ => none
  | .tuple _ => none
  | v => some (.c (.lit v), True)

def rd (A : St) : Operand → Option (EV × Prop)
  | .tmp t => match lk A.sl t with
    | some (.e (.gd b y)) => some (y, b = true)
    | some (.e x) => some (x, True)
    | _ => none
  | .const v => cst v
  | .func f => some (.c (.clo f 0 (fun _ => 0) (fun _ _ => .lit undef)), True)
  | .global _ => none

abbrev evl (tm : Array Value) (x : Operand) : Value := (⟨tm, []⟩ : Act).eval x

section
variable {P : Program} {lay : Lay} {o : Nat → Tag} {h : Nat → Value} {A : St} {tm : Array Value} {w : World}

theorem cst_ok {v : Value} {x : EV} {φ : Prop} (hr : cst v = some (x, φ)) : EvOk o h w x v := by
  unfold cst at hr
  split at hr
  · cases hr
  · cases hr
  · rename_i h1 h2
    simp only [Option.some.injEq, Prod.mk.injEq] at hr
    obtain ⟨rfl, rfl⟩ := hr
    refine ⟨rfl, ?_⟩
    cases v <;> first | rfl | exact (h1 _ rfl).elim | exact (h2 _ rfl).elim

theorem rd_ok (hs : Sat o h A tm w) {x : Operand} {y : EV} {φ : Prop} (hr : rd A x = some (y, φ)) (hφ : φ) : EvOk o h w y (evl tm x) := by
  cases x with
  | tmp t =>
    simp only [rd] at hr
    split at hr
    · rename_i b y' hl
      simp only [Option.some.injEq, Prod.mk.injEq] at hr
      obtain ⟨rfl, rfl⟩ := hr
      exact (hs.slot t _ hl).1 hφ
    · rename_i y' _ hl
      simp only [Option.some.injEq, Prod.mk.injEq] at hr
      obtain ⟨rfl, rfl⟩ := hr
      exact hs.slot t _ hl
    · cases hr
  | const v => exact cst_ok hr
  | func f =>
    simp only [rd, Option.some.injEq, Prod.mk.injEq] at hr
    obtain ⟨rfl, rfl⟩ := hr
    exact ⟨fun _ => 0, rfl, fun j hj => absurd hj (by omega)⟩
  | global g => cases hr

/-- what an operation of this kind gives: a value, memory as it was -/
def Gives (P : Program) (o : Nat → Tag) (h : Nat → Value) (tm : Array Value) (w : World) (s : Sem Value) (sv : SV) : Prop :=
  ∃ v, s.run P w = .ok v w ∧ SvOk o h w sv v

theorem lit_of {u v : Value} (hx : EvOk o h w (.c (.lit u)) v) : v = u ∧ u.oneCell' = true := hx

/-! moves -/
def evMove (A : St) : Operand → Option (SV × Prop)
  | .tmp t => match lk A.sl t with
    | some (.tup xs) => some (.tup xs, True)
    | some (.e (.gd b y)) => some (.e y, b = true)
    | some (.e x) => some (.e x, True)
    | none => none
  | x => match rd A x with
    | some (y, φ) => some (.e y, φ)
    | none => none

theorem evMove_ok (hs : Sat o h A tm w) {x : Operand} {sv : SV} {φ : Prop} (he : evMove A x = some (sv, φ)) (hφ : φ) : SvOk o h w sv (evl tm x) := by
  cases x with
  | tmp t =>
    simp only [evMove] at he
    split at he
    · rename_i xs hl
      simp only [Option.some.injEq, Prod.mk.injEq] at he
      obtain ⟨rfl, rfl⟩ := he
      exact hs.slot t _ hl
    · rename_i b y hl
      simp only [Option.some.injEq, Prod.mk.injEq] at he
      obtain ⟨rfl, rfl⟩ := he
      exact (hs.slot t _ hl).1 hφ
    · rename_i y _ hl
      simp only [Option.some.injEq, Prod.mk.injEq] at he
      obtain ⟨rfl, rfl⟩ := he
      exact hs.slot t _ hl
    · cases he
  | _ =>
    simp only [evMove] at he
    split at he
    · rename_i y φ' hr
      simp only [Option.some.injEq, Prod.mk.injEq] at he
      obtain ⟨rfl, rfl⟩ := he
      exact rd_ok hs hr hφ
    · cases he

/-! pick -/
def evPick (A : St) (c a b : Operand) : Option (SV × Prop) :=
  match rd A c, rd A a, rd A b with
  | some (.c (.lit (.bool t)), p), some (.c (.lit (.bool u)), pa), some (.c (.lit (.bool v)), pb) =>
    match a, b with
    | _, .const (.bool false) => some (.e (.c (.lit (.bool (t && u)))), p ∧ (t = true → pa))
    | .const (.bool true), _ => some (.e (.c (.lit (.bool (t || v)))), p ∧ (t = false → pb))
    | _, _ => some (.e (.c (.lit (.bool (bif t then u else v)))), p ∧ (t = true → pa) ∧ (t = false → pb))
  | _, _, _ => none

theorem evPick_ok (hs : Sat o h A tm w) {c a b : Operand} {sv : SV} {φ : Prop} (he : evPick A c a b = some (sv, φ)) (hφ : φ) :
    ∃ t u v, evl tm c = .bool t ∧ (t = true → evl tm a = .bool u) ∧ (t = false → evl tm b = .bool v) ∧ sv = .e (.c (.lit (.bool (bif t then u else v)))) := by
  unfold evPick at he
  split at he
  · rename_i t p u pa v pb hc ha hb
    have cs : ∀ x : Bool, rd A (.const (.bool x)) = some (.c (.lit (.bool x)), True) := fun x => rfl
    split at he
    · simp only [Option.some.injEq, Prod.mk.injEq] at he
      obtain ⟨rfl, rfl⟩ := he
      rw [cs] at hb
      simp only [Option.some.injEq, Prod.mk.injEq, EV.c.injEq, CV.lit.injEq, Value.bool.injEq] at hb
      obtain ⟨rfl, rfl⟩ := hb
      refine ⟨t, u, false, (rd_ok hs hc hφ.1).1, fun ht => (rd_ok hs ha (hφ.2 ht)).1, fun ht => rfl, ?_⟩
      cases t <;> simp
    · simp only [Option.some.injEq, Prod.mk.injEq] at he
      obtain ⟨rfl, rfl⟩ := he
      rw [cs] at ha
      simp only [Option.some.injEq, Prod.mk.injEq, EV.c.injEq, CV.lit.injEq, Value.bool.injEq] at ha
      obtain ⟨rfl, rfl⟩ := ha
      refine ⟨t, true, v, (rd_ok hs hc hφ.1).1, fun ht => rfl, fun ht => (rd_ok hs hb (hφ.2 ht)).1, ?_⟩
      cases t <;> simp
    · simp only [Option.some.injEq, Prod.mk.injEq] at he
      obtain ⟨rfl, rfl⟩ := he
      exact ⟨t, u, v, (rd_ok hs hc hφ.1).1, fun ht => (rd_ok hs ha (hφ.2.1 ht)).1, fun ht => (rd_ok hs hb (hφ.2.2 ht)).1, rfl⟩
  · cases he

/-! binary operations -/
def litOf (A : St) (x : Operand) : Option (Value × Prop) :=
  match rd A x with
  | some (.c (.lit u), p) => some (u, p)
  | _ => none

theorem litOf_ok (hs : Sat o h A tm w) {x : Operand} {u : Value} {φ : Prop} (hr : litOf A x = some (u, φ)) (hφ : φ) : evl tm x = u ∧ u.oneCell' = true := by
  unfold litOf at hr
  split at hr
  · rename_i u' p hr'
    simp only [Option.some.injEq, Prod.mk.injEq] at hr
    obtain ⟨rfl, rfl⟩ := hr
    exact rd_ok hs hr' hφ
  · cases hr

def isConst : Operand → Bool
  | .const _ => true
  | _ => false

def isIfc (lay : Lay) (T : TypeId) : Bool := match lk lay T with
  | some ⟨_, _, .ifc, _⟩ => true
  | _ => false

def isBoolT (lay : Lay) (T : TypeId) : Bool := match lk lay T with
  | some ⟨_, _, .bool, _⟩ => true
  | _ => false

def isNilB : Value → Bool
  | .nilIface => true
  | _ => false
def ifcV (u : Value) : Prop := u = .nilIface ∨ ∃ t v, u = .iface t v
/-! structs of ints compared -/
def litInts : List CV → Option (List Int)
  | [] => some []
  | .lit (.int .i64 n) :: l => match litInts l with
    | some xs => some (n :: xs)
    | none => none
  | _ => none
theorem litInts_ok : ∀ {l : List CV} {xs : List Int}, litInts l = some xs → l = xs.map fun n => .lit (.int .i64 n)
  | [], xs, ha => by simp [litInts] at ha; subst ha; rfl
  | x :: l, xs, ha => by
    unfold litInts at ha
    split at ha
    · rename_i e; cases e
    · rename_i n l' e
      cases e
      split at ha
      · rename_i ys hy
        simp only [Option.some.injEq] at ha
        subst ha
        rw [litInts_ok hy]; rfl
      · cases ha
    · cases ha
def evEqS (lay : Lay) (A : St) (op : BinOp) (T : TypeId) (x y : Operand) : Option (SV × Prop) :=
  match lk lay T, rd A x, rd A y with
  | some ⟨sz, _, .st _ true, _⟩, some (.ag cx, p), some (.ag cy, q) => match litInts cx, litInts cy with
    | some a, some b => match op, Nat.beq a.length sz && Nat.beq b.length sz with
      | .eql, true => some (.e (.c (.lit (.bool (decide (a = b))))), p ∧ q)
      | .neq, true => some (.e (.c (.lit (.bool (!decide (a = b))))), p ∧ q)
      | _, _ => none
    | _, _ => none
  | _, _, _ => none
def vT (P : Program) (t : Nat) (as : List Int) : Value := if aggB P t = true then .agg (as.map (Value.int .i64)).toArray else .int .i64 (as.headD 0)
theorem part_run {t : Nat} {j : TypeInfo} (hj : P.info? t = some j) (hu : ∃ d, P.underlying t = some d) (h1 : aggB P t = false → j.size = 1) {as : List Int} {off : Nat} (hlen : off + j.size ≤ as.length) :
    (part t (as.map (Value.int .i64)).toArray off).run P w = .ok (vT P t ((as.drop off).take j.size)) w := by
  obtain ⟨d, hd⟩ := hu
  have ha : (isAgg t).run P w = .ok (aggB P t) w := by
    unfold aggB
    cases d <;> simp [isAgg, run_underlying hd, hd]
  unfold vT
  cases hb : aggB P t with
  | true =>
    simp only [part, Sem.run_bind, ha, hb, Result.andThen_ok, if_true]
    simp only [sizeOf, typeInfo, Sem.run_bind, run_program, Result.andThen_ok, hj, Sem.run_pure]
    simp [List.map_take, List.map_drop, List.take_drop]
  | false =>
    have hs := h1 hb
    have hlt : off < as.length := by omega
    simp only [part, Sem.run_bind, ha, hb, Result.andThen_ok, Bool.false_eq_true, if_false]
    simp [hlt, hs, List.head?_take, List.getElem?_drop]
theorem eqFs_ok {g : Nat → Option Nat} {e : Nat} (w : World) (hg : ∀ t m, g t = some m → (aggB P t = false → m = 1) ∧ (∃ d, P.underlying t = some d) ∧ ∀ as bs : List Int, as.length = m → bs.length = m → (Op.equalIn e t (vT P t as) (vT P t bs)).run P w = .ok (decide (as = bs)) w) :
    ∀ (fs : List Field) {off n : Nat}, eqFs P g fs off = some n → ∀ as bs : List Int, as.length = n → bs.length = n → off ≤ n ∧ (Op.eqFields e (as.map (Value.int .i64)).toArray (bs.map (Value.int .i64)).toArray fs).run P w = .ok (decide (as.drop off = bs.drop off)) w
  | [], off, n, h, as, bs, ha, hb => by
    simp only [eqFs, Option.some.injEq] at h
    subst h
    refine ⟨Nat.le_refl _, ?_⟩
    simp [Op.eqFields, List.drop_of_length_le (Nat.le_of_eq ha), List.drop_of_length_le (Nat.le_of_eq hb)]
  | f :: fs, off, n, h, as, bs, ha, hb => by
    simp only [eqFs] at h
    split at h
    · rename_i hf
      split at h
      · rename_i m j hm hj
        split at h
        · rename_i hsz
          obtain ⟨h1, h2, h3⟩ := hg _ _ hm
          obtain ⟨hle, hrest⟩ := eqFs_ok w hg fs h as bs ha hb
          refine ⟨by omega, ?_⟩
          have p1 := part_run (w := w) hj h2 (fun hh => by rw [hsz]; exact h1 hh) (as := as) (off := off) (by omega)
          have p2 := part_run (w := w) hj h2 (fun hh => by rw [hsz]; exact h1 hh) (as := bs) (off := off) (by omega)
          rw [hsz] at p1 p2
          have h4 := h3 ((as.drop off).take m) ((bs.drop off).take m) (by simp; omega) (by simp; omega)
          simp only [Op.eqFields, if_pos hf.2, hf.1, Sem.run_bind, p1, p2, Result.andThen_ok, h4]
          have es : ∀ l : List Int, l.drop off = (l.drop off).take m ++ l.drop (off + m) := fun l => by rw [← List.drop_drop, List.take_append_drop]
          by_cases hq : (as.drop off).take m = (bs.drop off).take m
          · simp only [hq, decide_true, Bool.not_true, Bool.false_eq_true, if_false, hrest]
            congr 1
            rw [es as, es bs, hq]
            simp
          · simp only [hq, decide_false, Bool.not_false, if_true, Sem.run_pure]
            congr 1
            have : as.drop off ≠ bs.drop off := fun e => hq (by rw [e])
            simp [this]
        · cases h
      · cases h
    · cases h
theorem eqD_ok (w : World) : ∀ (d : Nat) {t n : Nat}, eqD P d t = some n → (aggB P t = false → n = 1) ∧ (∃ d, P.underlying t = some d) ∧ ∀ e, d ≤ e → ∀ as bs : List Int, as.length = n → bs.length = n → (Op.equalIn e t (vT P t as) (vT P t bs)).run P w = .ok (decide (as = bs)) w
  | 0, t, n, h => by cases h
  | d + 1, t, n, h => by
    unfold eqD at h
    split at h
    · rename_i hu
      simp only [Option.some.injEq] at h
      subst h
      refine ⟨fun _ => rfl, ⟨_, hu⟩, fun e he as bs ha hb => ?_⟩
      have hag : aggB P t = false := by simp [aggB, hu]
      obtain ⟨e', rfl⟩ : ∃ e', e = e' + 1 := ⟨e - 1, by omega⟩
      match as, ha, bs, hb with
      | [a], _, [b], _ =>
        simp only [vT, hag, Bool.false_eq_true, if_false, List.headD_cons, run_equalIn_int w e' t .i64 .i64 a b hu]
        congr 1
        rw [Bool.eq_iff_iff]; simp
    · rename_i fs hu
      split at h
      · cases h
      · rename_i hso
        have hag : aggB P t = true := by simp [aggB, hu]
        have hfo : P.fieldsOf t = fs := by simp [Program.fieldsOf, hu]
        refine ⟨fun hh => (by rw [hag] at hh; cases hh), ⟨_, hu⟩, fun e he as bs ha hb => ?_⟩
        obtain ⟨e', rfl⟩ : ∃ e', e = e' + 1 := ⟨e - 1, by omega⟩
        simp only [vT, hag, if_true]
        rw [run_equalIn_struct w e' t _ _ (by rw [hfo]; exact hu) (by simpa using hso), hfo]
        obtain ⟨_, hr⟩ := eqFs_ok (e := e') w (fun t m hm => ⟨(eqD_ok w d hm).1, (eqD_ok w d hm).2.1, fun as bs ha hb => (eqD_ok w d hm).2.2 e' (by omega) as bs ha hb⟩) fs.toList h as bs ha hb
        rw [hr]; simp
    · cases h
theorem ag_ints {cx : List CV} {a : List Int} {v : Value} (hx : EvOk o h w (.ag cx) v) (ha : litInts cx = some a) : v = .agg (a.map (Value.int .i64)).toArray := by
  obtain ⟨vs, rfl, hsz, hc⟩ := hx
  have := litInts_ok ha
  subst this
  congr 1
  refine Array.ext (by simpa using hsz) fun i h1 h2 => ?_
  simp only [List.size_toArray, List.length_map] at h2
  obtain ⟨u, hu, hr⟩ := hc i (.lit (.int .i64 a[i])) (by simp [h2])
  rw [Array.getElem?_eq_getElem h1] at hu
  cases hu
  simpa using hr.1
theorem evEqS_ok (hl : LayOk P lay) (hs : Sat o h A tm w) {op : BinOp} {T : TypeId} {x y : Operand} {sv : SV} {φ : Prop} (he : evEqS lay A op T x y = some (sv, φ)) (hφ : φ) :
    Gives P o h tm w (do eqGuard op T x y (evl tm x) (evl tm y); binOp op T (evl tm x) (evl tm y)) sv := by
  unfold evEqS at he
  split at he
  · rename_i sz ag fs z cx p cy q hT hx hy
    split at he
    · rename_i a b hca hcb
      have hq := (hl _ _ hT).eqi
      simp only [eqiB, Bool.and_eq_true, Bool.not_eq_true'] at hq
      obtain ⟨hq1, hq2⟩ := hq
      split at hq1
      · rename_i n hn
        have hn' : n = sz := by simpa using hq1
        subst hn'
        have fin : a.length = n → b.length = n → p → q → vT P T a = .agg (a.map (Value.int .i64)).toArray ∧ (Op.equalIn 10000 T (.agg (a.map (Value.int .i64)).toArray) (.agg (b.map (Value.int .i64)).toArray)).run P w = .ok (decide (a = b)) w := by
          intro h1 h2 _ _
          obtain ⟨_, _, h4⟩ := eqD_ok w 3 hn
          have hag : aggB P T = true := by
            obtain ⟨d, hd, ht⟩ := (hl _ _ hT).td
            simp only [tdB, Bool.and_eq_true] at ht
            cases d <;> simp at ht
            simp [aggB, hd]
          have := h4 10000 (by omega) a b h1 h2
          simp only [vT, hag, if_true] at this ⊢
          exact ⟨trivial, this⟩
        split at he
        · rename_i hc
          simp only [Option.some.injEq, Prod.mk.injEq] at he
          obtain ⟨rfl, rfl⟩ := he
          simp only [Bool.and_eq_true, Nat.beq_eq] at hc
          obtain ⟨_, hr⟩ := fin hc.1 hc.2 hφ.1 hφ.2
          rw [ag_ints (rd_ok hs hx hφ.1) hca, ag_ints (rd_ok hs hy hφ.2) hcb]
          refine ⟨_, ?_, rfl, rfl⟩
          rw [Sem.run_bind, run_eqGuard_agg w _ _ _ _ _ _ hq2, Result.andThen_ok, run_eql_struct, hr]
          rfl
        · rename_i hc
          simp only [Option.some.injEq, Prod.mk.injEq] at he
          obtain ⟨rfl, rfl⟩ := he
          simp only [Bool.and_eq_true, Nat.beq_eq] at hc
          obtain ⟨_, hr⟩ := fin hc.1 hc.2 hφ.1 hφ.2
          rw [ag_ints (rd_ok hs hx hφ.1) hca, ag_ints (rd_ok hs hy hφ.2) hcb]
          refine ⟨_, ?_, rfl, rfl⟩
          rw [Sem.run_bind, run_eqGuard_agg w _ _ _ _ _ _ hq2, Result.andThen_ok, run_neq_struct, hr]
          rfl
        · cases he
      · cases hq1
    · cases he
  · cases he

def evBin (lay : Lay) (A : St) (op : BinOp) (T : TypeId) (x y : Operand) : Option (SV × Prop) :=
  match litOf A x, litOf A y with
  | some (u, p), some (v, q) => match isIfc lay T with
    | true => match isConst y, v, op with
      | true, .nilIface, .eql => some (.e (.c (.lit (.bool (isNilB u)))), p ∧ q ∧ ifcV u)
      | true, .nilIface, .neq => some (.e (.c (.lit (.bool (!isNilB u)))), p ∧ q ∧ ifcV u)
      | _, _, _ => none
    | false => match u, v with
      | .int k a, .int k' b => match binI op k k' a b with
        | some (r, φ) => some (.e (.c (.lit r)), p ∧ q ∧ φ)
        | none => none
      | .bool a, .bool b => match isBoolT lay T, op with
        | true, .eql => some (.e (.c (.lit (.bool (a == b)))), p ∧ q)
        | true, .neq => some (.e (.c (.lit (.bool (a != b)))), p ∧ q)
        | _, _ => none
      | .string a, .string b => match op with
        | .eql => some (.e (.c (.lit (.bool (a.toList == b.toList)))), p ∧ q)
        | .neq => some (.e (.c (.lit (.bool (!(a.toList == b.toList))))), p ∧ q)
        | .add => some (.e (.c (.lit (.string (a ++ b)))), p ∧ q ∧ ((a.size + b.size : Nat) : Int) ≤ 9223372036854775807)
        | _ => none
      | _, _ => none
  | _, _ => evEqS lay A op T x y

theorem isIfc_ok (hl : LayOk P lay) {T : TypeId} (h : isIfc lay T = true) : ∃ ms, P.underlying T = some (.interface ms) := by
  unfold isIfc at h
  split at h
  · rename_i r hr
    obtain ⟨d, hd, ht⟩ := (hl _ _ hr).td
    simp only [tdB, Bool.and_eq_true] at ht
    cases d <;> simp at ht
    exact ⟨_, hd⟩
  · cases h
theorem isBoolT_ok (hl : LayOk P lay) {T : TypeId} (h : isBoolT lay T = true) : P.underlying T = some .bool := by
  unfold isBoolT at h
  split at h
  · rename_i r hr
    obtain ⟨d, hd, ht⟩ := (hl _ _ hr).td
    simp only [tdB, Bool.and_eq_true] at ht
    cases d <;> simp at ht
    exact hd
  · cases h

theorem run_eqIn_bool (d : Nat) {T : TypeId} (hb : P.underlying T = some .bool) (a b : Bool) : (Op.equalIn (d + 1) T (.bool a) (.bool b)).run P w = .ok (a == b) w := by
  simp [Op.equalIn, run_underlying hb]
theorem run_eqIn_nil (d : Nat) {T : TypeId} {ms : Array (String × TypeId)} (hb : P.underlying T = some (.interface ms)) : (Op.equalIn (d + 1) T .nilIface .nilIface).run P w = .ok true w := by
  simp [Op.equalIn, run_underlying hb]
theorem run_eqIn_held (d : Nat) {T t : TypeId} {v : Value} {ms : Array (String × TypeId)} (hb : P.underlying T = some (.interface ms)) : (Op.equalIn (d + 1) T (.iface t v) .nilIface).run P w = .ok false w := by
  simp [Op.equalIn, run_underlying hb]
theorem run_eq_bool {T : TypeId} (hb : P.underlying T = some .bool) (a b : Bool) : (Op.equal T (.bool a) (.bool b)).run P w = .ok (a == b) w := run_eqIn_bool 9999 hb a b
theorem run_eq_nil {T : TypeId} {ms : Array (String × TypeId)} (hb : P.underlying T = some (.interface ms)) : (Op.equal T .nilIface .nilIface).run P w = .ok true w := run_eqIn_nil 9999 hb
theorem run_eq_held {T t : TypeId} {v : Value} {ms : Array (String × TypeId)} (hb : P.underlying T = some (.interface ms)) : (Op.equal T (.iface t v) .nilIface).run P w = .ok false w := run_eqIn_held 9999 hb

theorem evBin_ok (hl : LayOk P lay) (hs : Sat o h A tm w) {op : BinOp} {T : TypeId} {x y : Operand} {sv : SV} {φ : Prop} (he : evBin lay A op T x y = some (sv, φ)) (hφ : φ) :
    Gives P o h tm w (do eqGuard op T x y (evl tm x) (evl tm y); binOp op T (evl tm x) (evl tm y)) sv := by
  unfold evBin at he
  split at he
  · rename_i u p v q hx hy
    split at he
    · rename_i hi
      obtain ⟨ms, hu⟩ := isIfc_ok hl hi
      split at he
      · rename_i hc
        simp only [Option.some.injEq, Prod.mk.injEq] at he
        obtain ⟨rfl, rfl⟩ := he
        have hc' : ∃ v, y = .const v := by cases y <;> simp [isConst] at hc; exact ⟨_, rfl⟩
        obtain ⟨v', rfl⟩ := hc'
        rw [(litOf_ok hs hx hφ.1).1, (litOf_ok hs hy hφ.2.1).1]
        refine ⟨_, ?_, rfl, rfl⟩
        rcases hφ.2.2 with rfl | ⟨t, v, rfl⟩
        · simp [eqGuard, binOp, run_eq_nil hu, isNilB]
        · simp [eqGuard, binOp, run_eq_held hu, isNilB]
      · rename_i hc
        simp only [Option.some.injEq, Prod.mk.injEq] at he
        obtain ⟨rfl, rfl⟩ := he
        have hc' : ∃ v, y = .const v := by cases y <;> simp [isConst] at hc; exact ⟨_, rfl⟩
        obtain ⟨v', rfl⟩ := hc'
        rw [(litOf_ok hs hx hφ.1).1, (litOf_ok hs hy hφ.2.1).1]
        refine ⟨_, ?_, rfl, rfl⟩
        rcases hφ.2.2 with rfl | ⟨t, v, rfl⟩
        · simp [eqGuard, binOp, run_eq_nil hu, isNilB]
        · simp [eqGuard, binOp, run_eq_held hu, isNilB]
      · cases he
    · split at he
      · rename_i k a k' b
        split at he
        · rename_i r φ' hb
          simp only [Option.some.injEq, Prod.mk.injEq] at he
          obtain ⟨rfl, rfl⟩ := he
          rw [(litOf_ok hs hx hφ.1).1, (litOf_ok hs hy hφ.2.1).1]
          obtain ⟨h1, h2⟩ := binI_ok hb hφ.2.2 P w T
          have hg : (eqGuard op T x y (.int k a) (.int k' b)).run P w = .ok () w := by
            unfold eqGuard; split <;> rfl
          exact ⟨r, by simp [hg, h1], rfl, h2⟩
        · cases he
      · rename_i a b
        split at he
        · rename_i ht
          simp only [Option.some.injEq, Prod.mk.injEq] at he
          obtain ⟨rfl, rfl⟩ := he
          rw [(litOf_ok hs hx hφ.1).1, (litOf_ok hs hy hφ.2).1]
          refine ⟨_, ?_, rfl, rfl⟩
          have hb := isBoolT_ok hl ht
          simp [eqGuard, binOp, run_eq_bool hb]
        · rename_i ht
          simp only [Option.some.injEq, Prod.mk.injEq] at he
          obtain ⟨rfl, rfl⟩ := he
          rw [(litOf_ok hs hx hφ.1).1, (litOf_ok hs hy hφ.2).1]
          refine ⟨_, ?_, rfl, rfl⟩
          have hb := isBoolT_ok hl ht
          simp [eqGuard, binOp, run_eq_bool hb, bne]
        · cases he
      · rename_i a b
        split at he
        · simp only [Option.some.injEq, Prod.mk.injEq] at he
          obtain ⟨rfl, rfl⟩ := he
          rw [(litOf_ok hs hx hφ.1).1, (litOf_ok hs hy hφ.2).1]
          exact ⟨_, by simp [eqGuard, binOp, Op.stringOp], rfl, rfl⟩
        · simp only [Option.some.injEq, Prod.mk.injEq] at he
          obtain ⟨rfl, rfl⟩ := he
          rw [(litOf_ok hs hx hφ.1).1, (litOf_ok hs hy hφ.2).1]
          exact ⟨_, by simp [eqGuard, binOp, Op.stringOp], rfl, rfl⟩
        · simp only [Option.some.injEq, Prod.mk.injEq] at he
          obtain ⟨rfl, rfl⟩ := he
          rw [(litOf_ok hs hx hφ.1).1, (litOf_ok hs hy hφ.2.1).1]
          have hb := hφ.2.2
          have hm : IntKind.i64.max = 9223372036854775807 := rfl
          refine ⟨.string (a ++ b), ?_, rfl, rfl⟩
          simp only [Int.natCast_add] at hb
          simp [eqGuard, binOp, Op.stringOp, hm, show ¬ (9223372036854775807 : Int) < (a.size : Int) + (b.size : Int) by omega]
        · cases he
      · cases he
  · exact evEqS_ok hl hs he hφ

/-! unary operations -/
def evUn (A : St) (op : UnOp) (x : Operand) : Option (SV × Prop) :=
  match litOf A x with
  | some (u, p) => match op, u with
    | .not, .bool b => some (.e (.c (.lit (.bool (!b)))), p)
    | .neg, .int k a => some (.e (.c (.lit (.int k (-a)))), p ∧ inK k (-a))
    | _, _ => none
  | none => none

theorem evUn_ok (hs : Sat o h A tm w) {op : UnOp} {x : Operand} {sv : SV} {φ : Prop} (he : evUn A op x = some (sv, φ)) (hφ : φ) :
    Gives P o h tm w (Op.unary op (evl tm x)) sv := by
  unfold evUn at he
  split at he
  · rename_i u p hx
    split at he
    · simp only [Option.some.injEq, Prod.mk.injEq] at he
      obtain ⟨rfl, rfl⟩ := he
      rw [(litOf_ok hs hx hφ).1]
      exact ⟨_, by simp [Op.unary], rfl, rfl⟩
    · rename_i k a
      simp only [Option.some.injEq, Prod.mk.injEq] at he
      obtain ⟨rfl, rfl⟩ := he
      rw [(litOf_ok hs hx hφ.1).1]
      have := wrap_inK hφ.2
      refine ⟨_, ?_, rfl, rfl⟩
      simp [Op.unary, Op.intArith, this]
    · cases he
  · cases he

/-! conversions between integer types -/
def evConv (lay : Lay) (A : St) (S D : TypeId) (x : Operand) : Option (SV × Prop) :=
  match litOf A x, lk lay S, lk lay D with
  | some (.int _ a, p), some _, some ⟨_, _, .int k, _⟩ => some (.e (.c (.lit (.int k a))), p ∧ inK k a)
  | _, _, _ => none

theorem evConv_ok (hl : LayOk P lay) (hs : Sat o h A tm w) {S D : TypeId} {x : Operand} {sv : SV} {φ : Prop} (he : evConv lay A S D x = some (sv, φ)) (hφ : φ) :
    Gives P o h tm w (convert S D (evl tm x)) sv := by
  unfold evConv at he
  split at he
  · rename_i k0 a p r1 sz ag k z hx hS hD
    simp only [Option.some.injEq, Prod.mk.injEq] at he
    obtain ⟨rfl, rfl⟩ := he
    rw [(litOf_ok hs hx hφ.1).1]
    obtain ⟨d, hd, ht⟩ := (hl _ _ hD).td
    obtain ⟨d', hd', _⟩ := (hl _ _ hS).td
    simp only [tdB, Bool.and_eq_true] at ht
    cases d <;> simp at ht
    obtain ⟨_, rfl⟩ := ht
    have := wrap_inK hφ.2
    refine ⟨.int _ a, ?_, rfl, rfl⟩
    simp [convert, run_underlying hd, run_underlying hd', Conv.intToInt, this]
  · cases he

/-! interfaces -/
def evMkI (lay : Lay) (A : St) (T : TypeId) (x : Operand) : Option (SV × Prop) :=
  match litOf A x, lk lay T with
  | some (u, p), some r => match r.td with
    | .ifc => none
    | _ => some (.e (.c (.lit (.iface T u))), p)
  | _, _ => none

theorem evMkI_ok (hl : LayOk P lay) (hs : Sat o h A tm w) {T : TypeId} {x : Operand} {sv : SV} {φ : Prop} (he : evMkI lay A T x = some (sv, φ)) (hφ : φ) :
    Gives P o h tm w (Instr.makeInterface T (evl tm x)) sv := by
  unfold evMkI at he
  split at he
  · rename_i u p r hx hT
    split at he
    · cases he
    · rename_i hne
      simp only [Option.some.injEq, Prod.mk.injEq] at he
      obtain ⟨rfl, rfl⟩ := he
      rw [(litOf_ok hs hx hφ).1]
      obtain ⟨d, hd, ht⟩ := (hl _ _ hT).td
      refine ⟨.iface T u, ?_, rfl, rfl⟩
      have hd' : ∀ ms, d ≠ .interface ms := by
        rintro ms rfl
        cases hr : r.td <;> rw [hr] at ht <;> simp [tdB] at ht
        exact hne hr
      cases d <;> first | exact absurd rfl (hd' _) | simp [Instr.makeInterface, run_underlying hd]
  · cases he

def evAssert (lay : Lay) (A : St) (x : Operand) (T : TypeId) : Option (SV × Prop) :=
  match litOf A x, lk lay T with
  | some (u, p), some r => match r.td, u with
    | .ifc, _ => none
    | _, .iface t v => match Nat.beq t T, r.zero, r.agg with
      | true, _, false => some (.tup [.c (.lit v), .c (.lit (.bool true))], p ∧ v.oneCell' = true)
      | _, _, _ => none
    | _, .nilIface => match r.zero, r.agg with
      | [z], false => some (.tup [.c (.lit z), .c (.lit (.bool false))], p)
      | _, _ => none
    | _, _ => none
  | _, _ => none

theorem evAssert_ok (hl : LayOk P lay) (hs : Sat o h A tm w) {T X : TypeId} {x : Operand} {sv : SV} {φ : Prop} (he : evAssert lay A x T = some (sv, φ)) (hφ : φ) :
    Gives P o h tm w (Instr.typeAssert (evl tm x) X T true) sv := by
  unfold evAssert at he
  split at he
  · rename_i u p r hx hT
    obtain ⟨d, hd, ht⟩ := (hl _ _ hT).td
    split at he
    · cases he
    · rename_i t v hne
      have hd' : ∀ ms, d ≠ .interface ms := by
        rintro ms rfl
        cases hr : r.td <;> rw [hr] at ht <;> simp [tdB] at ht
        exact hne hr
      split at he
      · rename_i hb _
        simp only [Option.some.injEq, Prod.mk.injEq] at he
        obtain ⟨rfl, rfl⟩ := he
        rw [(litOf_ok hs hx hφ.1).1]
        have htT : t = T := Nat.eq_of_beq_eq_true hb
        subst htT
        refine ⟨.tuple #[v, .bool true], ?_, ⟨#[v, .bool true], rfl, rfl, ?_⟩⟩
        · cases d <;> first | exact absurd rfl (hd' _) | simp [Instr.typeAssert, run_underlying hd]
        · intro q y hq
          match q, hq with
          | 0, hq => simp at hq; subst hq; exact ⟨v, rfl, rfl, hφ.2⟩
          | 1, hq => simp at hq; subst hq; exact ⟨_, rfl, rfl, rfl⟩
      · cases he
    · rename_i hne
      have hd' : ∀ ms, d ≠ .interface ms := by
        rintro ms rfl
        cases hr : r.td <;> rw [hr] at ht <;> simp [tdB] at ht
        exact hne hr
      split at he
      · rename_i z hz ha
        simp only [Option.some.injEq, Prod.mk.injEq] at he
        obtain ⟨rfl, rfl⟩ := he
        rw [(litOf_ok hs hx hφ).1]
        obtain ⟨i, z', hi, hsz, hiz, hzc, _, hna⟩ := (hl _ _ hT).info
        have hzz : z' = z := by
          have := hna ha
          rw [hz, this] at hzc
          simpa using hzc
        subst hzz
        have hzv : (zeroValue T).run P w = .ok z' w := by simp [zeroValue, typeInfo, hi, hiz]
        refine ⟨.tuple #[z', .bool false], ?_, ⟨#[z', .bool false], rfl, rfl, ?_⟩⟩
        · cases d <;> first | exact absurd rfl (hd' _) | simp [Instr.typeAssert, run_underlying hd, hzv]
        · intro q y hq
          match q, hq with
          | 0, hq => simp at hq; subst hq; exact ⟨z', rfl, rfl, (hl _ _ hT).one z' (by rw [hz]; simp)⟩
          | 1, hq => simp at hq; subst hq; exact ⟨_, rfl, rfl, rfl⟩
      · cases he
    · cases he
  · cases he

/-! tuples -/
def nth {α : Type} : List α → Nat → Option α
  | [], _ => none
  | x :: _, 0 => some x
  | _ :: l, n + 1 => nth l n
theorem nth_eq {α : Type} : ∀ (l : List α) (n : Nat), nth l n = l[n]?
  | [], _ => by simp [nth]
  | x :: l, 0 => by simp [nth]
  | x :: l, n + 1 => by simp [nth, nth_eq l n]

def evExtract (A : St) (x : Operand) (j : Nat) : Option (SV × Prop) :=
  match x with
  | .tmp t => match lk A.sl t with
    | some (.tup xs) => match nth xs j with
      | some y => some (.e y, True)
      | none => none
    | _ => none
  | _ => none

theorem evExtract_ok (hs : Sat o h A tm w) {x : Operand} {j : Nat} {sv : SV} {φ : Prop} (he : evExtract A x j = some (sv, φ)) :
    Gives P o h tm w (Instr.extract (evl tm x) j) sv := by
  unfold evExtract at he
  split at he
  · rename_i t
    split at he
    · rename_i xs hl
      split at he
      · rename_i y hn
        simp only [Option.some.injEq, Prod.mk.injEq] at he
        obtain ⟨rfl, rfl⟩ := he
        obtain ⟨vs, hv, hsz, hx⟩ := hs.slot t _ hl
        rw [nth_eq] at hn
        obtain ⟨u, hu, hy⟩ := hx j y hn
        refine ⟨u, ?_, hy⟩
        show (Instr.extract (tm.getD t undef) j).run P w = _
        rw [hv]
        simp [Instr.extract, hu]
      · cases he
    · cases he
  · cases he

/-! lengths -/
def evLen (lay : Lay) (A : St) (T : TypeId) (x : Operand) : Option (SV × Prop) :=
  match lk lay T with
  | some ⟨_, _, .sl _ _ _, _⟩ => match rd A x with
    | some (.c (.sl n _ _), p) => some (.e (.c (.lit (.int .i64 (n : Int)))), p)
    | some (.c (.lit (.slice none n _)), p) => some (.e (.c (.lit (.int .i64 (n : Int)))), p)
    | some (.r i, p) => match lk A.rs i with
      | some (.own _ (.sl n _ _)) => some (.e (.c (.lit (.int .i64 (n : Int)))), p)
      | _ => none
    | _ => none
  | some ⟨_, _, .str, _⟩ => match rd A x with
    | some (.c (.lit (.string s)), p) => some (.e (.c (.lit (.int .i64 (s.size : Int)))), p)
    | _ => none
  | _ => none

theorem own_slice {E n k : Nat} {f : Nat → Nat → CV} {i : Nat} (hr : ResOk o h w i (.own E (.sl n k f))) :
    ∃ a cap, h i = .slice a n cap ∧ n ≤ cap ∧ (a = none ∧ n = 0 ∨ ∃ b, a = some ⟨b, 0, none⟩) := by
  obtain ⟨vs, hown, _, _⟩ := hr
  rcases hown.2 with ⟨h1, rfl⟩ | ⟨g, cap, cur, h1, _, _, h2, _⟩
  · exact ⟨none, 0, h1, Nat.le_refl _, .inl ⟨rfl, rfl⟩⟩
  · exact ⟨_, cap, h1, h2, .inr ⟨g, rfl⟩⟩

theorem evLen_ok (hl : LayOk P lay) (hs : Sat o h A tm w) {T ty : TypeId} {x : Operand} {sv : SV} {φ : Prop} (he : evLen lay A T x = some (sv, φ)) (hφ : φ) :
    Gives P o h tm w (Builtin.len_ #[T] ty #[evl tm x]) sv := by
  unfold evLen at he
  split at he
  · rename_i sz ag E es by' z hT
    obtain ⟨d, hd, ht⟩ := (hl _ _ hT).td
    simp only [tdB, Bool.and_eq_true] at ht
    cases d <;> simp at ht
    split at he
    · rename_i n k f p hx
      simp only [Option.some.injEq, Prod.mk.injEq] at he
      obtain ⟨rfl, rfl⟩ := he
      obtain ⟨a, cap, hv, _⟩ := rd_ok hs hx hφ
      rw [hv]
      exact ⟨_, by simp [Builtin.len_, run_underlying hd, goInt], rfl, rfl⟩
    · rename_i n c p hx
      simp only [Option.some.injEq, Prod.mk.injEq] at he
      obtain ⟨rfl, rfl⟩ := he
      rw [(rd_ok hs hx hφ).1]
      exact ⟨_, by simp [Builtin.len_, run_underlying hd, goInt], rfl, rfl⟩
    · rename_i i p hx
      split at he
      · rename_i E' n k f hr
        simp only [Option.some.injEq, Prod.mk.injEq] at he
        obtain ⟨rfl, rfl⟩ := he
        obtain ⟨a, cap, hv, _⟩ := own_slice (hs.res i _ hr)
        have hx' : evl tm x = h i := rd_ok hs hx hφ
        rw [hx', hv]
        exact ⟨_, by simp [Builtin.len_, run_underlying hd, goInt], rfl, rfl⟩
      · cases he
    · cases he
  · rename_i sz ag z hT
    obtain ⟨d, hd, ht⟩ := (hl _ _ hT).td
    simp only [tdB, Bool.and_eq_true] at ht
    cases d <;> simp at ht
    split at he
    · rename_i s p hx
      simp only [Option.some.injEq, Prod.mk.injEq] at he
      obtain ⟨rfl, rfl⟩ := he
      rw [(rd_ok hs hx hφ).1]
      exact ⟨_, by simp [Builtin.len_, run_underlying hd, goInt], rfl, rfl⟩
    · cases he
  · cases he

/-! the lesser and the greater of two -/
def evMin (A : St) (x y : Operand) : Option (SV × Prop) :=
  match litOf A x, litOf A y with
  | some (.int k a, p), some (.int _ b, q) => some (.e (.c (.lit (.int k (min a b)))), p ∧ q)
  | _, _ => none
def evMax (A : St) (x y : Operand) : Option (SV × Prop) :=
  match litOf A x, litOf A y with
  | some (.int k a, p), some (.int _ b, q) => some (.e (.c (.lit (.int k (max a b)))), p ∧ q)
  | _, _ => none

theorem evMin_ok (hs : Sat o h A tm w) {ts : Array TypeId} {ty : TypeId} {x y : Operand} {sv : SV} {φ : Prop} (he : evMin A x y = some (sv, φ)) (hφ : φ) :
    Gives P o h tm w (Builtin.min_ ts ty #[evl tm x, evl tm y]) sv := by
  unfold evMin at he
  split at he
  · rename_i k a p k' b q hx hy
    simp only [Option.some.injEq, Prod.mk.injEq] at he
    obtain ⟨rfl, rfl⟩ := he
    rw [(litOf_ok hs hx hφ.1).1, (litOf_ok hs hy hφ.2).1]
    refine ⟨_, ?_, rfl, rfl⟩
    simp only [Builtin.min_, Builtin.min2, List.foldlM_cons, List.foldlM_nil, Sem.run_bind, Sem.run_pure, Result.andThen_ok]
    congr 2
    split <;> omega
  · cases he
theorem evMax_ok (hs : Sat o h A tm w) {ts : Array TypeId} {ty : TypeId} {x y : Operand} {sv : SV} {φ : Prop} (he : evMax A x y = some (sv, φ)) (hφ : φ) :
    Gives P o h tm w (Builtin.max_ ts ty #[evl tm x, evl tm y]) sv := by
  unfold evMax at he
  split at he
  · rename_i k a p k' b q hx hy
    simp only [Option.some.injEq, Prod.mk.injEq] at he
    obtain ⟨rfl, rfl⟩ := he
    rw [(litOf_ok hs hx hφ.1).1, (litOf_ok hs hy hφ.2).1]
    refine ⟨_, ?_, rfl, rfl⟩
    simp only [Builtin.max_, Builtin.max2, List.foldlM_cons, List.foldlM_nil, Sem.run_bind, Sem.run_pure, Result.andThen_ok]
    congr 2
    split <;> omega
  · cases he
end

end Go.Sy

/-
  SYMBOLIC STATES, PART E: operations that read memory, addresses, parts.
-/
namespace Go.Sy

section
variable {P : Program} {lay : Lay} {o : Nat → Tag} {h : Nat → Value} {A : St} {tm : Array Value} {w : World}

theorem addr_add (b n m : Nat) : (⟨b, n, none⟩ : Addr).add m = ⟨b, n + m, none⟩ := by
  unfold Addr.add; split <;> simp_all

theorem box_ptr {T i : Nat} {cs : List EV} {bk : Option Nat} (hr : ResOk o h w i (.box T cs bk)) : ∃ b, h i = .pointer (some ⟨b, 0, none⟩) := let ⟨b, _, _, hb, _⟩ := hr; ⟨b, hb⟩

theorem headOf_ok {v : Value} {b : Nat} (hb : headOf v = some b) : v = .pointer (some ⟨b, 0, none⟩) ∨ ∃ n c, v = .slice (some ⟨b, 0, none⟩) n c := by
  unfold headOf at hb
  split at hb
  · cases hb; exact .inl rfl
  · cases hb; exact .inr ⟨_, _, rfl⟩
  · cases hb

/-! a check for nil; a function's value -/
def evNil (A : St) (x : Operand) : Option (SV × Prop) :=
  match rd A x with
  | some (.r i, p) => match lk A.rs i with
    | some (.box _ _ _) => some (.e (.r i), p)
    | _ => none
  | some (.pt i k e q, p) => some (.e (.pt i k e q), p)
  | some (.pe n k f e q, p) => some (.e (.pe n k f e q), p)
  | _ => none

theorem evNil_ok (hs : Sat o h A tm w) {x : Operand} {sv : SV} {φ : Prop} (he : evNil A x = some (sv, φ)) (hφ : φ) : (∃ a, evl tm x = .pointer (some a)) ∧ SvOk o h w sv (evl tm x) := by
  unfold evNil at he
  split at he
  · rename_i i p hx
    split at he
    · rename_i T cs bk hr
      simp only [Option.some.injEq, Prod.mk.injEq] at he
      obtain ⟨rfl, rfl⟩ := he
      have h1 : evl tm x = h i := rd_ok hs hx hφ
      obtain ⟨b, hb⟩ := box_ptr (hs.res i _ hr)
      exact ⟨⟨_, h1.trans hb⟩, h1⟩
    · cases he
  · rename_i i k e q p hx
    simp only [Option.some.injEq, Prod.mk.injEq] at he
    obtain ⟨rfl, rfl⟩ := he
    have h1 := rd_ok hs hx hφ
    obtain ⟨b, hb, hv⟩ := id h1
    exact ⟨⟨_, hv⟩, h1⟩
  · rename_i n k f e q p hx
    simp only [Option.some.injEq, Prod.mk.injEq] at he
    obtain ⟨rfl, rfl⟩ := he
    have h1 := rd_ok hs hx hφ
    obtain ⟨b, off, hv, _⟩ := id h1
    exact ⟨⟨_, hv⟩, h1⟩
  · cases he

def caps (A : St) : List Operand → Option (List Nat)
  | [] => some []
  | .tmp t :: xs => match lk A.sl t with
    | some (.e (.r i)) => match caps A xs with
      | some is => some (i :: is)
      | none => none
    | _ => none
  | _ :: _ => none

theorem caps_ok (hs : Sat o h A tm w) : ∀ {xs : List Operand} {is : List Nat}, caps A xs = some is → xs.map (evl tm) = is.map h
  | [], is, hc => by simp [caps] at hc; subst hc; rfl
  | .tmp t :: xs, is, hc => by
    simp only [caps] at hc
    split at hc
    · rename_i i hl
      split at hc
      · rename_i is' hc'
        simp only [Option.some.injEq] at hc
        subst hc
        simp only [List.map_cons, caps_ok hs hc']
        congr 1
        exact hs.slot t _ hl
      · cases hc
    · cases hc
  | .const _ :: _, _, hc => by simp [caps] at hc
  | .func _ :: _, _, hc => by simp [caps] at hc
  | .global _ :: _, _, hc => by simp [caps] at hc

def evFn (A : St) (fn : Fn) (first cs : Array Operand) : Option (SV × Prop) :=
  match fn, first.toList, caps A cs.toList with
  | .func g, [], some is => some (.e (.fn g is), True)
  | _, _, _ => none

theorem evFn_ok (hs : Sat o h A tm w) {fn : Fn} {first cs : Array Operand} {sv : SV} {φ : Prop} (he : evFn A fn first cs = some (sv, φ)) :
    Gives P o h tm w (Instr.makeFunc fn (first.map (evl tm)) (cs.map (evl tm))) sv := by
  unfold evFn at he
  split at he
  · rename_i g is hf hc
    simp only [Option.some.injEq, Prod.mk.injEq] at he
    obtain ⟨rfl, rfl⟩ := he
    have h1 : first = #[] := by cases first; simp_all
    subst h1
    refine ⟨_, rfl, ?_⟩
    have := caps_ok hs hc
    show Value.func (.func g) (Array.map (evl tm) #[]) (cs.map (evl tm)) = .func (.func g) #[] (is.map h).toArray
    rw [← this]
    cases cs; simp
  · cases he

/-! addresses -/
def evFieldAddr (lay : Lay) (A : St) (T : TypeId) (x : Operand) (j : Nat) : Option (SV × Prop) :=
  match lk lay T with
  | some ⟨_, _, .st fs _, _⟩ => match nth fs j with
    | some ⟨off, _, _⟩ => match rd A x with
      | some (.r i, p) => match lk A.rs i with
        | some (.box _ _ _) => some (.e (.pt i 1 0 off), p)
        | _ => none
      | some (.pt i k e q, p) => some (.e (.pt i k e (q + off)), p)
      | some (.pe n k f e q, p) => some (.e (.pe n k f e (q + off)), p)
      | _ => none
    | none => none
  | _ => none

theorem st_field (hl : LayOk P lay) {T sz : Nat} {ag : Bool} {z : List Value} {fs : List Fld} {qi : Bool} (hT : lk lay T = some ⟨sz, ag, .st fs qi, z⟩) {j : Nat} {f : Fld} (hj : nth fs j = some f) :
    ∃ gs g i, P.underlying T = some (.struct gs) ∧ gs[j]? = some g ∧ g.offset = f.off ∧ P.info? g.type = some i ∧ i.size = f.size ∧ f.size ≠ 0 ∧ f.agg = aggB P g.type ∧ ∃ d, P.underlying g.type = some d := by
  obtain ⟨d, hd, ht⟩ := (hl _ _ hT).td
  simp only [tdB, Bool.and_eq_true] at ht
  cases d <;> simp at ht
  rename_i gs
  rw [nth_eq] at hj
  obtain ⟨g, hg, hf⟩ := fldsB_nth ht.2 hj
  simp only [fldB, Bool.and_eq_true, beq_iff_eq, bne_iff_ne, ne_eq] at hf
  obtain ⟨⟨⟨h1, h2⟩, h3⟩, h4⟩ := hf
  cases hi : P.info? g.type with
  | none => simp [hi] at h2
  | some i =>
    simp [hi] at h2
    exact ⟨gs, g, i, hd, by simpa using hg, h1, hi, h2.1, h3, h4, Option.isSome_iff_exists.1 h2.2⟩

theorem run_fieldAt (hl : LayOk P lay) {T sz : Nat} {ag : Bool} {z : List Value} {fs : List Fld} {qi : Bool} (hT : lk lay T = some ⟨sz, ag, .st fs qi, z⟩) {j : Nat} {f : Fld} (hj : nth fs j = some f) (b n : Nat) :
    (Instr.fieldAt T (.pointer (some ⟨b, n, none⟩)) j).run P w = .ok (.pointer (some ⟨b, n + f.off, none⟩)) w := by
  obtain ⟨gs, g, i, hu, hg, ho, hi, hsz, hne, _⟩ := st_field hl hT hj
  simp [Instr.fieldAt, run_underlying hu, hg, Instr.sureAddr, fieldPlace, sizeOf, typeInfo, hi, hsz, hne, ho, addr_add]

theorem evFieldAddr_ok (hl : LayOk P lay) (hs : Sat o h A tm w) {T : TypeId} {x : Operand} {j : Nat} {sv : SV} {φ : Prop} (he : evFieldAddr lay A T x j = some (sv, φ)) (hφ : φ) :
    Gives P o h tm w (Instr.fieldAt T (evl tm x) j) sv := by
  unfold evFieldAddr at he
  split at he
  · rename_i sz ag fs qi z hT
    split at he
    · rename_i off s2 a2 hj
      split at he
      · rename_i i p hx
        split at he
        · rename_i T' cs bk hr
          simp only [Option.some.injEq, Prod.mk.injEq] at he
          obtain ⟨rfl, rfl⟩ := he
          have h1 : evl tm x = h i := rd_ok hs hx hφ
          obtain ⟨b, hb⟩ := box_ptr (hs.res i _ hr)
          rw [h1, hb]
          exact ⟨_, run_fieldAt hl hT hj b 0, b, by rw [hb]; rfl, by simp⟩
        · cases he
      · rename_i i k e q p hx
        simp only [Option.some.injEq, Prod.mk.injEq] at he
        obtain ⟨rfl, rfl⟩ := he
        obtain ⟨b, hb, hv⟩ := rd_ok hs hx hφ
        rw [hv]
        exact ⟨_, run_fieldAt hl hT hj b _, b, hb, by simp [Nat.add_assoc]⟩
      · rename_i n k f e q p hx
        simp only [Option.some.injEq, Prod.mk.injEq] at he
        obtain ⟨rfl, rfl⟩ := he
        obtain ⟨b, off', hv, hb, hr⟩ := rd_ok hs hx hφ
        rw [hv]
        exact ⟨_, run_fieldAt hl hT hj b _, b, off', by simp [Nat.add_assoc], hb, hr⟩
      · cases he
    · cases he
  · cases he

def evIndexAddr (lay : Lay) (A : St) (T : TypeId) (x ix : Operand) : Option (SV × Prop) :=
  match litOf A ix, lk lay T with
  | some (.int _ z, p'), some ⟨_, _, .sl _ es _, _⟩ => match rd A x with
    | some (.c (.sl n k f), p) => match Nat.beq k es with
      | true => some (.e (.pe n k f z.toNat 0), p ∧ p' ∧ 0 ≤ z ∧ z < n)
      | false => none
    | some (.r i, p) => match lk A.rs i with
      | some (.own _ (.sl n k f)) => match Nat.beq k es with
        | true => some (.e (.pt i k z.toNat 0), p ∧ p' ∧ 0 ≤ z ∧ z < n)
        | false => none
      | _ => none
    | _ => none
  | some (.int _ z, p'), some ⟨_, _, .arr n es _, _⟩ => match rd A x with
    | some (.r i, p) => match lk A.rs i with
      | some (.box _ _ _) => some (.e (.pt i es z.toNat 0), p ∧ p' ∧ 0 ≤ z ∧ z < n)
      | _ => none
    | some (.pt i k e q, p) => some (.e (.pt i es z.toNat (e * k + q)), p ∧ p' ∧ 0 ≤ z ∧ z < n)
    | _ => none
  | _, _ => none

theorem sl_elem (hl : LayOk P lay) {T sz E es by' : Nat} {ag : Bool} {z : List Value} (hT : lk lay T = some ⟨sz, ag, .sl E es by', z⟩) :
    P.underlying T = some (.slice E) ∧ es ≠ 0 ∧ ∃ i, P.info? E = some i ∧ i.size = es ∧ i.bytes = by' := by
  obtain ⟨d, hd, ht⟩ := (hl _ _ hT).td
  simp only [tdB, Bool.and_eq_true] at ht
  cases d <;> simp at ht
  rename_i E'
  obtain ⟨_, ⟨h1, h2⟩, h3⟩ := ht
  subst h1
  cases hi : P.info? E' with
  | none => simp [hi] at h2
  | some i => simp [hi] at h2; exact ⟨hd, h3, i, rfl, h2⟩

theorem arr_elem (hl : LayOk P lay) {T sz n es : Nat} {ag ea : Bool} {z : List Value} (hT : lk lay T = some ⟨sz, ag, .arr n es ea, z⟩) :
    ∃ E, P.underlying T = some (.array n E) ∧ es ≠ 0 ∧ ∃ i, P.info? E = some i ∧ i.size = es := by
  obtain ⟨d, hd, ht⟩ := (hl _ _ hT).td
  simp only [tdB, Bool.and_eq_true] at ht
  cases d <;> simp at ht
  rename_i m E
  obtain ⟨_, ⟨⟨h1, h2⟩, h3⟩, h4⟩ := ht
  subst h1
  cases hi : P.info? E with
  | none => simp [hi] at h2
  | some i => simp [hi] at h2; exact ⟨E, hd, h3, i, hi, h2⟩

theorem evIndexAddr_ok (hl : LayOk P lay) (hs : Sat o h A tm w) {T : TypeId} {x ix : Operand} {sv : SV} {φ : Prop} (he : evIndexAddr lay A T x ix = some (sv, φ)) (hφ : φ) :
    Gives P o h tm w (Instr.indexAt T (evl tm x) (evl tm ix)) sv := by
  unfold evIndexAddr at he
  split at he
  · rename_i ki z p' sz ag E es by' zz hi hT
    obtain ⟨hu, hes, i0, hinfo, hsz, _⟩ := sl_elem hl hT
    split at he
    · rename_i n k f p hx
      split at he
      · rename_i hk
        have hk := Nat.eq_of_beq_eq_true hk
        subst hk
        simp only [Option.some.injEq, Prod.mk.injEq] at he
        obtain ⟨rfl, rfl⟩ := he
        obtain ⟨hp, hp', h0, h1⟩ := hφ
        rw [(litOf_ok hs hi hp').1]
        obtain ⟨a, cap, hv, hnc, hcm, hrow⟩ := rd_ok hs hx hp
        rw [hv]
        rcases hrow with hn | ⟨b, off, rfl, hb, hr⟩
        · omega
        · exact ⟨.pointer (some ⟨b, off + (z.toNat * k + 0), none⟩), by simp [Instr.indexAt, run_underlying hu, asIntOf, h0, h1, sizeOf, typeInfo, hinfo, hsz, addr_add], b, off, rfl, hb, hr⟩
      · cases he
    · rename_i i p hx
      split at he
      · rename_i E' n k f hr
        split at he
        · rename_i hk
          have hk := Nat.eq_of_beq_eq_true hk
          subst hk
          simp only [Option.some.injEq, Prod.mk.injEq] at he
          obtain ⟨rfl, rfl⟩ := he
          obtain ⟨hp, hp', h0, h1⟩ := hφ
          rw [(litOf_ok hs hi hp').1]
          have hx' : evl tm x = h i := rd_ok hs hx hp
          obtain ⟨a, cap, hv, hnc, hab⟩ := own_slice (hs.res i _ hr)
          rw [hx', hv]
          rcases hab with ⟨_, hn⟩ | ⟨b, rfl⟩
          · omega
          · exact ⟨.pointer (some ⟨b, z.toNat * k + 0, none⟩), by simp [Instr.indexAt, run_underlying hu, asIntOf, h0, h1, sizeOf, typeInfo, hinfo, hsz, addr_add], b, by rw [hv]; rfl, rfl⟩
        · cases he
      · cases he
    · cases he
  · rename_i ki z p' sz ag n es ea zz hi hT
    obtain ⟨E, hu, hes, i0, hinfo, hsz⟩ := arr_elem hl hT
    split at he
    · rename_i i p hx
      split at he
      · rename_i T' cs bk hr
        simp only [Option.some.injEq, Prod.mk.injEq] at he
        obtain ⟨rfl, rfl⟩ := he
        obtain ⟨hp, hp', h0, h1⟩ := hφ
        rw [(litOf_ok hs hi hp').1]
        have hx' : evl tm x = h i := rd_ok hs hx hp
        obtain ⟨b, hb⟩ := box_ptr (hs.res i _ hr)
        rw [hx', hb]
        exact ⟨.pointer (some ⟨b, z.toNat * es + 0, none⟩), by simp [Instr.indexAt, Instr.sureAddr, run_underlying hu, asIntOf, h0, h1, sizeOf, typeInfo, hinfo, hsz, addr_add], b, by rw [hb]; rfl, rfl⟩
      · cases he
    · rename_i i k e q p hx
      simp only [Option.some.injEq, Prod.mk.injEq] at he
      obtain ⟨rfl, rfl⟩ := he
      obtain ⟨hp, hp', h0, h1⟩ := hφ
      rw [(litOf_ok hs hi hp').1]
      obtain ⟨b, hb, hv⟩ := rd_ok hs hx hp
      rw [hv]
      exact ⟨.pointer (some ⟨b, z.toNat * es + (e * k + q), none⟩), by simp [Instr.indexAt, Instr.sureAddr, run_underlying hu, asIntOf, h0, h1, sizeOf, typeInfo, hinfo, hsz, addr_add, Nat.add_comm], b, hb, rfl⟩
    · cases he
  · cases he

/-! loads -/
def tabF (f : Nat → Nat → CV) (e q : Nat) : Nat → List CV
  | 0 => []
  | s + 1 => f e q :: tabF f e (q + 1) s
theorem tabF_length (f : Nat → Nat → CV) (e : Nat) : ∀ s q, (tabF f e q s).length = s
  | 0, q => rfl
  | s + 1, q => by simp [tabF, tabF_length f e s (q + 1)]
theorem tabF_get (f : Nat → Nat → CV) (e : Nat) : ∀ s q j, j < s → (tabF f e q s)[j]? = some (f e (q + j))
  | 0, q, j, hj => by omega
  | s + 1, q, 0, hj => by simp [tabF]
  | s + 1, q, j + 1, hj => by
    simp only [tabF, List.getElem?_cons_succ]
    rw [tabF_get f e s (q + 1) j (by omega)]
    congr 2; omega

def takeC : List EV → Nat → Nat → Option (List CV)
  | _, _, 0 => some []
  | [], _, _ + 1 => none
  | _ :: cs, i + 1, s + 1 => takeC cs i (s + 1)
  | .c x :: cs, 0, s + 1 => match takeC cs 0 s with
    | some xs => some (x :: xs)
    | none => none
  | _ :: _, 0, _ + 1 => none

theorem takeC_ok : ∀ {cs : List EV} {i s : Nat} {xs : List CV}, takeC cs i s = some xs → xs.length = s ∧ ∀ j (x : CV), xs[j]? = some x → cs[i + j]? = some (.c x)
  | cs, i, 0, xs, ht => by
    have : xs = [] := by cases cs <;> simp [takeC] at ht <;> exact ht
    subst this; simp
  | [], i, s + 1, xs, ht => by simp [takeC] at ht
  | c :: cs, i + 1, s + 1, xs, ht => by
    have : takeC cs i (s + 1) = some xs := by cases c <;> simpa [takeC] using ht
    obtain ⟨h1, h2⟩ := takeC_ok this
    exact ⟨h1, fun j x hj => by rw [show i + 1 + j = (i + j) + 1 by omega]; simpa using h2 j x hj⟩
  | .c y :: cs, 0, s + 1, xs, ht => by
    simp only [takeC] at ht
    split at ht
    · rename_i xs' ht'
      simp only [Option.some.injEq] at ht
      subst ht
      obtain ⟨h1, h2⟩ := takeC_ok ht'
      refine ⟨by simp [h1], fun j x hj => ?_⟩
      cases j with
      | zero => simp at hj; subst hj; simp
      | succ j => simp at hj; have := h2 j x hj; simpa [Nat.zero_add] using this
    · cases ht
  | .dead :: _, 0, _ + 1, _, ht => by simp [takeC] at ht
  | .ag _ :: _, 0, _ + 1, _, ht => by simp [takeC] at ht
  | .r _ :: _, 0, _ + 1, _, ht => by simp [takeC] at ht
  | .pt _ _ _ _ :: _, 0, _ + 1, _, ht => by simp [takeC] at ht
  | .pe _ _ _ _ _ :: _, 0, _ + 1, _, ht => by simp [takeC] at ht
  | .fn _ _ :: _, 0, _ + 1, _, ht => by simp [takeC] at ht
  | .gd _ _ :: _, 0, _ + 1, _, ht => by simp [takeC] at ht

def ldRow (agg : Bool) (s n k : Nat) (f : Nat → Nat → CV) (e q : Nat) (p : Prop) : Option (SV × Prop) :=
  match agg with
  | false => match Nat.blt q k with
    | true => some (.e (.c (f e q)), p ∧ e < n)
    | false => none
  | true => match Nat.ble (q + s) k with
    | true => some (.e (.ag (tabF f e q s)), p ∧ e < n)
    | false => none

def ldBox (agg : Bool) (s : Nat) (cs : List EV) (i : Nat) (p : Prop) : Option (SV × Prop) :=
  match agg with
  | false => match nth cs i with
    | some x => some (.e x, p)
    | none => none
  | true => match takeC cs i s with
    | some xs => some (.e (.ag xs), p)
    | none => none

def evLoad (lay : Lay) (A : St) (T : TypeId) (x : Operand) : Option (SV × Prop) :=
  match lk lay T with
  | some ⟨s, agg, _, _⟩ => match rd A x with
    | some (.r i, p) => match lk A.rs i with
      | some (.box _ cs _) => ldBox agg s cs 0 p
      | _ => none
    | some (.pt i k e q, p) => match lk A.rs i with
      | some (.box _ cs _) => ldBox agg s cs (e * k + q) p
      | some (.own _ (.sl n k' f)) => match Nat.beq k k' with
        | true => ldRow agg s n k f e q p
        | false => none
      | _ => none
    | some (.pe n k f e q, p) => ldRow agg s n k f e q p
    | _ => none
  | none => none

theorem lay_agg (hl : LayOk P lay) {T : Nat} {r : TRow} (hT : lk lay T = some r) : (isAgg T).run P w = .ok r.agg w := by
  obtain ⟨d, hd, ht⟩ := (hl _ _ hT).td
  generalize r.agg = ra at ht ⊢
  generalize r.td = td at ht
  cases td <;> cases d <;> simp [tdB] at ht <;> (try obtain ⟨rfl, _⟩ := ht) <;> (try subst ht) <;> simp [isAgg, run_underlying hd]

theorem lay_size (hl : LayOk P lay) {T : Nat} {r : TRow} (hT : lk lay T = some r) : (sizeOf T).run P w = .ok r.size w := by
  obtain ⟨i, z, hi, hs, _⟩ := (hl _ _ hT).info
  simp [sizeOf, typeInfo, hi, hs]

/-- a load of a plain cell, of a run of cells -/
theorem run_load_cell (hl : LayOk P lay) {T s : Nat} {td : TD} {z : List Value} (hT : lk lay T = some ⟨s, false, td, z⟩) {b n : Nat} {u : Value} (hc : w.cell? ⟨b, n, none⟩ = some u) :
    (Instr.loadAt T (.pointer (some ⟨b, n, none⟩))).run P w = .ok u w := by
  have := lay_agg (w := w) hl hT
  simp [Instr.loadAt, Instr.sureAddr, loadVar, this, hc]

theorem run_load_cells (hl : LayOk P lay) {T s : Nat} {td : TD} {z : List Value} (hT : lk lay T = some ⟨s, true, td, z⟩) {b n : Nat} (us : List Value) (hu : us.length = s)
    (hc : ∀ j u, us[j]? = some u → w.cell? ⟨b, n + j, none⟩ = some u) :
    (Instr.loadAt T (.pointer (some ⟨b, n, none⟩))).run P w = .ok (.agg us.toArray) w := by
  have h1 := lay_agg (w := w) hl hT
  have h2 := lay_size (w := w) hl hT
  have h3 := run_loadCells_list (P := P) (w := w) ⟨b, n, none⟩ us (fun j u hj => by rw [addr_add]; exact hc j u hj)
  rw [hu] at h3
  simp [Instr.loadAt, Instr.sureAddr, loadVar, h1, h2, h3]

theorem choose_list {α β : Type} (R : α → β → Prop) : ∀ (s : Nat) (g : Nat → α), (∀ j, j < s → ∃ u, R (g j) u) → ∃ us : List β, us.length = s ∧ ∀ j u, us[j]? = some u → R (g j) u
  | 0, g, _ => ⟨[], rfl, by simp⟩
  | s + 1, g, hg => by
    obtain ⟨us, h1, h2⟩ := choose_list R s g (fun j hj => hg j (by omega))
    obtain ⟨u, hu⟩ := hg s (by omega)
    refine ⟨us ++ [u], by simp [h1], fun j v hj => ?_⟩
    rw [List.getElem?_append] at hj
    split at hj
    · exact h2 j v hj
    · rename_i hlt
      have : j - us.length = 0 := by
        cases hz : j - us.length with
        | zero => rfl
        | succ m => rw [hz] at hj; simp at hj
      rw [this] at hj
      simp at hj
      subst hj
      have : j = s := by omega
      subst this; exact hu

theorem ldRow_ok (hl : LayOk P lay) {T s : Nat} {agg : Bool} {td : TD} {z : List Value} (hT : lk lay T = some ⟨s, agg, td, z⟩) {n k : Nat} {f : Nat → Nat → CV} {e q b off : Nat} {p : Prop} {sv : SV} {φ : Prop}
    (hrow : ∀ e' q', e' < n → q' < k → ∃ u, w.cell? ⟨b, off + (e' * k + q'), none⟩ = some u ∧ RepV o w (f e' q') u)
    (he : ldRow agg s n k f e q p = some (sv, φ)) (hφ : φ) : ∃ v, (Instr.loadAt T (.pointer (some ⟨b, off + (e * k + q), none⟩))).run P w = .ok v w ∧ SvOk o h w sv v := by
  unfold ldRow at he
  split at he
  · split at he
    · rename_i hb
      simp only [Option.some.injEq, Prod.mk.injEq] at he
      obtain ⟨rfl, rfl⟩ := he
      have hq1 : q + 1 ≤ k := by simpa [Nat.blt] using hb
      have hq : q < k := hq1
      obtain ⟨u, hu, hr⟩ := hrow e q hφ.2 hq
      exact ⟨u, run_load_cell hl hT hu, hr⟩
    · cases he
  · split at he
    · rename_i hb
      simp only [Option.some.injEq, Prod.mk.injEq] at he
      obtain ⟨rfl, rfl⟩ := he
      have hq : q + s ≤ k := by simpa using hb
      obtain ⟨us, h1, h2⟩ := choose_list (fun (j : Nat) (u : Value) => w.cell? ⟨b, off + (e * k + q) + j, none⟩ = some u ∧ RepV o w (f e (q + j)) u) s (fun j => j)
        (fun j hj => by
          obtain ⟨u, hu, hr⟩ := hrow e (q + j) hφ.2 (by omega)
          exact ⟨u, by rw [← hu]; congr 2; omega, hr⟩)
      refine ⟨_, run_load_cells hl hT us h1 (fun j u hj => (h2 j u hj).1), us.toArray, rfl, by simp [tabF_length, h1], fun j x hj => ?_⟩
      have hjs : j < s := by
        rcases Nat.lt_or_ge j s with hlt | hge
        · exact hlt
        · rw [List.getElem?_eq_none (by rw [tabF_length]; exact hge)] at hj; cases hj
      rw [tabF_get f e s q j hjs] at hj
      cases hj
      have hju : us[j]? = some us[j] := List.getElem?_eq_getElem (by omega)
      exact ⟨us[j], by simp, (h2 j _ hju).2⟩
    · cases he

theorem ldBox_ok (hl : LayOk P lay) {T s : Nat} {agg : Bool} {td : TD} {z : List Value} (hT : lk lay T = some ⟨s, agg, td, z⟩) {cs : List EV} {i b : Nat} {p : Prop} {sv : SV} {φ : Prop}
    {vs : Array Value} {T' : Nat} (hb : w.heap[b]? = some (.cells vs T' (0, 0))) (hsz : vs.size = cs.length) (hv : ∀ (q : Nat) x, cs[q]? = some x → ∃ u, vs[q]? = some u ∧ u.oneCell' = true ∧ EvOk o h w x u)
    (he : ldBox agg s cs i p = some (sv, φ)) : ∃ v, (Instr.loadAt T (.pointer (some ⟨b, i, none⟩))).run P w = .ok v w ∧ SvOk o h w sv v := by
  have hcell : ∀ j, w.cell? ⟨b, j, none⟩ = vs[j]? := fun j => by simp [World.cell?, hb]
  unfold ldBox at he
  split at he
  · split at he
    · rename_i x hn
      simp only [Option.some.injEq, Prod.mk.injEq] at he
      obtain ⟨rfl, rfl⟩ := he
      rw [nth_eq] at hn
      obtain ⟨u, hu, _, hx⟩ := hv i x hn
      exact ⟨u, run_load_cell hl hT ((hcell i).trans hu), hx⟩
    · cases he
  · split at he
    · rename_i xs ht
      simp only [Option.some.injEq, Prod.mk.injEq] at he
      obtain ⟨rfl, rfl⟩ := he
      obtain ⟨h1, h2⟩ := takeC_ok ht
      obtain ⟨us, h3, h4⟩ := choose_list (fun (j : Nat) (u : Value) => vs[i + j]? = some u ∧ ∀ x, xs[j]? = some x → RepV o w x u) s (fun j => j)
        (fun j hj => by
          have hxj : xs[j]? = some xs[j] := List.getElem?_eq_getElem (by omega)
          obtain ⟨u, hu, _, hx⟩ := hv (i + j) _ (h2 j _ hxj)
          exact ⟨u, hu, fun x hx' => by rw [hxj] at hx'; cases hx'; exact hx⟩)
      refine ⟨_, run_load_cells hl hT us h3 (fun j u hj => (hcell (i + j)).trans (h4 j u hj).1), us.toArray, rfl, by simp [h1, h3], fun j x hj => ?_⟩
      have hjs : j < us.length := by
        rw [h3, ← h1]
        exact (List.getElem?_eq_some_iff.1 hj).1
      have hju : us[j]? = some us[j] := List.getElem?_eq_getElem hjs
      exact ⟨us[j], by simp, (h4 j _ hju).2 x hj⟩
    · cases he

theorem evLoad_ok (hl : LayOk P lay) (hs : Sat o h A tm w) {T : TypeId} {x : Operand} {sv : SV} {φ : Prop} (he : evLoad lay A T x = some (sv, φ)) (hφ : φ) :
    Gives P o h tm w (Instr.loadAt T (evl tm x)) sv := by
  have hp : ∀ agg s cs i p, ldBox agg s cs i p = some (sv, φ) → p := fun agg s cs i p hh => by
    unfold ldBox at hh
    split at hh <;> split at hh <;> first | (cases hh; exact hφ) | cases hh
  have hp' : ∀ agg s n k f e q p, ldRow agg s n k f e q p = some (sv, φ) → p := fun agg s n k f e q p hh => by
    unfold ldRow at hh
    split at hh <;> split at hh <;> first | (cases hh; exact hφ.1) | cases hh
  unfold evLoad at he
  split at he
  · rename_i s agg td z hT
    split at he
    · rename_i i p hx
      split at he
      · rename_i T' cs bk hr
        have h1 : evl tm x = h i := rd_ok hs hx (hp _ _ _ _ _ he)
        obtain ⟨b, vs, _, hb, hheap, _, hsz, hv⟩ := hs.res i _ hr
        rw [h1, hb]
        exact ldBox_ok hl hT hheap hsz hv he
      · cases he
    · rename_i i k e q p hx
      split at he
      · rename_i T' cs bk hr
        obtain ⟨b', hb', hv'⟩ := rd_ok hs hx (hp _ _ _ _ _ he)
        obtain ⟨b, vs, _, hb, hheap, _, hsz, hv⟩ := hs.res i _ hr
        rw [hb] at hb'
        cases hb'
        rw [hv']
        exact ldBox_ok hl hT hheap hsz hv he
      · rename_i E n k' f hr
        split at he
        · rename_i hk
          have hk := Nat.eq_of_beq_eq_true hk
          subst hk
          obtain ⟨b', hb', hv'⟩ := rd_ok hs hx (hp' _ _ _ _ _ _ _ _ he)
          obtain ⟨vs, hown, htag, hvs⟩ := hs.res i _ hr
          rw [hv']
          have hrow : ∀ e' q', e' < n → q' < k → ∃ u, w.cell? ⟨b', 0 + (e' * k + q'), none⟩ = some u ∧ RepV o w (f e' q') u := by
            intro e' q' he' hq'
            obtain ⟨u, hu, hr⟩ := hvs e' q' he' hq'
            rcases hown.2 with ⟨h0, h00⟩ | ⟨g, cap, cur, hg, _⟩
            · omega
            · rw [hg] at hb'
              cases hb'
              have := hown.cells (g := b') (by rw [hg]; rfl) _ _ hu
              rw [addr_add] at this
              exact ⟨u, this, hr⟩
          have := ldRow_ok (h := h) hl hT hrow he hφ
          rw [Nat.zero_add] at this
          exact this
        · cases he
      · cases he
    · rename_i n k f e q p hx
      obtain ⟨b, off, hv, hb, hr⟩ := rd_ok hs hx (hp' _ _ _ _ _ _ _ _ he)
      rw [hv]
      exact ldRow_ok hl hT hr he hφ
    · cases he
  · cases he
end

end Go.Sy
