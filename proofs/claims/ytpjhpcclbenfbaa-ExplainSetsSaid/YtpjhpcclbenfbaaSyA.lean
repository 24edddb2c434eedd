/-
  SYMBOLIC STATES, PART A: pure values, what they say of memory, and that they stand while memory grows. No program is named here.
-/
import Derived.Laws.AppendOwn
import Derived.Laws.Append
import Derived.WalkKit
import Derived.WideLaws
namespace Go.Sy

/-- what a block is to the call that runs: nothing it knows; stable (read by anybody, written by nobody); a resource of its own -/
inductive Tag where
  | no | sh | hd (i : Nat)

/-- one cell's value: plain; a slice of n elements of k cells; a function with m captured stable boxes -/
inductive CV where
  | lit (v : Value)
  | sl (n k : Nat) (f : Nat → Nat → CV)
  | clo (g : FuncId) (m : Nat) (ks : Nat → Nat) (caps : Nat → Nat → CV)

/-- a slot's value -/
inductive EV where
  | dead
  | c (x : CV)
  | ag (cs : List CV)
  | r (i : Nat)
  | pt (i k e q : Nat)
  | pe (n k : Nat) (f : Nat → Nat → CV) (e q : Nat)
  | fn (g : FuncId) (hs : List Nat)
  | gd (b : Bool) (x : EV)

inductive SV where
  | e (x : EV)
  | tup (xs : List EV)

inductive Res where
  | own (E : Nat) (x : CV)
  | box (T : Nat) (cs : List EV) (bk : Option Nat)
  | mset (xs : List Int)
  | gone

structure St where
  n : Nat
  sl : List (Nat × SV)
  rs : List (Nat × Res)

def lk {α : Type} : List (Nat × α) → Nat → Option α
  | [], _ => none
  | (j, x) :: l, s => bif Nat.beq j s then some x else lk l s

theorem lk_cons {α : Type} (j : Nat) (x : α) (l : List (Nat × α)) (s : Nat) : lk ((j, x) :: l) s = if j = s then some x else lk l s := by
  simp only [lk]
  by_cases h : j = s
  · subst h; simp [Nat.beq_refl]
  · have : Nat.beq j s = false := by cases hb : Nat.beq j s with
      | false => rfl
      | true => exact absurd (Nat.eq_of_beq_eq_true hb) h
    simp [this, h]

def RepV (o : Nat → Tag) (w : World) : CV → Value → Prop
  | .lit u, v => v = u ∧ u.oneCell' = true
  | .sl n k f, v => ∃ a cap, v = .slice a n cap ∧ n ≤ cap ∧ cap ≤ maxLen ∧
      (n = 0 ∨ ∃ b off, a = some ⟨b, off, none⟩ ∧ o b = .sh ∧ ∀ e q, e < n → q < k → ∃ u, w.cell? ⟨b, off + (e * k + q), none⟩ = some u ∧ RepV o w (f e q) u)
  | .clo g m ks caps, v => ∃ bs : Nat → Nat, v = .func (.func g) #[] ((List.range m).map fun j => Value.pointer (some ⟨bs j, 0, none⟩)).toArray ∧
      ∀ j, j < m → o (bs j) = .sh ∧ ∀ q, q < ks j → ∃ u, w.cell? ⟨bs j, q, none⟩ = some u ∧ RepV o w (caps j q) u

theorem RepV.one {o : Nat → Tag} {w : World} {x : CV} {v : Value} (h : RepV o w x v) : v.oneCell' = true := by
  cases x with
  | lit u => obtain ⟨rfl, h⟩ := h; exact h
  | sl n k f => obtain ⟨a, cap, rfl, _⟩ := h; rfl
  | clo g m ks caps => obtain ⟨bs, rfl, _⟩ := h; rfl

/-- what is stable stays: the tag, and the block -/
def Keep (o : Nat → Tag) (w : World) (o' : Nat → Tag) (w' : World) : Prop := ∀ b, o b = .sh → o' b = .sh ∧ w'.heap[b]? = w.heap[b]?

theorem Keep.refl (o : Nat → Tag) (w : World) : Keep o w o w := fun _ h => ⟨h, rfl⟩
theorem Keep.trans {o o' o'' : Nat → Tag} {w w' w'' : World} (h : Keep o w o' w') (h' : Keep o' w' o'' w'') : Keep o w o'' w'' :=
  fun b hb => ⟨(h' b (h b hb).1).1, (h' b (h b hb).1).2.trans (h b hb).2⟩

theorem RepV.keep {o o' : Nat → Tag} {w w' : World} (hk : Keep o w o' w') {x : CV} : ∀ {v : Value}, RepV o w x v → RepV o' w' x v := by
  induction x with
  | lit u => intro v h; exact h
  | sl n k f ih =>
    rintro v ⟨a, cap, rfl, h1, h2, h3⟩
    refine ⟨a, cap, rfl, h1, h2, h3.imp id ?_⟩
    rintro ⟨b, off, rfl, hb, hr⟩
    refine ⟨b, off, rfl, (hk b hb).1, fun e q he hq => ?_⟩
    obtain ⟨u, hu, hx⟩ := hr e q he hq
    exact ⟨u, (World.cell?_of_block (a := ⟨b, off + (e * k + q), none⟩) (hk b hb).2).trans hu, ih e q hx⟩
  | clo g m ks caps ih =>
    rintro v ⟨bs, rfl, hr⟩
    refine ⟨bs, rfl, fun j hj => ⟨(hk _ (hr j hj).1).1, fun q hq => ?_⟩⟩
    obtain ⟨u, hu, hx⟩ := (hr j hj).2 q hq
    exact ⟨u, (World.cell?_of_block (a := ⟨bs j, q, none⟩) (hk _ (hr j hj).1).2).trans hu, ih j q hx⟩

/-- two pure values that say the same -/
def CVEq : CV → CV → Prop
  | .lit u, .lit v => u = v
  | .lit u, .sl n _ _ => n = 0 ∧ u = .slice none 0 0
  | .sl n k f, .sl n' k' f' => n = n' ∧ (n = 0 ∨ (k = k' ∧ ∀ e q, e < n → q < k → CVEq (f e q) (f' e q)))
  | .clo g m ks caps, .clo g' m' ks' caps' => g = g' ∧ m = m' ∧ ∀ j, j < m → ks j = ks' j ∧ ∀ q, q < ks j → CVEq (caps j q) (caps' j q)
  | _, _ => False

theorem CVEq.refl : ∀ x : CV, CVEq x x := by
  intro x
  induction x with
  | lit u => rfl
  | sl n k f ih => exact ⟨rfl, .inr ⟨rfl, fun e q _ _ => ih e q⟩⟩
  | clo g m ks caps ih => exact ⟨rfl, rfl, fun j _ => ⟨rfl, fun q _ => ih j q⟩⟩

theorem RepV.conv {o : Nat → Tag} {w : World} {x : CV} : ∀ {y : CV} {v : Value}, CVEq x y → RepV o w x v → RepV o w y v := by
  induction x with
  | lit u =>
    intro y v e h
    cases y with
    | lit u' => simp only [CVEq] at e; exact e ▸ h
    | sl n k f =>
      obtain ⟨rfl, rfl⟩ := e
      obtain ⟨rfl, _⟩ := h
      exact ⟨none, 0, rfl, Nat.le_refl _, Nat.zero_le _, .inl rfl⟩
    | clo _ _ _ _ => exact e.elim
  | sl n k f ih =>
    intro y v e h
    cases y with
    | sl n' k' f' =>
      obtain ⟨rfl, e⟩ := e
      obtain ⟨a, cap, rfl, h1, h2, h3⟩ := h
      rcases e with e | ⟨rfl, e⟩
      · exact ⟨a, cap, rfl, h1, h2, .inl e⟩
      · refine ⟨a, cap, rfl, h1, h2, h3.imp id ?_⟩
        rintro ⟨b, off, rfl, hb, hr⟩
        refine ⟨b, off, rfl, hb, fun e' q he hq => ?_⟩
        obtain ⟨u, hu, hx⟩ := hr e' q he hq
        exact ⟨u, hu, ih e' q (e e' q he hq) hx⟩
    | lit _ => exact e.elim
    | clo _ _ _ _ => exact e.elim
  | clo g m ks caps ih =>
    intro y v e h
    cases y with
    | clo g' m' ks' caps' =>
      obtain ⟨rfl, rfl, e⟩ := e
      obtain ⟨bs, rfl, hr⟩ := h
      refine ⟨bs, rfl, fun j hj => ⟨(hr j hj).1, fun q hq => ?_⟩⟩
      obtain ⟨u, hu, hx⟩ := (hr j hj).2 q ((e j hj).1 ▸ hq)
      exact ⟨u, hu, ih j q ((e j hj).2 q ((e j hj).1 ▸ hq)) hx⟩
    | lit _ => exact e.elim
    | sl _ _ _ => exact e.elim

/-- the block at whose head a handle's value points -/
def headOf : Value → Option Nat
  | .pointer (some ⟨b, 0, none⟩) => some b
  | .slice (some ⟨b, 0, none⟩) _ _ => some b
  | _ => none

def EvOk (o : Nat → Tag) (h : Nat → Value) (w : World) : EV → Value → Prop
  | .dead, _ => True
  | .c x, v => RepV o w x v
  | .ag cs, v => ∃ vs : Array Value, v = .agg vs ∧ vs.size = cs.length ∧ ∀ (q : Nat) x, cs[q]? = some x → ∃ u, vs[q]? = some u ∧ RepV o w x u
  | .r i, v => v = h i
  | .pt i k e q, v => ∃ b, headOf (h i) = some b ∧ v = .pointer (some ⟨b, e * k + q, none⟩)
  | .pe n k f e q, v => ∃ b off, v = .pointer (some ⟨b, off + (e * k + q), none⟩) ∧ o b = .sh ∧
      ∀ e' q', e' < n → q' < k → ∃ u, w.cell? ⟨b, off + (e' * k + q'), none⟩ = some u ∧ RepV o w (f e' q') u
  | .fn g hs, v => v = .func (.func g) #[] (hs.map h).toArray
  | .gd b x, v => (b = true → EvOk o h w x v) ∧ (b = false → v = undef)

def SvOk (o : Nat → Tag) (h : Nat → Value) (w : World) : SV → Value → Prop
  | .e x, v => EvOk o h w x v
  | .tup xs, v => ∃ vs : Array Value, v = .tuple vs ∧ vs.size = xs.length ∧ ∀ (q : Nat) x, xs[q]? = some x → ∃ u, vs[q]? = some u ∧ EvOk o h w x u

theorem EvOk.keep {o o' : Nat → Tag} {h : Nat → Value} {w w' : World} (hk : Keep o w o' w') {x : EV} {v : Value} (hx : EvOk o h w x v) : EvOk o' h w' x v := by
  induction x with
  | dead => trivial
  | c x => exact RepV.keep hk hx
  | ag cs => obtain ⟨vs, rfl, h1, h2⟩ := hx; exact ⟨vs, rfl, h1, fun q x hq => let ⟨u, hu, hr⟩ := h2 q x hq; ⟨u, hu, hr.keep hk⟩⟩
  | r i => exact hx
  | pt i k e q => exact hx
  | pe n k f e q =>
    obtain ⟨b, off, rfl, hb, hr⟩ := hx
    exact ⟨b, off, rfl, (hk b hb).1, fun e' q' he hq => let ⟨u, hu, hx⟩ := hr e' q' he hq
      ⟨u, (World.cell?_of_block (a := ⟨b, off + (e' * k + q'), none⟩) (hk b hb).2).trans hu, hx.keep hk⟩⟩
  | fn g hs => exact hx
  | gd b x ih => exact ⟨fun e => ih (hx.1 e), hx.2⟩

theorem SvOk.keep {o o' : Nat → Tag} {h : Nat → Value} {w w' : World} (hk : Keep o w o' w') {x : SV} {v : Value} (hx : SvOk o h w x v) : SvOk o' h w' x v := by
  cases x with
  | e x => exact EvOk.keep hk hx
  | tup xs => obtain ⟨vs, rfl, h1, h2⟩ := hx; exact ⟨vs, rfl, h1, fun q x hq => let ⟨u, hu, hr⟩ := h2 q x hq; ⟨u, hu, hr.keep hk⟩⟩

/-- a resource's block: tagged so -/
def ResOk (o : Nat → Tag) (h : Nat → Value) (w : World) (i : Nat) : Res → Prop
  | .own E (.sl n k f) => ∃ vs : List Value, w.ownsRow 0 E k (h i) n vs ∧ (∀ b, (h i).ownBlock = some b → o b = .hd i) ∧
      ∀ e q, e < n → q < k → ∃ u, vs[e * k + q]? = some u ∧ RepV o w (f e q) u
  | .own _ _ => False
  | .box T cs bk => ∃ b, ∃ vs : Array Value, (∀ b', bk = some b' → b = b') ∧ h i = .pointer (some ⟨b, 0, none⟩) ∧ w.heap[b]? = some (.cells vs T (0, 0)) ∧ o b = .hd i ∧ vs.size = cs.length ∧
      ∀ (q : Nat) x, cs[q]? = some x → ∃ u, vs[q]? = some u ∧ u.oneCell' = true ∧ EvOk o h w x u
  | .mset xs => ∃ b, ∃ es : Array MapEntry, ∃ clock, h i = .map (some b) ∧ w.heap[b]? = some (.map es clock) ∧ o b = .hd i ∧
      (∀ e ∈ es.toList, ∃ n, e.key = .int .i64 n ∧ e.val = .bool true) ∧ ∀ n : Int, (∃ e ∈ es.toList, e.key = .int .i64 n) ↔ n ∈ xs
  | .gone => True

structure Sat (o : Nat → Tag) (h : Nat → Value) (A : St) (tm : Array Value) (w : World) : Prop where
  size : tm.size = A.n
  tags : ∀ b, (∀ i, o b = .hd i → b < w.heap.size) ∧ (o b = .sh → b < w.heap.size)
  slot : ∀ s x, lk A.sl s = some x → SvOk o h w x (tm.getD s undef)
  res : ∀ i r, lk A.rs i = some r → ResOk o h w i r

/-- from a state to a later one of the same call: what was no resource of the call's own stands as it was -/
structure Ext (o : Nat → Tag) (w : World) (o' : Nat → Tag) (w' : World) : Prop where
  size : w.heap.size ≤ w'.heap.size
  os : w'.os = w.os
  tape : w'.tape = w.tape
  output : w'.output = w.output
  drawn : w.drawn ≤ w'.drawn
  sh : ∀ b, o b = .sh → b < w.heap.size → o' b = .sh ∧ w'.heap[b]? = w.heap[b]?
  no : ∀ b, o b = .no → b < w.heap.size → o' b = .no ∧ w'.heap[b]? = w.heap[b]?

theorem Ext.refl (o : Nat → Tag) (w : World) : Ext o w o w := ⟨Nat.le_refl _, rfl, rfl, rfl, Nat.le_refl _, fun _ h _ => ⟨h, rfl⟩, fun _ h _ => ⟨h, rfl⟩⟩
theorem Ext.trans {o o' o'' : Nat → Tag} {w w' w'' : World} (h : Ext o w o' w') (h' : Ext o' w' o'' w'') : Ext o w o'' w'' :=
  ⟨Nat.le_trans h.size h'.size, h'.os.trans h.os, h'.tape.trans h.tape, h'.output.trans h.output, Nat.le_trans h.drawn h'.drawn,
    fun b hb hl => let a := h.sh b hb hl; let c := h'.sh b a.1 (Nat.lt_of_lt_of_le hl h.size); ⟨c.1, c.2.trans a.2⟩,
    fun b hb hl => let a := h.no b hb hl; let c := h'.no b a.1 (Nat.lt_of_lt_of_le hl h.size); ⟨c.1, c.2.trans a.2⟩⟩

theorem Sat.keep {o o' : Nat → Tag} {h : Nat → Value} {A : St} {tm : Array Value} {w w' : World} (hs : Sat o h A tm w) (he : Ext o w o' w') : Keep o w o' w' :=
  fun b hb => he.sh b hb ((hs.tags b).2 hb)

end Go.Sy
