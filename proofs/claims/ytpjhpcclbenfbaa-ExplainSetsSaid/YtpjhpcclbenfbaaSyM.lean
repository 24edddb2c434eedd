/-
  SYMBOLIC STATES, PART M: a state seen under other names; what a function does, out of its body; turns of a state.
-/
import Derived.Test.YtpjhpcclbenfbaaSyL
set_option linter.unusedVariables false
set_option linter.unusedSimpArgs false
namespace Go.Sy

def rn (ρ : List (Nat × Nat)) (j : Nat) : Nat := match lk ρ j with
  | some i => i
  | none => j
def rnL (ρ : List (Nat × Nat)) : List Nat → List Nat
  | [] => []
  | j :: l => rn ρ j :: rnL ρ l
theorem rnL_eq (ρ : List (Nat × Nat)) : ∀ l, rnL ρ l = l.map (rn ρ)
  | [] => rfl
  | j :: l => by simp [rnL, rnL_eq ρ l]
def EV.ren (ρ : List (Nat × Nat)) : EV → EV
  | .r i => .r (rn ρ i)
  | .pt i k e q => .pt (rn ρ i) k e q
  | .fn g hs => .fn g (rnL ρ hs)
  | .gd b x => .gd b (x.ren ρ)
  | x => x
def renL (ρ : List (Nat × Nat)) : List EV → List EV
  | [] => []
  | x :: l => x.ren ρ :: renL ρ l
theorem renL_eq (ρ : List (Nat × Nat)) : ∀ l, renL ρ l = l.map (EV.ren ρ)
  | [] => rfl
  | x :: l => by simp [renL, renL_eq ρ l]
def SV.ren (ρ : List (Nat × Nat)) : SV → SV
  | .e x => .e (x.ren ρ)
  | .tup xs => .tup (renL ρ xs)
def Res.ren (ρ : List (Nat × Nat)) : Res → Res
  | .box T cs bk => .box T (renL ρ cs) bk
  | r => r

/-- the name under which a handle is seen -/
def inv : List (Nat × Nat) → Nat → Option Nat
  | [], _ => none
  | (j, i') :: ρ, i => bif Nat.beq i' i then some j else inv ρ i
/-- each name once, each handle once -/
def oneB : List (Nat × Nat) → Bool
  | [] => true
  | (j, i) :: ρ => (match lk ρ j with | some _ => false | none => true) && ((match inv ρ i with | some _ => false | none => true) && oneB ρ)

theorem inv_of {ρ : List (Nat × Nat)} (h1 : oneB ρ = true) {j i : Nat} (hl : lk ρ j = some i) : inv ρ i = some j := by
  induction ρ with
  | nil => simp [lk] at hl
  | cons a ρ ih =>
    obtain ⟨j', i'⟩ := a
    simp only [oneB, Bool.and_eq_true] at h1
    rw [lk_cons] at hl
    simp only [inv]
    by_cases hj : j' = j
    · rw [if_pos hj] at hl
      cases hl
      simp [hj]
    · rw [if_neg hj] at hl
      have := ih h1.2.2 hl
      cases hb : Nat.beq i' i with
      | false => simpa using this
      | true =>
        have := Nat.eq_of_beq_eq_true hb
        subst this
        rw [‹inv ρ i' = some j›] at h1
        simp at h1

def viewO (ρ : List (Nat × Nat)) (L : Nat → Bool) (o : Nat → Tag) : Nat → Tag := fun b => match o b with
  | .hd i => match inv ρ i with
    | some j => .hd j
    | none => bif L i then .sh else .no
  | t => t
def viewH (ρ : List (Nat × Nat)) (h : Nat → Value) : Nat → Value := fun j => h (rn ρ j)

section
variable {P : Program} {lay : Lay} {o o' : Nat → Tag} {h h' : Nat → Value} {A A' : St} {tm : Array Value} {w w' : World} {Q : Exit → St → Prop} {k : List K} {e : Exit}

theorem viewO_sh {ρ : List (Nat × Nat)} {L : Nat → Bool} {b : Nat} (hb : o b = .sh) : viewO ρ L o b = .sh := by simp [viewO, hb]
theorem viewO_no {ρ : List (Nat × Nat)} {L : Nat → Bool} {b : Nat} (hb : o b = .no) : viewO ρ L o b = .no := by simp [viewO, hb]
theorem keep_view (ρ : List (Nat × Nat)) (L : Nat → Bool) : Keep o w (viewO ρ L o) w := fun b hb => ⟨viewO_sh hb, rfl⟩

theorem EvOk.view {ρ : List (Nat × Nat)} {x : EV} {v : Value} (hk : Keep o w o' w) (hx : EvOk o h w (x.ren ρ) v) : EvOk o' (viewH ρ h) w x v := by
  induction x with
  | r i => exact hx
  | pt i k e q => exact hx
  | fn g hs =>
    have : hs.map (viewH ρ h) = (rnL ρ hs).map h := by rw [rnL_eq, List.map_map]; rfl
    show v = .func (.func g) #[] (hs.map (viewH ρ h)).toArray
    rw [this]; exact hx
  | gd b x ih => exact ⟨fun e => ih (hx.1 e), hx.2⟩
  | dead => trivial
  | c x => exact RepV.keep hk hx
  | ag cs => exact EvOk.keep (x := .ag cs) hk hx
  | pe n k f e q => exact EvOk.keep (x := .pe n k f e q) hk hx

theorem SvOk.view {ρ : List (Nat × Nat)} {x : SV} {v : Value} (hk : Keep o w o' w) (hx : SvOk o h w (x.ren ρ) v) : SvOk o' (viewH ρ h) w x v := by
  cases x with
  | e x => exact EvOk.view hk hx
  | tup xs =>
    obtain ⟨vs, rfl, h1, h2⟩ := hx
    rw [renL_eq] at h1 h2
    refine ⟨vs, rfl, by simpa using h1, fun q x hq => ?_⟩
    obtain ⟨u, hu, hx⟩ := h2 q (x.ren ρ) (by rw [List.getElem?_map, hq]; rfl)
    exact ⟨u, hu, hx.view hk⟩

theorem ResOk.view {ρ : List (Nat × Nat)} {L : Nat → Bool} (h1 : oneB ρ = true) {j i : Nat} (hl : lk ρ j = some i) {r : Res} (hr : ResOk o h w i (r.ren ρ)) : ResOk (viewO ρ L o) (viewH ρ h) w j r := by
  have hk : Keep o w (viewO ρ L o) w := keep_view ρ L
  have hh : viewH ρ h j = h i := by simp [viewH, rn, hl]
  have ht : ∀ b, o b = .hd i → viewO ρ L o b = .hd j := fun b hb => by simp [viewO, hb, inv_of h1 hl]
  cases r with
  | gone => trivial
  | own E x =>
    cases x with
    | sl n k f =>
      obtain ⟨vs, hown, htag, hv⟩ := hr
      refine ⟨vs, by rw [hh]; exact hown, fun b hb => ht b (htag b (by rw [← hh]; exact hb)), fun e q he hq => ?_⟩
      obtain ⟨u, hu, hx⟩ := hv e q he hq
      exact ⟨u, hu, hx.keep hk⟩
    | lit _ => exact hr.elim
    | clo _ _ _ _ => exact hr.elim
  | box T cs bk =>
    obtain ⟨b, vs, h0, h1', h2, h3, h4, h5⟩ := hr
    rw [renL_eq] at h4 h5
    refine ⟨b, vs, h0, hh.trans h1', h2, ht b h3, by simpa using h4, fun q x hq => ?_⟩
    obtain ⟨u, hu, hone, hx⟩ := h5 q (x.ren ρ) (by rw [List.getElem?_map, hq]; rfl)
    exact ⟨u, hu, hone, hx.view hk⟩
  | mset xs =>
    obtain ⟨b, es, clock, h1', h2, h3, h4⟩ := hr
    exact ⟨b, es, clock, hh.trans h1', h2, ht b h3, h4⟩

def subS (ρ : List (Nat × Nat)) (A : St) : List (Nat × SV) → Prop
  | [] => True
  | (s, x) :: l => lk A.sl s = some (x.ren ρ) ∧ subS ρ A l
def subR (ρ : List (Nat × Nat)) (A : St) : List (Nat × Res) → Prop
  | [] => True
  | (j, r) :: l => (match lk ρ j with | some i => lk A.rs i = some (r.ren ρ) | none => False) ∧ subR ρ A l

theorem subS_ok {ρ : List (Nat × Nat)} : ∀ {l : List (Nat × SV)}, subS ρ A l → ∀ s x, lk l s = some x → lk A.sl s = some (x.ren ρ)
  | [], _, _, _, hl => by simp [lk] at hl
  | (s', y) :: l, hs, s, x, hl => by
    rw [lk_cons] at hl
    split at hl
    · rename_i e; subst e; cases hl; exact hs.1
    · exact subS_ok hs.2 s x hl
theorem subR_ok {ρ : List (Nat × Nat)} : ∀ {l : List (Nat × Res)}, subR ρ A l → ∀ j r, lk l j = some r → ∃ i, lk ρ j = some i ∧ lk A.rs i = some (r.ren ρ)
  | [], _, _, _, hl => by simp [lk] at hl
  | (j', y) :: l, hs, j, r, hl => by
    rw [lk_cons] at hl
    split at hl
    · rename_i e
      subst e; cases hl
      have := hs.1
      split at this
      · exact ⟨_, ‹_›, this⟩
      · exact this.elim
    · exact subR_ok hs.2 j r hl

theorem tags_view (hs : Sat o h A tm w) (ρ : List (Nat × Nat)) (L : Nat → Bool) : ∀ b, (∀ i, viewO ρ L o b = .hd i → b < w.heap.size) ∧ (viewO ρ L o b = .sh → b < w.heap.size) := by
  intro b
  cases hob : o b with
  | no => simp [viewO, hob]
  | sh => have := (hs.tags b).2 hob; simp [viewO, hob, this]
  | hd i => have := (hs.tags b).1 i hob; exact ⟨fun _ _ => this, fun _ => this⟩

/-- a part of a state, under other names -/
theorem Sat.sub (hs : Sat o h A tm w) (ρ : List (Nat × Nat)) (h1 : oneB ρ = true) (hn : A'.n = A.n) (hS : subS ρ A A'.sl) (hR : subR ρ A A'.rs) :
    Sat (viewO ρ (fun _ => false) o) (viewH ρ h) A' tm w ∧ Ext o w (viewO ρ (fun _ => false) o) w := by
  refine ⟨⟨hs.size.trans hn.symm, tags_view hs ρ _, fun s x hl => ?_, fun j r hl => ?_⟩, ⟨Nat.le_refl _, rfl, rfl, rfl, Nat.le_refl _, fun b hb _ => ⟨viewO_sh hb, rfl⟩, fun b hb _ => ⟨viewO_no hb, rfl⟩⟩⟩
  · exact (hs.slot s _ (subS_ok hS s x hl)).view (keep_view ρ _)
  · obtain ⟨i, hi, hr⟩ := subR_ok hR j r hl
    exact (hs.res i _ hr).view h1 hi

theorem KW.sub (ρ : List (Nat × Nat)) (h1 : oneB ρ = true) (hn : A'.n = A.n) (hS : subS ρ A A'.sl) (hR : subR ρ A A'.rs) (hk : KW P k e A' Q) : KW P k e A Q :=
  KW.weaken (fun o h tm w hs => ⟨_, _, hs.sub ρ h1 hn hS hR⟩) hk

/-- the loop's rule, with its relation by names -/
theorem KW.loopS {c : Code} {σ : Type} (I : σ → St) (m : σ → Nat) (s : σ) (ρ : List (Nat × Nat)) (h1 : oneB ρ = true) (hn : (I s).n = A.n) (hS : subS ρ A (I s).sl) (hR : subR ρ A (I s).rs)
    (round : ∀ s, KW P [.code c] .normal (I s) fun e A' => match e with
      | .normal => ∃ s', m s' < m s ∧ ∃ ρ, oneB ρ = true ∧ (I s').n = A'.n ∧ subS ρ A' (I s').sl ∧ subR ρ A' (I s').rs
      | e => KW P k e A' Q) : KW P (.code (.loop c) :: k) .normal A Q := by
  refine KW.loop I m s (fun o h tm w hs => ⟨_, _, hs.sub ρ h1 hn hS hR⟩) (fun s => KW.mono ?_ (round s))
  intro e A' hq
  cases e with
  | normal =>
    obtain ⟨s', hlt, ρ, g1, g2, g3, g4⟩ := hq
    exact ⟨s', hlt, fun o h tm w hs => ⟨_, _, hs.sub ρ g1 g2 g3 g4⟩⟩
  | _ => exact hq

/-! tests -/
theorem KW.test {c : Operand} {x y : Code} {b : Bool} {p : Prop} (hb : litOf A c = some (.bool b, p)) (hp : p) (ht : b = true → KW P (.code x :: k) .normal A Q) (hf : b = false → KW P (.code y :: k) .normal A Q) :
    KW P (.code (.cond c x y) :: k) .normal A Q :=
  KW.cond (fun o h tm w hs => (litOf_ok hs hb hp).1) ht hf

theorem KW.test_true {c : Operand} {x y : Code} {b : Bool} {p : Prop} (hb : litOf A c = some (.bool b, p)) (hp : p) (ht : b = true) (hk : KW P (.code x :: k) .normal A Q) :
    KW P (.code (.cond c x y) :: k) .normal A Q := KW.test hb hp (fun _ => hk) (fun hf => by rw [ht] at hf; cases hf)
theorem KW.test_false {c : Operand} {x y : Code} {b : Bool} {p : Prop} (hb : litOf A c = some (.bool b, p)) (hp : p) (hf : b = false) (hk : KW P (.code y :: k) .normal A Q) :
    KW P (.code (.cond c x y) :: k) .normal A Q := KW.test hb hp (fun ht => by rw [hf] at ht; cases ht) (fun _ => hk)

/-! turns of values -/
theorem Sat.conv (hs : Sat o h A tm w) {s : Nat} {x y : CV} (hl : lk A.sl s = some (.e (.c x))) (he : CVEq x y) : Sat o h ⟨A.n, (s, .e (.c y)) :: A.sl, A.rs⟩ tm w := by
  refine ⟨hs.size, hs.tags, fun s' x' hl' => ?_, hs.res⟩
  rw [lk_cons] at hl'
  split at hl'
  · rename_i e; subst e; cases hl'; exact RepV.conv he (hs.slot s _ hl)
  · exact hs.slot s' x' hl'
theorem KW.conv (s : Nat) {x : CV} (y : CV) (hl : lk A.sl s = some (.e (.c x))) (he : CVEq x y) (hk : KW P k e ⟨A.n, (s, .e (.c y)) :: A.sl, A.rs⟩ Q) : KW P k e A Q :=
  KW.weaken (fun o h tm w hs => ⟨o, h, hs.conv hl he, Ext.refl o w⟩) hk

theorem CVEq.sl_inv {n k : Nat} {f : Nat → Nat → CV} {y : CV} (he : CVEq (.sl n k f) y) (hn : n ≠ 0) : ∃ g, y = .sl n k g ∧ ∀ e q, e < n → q < k → CVEq (f e q) (g e q) := by
  cases y with
  | sl n' k' g =>
    obtain ⟨rfl, h⟩ := he
    rcases h with h | ⟨rfl, h⟩
    · exact absurd h hn
    · exact ⟨g, rfl, h⟩
  | lit _ => exact he.elim
  | clo _ _ _ _ => exact he.elim

theorem Sat.convR (hs : Sat o h A tm w) {i E n k : Nat} {f g : Nat → Nat → CV} (hl : lk A.rs i = some (.own E (.sl n k f))) (he : ∀ e q, e < n → q < k → CVEq (f e q) (g e q)) : Sat o h ⟨A.n, A.sl, (i, .own E (.sl n k g)) :: A.rs⟩ tm w := by
  refine ⟨hs.size, hs.tags, hs.slot, fun j r hl' => ?_⟩
  rw [lk_cons] at hl'
  split at hl'
  · rename_i e
    subst e; cases hl'
    obtain ⟨vs, hown, htag, hv⟩ := hs.res i _ hl
    exact ⟨vs, hown, htag, fun e q he' hq => let ⟨u, hu, hx⟩ := hv e q he' hq; ⟨u, hu, hx.conv (he e q he' hq)⟩⟩
  · exact hs.res j r hl'
/-- an own row in other words: 'x' and 'y' have the same length and the same cells -/
theorem KW.convR (i : Nat) {E n k' : Nat} {f : Nat → Nat → CV} (y : CV) {g : Nat → Nat → CV} (hl : lk A.rs i = some (.own E (.sl n k' f))) (hy : y = .sl n k' g) (he : ∀ e q, e < n → q < k' → CVEq (f e q) (g e q))
    (hk : KW P k e ⟨A.n, A.sl, (i, .own E y) :: A.rs⟩ Q) : KW P k e A Q := by
  subst hy
  exact KW.weaken (fun o h tm w hs => ⟨o, h, hs.convR hl he, Ext.refl o w⟩) hk

/-- the nil slice as an own row of no element -/
theorem Sat.nilO (hs : Sat o h A tm w) {s d E k : Nat} {f : Nat → Nat → CV} (hl : lk A.sl s = some (.e (.c (.lit (.slice none 0 0))))) (hf : freshB A d = true) :
    Sat o (updH h d (.slice none 0 0)) ⟨A.n, (s, .e (.r d)) :: A.sl, (d, .own E (.sl 0 k f)) :: A.rs⟩ tm w := by
  have hc : Chg o h w o (updH h d (.slice none 0 0)) w (fun _ => False) A := by
    refine ⟨fun b hb => ⟨hb, rfl⟩, fun j b _ hb => ⟨hb, rfl⟩, fun j hj => ?_⟩
    have : j = d := Classical.byContradiction fun hne => hj (by simp [updH, hne])
    subst this; exact hf
  refine ⟨hs.size, hs.tags, fun s' x' hl' => ?_, fun j r hl' => ?_⟩
  · rw [lk_cons] at hl'
    split at hl'
    · rename_i e
      subst e; cases hl'
      have : tm.getD s undef = .slice none 0 0 := (hs.slot s _ hl).1
      rw [this]; simp [SvOk, EvOk, updH]
    · exact hc.slot hs s' x' hl'
  · rw [lk_cons] at hl'
    split at hl'
    · rename_i e
      subst e; cases hl'
      exact ⟨[], by simpa [updH] using World.ownsRow_nil w 0 E k, fun b hb => by simp [updH, Value.ownBlock] at hb, fun e q he => by omega⟩
    · exact hc.resOk hs j r (fun e => e) hl'
theorem KW.nilO (s d E : Nat) (y : CV) {k' : Nat} {f : Nat → Nat → CV} (hy : y = .sl 0 k' f) (hl : lk A.sl s = some (.e (.c (.lit (.slice none 0 0))))) (hf : freshB A d = true)
    (hk : KW P k e ⟨A.n, (s, .e (.r d)) :: A.sl, (d, .own E y) :: A.rs⟩ Q) : KW P k e A Q := by
  subst hy
  exact KW.weaken (fun o h tm w hs => ⟨o, _, hs.nilO hl hf, Ext.refl o w⟩) hk

/-! an own row becomes stable: read by anybody, written by nobody -/
def frzO (o : Nat → Tag) (i : Nat) : Nat → Tag := fun b => match o b with
  | .hd j => if j = i then .sh else .hd j
  | t => t
def pushC (x : CV) : List Nat → List (Nat × SV) → List (Nat × SV)
  | [], l => l
  | s :: ss, l => (s, .e (.c x)) :: pushC x ss l
def allR (A : St) (i : Nat) : List Nat → Bool
  | [] => true
  | s :: ss => (match lk A.sl s with | some (.e (.r j)) => Nat.beq j i | _ => false) && allR A i ss

theorem Sat.frz (hs : Sat o h A tm w) {i E n k : Nat} {f : Nat → Nat → CV} (hl : lk A.rs i = some (.own E (.sl n k f))) {ss : List Nat} (ha : allR A i ss = true) :
    Sat (frzO o i) h ⟨A.n, pushC (.sl n k f) ss A.sl, (i, .gone) :: A.rs⟩ tm w ∧ Ext o w (frzO o i) w := by
  have hk : Keep o w (frzO o i) w := fun b hb => ⟨by simp [frzO, hb], rfl⟩
  obtain ⟨vs, hown, htag, hv⟩ := hs.res i _ hl
  have hrep : RepV (frzO o i) w (.sl n k f) (h i) := by
    rcases hown.2 with ⟨h1, rfl⟩ | ⟨b, cap, cur, h1, h2, h3, h4, h5, h6, h7⟩
    · exact ⟨none, 0, h1, Nat.le_refl _, Nat.zero_le _, .inl rfl⟩
    · refine ⟨_, cap, h1, h4, h5, .inr ⟨b, 0, rfl, by simp [frzO, htag b (by rw [h1]; rfl)], fun e q he hq => ?_⟩⟩
      obtain ⟨u, hu, hx⟩ := hv e q he hq
      have := hown.cells (g := b) (by rw [h1]; rfl) _ _ hu
      rw [addr_add] at this
      exact ⟨u, this, hx.keep hk⟩
  refine ⟨⟨hs.size, fun b => ?_, ?_, fun j r hl' => ?_⟩, ⟨Nat.le_refl _, rfl, rfl, rfl, Nat.le_refl _, fun b hb _ => ⟨by simp [frzO, hb], rfl⟩, fun b hb _ => ⟨by simp [frzO, hb], rfl⟩⟩⟩
  · cases hob : o b with
    | no => simp [frzO, hob]
    | sh => have := (hs.tags b).2 hob; simp [frzO, hob, this]
    | hd j => have := (hs.tags b).1 j hob; simp only [frzO, hob]; split <;> exact ⟨fun _ _ => this, fun _ => this⟩
  · have : ∀ ss, allR A i ss = true → ∀ s x, lk (pushC (.sl n k f) ss A.sl) s = some x → SvOk (frzO o i) h w x (tm.getD s undef) := by
      intro ss
      induction ss with
      | nil => intro _ s x hl'; exact (hs.slot s x hl').keep hk
      | cons s0 ss ih =>
        intro ha s x hl'
        simp only [allR, Bool.and_eq_true] at ha
        simp only [pushC] at hl'
        rw [lk_cons] at hl'
        split at hl'
        · rename_i e
          subst e; cases hl'
          have h1 := ha.1
          split at h1
          · rename_i j hj
            have := Nat.eq_of_beq_eq_true h1
            subst this
            have hv : tm.getD s0 undef = h j := hs.slot s0 _ hj
            show RepV _ _ _ _
            rw [hv]; exact hrep
          · cases h1
        · exact ih ha.2 s x hl'
    exact this ss ha
  · rw [lk_cons] at hl'
    split at hl'
    · cases hl'; trivial
    · rename_i hne
      have ht : ∀ b, o b = .hd j → frzO o i b = .hd j ∧ w.heap[b]? = w.heap[b]? := fun b hb => ⟨by simp [frzO, hb, Ne.symm hne], rfl⟩
      exact ResOk.chg hk ht rfl (fun j hj => absurd rfl hj) (hs.res j r hl')
theorem KW.frz (i : Nat) (ss : List Nat) {E n k' : Nat} {f : Nat → Nat → CV} {x : CV} (hl : lk A.rs i = some (.own E x)) (hx : x = .sl n k' f) (ha : allR A i ss = true)
    (hk : KW P k e ⟨A.n, pushC x ss A.sl, (i, .gone) :: A.rs⟩ Q) : KW P k e A Q := by
  subst hx
  exact KW.weaken (fun o h tm w hs => ⟨_, _, hs.frz hl ha⟩) hk

/-- a box's block gets a name -/
theorem KW.name (i : Nat) {T : Nat} {cs : List EV} {bk : Option Nat} (hl : lk A.rs i = some (.box T cs bk)) (hk : ∀ b, KW P k e ⟨A.n, A.sl, (i, .box T cs (some b)) :: A.rs⟩ Q) : KW P k e A Q := by
  intro o h tm w hs
  obtain ⟨b, vs, h0, h1⟩ := hs.res i _ hl
  refine hk b o h tm w ⟨hs.size, hs.tags, hs.slot, fun j r hl' => ?_⟩
  rw [lk_cons] at hl'
  split at hl'
  · rename_i e; subst e; cases hl'; exact ⟨b, vs, fun b' hb' => by cases hb'; rfl, h1⟩
  · exact hs.res j r hl'

/-! what a function does -/
def idx : Nat → List EV → List (Nat × SV)
  | _, [] => []
  | s, y :: ys => (s, .e y) :: idx (s + 1) ys
theorem idx_lt : ∀ (ys : List EV) (s0 s : Nat) (x : SV), lk (idx s0 ys) s = some x → s0 ≤ s ∧ s < s0 + ys.length ∧ ∃ y, ys[s - s0]? = some y ∧ x = .e y
  | [], _, _, _, hl => by simp [idx, lk] at hl
  | y :: ys, s0, s, x, hl => by
    simp only [idx] at hl
    rw [lk_cons] at hl
    split at hl
    · rename_i e; subst e; cases hl; exact ⟨Nat.le_refl _, by simp, y, by simp, rfl⟩
    · obtain ⟨h1, h2, y', h3, h4⟩ := idx_lt ys (s0 + 1) s x hl
      refine ⟨by omega, by simp; omega, y', ?_, h4⟩
      rw [show s - s0 = (s - (s0 + 1)) + 1 by omega, List.getElem?_cons_succ]; exact h3
theorem idx_get : ∀ (ys : List EV) (s0 j : Nat) (y : EV), ys[j]? = some y → lk (idx s0 ys) (s0 + j) = some (.e y)
  | [], _, _, _, h => by simp at h
  | y :: ys, s0, 0, y', h => by simp at h; subst h; simp [idx, lk_cons]
  | y :: ys, s0, j + 1, y', h => by
    simp only [idx]
    rw [lk_cons, if_neg (by omega), show s0 + (j + 1) = (s0 + 1) + j by omega]
    exact idx_get ys (s0 + 1) j y' (by simpa using h)

/-- 'f', called at what 'ys' and 'rs' say of its parameters, returns; 'y' and 'rs'' say what -/
def DoesF (P : Program) (f : FuncId) (ys : List EV) (rs : List (Nat × Res)) (y : SV) (rs' : List (Nat × Res)) : Prop :=
  ∀ o h args w, Sat o h ⟨ys.length, idx 0 ys, rs⟩ args w → Calls P f args w fun e w' => ∃ v o' h', e = .returned v ∧ Sat o' h' ⟨1, [(0, y)], rs'⟩ #[v] w' ∧ Ext o w o' w'

def resTmps : List ResultVar → Option (List Tmp)
  | [] => some []
  | .tmp t :: l => match resTmps l with
    | some ts => some (t :: ts)
    | none => none
  | _ => none

/-- what the result's slots hold -/
def retB (A : St) (rv : List ResultVar) : Option SV :=
  match rv with
  | [] => some (.tup [])
  | [.tmp t] => lk A.sl t
  | rv => match resTmps rv with
    | some ts => match tupOf A ts with
      | some xs => some (.tup xs)
      | none => none
    | none => none
where
  tupOf (A : St) : List Tmp → Option (List EV)
    | [] => some []
    | t :: ts => match lk A.sl t, tupOf A ts with
      | some (.e x), some xs => some (x :: xs)
      | _, _ => none

def rvS (tm : Array Value) (x : ResultVar) : Sem Value := match x with
  | .tmp t => pure (tm.getD t undef)
  | .cell a t => do loadVar t (← asAddr (tm.getD a undef))
theorem results_eq (fn : Func) (tm : Array Value) : results fn tm = (do
    let vs ← fn.results.mapM (rvS tm)
    pure (if h : vs.size = 1 then vs[0] else .tuple vs)) := rfl

theorem results_ok (hs : Sat o h A tm w) {fn : Func} {y : SV} (hr : retB A fn.results.toList = some y) : ∃ v, (results fn tm).run P w = .ok v w ∧ SvOk o h w y v := by
  have hmap : ∀ (l : List ResultVar) (ts : List Tmp), resTmps l = some ts → l = ts.map .tmp := by
    intro l
    induction l with
    | nil => intro ts h; simp [resTmps] at h; subst h; rfl
    | cons a l ih =>
      intro ts h
      cases a with
      | tmp t =>
        simp only [resTmps] at h
        split at h
        · rename_i ts' h'
          simp only [Option.some.injEq] at h
          subst h
          rw [ih _ h']; rfl
        · cases h
      | cell _ _ => simp [resTmps] at h
  have hrun : ∀ (ts : List Tmp), fn.results = (ts.map ResultVar.tmp).toArray → (results fn tm).run P w = .ok (if h : (ts.map fun t => tm.getD t undef).toArray.size = 1 then (ts.map fun t => tm.getD t undef).toArray[0] else .tuple (ts.map fun t => tm.getD t undef).toArray) w := by
    intro ts hts
    have hM : ((ts.map ResultVar.tmp).mapM (rvS tm)).run P w = .ok (ts.map fun t => tm.getD t undef) w := by
      clear hts
      induction ts with
      | nil => rfl
      | cons t ts ih =>
        simp only [List.map_cons, List.mapM_cons, Sem.run_bind, ih, Result.andThen_ok, Sem.run_pure, rvS]
    have hM' : (fn.results.mapM (rvS tm)).run P w = .ok (ts.map fun t => tm.getD t undef).toArray w := by
      rw [hts, Array.mapM_eq_mapM_toList]
      simp only [Sem.run_map]
      rw [hM]; rfl
    rw [results_eq]
    simp only [Sem.run_bind, hM', Result.andThen_ok, Sem.run_pure]
  unfold retB at hr
  split at hr
  · rename_i hl
    simp only [Option.some.injEq] at hr
    subst hr
    have : fn.results = (([] : List Tmp).map ResultVar.tmp).toArray := by cases hfr : fn.results; simp_all
    exact ⟨_, hrun [] this, #[], rfl, rfl, by simp⟩
  · rename_i t hl
    have : fn.results = (([t] : List Tmp).map ResultVar.tmp).toArray := by cases hfr : fn.results; simp_all
    exact ⟨_, hrun [t] this, hs.slot t _ hr⟩
  · rename_i rv hne1 hne2
    split at hr
    · rename_i ts hts
      split at hr
      · rename_i xs hxs
        simp only [Option.some.injEq] at hr
        subst hr
        have hts' := hmap _ _ hts
        have : fn.results = (ts.map ResultVar.tmp).toArray := by rw [← hts']
        have hlen : ts.length ≠ 1 := by
          intro hlen
          match ts, hlen with
          | [t], _ => exact hne2 t (by rw [hts']; rfl)
        refine ⟨_, hrun ts this, ?_⟩
        rw [dif_neg (by simpa using hlen)]
        have hget : ∀ (ts : List Tmp) (xs : List EV), retB.tupOf A ts = some xs → xs.length = ts.length ∧ ∀ (q : Nat) x, xs[q]? = some x → ∃ t, ts[q]? = some t ∧ lk A.sl t = some (.e x) := by
          intro ts
          induction ts with
          | nil => intro xs h; simp [retB.tupOf] at h; subst h; simp
          | cons t ts ih =>
            intro xs h
            simp only [retB.tupOf] at h
            split at h
            · rename_i x xs' h1 h2
              simp only [Option.some.injEq] at h
              subst h
              obtain ⟨g1, g2⟩ := ih _ h2
              refine ⟨by simp [g1], fun q y hq => ?_⟩
              cases q with
              | zero => simp at hq; subst hq; exact ⟨t, rfl, h1⟩
              | succ q => simp at hq; simpa using g2 q y hq
            · cases h
        obtain ⟨g1, g2⟩ := hget ts xs hxs
        refine ⟨_, rfl, by simp [g1], fun q x hq => ?_⟩
        obtain ⟨t, ht, hx⟩ := g2 q x hq
        exact ⟨tm.getD t undef, by simp [ht], hs.slot t _ hx⟩
      · cases hr
    · cases hr

/-- a function's contract, out of its body -/
theorem DoesF.of {f : FuncId} {fn : Func} {c : Code} {ys : List EV} {rs rs' : List (Nat × Res)} {y : SV} (n : Nat) (hf : P.funcs[f]? = some fn) (hb : fn.body = some c) (hnt : fn.ntmps = n) (hn : Nat.ble ys.length n = true)
    (hk : KW P [.code c] .normal ⟨n, idx 0 ys, rs⟩ fun e A' => (e = .ret ∨ e = .normal) ∧ ∃ y0 ρ, retB A' fn.results.toList = some y0 ∧ oneB ρ = true ∧ y0 = y.ren ρ ∧ subR ρ A' rs') :
    DoesF P f ys rs y rs' := by
  subst hnt
  have hn : ys.length ≤ fn.ntmps := by simpa using hn
  intro o h args w hs
  refine calls_of_wp hf hb ?_
  have hsz : args.size = ys.length := hs.size
  have hs' : Sat o h ⟨fn.ntmps, idx 0 ys, rs⟩ (args ++ Array.replicate (fn.ntmps - args.size) undef) w := by
    refine ⟨by simp [hsz]; omega, hs.tags, fun s x hl => ?_, hs.res⟩
    have := hs.slot s x hl
    obtain ⟨_, hlt, _⟩ := idx_lt ys 0 s x hl
    have e1 : (args ++ Array.replicate (fn.ntmps - args.size) undef).getD s undef = args.getD s undef := by
      rw [Array.getD_eq_getD_getElem?, Array.getD_eq_getD_getElem?, Array.getElem?_append_left (by omega)]
    rw [e1]; exact this
  refine wp_mono (hk o h _ w hs') ?_
  rintro e ⟨tm', ds⟩ w' hl
  obtain ⟨hd, o', h', A', ⟨he, y0, ρ, hr, h1, rfl, hR⟩, hs2, hx⟩ : lift _ o w e ⟨tm', ds⟩ w' := by
    cases e <;> exact hl
  simp only at hd
  subst hd
  obtain ⟨v, hv, hy⟩ := results_ok (P := P) hs2 hr
  have hfin : ∃ v o' h', Ending.returned v = .returned v ∧ Sat o' h' ⟨1, [(0, y)], rs'⟩ #[v] w' ∧ Ext o w o' w' ∧ (results fn tm').run P w' = .ok v w' := by
    refine ⟨v, viewO ρ (fun _ => false) o', viewH ρ h', rfl, ⟨rfl, tags_view hs2 ρ _, fun s x hl => ?_, fun j r hl => ?_⟩, hx.trans ⟨Nat.le_refl _, rfl, rfl, rfl, Nat.le_refl _, fun b hb _ => ⟨viewO_sh hb, rfl⟩, fun b hb _ => ⟨viewO_no hb, rfl⟩⟩, hv⟩
    · rw [lk_cons] at hl
      split at hl
      · rename_i e; subst e; cases hl; exact hy.view (keep_view ρ _)
      · simp [lk] at hl
    · obtain ⟨i, hi, hr⟩ := subR_ok hR j r hl
      exact (hs2.res i _ hr).view h1 hi
  obtain ⟨v, o2, h2, _, g1, g2, g3⟩ := hfin
  rcases he with rfl | rfl
  · exact ⟨rfl, v, g3, v, o2, h2, rfl, g1, g2⟩
  · exact ⟨rfl, v, g3, v, o2, h2, rfl, g1, g2⟩
end

end Go.Sy
