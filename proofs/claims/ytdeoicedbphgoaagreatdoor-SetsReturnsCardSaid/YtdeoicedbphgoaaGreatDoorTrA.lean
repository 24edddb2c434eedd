/-
  TREES (api.Split): the values that stand for them. No program is named here.
-/
import Derived.Test.YtdeoicedbphgoaaGreatDoorSyO
set_option linter.unusedSectionVars false
set_option linter.unusedVariables false
set_option linter.unusedSimpArgs false
namespace Go.Pu
open Go.Sy
variable [Drw]
/-- a tree: its event, its reason, how many kids, and the kids -/
inductive Tr where
  | nd (v r : Int) (n : Nat) (f : Fin n → Tr)
def Tr.v : Tr → Int | .nd v _ _ _ => v
def Tr.r : Tr → Int | .nd _ r _ _ => r
def Tr.n : Tr → Nat | .nd _ _ n _ => n
def Tr.no : Tr := .nd 0 0 0 fun i => i.elim0
def Tr.k : Tr → Nat → Tr | .nd _ _ n f => fun i => if h : i < n then f ⟨i, h⟩ else .no
def Tr.of (v r : Int) (n : Nat) (g : Nat → Tr) : Tr := .nd v r n fun i => g i
@[simp] theorem Tr.v_of (v r : Int) (n : Nat) (f : Nat → Tr) : (Tr.of v r n f).v = v := rfl
@[simp] theorem Tr.r_of (v r : Int) (n : Nat) (f : Nat → Tr) : (Tr.of v r n f).r = r := rfl
@[simp] theorem Tr.n_of (v r : Int) (n : Nat) (f : Nat → Tr) : (Tr.of v r n f).n = n := rfl
theorem Tr.k_of {v r : Int} {n : Nat} {f : Nat → Tr} {i : Nat} (h : i < n) : (Tr.of v r n f).k i = f i := by
  show (if h : i < n then f (⟨i, h⟩ : Fin n) else Tr.no) = f i
  rw [dif_pos h]
theorem Tr.ind {M : Tr → Prop} (h : ∀ t : Tr, (∀ i, i < t.n → M (t.k i)) → M t) (t : Tr) : M t := by
  induction t with
  | nd v r n f ih =>
    refine h _ fun i hi => ?_
    show M (if h : i < n then f ⟨i, h⟩ else Tr.no)
    rw [dif_pos (show i < n from hi)]
    exact ih _
theorem Tr.ext {a : Tr} : ∀ {b : Tr}, a.v = b.v → a.r = b.r → a.n = b.n → (∀ i, i < a.n → a.k i = b.k i) → a = b := by
  cases a with
  | nd v r n f =>
    intro b
    cases b with
    | nd v' r' n' f' =>
      intro h1 h2 h3 h4
      obtain rfl : v = v' := h1
      obtain rfl : r = r' := h2
      obtain rfl : n = n' := h3
      congr 1
      funext ⟨i, hi⟩
      have := h4 i hi
      simpa [Tr.k, hi] using this
theorem Tr.of_eta (t : Tr) : Tr.of t.v t.r t.n t.k = t := Tr.ext rfl rfl rfl fun i hi => Tr.k_of hi
/-- two kids -/
def Tr.two (v : Int) (a b : Tr) : Tr := .of v 0 2 fun i => match i with
  | 0 => a
  | _ => b
/-- a leaf -/
def Tr.lf (r : Int) : Tr := .nd 0 r 0 fun i => i.elim0
@[simp] theorem Tr.v_two (v : Int) (a b : Tr) : (Tr.two v a b).v = v := rfl
@[simp] theorem Tr.r_two (v : Int) (a b : Tr) : (Tr.two v a b).r = 0 := rfl
@[simp] theorem Tr.n_two (v : Int) (a b : Tr) : (Tr.two v a b).n = 2 := rfl
@[simp] theorem Tr.k_two0 (v : Int) (a b : Tr) : (Tr.two v a b).k 0 = a := rfl
@[simp] theorem Tr.k_two1 (v : Int) (a b : Tr) : (Tr.two v a b).k 1 = b := rfl
@[simp] theorem Tr.v_lf (r : Int) : (Tr.lf r).v = 0 := rfl
@[simp] theorem Tr.r_lf (r : Int) : (Tr.lf r).r = r := rfl
@[simp] theorem Tr.n_lf (r : Int) : (Tr.lf r).n = 0 := rfl
@[simp] theorem Tr.v_no : Tr.no.v = 0 := rfl
@[simp] theorem Tr.r_no : Tr.no.r = 0 := rfl
@[simp] theorem Tr.n_no : Tr.no.n = 0 := rfl
theorem Tr.eq_two {t : Tr} (hr : t.r = 0) (hn : t.n = 2) : t = Tr.two t.v (t.k 0) (t.k 1) := Tr.ext rfl hr hn fun i hi => by
  match i, hi with
  | 0, _ => rfl
  | 1, _ => rfl
  | i + 2, hi => omega
theorem Tr.eq_lf {t : Tr} (hv : t.v = 0) (hn : t.n = 0) : t = Tr.lf t.r := Tr.ext hv rfl hn fun i hi => by omega
/-- the kids' cells -/
def Tr.kf : Tr → Nat → Nat → CV
  | .nd _ _ n f => fun e q => if h : e < n then (match q with
    | 0 => .lit (.int .i64 (f ⟨e, h⟩).v)
    | 1 => .sl (f ⟨e, h⟩).n 3 (f ⟨e, h⟩).kf
    | _ => .lit (.int .i64 (f ⟨e, h⟩).r)) else .lit undef
def Tr.ks (t : Tr) : CV := .sl t.n 3 t.kf
def trC (t : Tr) : List CV := [.lit (.int .i64 t.v), t.ks, .lit (.int .i64 t.r)]
abbrev trV (t : Tr) : EV := .ag (trC t)
def Tr.cell (t : Tr) (q : Nat) : CV := match q with
  | 0 => .lit (.int .i64 t.v)
  | 1 => t.ks
  | _ => .lit (.int .i64 t.r)
@[simp] theorem Tr.cell_0 (t : Tr) : t.cell 0 = .lit (.int .i64 t.v) := rfl
@[simp] theorem Tr.cell_1 (t : Tr) : t.cell 1 = t.ks := rfl
@[simp] theorem Tr.cell_2 (t : Tr) : t.cell 2 = .lit (.int .i64 t.r) := rfl
/-- the kids' cells by the kids; beyond the kids they say nothing -/
theorem Tr.kf_eq {t : Tr} {e : Nat} (h : e < t.n) (q : Nat) : t.kf e q = (t.k e).cell q := by
  cases t with
  | nd v r n f =>
    have h' : e < n := h
    have ek : (Tr.nd v r n f).k e = f ⟨e, h'⟩ := by simp [Tr.k, h']
    rw [ek, Tr.kf]
    simp only [h', dif_pos]
    exact match q with | 0 => rfl | 1 => rfl | _ + 2 => rfl
/-- a tree's cells, with the kids' own cells in sight -/
def Tr.ksx (t : Tr) : CV := .sl t.n 3 fun e q => (t.k e).cell q
theorem Tr.ks_x (t : Tr) : CVEq t.ks t.ksx := ⟨rfl, .inr ⟨rfl, fun e q he _ => by rw [Tr.kf_eq he]; exact CVEq.refl _⟩⟩
theorem Tr.x_ks (t : Tr) : CVEq t.ksx t.ks := ⟨rfl, .inr ⟨rfl, fun e q he _ => by rw [Tr.kf_eq he]; exact CVEq.refl _⟩⟩
def trX (t : Tr) : List CV := [.lit (.int .i64 t.v), t.ksx, .lit (.int .i64 t.r)]
/-- kids given by what they are -/
theorem Tr.of_ks {v r : Int} {n : Nat} {g : Nat → Tr} : CVEq (.sl n 3 fun e q => (g e).cell q) (Tr.of v r n g).ks :=
  ⟨rfl, .inr ⟨rfl, fun e q he _ => by rw [Tr.kf_eq (show e < (Tr.of v r n g).n from he), Tr.k_of he]; exact CVEq.refl _⟩⟩
/-- the numbers are ints -/
def Tr.In : Tr → Prop
  | .nd v r n f => inK .i64 v ∧ inK .i64 r ∧ ∀ i, (f i).In
theorem Tr.in_iff (t : Tr) : t.In ↔ inK .i64 t.v ∧ inK .i64 t.r ∧ ∀ i, i < t.n → (t.k i).In := by
  cases t with
  | nd v r n f =>
    have e : ∀ i (h : i < n), (Tr.nd v r n f).k i = f ⟨i, h⟩ := fun i h => by simp [Tr.k, h]
    constructor
    · rintro ⟨h1, h2, h3⟩
      exact ⟨h1, h2, fun i hi => by rw [e i hi]; exact h3 _⟩
    · rintro ⟨h1, h2, h3⟩
      exact ⟨h1, h2, fun ⟨i, hi⟩ => by have := h3 i hi; rwa [e i hi] at this⟩
end Go.Pu
namespace Go.Sy
open Go.Pu
variable [Drw]
def lenC : CV → Nat
  | .sl n _ _ => n
  | _ => 0
def unKs : CV → Nat → Tr
  | .sl _ _ f => fun e => .of (cvInt (f e 0)) (cvInt (f e 2)) (lenC (f e 1)) (unKs (f e 1))
  | _ => fun _ => .no
def unTr (a : Int) (x : CV) (b : Int) : Tr := .of a b (lenC x) (unKs x)
def isKs (x : CV) : Prop := CVEq x (unTr 0 x 0).ks
theorem unTr_ks (t : Tr) : unTr t.v t.ks t.r = t := by
  induction t using Tr.ind with
  | h t ih =>
    refine Tr.ext rfl rfl rfl fun i hi => ?_
    have hi' : i < t.n := hi
    rw [show unTr t.v t.ks t.r = Tr.of t.v t.r t.n (unKs t.ks) from rfl, Tr.k_of hi']
    have e : unKs t.ks i = unTr (t.k i).v (t.k i).ks (t.k i).r := by
      show Tr.of (cvInt (t.kf i 0)) (cvInt (t.kf i 2)) (lenC (t.kf i 1)) (unKs (t.kf i 1)) = _
      rw [Tr.kf_eq hi', Tr.kf_eq hi', Tr.kf_eq hi']
      rfl
    rw [e]; exact ih i hi'
theorem unTr_n (a b : Int) (t : Tr) : (unTr a t.ks b).ks = t.ks := by
  have h := congrArg Tr.ks (unTr_ks t)
  exact h
@[simp] theorem unTr_cells (t : Tr) : unTr t.v t.ks t.r = t := unTr_ks t
@[simp] theorem isKs_ks (t : Tr) : isKs t.ks := by unfold isKs; rw [unTr_n]; exact CVEq.refl _
theorem tr_eq {a b : Int} {x : CV} (h : isKs x) : EvEq (.ag [.lit (.int .i64 a), x, .lit (.int .i64 b)]) (trV (unTr a x b)) :=
  ⟨rfl, fun q y z hy hz => by
    match q, hy, hz with
    | 0, hy, hz => simp [trC] at hy hz; subst hy; subst hz; exact CVEq.refl _
    | 1, hy, hz => simp [trC] at hy hz; subst hy; subst hz; exact h
    | 2, hy, hz => simp [trC] at hy hz; subst hy; subst hz; exact CVEq.refl _
    | q + 3, hy, hz => simp at hy⟩
/-- functions of a tree; of a tree and a number; .. -/
def fT (g : Tr → SV) (p : Tr → Prop) : List EV → Option (SV × Prop)
  | [.ag [.lit (.int .i64 a), x, .lit (.int .i64 b)]] => some (g (unTr a x b), isKs x ∧ p (unTr a x b))
  | _ => none
def fTI (g : Tr → Int → SV) (p : Tr → Int → Prop) : List EV → Option (SV × Prop)
  | [.ag [.lit (.int .i64 a), x, .lit (.int .i64 b)], .c (.lit (.int .i64 s))] => some (g (unTr a x b) s, isKs x ∧ p (unTr a x b) s)
  | _ => none
def fTII (g : Tr → Int → Int → SV) (p : Tr → Int → Int → Prop) : List EV → Option (SV × Prop)
  | [.ag [.lit (.int .i64 a), x, .lit (.int .i64 b)], .c (.lit (.int .i64 s)), .c (.lit (.int .i64 t))] => some (g (unTr a x b) s t, isKs x ∧ p (unTr a x b) s t)
  | _ => none
def fTIII (g : Tr → Int → Int → Int → SV) (p : Tr → Int → Int → Int → Prop) : List EV → Option (SV × Prop)
  | [.ag [.lit (.int .i64 a), x, .lit (.int .i64 b)], .c (.lit (.int .i64 s)), .c (.lit (.int .i64 t)), .c (.lit (.int .i64 u))] => some (g (unTr a x b) s t u, isKs x ∧ p (unTr a x b) s t u)
  | _ => none
def fTT (g : Tr → Tr → SV) (p : Tr → Tr → Prop) : List EV → Option (SV × Prop)
  | [.ag [.lit (.int .i64 a), x, .lit (.int .i64 b)], .ag [.lit (.int .i64 c), y, .lit (.int .i64 d)]] => some (g (unTr a x b) (unTr c y d), isKs x ∧ isKs y ∧ p (unTr a x b) (unTr c y d))
  | _ => none
def fTIT (g : Tr → Int → Tr → SV) (p : Tr → Int → Tr → Prop) : List EV → Option (SV × Prop)
  | [.ag [.lit (.int .i64 a), x, .lit (.int .i64 b)], .c (.lit (.int .i64 s)), .ag [.lit (.int .i64 c), y, .lit (.int .i64 d)]] => some (g (unTr a x b) s (unTr c y d), isKs x ∧ isKs y ∧ p (unTr a x b) s (unTr c y d))
  | _ => none
def fTIIT (g : Tr → Int → Int → Tr → SV) (p : Tr → Int → Int → Tr → Prop) : List EV → Option (SV × Prop)
  | [.ag [.lit (.int .i64 a), x, .lit (.int .i64 b)], .c (.lit (.int .i64 s)), .c (.lit (.int .i64 t)), .ag [.lit (.int .i64 c), y, .lit (.int .i64 d)]] => some (g (unTr a x b) s t (unTr c y d), isKs x ∧ isKs y ∧ p (unTr a x b) s t (unTr c y d))
  | _ => none
section
variable {P : Program} {f : FuncId}
theorem fT_ok {g : Tr → SV} {p : Tr → Prop} (h : ∀ x, p x → DoesF P f [trV x] [] (g x) []) : ∀ ys y φ, fT g p ys = some (y, φ) → φ → DoesF P f ys [] y [] := by
  intro ys y φ he hφ
  unfold fT at he
  split at he
  · simp only [Option.some.injEq, Prod.mk.injEq] at he
    obtain ⟨rfl, rfl⟩ := he
    refine DoesF.conv ?_ (h _ hφ.2)
    exact ⟨tr_eq hφ.1, trivial⟩
  · cases he
theorem fTI_ok {g : Tr → Int → SV} {p : Tr → Int → Prop} (h : ∀ x s, p x s → DoesF P f [trV x, iV s] [] (g x s) []) : ∀ ys y φ, fTI g p ys = some (y, φ) → φ → DoesF P f ys [] y [] := by
  intro ys y φ he hφ
  unfold fTI at he
  split at he
  · simp only [Option.some.injEq, Prod.mk.injEq] at he
    obtain ⟨rfl, rfl⟩ := he
    refine DoesF.conv ?_ (h _ _ hφ.2)
    exact ⟨tr_eq hφ.1, CVEq.refl _, trivial⟩
  · cases he
theorem fTII_ok {g : Tr → Int → Int → SV} {p : Tr → Int → Int → Prop} (h : ∀ x s t, p x s t → DoesF P f [trV x, iV s, iV t] [] (g x s t) []) : ∀ ys y φ, fTII g p ys = some (y, φ) → φ → DoesF P f ys [] y [] := by
  intro ys y φ he hφ
  unfold fTII at he
  split at he
  · simp only [Option.some.injEq, Prod.mk.injEq] at he
    obtain ⟨rfl, rfl⟩ := he
    refine DoesF.conv ?_ (h _ _ _ hφ.2)
    exact ⟨tr_eq hφ.1, CVEq.refl _, CVEq.refl _, trivial⟩
  · cases he
theorem fTIII_ok {g : Tr → Int → Int → Int → SV} {p : Tr → Int → Int → Int → Prop} (h : ∀ x s t u, p x s t u → DoesF P f [trV x, iV s, iV t, iV u] [] (g x s t u) []) : ∀ ys y φ, fTIII g p ys = some (y, φ) → φ → DoesF P f ys [] y [] := by
  intro ys y φ he hφ
  unfold fTIII at he
  split at he
  · simp only [Option.some.injEq, Prod.mk.injEq] at he
    obtain ⟨rfl, rfl⟩ := he
    refine DoesF.conv ?_ (h _ _ _ _ hφ.2)
    exact ⟨tr_eq hφ.1, CVEq.refl _, CVEq.refl _, CVEq.refl _, trivial⟩
  · cases he
theorem fTT_ok {g : Tr → Tr → SV} {p : Tr → Tr → Prop} (h : ∀ x s, p x s → DoesF P f [trV x, trV s] [] (g x s) []) : ∀ ys y φ, fTT g p ys = some (y, φ) → φ → DoesF P f ys [] y [] := by
  intro ys y φ he hφ
  unfold fTT at he
  split at he
  · simp only [Option.some.injEq, Prod.mk.injEq] at he
    obtain ⟨rfl, rfl⟩ := he
    refine DoesF.conv ?_ (h _ _ hφ.2.2)
    exact ⟨tr_eq hφ.1, tr_eq hφ.2.1, trivial⟩
  · cases he
theorem fTIT_ok {g : Tr → Int → Tr → SV} {p : Tr → Int → Tr → Prop} (h : ∀ x s t, p x s t → DoesF P f [trV x, iV s, trV t] [] (g x s t) []) : ∀ ys y φ, fTIT g p ys = some (y, φ) → φ → DoesF P f ys [] y [] := by
  intro ys y φ he hφ
  unfold fTIT at he
  split at he
  · simp only [Option.some.injEq, Prod.mk.injEq] at he
    obtain ⟨rfl, rfl⟩ := he
    refine DoesF.conv ?_ (h _ _ _ hφ.2.2)
    exact ⟨tr_eq hφ.1, CVEq.refl _, tr_eq hφ.2.1, trivial⟩
  · cases he
theorem fTIIT_ok {g : Tr → Int → Int → Tr → SV} {p : Tr → Int → Int → Tr → Prop} (h : ∀ x s t u, p x s t u → DoesF P f [trV x, iV s, iV t, trV u] [] (g x s t u) []) : ∀ ys y φ, fTIIT g p ys = some (y, φ) → φ → DoesF P f ys [] y [] := by
  intro ys y φ he hφ
  unfold fTIIT at he
  split at he
  · simp only [Option.some.injEq, Prod.mk.injEq] at he
    obtain ⟨rfl, rfl⟩ := he
    refine DoesF.conv ?_ (h _ _ _ _ hφ.2.2)
    exact ⟨tr_eq hφ.1, CVEq.refl _, CVEq.refl _, tr_eq hφ.2.1, trivial⟩
  · cases he
end
section
variable {P : Program} {A : St} {Q : Exit → St → Prop} {k : List K} {e : Exit}
/-- a slot's struct, said in other words -/
theorem Sat.convG {o : Nat → Tag} {h : Nat → Value} {tm : Array Value} {w : World} (hs : Sat o h A tm w) {s : Nat} {xs ys : List CV} (hl : lk A.sl s = some (.e (.ag xs))) (hn : xs.length = ys.length) (he : ∀ (q : Nat) x y, xs[q]? = some x → ys[q]? = some y → CVEq x y) :
    Sat o h ⟨A.n, (s, .e (.ag ys)) :: A.sl, A.rs⟩ tm w := by
  refine ⟨hs.size, hs.tags, fun s' x' hl' => ?_, hs.res⟩
  rw [lk_cons] at hl'
  split at hl'
  · rename_i e; subst e; cases hl'
    obtain ⟨vs, hv, h1, h2⟩ := hs.slot s _ hl
    refine ⟨vs, hv, h1.trans hn, fun q y hq => ?_⟩
    have hlt : q < xs.length := by rw [hn]; exact (List.getElem?_eq_some_iff.1 hq).1
    obtain ⟨u, hu, hr⟩ := h2 q _ (List.getElem?_eq_getElem hlt)
    exact ⟨u, hu, RepV.conv (he q _ y (List.getElem?_eq_getElem hlt) hq) hr⟩
  · exact hs.slot s' x' hl'
theorem KW.convG (s : Nat) {xs : List CV} (ys : List CV) (hl : lk A.sl s = some (.e (.ag xs))) (hn : xs.length = ys.length) (he : ∀ (q : Nat) x y, xs[q]? = some x → ys[q]? = some y → CVEq x y)
    (hk : KW P k e ⟨A.n, (s, .e (.ag ys)) :: A.sl, A.rs⟩ Q) : KW P k e A Q :=
  KW.weaken (fun o h tm w hs => ⟨o, h, hs.convG hl hn he, Ext.refl o w⟩) hk
/-- the number of kids is an int -/
theorem KW.lenT (s : Nat) (t : Tr) (hl : lk A.sl s = some (.e (trV t))) (hk : t.n ≤ 9223372036854775807 → KW P k e A Q) : KW P k e A Q := by
  intro o h tm w hs
  obtain ⟨vs, _, _, h2⟩ := hs.slot s _ hl
  obtain ⟨u, _, hr⟩ := h2 1 t.ks rfl
  obtain ⟨a, cap, _, g1, g2, _⟩ := (show RepV o w (.sl t.n 3 t.kf) u from hr)
  exact hk (by simp only [maxLen] at g2; omega) o h tm w hs
/-- a box's cell, said in other words -/
theorem Sat.convB {o : Nat → Tag} {h : Nat → Value} {tm : Array Value} {w : World} (hs : Sat o h A tm w) {i q T : Nat} {cs : List EV} {bk : Option Nat} {x y : CV} (hi : lk A.rs i = some (.box T cs bk)) (hq : nth cs q = some (.c x)) (he : CVEq x y) :
    Sat o h ⟨A.n, A.sl, (i, .box T (setN cs q (.c y)) bk) :: A.rs⟩ tm w := by
  refine ⟨hs.size, hs.tags, hs.slot, fun j r hl => ?_⟩
  rw [lk_cons] at hl
  split at hl
  · rename_i e; subst e; cases hl
    obtain ⟨b, vs, h0, h1, h2, h3, h4, h5⟩ := hs.res i _ hi
    rw [nth_eq] at hq
    have hlt : q < cs.length := (List.getElem?_eq_some_iff.1 hq).1
    refine ⟨b, vs, h0, h1, h2, h3, by rw [setN_eq]; simpa using h4, fun p z hp => ?_⟩
    rw [setN_eq, List.getElem?_set] at hp
    split at hp
    · rename_i e; subst e
      simp only [hlt, if_true, Option.some.injEq] at hp
      subst hp
      obtain ⟨u, hu, hone, hx⟩ := h5 q _ hq
      exact ⟨u, hu, hone, RepV.conv he hx⟩
    · exact h5 p z hp
  · exact hs.res j r hl
theorem KW.convB (i q : Nat) {T : Nat} {cs : List EV} {bk : Option Nat} {x : CV} (y : CV) (hi : lk A.rs i = some (.box T cs bk)) (hq : nth cs q = some (.c x)) (he : CVEq x y)
    (hk : KW P k e ⟨A.n, A.sl, (i, .box T (setN cs q (.c y)) bk) :: A.rs⟩ Q) : KW P k e A Q :=
  KW.weaken (fun o h tm w hs => ⟨o, h, hs.convB hi hq he, Ext.refl o w⟩) hk
/-- a tree in a slot: the kids in sight -/
theorem KW.open (s : Nat) (t : Tr) (hl : lk A.sl s = some (.e (trV t))) (hk : KW P k e ⟨A.n, (s, .e (.ag (trX t))) :: A.sl, A.rs⟩ Q) : KW P k e A Q :=
  KW.convG s (trX t) hl rfl (fun q x y hx hy => by
    match q, hx, hy with
    | 0, hx, hy => simp [trC, trX] at hx hy; subst hx; subst hy; exact CVEq.refl _
    | 1, hx, hy => simp [trC, trX] at hx hy; subst hx; subst hy; exact t.ks_x
    | 2, hx, hy => simp [trC, trX] at hx hy; subst hx; subst hy; exact CVEq.refl _
    | q + 3, hx, hy => simp [trC] at hx) hk
/-- a struct in a slot that is a tree -/
theorem KW.tree (s : Nat) (t : Tr) {x : CV} (hl : lk A.sl s = some (.e (.ag [.lit (.int .i64 t.v), x, .lit (.int .i64 t.r)]))) (hx : CVEq x t.ks) (hk : KW P k e ⟨A.n, (s, .e (trV t)) :: A.sl, A.rs⟩ Q) : KW P k e A Q :=
  KW.convG s (trC t) hl rfl (fun q y z hy hz => by
    match q, hy, hz with
    | 0, hy, hz => simp [trC] at hy hz; subst hy; subst hz; exact CVEq.refl _
    | 1, hy, hz => simp [trC] at hy hz; subst hy; subst hz; exact hx
    | 2, hy, hz => simp [trC] at hy hz; subst hy; subst hz; exact CVEq.refl _
    | q + 3, hy, hz => simp at hy) hk
end
end Go.Sy
