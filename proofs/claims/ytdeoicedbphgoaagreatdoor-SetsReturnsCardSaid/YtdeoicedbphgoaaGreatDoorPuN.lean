/-
  PuN, PuO, PuP, PuQ, one text.
-/
import Derived.Test.YtdeoicedbphgoaaGreatDoorPuA
import Derived.Test.YtdeoicedbphgoaaGreatDoorPuH
import Derived.Test.YtdeoicedbphgoaaGreatDoorSyX
set_option linter.unusedSectionVars false
set_option linter.unusedVariables false
set_option linter.unusedSimpArgs false
/-
  FORMULAS: the values that stand for them, their errors and values. No program is named here.
-/
namespace Go.Pu
open Go.Sy
variable [Drw]

structure NodeP where
  kind : Int
  k : Int
  args : List Int
structure FormP where
  vars : Int
  nodes : List NodeP
  top : Int
def node0 : NodeP := ⟨0, 0, []⟩
/-- a node's cells -/
def nodeC (x : NodeP) (q : Nat) : CV := match q with
  | 0 => .lit (.int .i64 x.kind)
  | 1 => .lit (.int .i64 x.k)
  | _ => ints x.args
def nodesC (ns : List NodeP) : CV := .sl ns.length 3 fun e q => nodeC (ns.getD e node0) q
def formC (f : FormP) : List CV := [.lit (.int .i64 f.vars), nodesC f.nodes, .lit (.int .i64 f.top)]
structure NodeIn (x : NodeP) : Prop where
  kind : inK .i64 x.kind
  k : inK .i64 x.k
  args : ∀ a ∈ x.args, inK .i64 a
structure FormIn (f : FormP) : Prop where
  vars : inK .i64 f.vars
  top : inK .i64 f.top
  nodes : ∀ x ∈ f.nodes, NodeIn x

/-! errors -/
def argsB (kind : Int) (n : Int) : Bool := if kind = 0 then decide (n = 0) else if kind = 1 then decide (n = 1) else decide (1 ≤ n) && decide (n ≤ 16)
def kE (x : NodeP) : Int :=
  if x.kind = 0 then if x.k ≠ 0 ∧ x.k ≠ 1 then 3 else 0
  else if x.kind = 4 then if x.k < 1 ∨ (x.args.length : Int) < x.k then 3 else 0
  else if x.k ≠ 0 then 2 else 0
def nodeE (vars : Int) (i : Nat) (x : NodeP) : Int :=
  if x.kind < 0 ∨ 5 < x.kind then 7
  else if argsB x.kind x.args.length = false then 11
  else if (x.args.any fun a => decide (a < 0) || decide (vars + i ≤ a)) = true then 10
  else kE x
def nodesE (vars : Int) : Nat → List NodeP → Int
  | _, [] => 0
  | i, x :: r => if nodeE vars i x = 0 then nodesE vars (i + 1) r else nodeE vars i x
def argB (f : FormP) (a : Int) : Bool := decide (0 ≤ f.vars) && decide (0 ≤ a) && (decide (a < f.vars) || decide (a - f.vars < f.nodes.length))
def formE (f : FormP) : Int :=
  if f.vars < 0 ∨ 24 < f.vars then 3
  else if 128 < f.nodes.length then 4
  else if nodesE f.vars 0 f.nodes = 0 then if argB f f.top = true then 0 else 10
  else nodesE f.vars 0 f.nodes
def stateE (f : FormP) (s : Int) : Int := if formE f = 0 then if s < 0 ∨ ishl 1 f.vars ≤ s then 3 else 0 else formE f

/-! values -/
def cntT (v : List Bool) (args : List Int) : Int := ((args.filter fun a => v.getD a.toNat false).length : Nat)
def nodeV (x : NodeP) (n : Int) : Bool :=
  if x.kind = 0 then decide (x.k = 1) else if x.kind = 1 then decide (n = 0) else if x.kind = 2 then decide (n = x.args.length)
  else if x.kind = 3 then decide (0 < n) else if x.kind = 4 then decide (x.k ≤ n) else if x.kind = 5 then decide (n % 2 = 1) else false
def valuesF (v : List Bool) : List NodeP → List Bool
  | [] => v
  | x :: r => valuesF (v ++ [nodeV x (cntT v x.args)]) r
def eventsV (s : Int) (n : Nat) : List Bool := (List.range n).map fun i => bit s i
def valsF (f : FormP) (s : Int) : List Bool := valuesF (eventsV s f.vars.toNat) f.nodes
def valueF (f : FormP) (s : Int) : Bool := (valsF f s).getD f.top.toNat false
theorem valuesF_length : ∀ (r : List NodeP) (v : List Bool), (valuesF v r).length = v.length + r.length
  | [], v => by simp [valuesF]
  | x :: r, v => by rw [valuesF, valuesF_length r]; simp; omega
theorem eventsV_length (s : Int) (n : Nat) : (eventsV s n).length = n := by simp [eventsV]
end Go.Pu
namespace Go.Sy
open Go.Pu
variable [Drw]
def unN : CV → List NodeP
  | .sl n _ f => (List.range n).map fun e => ⟨cvInt (f e 0), cvInt (f e 1), unI (f e 2)⟩
  | _ => []
def isN (x : CV) : Prop := CVEq x (nodesC (unN x))
@[simp] theorem unN_nodesC (ns : List NodeP) : unN (nodesC ns) = ns := by
  unfold unN nodesC
  refine List.ext_getElem (by simp) fun j h1 h2 => ?_
  simp only [List.getElem_map, List.getElem_range]
  have e : ns.getD j node0 = ns[j] := by simp [List.getD_eq_getElem?_getD, h2]
  rw [e]
  simp [nodeC, cvInt]
@[simp] theorem isN_nodesC (ns : List NodeP) : isN (nodesC ns) := by unfold isN; rw [unN_nodesC]; exact CVEq.refl _
/-- a function of a formula; of a formula and a number -/
def fF (g : FormP → SV) (p : FormP → Prop) : List EV → Option (SV × Prop)
  | [.ag [.lit (.int .i64 a), x, .lit (.int .i64 b)]] => some (g ⟨a, unN x, b⟩, isN x ∧ p ⟨a, unN x, b⟩)
  | _ => none
def fFI (g : FormP → Int → SV) (p : FormP → Int → Prop) : List EV → Option (SV × Prop)
  | [.ag [.lit (.int .i64 a), x, .lit (.int .i64 b)], .c (.lit (.int .i64 s))] => some (g ⟨a, unN x, b⟩ s, isN x ∧ p ⟨a, unN x, b⟩ s)
  | _ => none
theorem form_eq {a b : Int} {x : CV} (h : isN x) : EvEq (.ag [.lit (.int .i64 a), x, .lit (.int .i64 b)]) (.ag (formC ⟨a, unN x, b⟩)) :=
  ⟨rfl, fun q y z hy hz => by
    match q, hy, hz with
    | 0, hy, hz => simp [formC] at hy hz; subst hy; subst hz; exact CVEq.refl _
    | 1, hy, hz => simp [formC] at hy hz; subst hy; subst hz; exact h
    | 2, hy, hz => simp [formC] at hy hz; subst hy; subst hz; exact CVEq.refl _
    | q + 3, hy, hz => simp at hy⟩
section
variable {P : Program} {f : FuncId}
theorem fF_ok {g : FormP → SV} {p : FormP → Prop} (h : ∀ x, p x → DoesF P f [.ag (formC x)] [] (g x) []) : ∀ ys y φ, fF g p ys = some (y, φ) → φ → DoesF P f ys [] y [] := by
  intro ys y φ he hφ
  unfold fF at he
  split at he
  · simp only [Option.some.injEq, Prod.mk.injEq] at he
    obtain ⟨rfl, rfl⟩ := he
    refine DoesF.conv ?_ (h _ hφ.2)
    exact ⟨form_eq hφ.1, trivial⟩
  · cases he
theorem fFI_ok {g : FormP → Int → SV} {p : FormP → Int → Prop} (h : ∀ x s, p x s → DoesF P f [.ag (formC x), iV s] [] (g x s) []) : ∀ ys y φ, fFI g p ys = some (y, φ) → φ → DoesF P f ys [] y [] := by
  intro ys y φ he hφ
  unfold fFI at he
  split at he
  · simp only [Option.some.injEq, Prod.mk.injEq] at he
    obtain ⟨rfl, rfl⟩ := he
    refine DoesF.conv ?_ (h _ _ hφ.2)
    exact ⟨form_eq hφ.1, CVEq.refl _, trivial⟩
  · cases he
end
end Go.Sy

/-
  FORMULAS: what no error means, and the values of a valid formula. No program is named here.
-/
namespace Go.Pu
open Go.Sy
variable [Drw]

/-- a node that has no error, with this many arguments before it -/
structure NodeOk (m : Int) (x : NodeP) : Prop where
  kind : 0 ≤ x.kind ∧ x.kind ≤ 5
  cnt : argsB x.kind x.args.length = true
  args : ∀ a ∈ x.args, 0 ≤ a ∧ a < m
  k : kE x = 0
structure FormOk (f : FormP) : Prop where
  vars : 0 ≤ f.vars ∧ f.vars ≤ 24
  len : f.nodes.length ≤ 128
  nodes : ∀ (q : Nat) (h : q < f.nodes.length), NodeOk (f.vars + q) f.nodes[q]
  top : 0 ≤ f.top ∧ f.top < f.vars + f.nodes.length
theorem nodeE_ok {vars : Int} {i : Nat} {x : NodeP} (h : nodeE vars i x = 0) : NodeOk (vars + i) x := by
  unfold nodeE at h
  split at h
  · cases h
  · rename_i h1
    split at h
    · cases h
    · rename_i h2
      split at h
      · cases h
      · rename_i h3
        refine ⟨by omega, by simpa using h2, fun a ha => ?_, h⟩
        simp only [List.any_eq_true, Bool.or_eq_true, decide_eq_true_eq, not_exists, not_and, not_or] at h3
        have := h3 a ha
        omega
theorem nodesE_ok {vars : Int} : ∀ {ns : List NodeP} {i : Nat}, nodesE vars i ns = 0 → ∀ (q : Nat) (h : q < ns.length), NodeOk (vars + (i + q : Nat)) ns[q]
  | [], _, _, q, h => by simp at h
  | x :: r, i, h, q, hq => by
    unfold nodesE at h
    split at h
    · rename_i h1
      cases q with
      | zero => exact nodeE_ok h1
      | succ q =>
        have := nodesE_ok (i := i + 1) h q (by simpa using hq)
        have e : i + 1 + q = i + (q + 1) := by omega
        rw [e] at this
        simpa using this
    · rename_i h1; exact absurd h h1
theorem formE_ok {f : FormP} (h : formE f = 0) : FormOk f := by
  unfold formE at h
  split at h
  · cases h
  · rename_i h1
    split at h
    · cases h
    · rename_i h2
      split at h
      · rename_i h3
        split at h
        · rename_i h4
          refine ⟨by omega, by omega, fun q hq => by simpa using nodesE_ok h3 q hq, ?_⟩
          simp only [argB, Bool.and_eq_true, Bool.or_eq_true, decide_eq_true_eq] at h4
          omega
        · cases h
      · rename_i h3; exact absurd h h3
theorem stateE_ok {f : FormP} {s : Int} (h : stateE f s = 0) : formE f = 0 ∧ 0 ≤ s ∧ s < ishl 1 f.vars := by
  unfold stateE at h
  split at h
  · split at h
    · cases h
    · exact ⟨by assumption, by omega, by omega⟩
  · contradiction
theorem stateE_eq {f : FormP} {s : Int} (h : formE f = 0) (h' : 0 ≤ s ∧ s < ishl 1 f.vars) : stateE f s = 0 := by
  rw [stateE, if_pos h, if_neg (by omega)]

/-! the values -/
theorem valuesF_app : ∀ (r r' : List NodeP) (v : List Bool), valuesF v (r ++ r') = valuesF (valuesF v r) r'
  | [], r', v => rfl
  | x :: r, r', v => by simp only [List.cons_append, valuesF]; exact valuesF_app r r' _
theorem valuesF_one (r : List NodeP) (x : NodeP) (v : List Bool) : valuesF v (r ++ [x]) = valuesF v r ++ [nodeV x (cntT (valuesF v r) x.args)] := by
  rw [valuesF_app]; rfl
theorem valuesF_pre : ∀ (r : List NodeP) (v : List Bool), ∃ w, valuesF v r = v ++ w
  | [], v => ⟨[], by simp [valuesF]⟩
  | x :: r, v => by
    obtain ⟨w, hw⟩ := valuesF_pre r (v ++ [nodeV x (cntT v x.args)])
    exact ⟨_, by rw [valuesF, hw, List.append_assoc]⟩
theorem valuesF_get (r : List NodeP) (v : List Bool) {i : Nat} (h : i < v.length) : (valuesF v r).getD i false = v.getD i false := by
  obtain ⟨w, hw⟩ := valuesF_pre r v
  rw [hw, List.getD_eq_getElem?_getD, List.getElem?_append_left h, ← List.getD_eq_getElem?_getD]
theorem cntT_congr {v w : List Bool} {args : List Int} (h : ∀ a ∈ args, v.getD a.toNat false = w.getD a.toNat false) : cntT v args = cntT w args := by
  unfold cntT
  congr 2
  exact List.filter_congr h
/-- the first nodes' values -/
def valsN (f : FormP) (s : Int) (q : Nat) : List Bool := valuesF (eventsV s f.vars.toNat) (f.nodes.take q)
theorem valsN_zero (f : FormP) (s : Int) : valsN f s 0 = eventsV s f.vars.toNat := rfl
theorem valsN_all (f : FormP) (s : Int) {q : Nat} (h : f.nodes.length ≤ q) : valsN f s q = valsF f s := by rw [valsN, List.take_of_length_le h]; rfl
theorem valsN_length (f : FormP) (s : Int) {q : Nat} (h : q ≤ f.nodes.length) : (valsN f s q).length = f.vars.toNat + q := by
  rw [valsN, valuesF_length, eventsV_length, List.length_take]; omega
theorem valsN_succ (f : FormP) (s : Int) {q : Nat} (h : q < f.nodes.length) : valsN f s (q + 1) = valsN f s q ++ [nodeV f.nodes[q] (cntT (valsN f s q) f.nodes[q].args)] := by
  rw [valsN, List.take_succ_eq_append_getElem h, valuesF_one]; rfl
theorem valsN_pre (f : FormP) (s : Int) {q : Nat} (h : q ≤ f.nodes.length) {i : Nat} (hi : i < f.vars.toNat + q) : (valsN f s q).getD i false = (valsF f s).getD i false := by
  have e : valsF f s = valuesF (valsN f s q) (f.nodes.drop q) := by
    rw [valsN, ← valuesF_app, List.take_append_drop]; rfl
  rw [e, valuesF_get _ _ (by rw [valsN_length f s h]; exact hi)]
theorem valsF_length (f : FormP) (s : Int) : (valsF f s).length = f.vars.toNat + f.nodes.length := by
  rw [← valsN_all f s (Nat.le_refl _), valsN_length f s (Nat.le_refl _)]
theorem valsF_event (f : FormP) (s : Int) {i : Nat} (hi : i < f.vars.toNat) : (valsF f s).getD i false = bit s i := by
  rw [← valsN_pre f s (Nat.zero_le _) (by omega), valsN_zero, eventsV, List.getD_eq_getElem?_getD]
  simp [hi]
theorem valsF_node {f : FormP} (hf : FormOk f) (s : Int) {q : Nat} (hq : q < f.nodes.length) : (valsF f s).getD (f.vars.toNat + q) false = nodeV f.nodes[q] (cntT (valsF f s) f.nodes[q].args) := by
  rw [← valsN_pre f s (q := q + 1) (by omega) (by omega), valsN_succ f s hq, List.getD_eq_getElem?_getD, List.getElem?_append_right (by rw [valsN_length f s (by omega)]; omega), valsN_length f s (by omega)]
  simp only [Nat.sub_self, List.getElem?_cons_zero, Option.getD_some]
  congr 1
  refine cntT_congr fun a ha => valsN_pre f s (by omega) ?_
  have h1 := (hf.nodes q hq).args a ha
  have h2 := hf.vars
  omega
theorem cntT_take (v : List Bool) (l : List Int) {j : Nat} (h : j < l.length) : cntT v (l.take (j + 1)) = cntT v (l.take j) + if v.getD l[j].toNat false = true then 1 else 0 := by
  unfold cntT
  rw [List.take_succ_eq_append_getElem h, List.filter_append, List.length_append]
  cases hb : v.getD l[j].toNat false <;> simp [List.filter_cons, List.filter_nil, hb, -List.getD_eq_getElem?_getD]
theorem cntT_rng (v : List Bool) (l : List Int) : 0 ≤ cntT v l ∧ cntT v l ≤ l.length := by
  unfold cntT
  have := List.length_filter_le (fun a => v.getD a.toNat false) l
  omega
theorem argsB_le {k : Int} {n : Nat} (h : argsB k n = true) : n ≤ 16 := by
  unfold argsB at h
  split at h
  · simp at h; omega
  · split at h
    · simp at h; omega
    · simp at h; omega
end Go.Pu

/-
  CUBES, TABLES OF A FORMULA, MARKS: what the functions of layer 56 compute. No program is named here.
-/
namespace Go.Pu
open Go.Sy Go.Sort Go.Lib Go.Proofs
variable [Drw]

/-! numbers of n bits -/
def inN (n : Nat) (x : Int) : Prop := validS x = true ∧ ∀ i, n ≤ i → bit x i = false
theorem inN_iff {n : Nat} (hn : n ≤ 24) {x : Int} : inN n x ↔ 0 ≤ x ∧ x < ((2 ^ n : Nat) : Int) := by
  have hp : 2 ^ n ≤ 2 ^ 24 := Nat.pow_le_pow_right (by decide) hn
  constructor
  · rintro ⟨h1, h2⟩
    have h3 := validS_iff.1 h1
    obtain ⟨m, rfl⟩ := Int.eq_ofNat_of_zero_le h3.1
    refine ⟨h3.1, ?_⟩
    have : m < 2 ^ n := Nat.lt_pow_two_of_testBit m fun i hi => by
      rw [← bit_nat (by omega) i]; exact h2 i hi
    omega
  · rintro ⟨h1, h2⟩
    obtain ⟨m, rfl⟩ := Int.eq_ofNat_of_zero_le h1
    have hm : m < 2 ^ n := by omega
    have h3 : m < 16777216 := by
      have : (2 : Nat) ^ 24 = 16777216 := rfl
      omega
    refine ⟨validS_iff.2 ⟨h1, by omega⟩, fun i hi => ?_⟩
    rw [bit_nat (by omega) i]
    exact Nat.testBit_lt_two_pow (Nat.lt_of_lt_of_le hm (Nat.pow_le_pow_right (by decide) hi))
theorem inN.nat {n : Nat} (hn : n ≤ 24) {x : Int} (h : inN n x) : ∃ m : Nat, x = m ∧ m < 2 ^ n := by
  have := (inN_iff hn).1 h
  obtain ⟨m, rfl⟩ := Int.eq_ofNat_of_zero_le this.1
  exact ⟨m, rfl, by omega⟩
theorem inN_of {n : Nat} {x : Int} (hn : n ≤ 24) (hr : rng x) (h : ∀ i, n ≤ i → bit x i = false) : inN n x := ⟨validS_of hr fun i hi => h i (by omega), h⟩
theorem inN.ext {n : Nat} {x y : Int} (hx : inN n x) (hy : inN n y) (h : ∀ i, i < n → bit x i = bit y i) : x = y :=
  valid_ext hx.1 hy.1 fun i _ => by
    by_cases hi : i < n
    · exact h i hi
    · rw [hx.2 i (by omega), hy.2 i (by omega)]
def allN (n : Nat) : Int := ((2 ^ n - 1 : Nat) : Int)
theorem bit_allN {n : Nat} (hn : n ≤ 24) (i : Nat) : bit (allN n) i = decide (i < n) := by
  have hp : 2 ^ n ≤ 2 ^ 24 := Nat.pow_le_pow_right (by decide) hn
  have h24 : (2 : Nat) ^ 24 = 16777216 := rfl
  rw [allN, bit_nat (by omega), Nat.testBit_two_pow_sub_one]
theorem inN_allN {n : Nat} (hn : n ≤ 24) : inN n (allN n) := (inN_iff hn).2 ⟨by unfold allN; omega, by unfold allN; have := Nat.two_pow_pos n; omega⟩
theorem ishl_one (n : Nat) : ishl 1 (n : Int) = ((2 ^ n : Nat) : Int) := one_eq n
theorem inN_iand {n : Nat} (hn : n ≤ 24) {x y : Int} (h : inN n x) : inN n (iand .i64 x y) := inN_of hn (by simp) fun i hi => by simp [h.2 i hi]
theorem inN_iandNot {n : Nat} (hn : n ≤ 24) {x y : Int} (h : inN n x) : inN n (iandNot .i64 x y) := inN_of hn (by simp) fun i hi => by simp [h.2 i hi]
theorem inN_ior {n : Nat} (hn : n ≤ 24) {x y : Int} (h : inN n x) (h' : inN n y) : inN n (ior .i64 x y) := inN_of hn (by simp) fun i hi => by simp [h.2 i hi, h'.2 i hi]
@[simp] theorem rng_ixor (a b : Int) : rng (ixor .i64 a b) := by rw [ixor_eq]; exact toInt_rng _
theorem inN_ixor {n : Nat} (hn : n ≤ 24) {x y : Int} (h : inN n x) (h' : inN n y) : inN n (ixor .i64 x y) := inN_of hn (by simp) fun i hi => by simp [h.2 i hi, h'.2 i hi]
theorem iand_zero' {x y : Int} : iand .i64 x y = 0 ↔ ∀ i, i < 64 → (bit x i && bit y i) = false := by
  rw [eq_zero_iff (by simp)]
  simp
theorem sub_next : ∀ (k : Nat) (t s f : Nat), f < 2 ^ k → t &&& f = t → s &&& f = s → t < s → t ≤ (s - 1) &&& f
  | 0, t, s, f, hf, ht, hs, hlt => by
    have : f = 0 := by omega
    subst this; simp at hs; omega
  | k + 1, t, s, f, hf, ht, hs, hlt => by
    have ht2 : t / 2 &&& f / 2 = t / 2 := by rw [← Nat.and_div_two, ht]
    have hs2 : s / 2 &&& f / 2 = s / 2 := by rw [← Nat.and_div_two, hs]
    have hf2 : f / 2 < 2 ^ k := by rw [Nat.pow_succ] at hf; omega
    have e : ((s - 1) &&& f) = 2 * (((s - 1) / 2) &&& (f / 2)) + ((s - 1) % 2) * (f % 2) := by
      have h1 := Nat.div_add_mod ((s - 1) &&& f) 2
      rw [Nat.and_div_two] at h1
      have h2 : ((s - 1) &&& f) % 2 = ((s - 1) % 2) * (f % 2) := by
        have := Nat.and_mod_two_pow (a := s - 1) (b := f) (n := 1)
        rw [Nat.pow_one] at this
        rw [this]
        rcases Nat.mod_two_eq_zero_or_one (s - 1) with h | h <;> rcases Nat.mod_two_eq_zero_or_one f with h' | h' <;> rw [h, h'] <;> rfl
      omega
    have htm : t % 2 ≤ f % 2 := by
      have := Nat.and_mod_two_pow (a := t) (b := f) (n := 1)
      rw [Nat.pow_one, ht] at this
      have h3 : t % 2 &&& f % 2 ≤ f % 2 := Nat.and_le_right
      omega
    rw [e]
    by_cases hodd : s % 2 = 1
    · have e1 : (s - 1) / 2 = s / 2 := by omega
      have e2 : (s - 1) % 2 = 0 := by omega
      rw [e1, e2, hs2]; omega
    · have e1 : (s - 1) / 2 = s / 2 - 1 := by omega
      have e2 : (s - 1) % 2 = 1 := by omega
      have := sub_next k (t / 2) (s / 2) (f / 2) hf2 ht2 hs2 (by omega)
      rw [e1, e2]; omega
/-- the next smaller part of a set -/
theorem part_next {n : Nat} (hn : n ≤ 24) {s t f : Int} (hs : inN n s) (ht : inN n t) (hf : inN n f) (ps : Part s f) (pt : Part t f) (hlt : t < s) :
    t ≤ iand .i64 (s - 1) f ∧ iand .i64 (s - 1) f < s ∧ inN n (iand .i64 (s - 1) f) ∧ Part (iand .i64 (s - 1) f) f := by
  have hp : 2 ^ n ≤ 2 ^ 24 := Nat.pow_le_pow_right (by decide) hn
  have h24 : (2 : Nat) ^ 24 = 16777216 := rfl
  have e1 := (iand_part hs.1).2 ps
  have e2 := (iand_part ht.1).2 pt
  obtain ⟨s, rfl, hs'⟩ := hs.nat hn
  obtain ⟨t, rfl, ht'⟩ := ht.nat hn
  obtain ⟨f, rfl, hf'⟩ := hf.nat hn
  rw [iand_nat s f (by omega) (by omega)] at e1
  rw [iand_nat t f (by omega) (by omega)] at e2
  have h1 : (s : Int) - 1 = ((s - 1 : Nat) : Int) := by omega
  rw [h1, iand_nat (s - 1) f (by omega) (by omega)]
  have h2 := sub_next n t s f hf' (by omega) (by omega) (by omega)
  have h3 : (s - 1) &&& f ≤ s - 1 := Nat.and_le_left
  have h4 : (s - 1) &&& f ≤ f := Nat.and_le_right
  refine ⟨by omega, by omega, (inN_iff hn).2 ⟨by omega, by omega⟩, fun i hi => ?_⟩
  rw [bit_nat (by omega)] at hi ⊢
  rw [Nat.testBit_and, Bool.and_eq_true] at hi
  exact hi.2

/-! tables -/
/-- all states that are as one state in a set of events have its value -/
def sameV (vs : List Bool) (n : Nat) (state set : Int) : Bool := (List.range (2 ^ n)).all fun x => !(decide (iand .i64 (ixor .i64 (x : Int) state) set = 0)) || (vs.getD x false == vs.getD state.toNat false)
theorem sameV_iff {vs : List Bool} {n : Nat} {state set : Int} : sameV vs n state set = true ↔ ∀ x : Nat, x < 2 ^ n → iand .i64 (ixor .i64 (x : Int) state) set = 0 → vs.getD x false = vs.getD state.toNat false := by
  simp only [sameV, List.all_eq_true, List.mem_range, Bool.or_eq_true, Bool.not_eq_true', decide_eq_false_iff_not, beq_iff_eq]
  constructor
  · intro h x hx h1
    rcases h x hx with h2 | h2
    · exact absurd h1 h2
    · exact h2
  · intro h x hx
    by_cases h1 : iand .i64 (ixor .i64 (x : Int) state) set = 0
    · exact .inr (h x hx h1)
    · exact .inl h1
def tabF (f : FormP) (n : Nat) : List Bool := (List.range (2 ^ n)).map fun x : Nat => valueF f x
theorem tabF_length (f : FormP) (n : Nat) : (tabF f n).length = 2 ^ n := by simp [tabF]
theorem tabF_get (f : FormP) {n : Nat} {x : Nat} (hx : x < 2 ^ n) : (tabF f n).getD x false = valueF f x := by
  rw [List.getD_eq_getElem?_getD]; simp [tabF, hx]
def okV (f : FormP) (n : Nat) (state set : Int) : Bool := sameV (tabF f n) n state set
def agreeL (f : FormP) (n : Nat) (state : Int) : List Bool := (List.range (2 ^ n)).map fun x : Nat => okV f n state x
theorem agreeL_length (f : FormP) (n : Nat) (state : Int) : (agreeL f n state).length = 2 ^ n := by simp [agreeL]
theorem agreeL_get (f : FormP) {n : Nat} (state : Int) {x : Nat} (hx : x < 2 ^ n) : (agreeL f n state).getD x false = okV f n state x := by
  rw [List.getD_eq_getElem?_getD]; simp [agreeL, hx]
/-- the states like one in a set, by what is free -/
theorem like_state {n : Nat} (hn : n ≤ 24) {state set t : Int} (h1 : inN n state) (h2 : inN n set) (h3 : inN n t) (hp : Part t (iandNot .i64 (allN n) set)) :
    inN n (ior .i64 (iand .i64 state set) t) ∧ iand .i64 (ixor .i64 (ior .i64 (iand .i64 state set) t) state) set = 0 := by
  refine ⟨inN_ior hn (inN_iand hn h1) h3, ?_⟩
  rw [iand_zero']
  intro i hi
  simp only [bit_ixor, bit_ior, bit_iand]
  cases hb : bit set i with
  | false => simp
  | true =>
    have : bit t i = false := by
      cases ht : bit t i with
      | false => rfl
      | true => have := hp i ht; simp [hb] at this
    simp [this]
theorem like_free {n : Nat} (hn : n ≤ 24) {state set x : Int} (h1 : inN n state) (h2 : inN n set) (h3 : inN n x) (h : iand .i64 (ixor .i64 x state) set = 0) :
    inN n (iandNot .i64 x set) ∧ Part (iandNot .i64 x set) (iandNot .i64 (allN n) set) ∧ ior .i64 (iand .i64 state set) (iandNot .i64 x set) = x := by
  refine ⟨inN_iandNot hn h3, fun i hi => ?_, ?_⟩
  · have hlt : i < n := by
      rcases Nat.lt_or_ge i n with h | h
      · exact h
      · rw [(inN_iandNot (y := set) hn h3).2 i h] at hi; cases hi
    simp only [bit_iandNot', Bool.and_eq_true, bit_allN hn, decide_eq_true_eq] at hi ⊢
    exact ⟨hlt, hi.2⟩
  · refine inN.ext (inN_ior hn (inN_iand hn h1) (inN_iandNot hn h3)) h3 fun i hi => ?_
    have := iand_zero'.1 h i (by omega)
    simp only [bit_ior, bit_iand, bit_iandNot', bit_ixor] at this ⊢
    cases ha : bit state i <;> cases hb : bit set i <;> cases hc : bit x i <;> simp_all

/-! reasons -/
def reasonN (ok : Int → Bool) (n : Nat) : Nat → Int
  | 0 => allN n
  | k + 1 => if ok (iandNot .i64 (reasonN ok n k) (one k)) = true then iandNot .i64 (reasonN ok n k) (one k) else reasonN ok n k
theorem reasonN_in {ok : Int → Bool} {n : Nat} (hn : n ≤ 24) : ∀ k, inN n (reasonN ok n k)
  | 0 => inN_allN hn
  | k + 1 => by
    unfold reasonN
    split
    · exact inN_iandNot hn (reasonN_in hn k)
    · exact reasonN_in hn k
/-- so far a set is enough, and none of its parts without one of the first events -/
def minK (ok : Int → Bool) (set : Int) (k : Nat) : Bool := ok set && (List.range k).all fun i => !bit set i || !ok (iandNot .i64 set (one i))
theorem minK_succ (ok : Int → Bool) (set : Int) (k : Nat) : minK ok set (k + 1) = (minK ok set k && (!bit set k || !ok (iandNot .i64 set (one k)))) := by
  simp [minK, List.range_succ, Bool.and_assoc]

/-! cubes -/
def cubeC (c : Int × Int) (q : Nat) : CV := match q with
  | 0 => .lit (.int .i64 c.1)
  | _ => .lit (.int .i64 c.2)
def cubes (l : List (Int × Int)) : CV := rows 2 cubeC (0, 0) l
def cubeL (c : Int × Int) : List CV := [.lit (.int .i64 c.1), .lit (.int .i64 c.2)]
def cubeV (state set : Int) : Int × Int := (iand .i64 state set, iandNot .i64 set state)
def reasonsN (ok : Int → Bool) (n : Nat) (state : Int) (m : Nat) : List (Int × Int) := ((List.range m).filter fun x : Nat => minK ok (x : Int) n).map fun x : Nat => cubeV state x
theorem reasonsN_succ (ok : Int → Bool) (n : Nat) (state : Int) (m : Nat) : reasonsN ok n state (m + 1) = reasonsN ok n state m ++ if minK ok (m : Int) n = true then [cubeV state m] else [] := by
  simp only [reasonsN, List.range_succ, List.filter_append, List.map_append]
  congr 1
  cases h : minK ok (m : Int) n <;> simp [h]
theorem reasonsN_length (ok : Int → Bool) (n : Nat) (state : Int) (m : Nat) : (reasonsN ok n state m).length ≤ m := by
  have := List.length_filter_le (fun x : Nat => minK ok (x : Int) n) (List.range m)
  simp only [reasonsN, List.length_map]; simpa using this
/-- the order of cubes -/
def ordC (a b : Int × Int) : Int :=
  if cmpI (popc (ior .i64 a.1 a.2)) (popc (ior .i64 b.1 b.2)) ≠ 0 then cmpI (popc (ior .i64 a.1 a.2)) (popc (ior .i64 b.1 b.2))
  else if cmpI a.1 b.1 ≠ 0 then cmpI a.1 b.1 else cmpI a.2 b.2
theorem cmpI_neg {a b : Int} : cmpI a b < 0 ↔ a < b := by unfold cmpI; split <;> (try split) <;> omega
theorem cmpI_zero {a b : Int} : cmpI a b = 0 ↔ a = b := by unfold cmpI; split <;> (try split) <;> omega
theorem ordC_neg (a b : Int × Int) : ordC a b < 0 ↔ popc (ior .i64 a.1 a.2) < popc (ior .i64 b.1 b.2) ∨ (popc (ior .i64 a.1 a.2) = popc (ior .i64 b.1 b.2) ∧ (a.1 < b.1 ∨ (a.1 = b.1 ∧ a.2 < b.2))) := by
  unfold ordC
  split
  · rename_i h; rw [cmpI_neg]; rw [Ne, cmpI_zero] at h; omega
  · rename_i h
    rw [Ne, cmpI_zero, Decidable.not_not] at h
    split
    · rename_i h2; rw [cmpI_neg]; rw [Ne, cmpI_zero] at h2; omega
    · rename_i h2; rw [cmpI_neg]; rw [Ne, cmpI_zero, Decidable.not_not] at h2; omega
theorem ordC_zero (a b : Int × Int) : ordC a b = 0 ↔ popc (ior .i64 a.1 a.2) = popc (ior .i64 b.1 b.2) ∧ a = b := by
  unfold ordC
  split
  · rename_i h; rw [Ne, cmpI_zero] at h
    constructor
    · intro h2; rw [cmpI_zero] at h2; exact absurd h2 h
    · rintro ⟨h2, _⟩; exact absurd h2 h
  · rename_i h
    rw [Ne, cmpI_zero, Decidable.not_not] at h
    split
    · rename_i h2
      rw [Ne, cmpI_zero] at h2
      constructor
      · intro h3; rw [cmpI_zero] at h3; exact absurd h3 h2
      · rintro ⟨_, rfl⟩; exact absurd rfl h2
    · rename_i h2
      rw [Ne, cmpI_zero, Decidable.not_not] at h2
      rw [cmpI_zero]
      constructor
      · intro h3; exact ⟨h, Prod.ext h2 h3⟩
      · rintro ⟨_, rfl⟩; rfl
theorem ordC_swo : Go.Sort.SWO (ltOf ordC) where
  irrefl x := by simp [ltOf, ordC_neg]
  trans x y z := by simp only [ltOf, decide_eq_true_eq, ordC_neg]; omega
  ntrans x y z := by simp only [ltOf, decide_eq_false_iff_not, ordC_neg]; omega
theorem ordC_total (a b : Int × Int) : ordC a b = 0 ∨ ordC a b < 0 ∨ ordC b a < 0 := by
  rw [ordC_zero, ordC_neg, ordC_neg]
  by_cases h : a = b
  · subst h; exact .inl ⟨rfl, rfl⟩
  · right
    have : ¬ (a.1 = b.1 ∧ a.2 = b.2) := fun hh => h (Prod.ext hh.1 hh.2)
    omega
def AscC (l : List (Int × Int)) : Prop := l.Pairwise fun a b => ordC a b < 0
theorem AscC.unique {l l' : List (Int × Int)} (h : AscC l) (h' : AscC l') (hm : ∀ x, x ∈ l ↔ x ∈ l') : l = l' := by
  induction l generalizing l' with
  | nil =>
    cases l' with
    | nil => rfl
    | cons y l' => exact absurd ((hm y).2 (.head _)) (by simp)
  | cons x l ih =>
    cases l' with
    | nil => exact absurd ((hm x).1 (.head _)) (by simp)
    | cons y l' =>
      have h1 := List.pairwise_cons.1 h
      have h2 := List.pairwise_cons.1 h'
      have irr : ∀ z, ¬ ordC z z < 0 := fun z => by simp [ordC_neg]
      have asy : ∀ a b, ordC a b < 0 → ¬ ordC b a < 0 := fun a b => by simp only [ordC_neg]; omega
      have exy : x = y := by
        rcases List.mem_cons.1 ((hm x).1 (.head _)) with e | e
        · exact e
        · rcases List.mem_cons.1 ((hm y).2 (.head _)) with e' | e'
          · exact e'.symm
          · exact absurd (h1.1 y e') (asy _ _ (h2.1 x e))
      subst exy
      rw [ih h1.2 h2.2 fun z => ?_]
      constructor
      · intro hz
        rcases List.mem_cons.1 ((hm z).1 (.tail _ hz)) with e | e
        · subst e; exact absurd (h1.1 z hz) (irr z)
        · exact e
      · intro hz
        rcases List.mem_cons.1 ((hm z).2 (.tail _ hz)) with e | e
        · subst e; exact absurd (h2.1 z hz) (irr z)
        · exact e
def sortC (l : List (Int × Int)) : List (Int × Int) := l.mergeSort fun x y => !decide (ordC y x < 0)
theorem sortC_length (l : List (Int × Int)) : (sortC l).length = l.length := by simp [sortC]
theorem sortC_mem (l : List (Int × Int)) (x : Int × Int) : x ∈ sortC l ↔ x ∈ l := by simp [sortC, List.mem_mergeSort]
theorem sortC_asc {l : List (Int × Int)} (hd : l.Nodup) : AscC (sortC l) := by
  have h1 : (sortC l).Pairwise fun a b => (!decide (ordC b a < 0)) = true := List.pairwise_mergeSort (fun a b c h1 h2 => by
    simp only [Bool.not_eq_true', decide_eq_false_iff_not, ordC_neg] at *; omega) (fun a b => by
    simp only [Bool.or_eq_true, Bool.not_eq_true', decide_eq_false_iff_not, ordC_neg]; omega) l
  have h2 : (sortC l).Nodup := (List.mergeSort_perm l _).nodup_iff.2 hd
  refine (h1.and h2).imp fun {a b} hh => ?_
  have h3 : ¬ ordC b a < 0 := by simpa using hh.1
  rcases ordC_total a b with e | e | e
  · exact absurd ((ordC_zero a b).1 e).2 hh.2
  · exact e
  · exact absurd e h3
/-- insertion, each once -/
def insC (c : Int × Int) : List (Int × Int) → List (Int × Int)
  | [] => [c]
  | d :: r => if ordC d c < 0 then d :: insC c r else if d = c then d :: r else c :: d :: r
def sortR (l : List (Int × Int)) : List (Int × Int) := l.foldl (fun out c => insC c out) []
theorem insC_spec (c : Int × Int) : ∀ {l : List (Int × Int)}, AscC l → AscC (insC c l) ∧ ∀ x, x ∈ insC c l ↔ x = c ∨ x ∈ l
  | [], _ => by simp [insC, AscC]
  | d :: r, h => by
    have h1 := List.pairwise_cons.1 h
    unfold insC
    split
    · rename_i hd
      obtain ⟨h2, h3⟩ := insC_spec c h1.2
      refine ⟨List.pairwise_cons.2 ⟨fun x hx => ?_, h2⟩, fun x => ?_⟩
      · rcases (h3 x).1 hx with rfl | hx
        · exact hd
        · exact h1.1 x hx
      · simp only [List.mem_cons, h3 x]
        constructor
        · rintro (rfl | rfl | h)
          · exact .inr (.inl rfl)
          · exact .inl rfl
          · exact .inr (.inr h)
        · rintro (rfl | rfl | h)
          · exact .inr (.inl rfl)
          · exact .inl rfl
          · exact .inr (.inr h)
    · rename_i hd
      split
      · rename_i he
        subst he
        refine ⟨h, fun x => ?_⟩
        simp
      · rename_i he
        have hlt : ordC c d < 0 := by
          rcases ordC_total d c with e | e | e
          · exact absurd ((ordC_zero d c).1 e).2 he
          · exact absurd e hd
          · exact e
        refine ⟨List.pairwise_cons.2 ⟨fun x hx => ?_, h⟩, fun x => by simp⟩
        rcases List.mem_cons.1 hx with rfl | hx
        · exact hlt
        · have h5 := h1.1 x hx
          simp only [ordC_neg] at hlt h5 ⊢
          omega
theorem insF_spec : ∀ (l : List (Int × Int)) {out : List (Int × Int)}, AscC out → AscC (l.foldl (fun out c => insC c out) out) ∧ ∀ x, x ∈ l.foldl (fun out c => insC c out) out ↔ x ∈ out ∨ x ∈ l
  | [], out, h => by simpa using h
  | c :: r, out, h => by
    obtain ⟨h1, h2⟩ := insC_spec c h
    obtain ⟨h3, h4⟩ := insF_spec r h1
    refine ⟨h3, fun x => ?_⟩
    simp only [List.foldl_cons, h4, h2, List.mem_cons]
    constructor
    · rintro ((h | h) | h)
      · exact .inr (.inl h)
      · exact .inl h
      · exact .inr (.inr h)
    · rintro (h | h | h)
      · exact .inl (.inr h)
      · exact .inl (.inl h)
      · exact .inr h
theorem sort_eq {l : List (Int × Int)} (hd : l.Nodup) : sortC l = sortR l := by
  obtain ⟨h1, h2⟩ := insF_spec l (out := []) (by simp [AscC])
  exact AscC.unique (sortC_asc hd) h1 fun x => by rw [sortC_mem, sortR, h2]; simp
theorem insC_length (c : Int × Int) : ∀ l : List (Int × Int), (insC c l).length ≤ l.length + 1
  | [] => by simp [insC]
  | d :: r => by
    unfold insC
    split
    · have := insC_length c r; simp; omega
    · split <;> simp
/-- a cube of a state in a set: its two sets are apart -/
structure CubeOk (c : Int × Int) : Prop where
  yes : validS c.1 = true
  no : validS c.2 = true
  apart : iand .i64 c.1 c.2 = 0
theorem cubeV_ok {n : Nat} (hn : n ≤ 24) {state set : Int} (h1 : inN n state) (h2 : inN n set) : CubeOk (cubeV state set) := by
  refine ⟨(inN_iand hn h1).1, (inN_iandNot hn h2).1, ?_⟩
  rw [iand_zero']
  intro i hi
  simp only [cubeV, bit_iand, bit_iandNot']
  cases bit state i <;> simp
theorem cubeV_set {n : Nat} (hn : n ≤ 24) {state set : Int} (h1 : inN n state) (h2 : inN n set) : ior .i64 (cubeV state set).1 (cubeV state set).2 = set :=
  inN.ext (inN_ior hn (inN_iand hn h1) (inN_iandNot hn h2)) h2 fun i hi => by
    simp only [cubeV, bit_ior, bit_iand, bit_iandNot']
    cases bit state i <;> cases bit set i <;> rfl
theorem reasonsN_nodup {ok : Int → Bool} {n : Nat} (hn : n ≤ 24) {state : Int} (hs : inN n state) {m : Nat} (hm : m ≤ 2 ^ n) : (reasonsN ok n state m).Nodup := by
  have hi : ∀ x : Nat, x < m → inN n (x : Int) := fun x hx => (inN_iff hn).2 ⟨by omega, by omega⟩
  unfold reasonsN
  refine List.Pairwise.map _ (fun a b hab => hab) ?_
  have h0 : ((List.range m).filter fun x : Nat => minK ok (x : Int) n).Pairwise fun a b => a ≠ b := List.Pairwise.filter _ List.nodup_range
  refine h0.imp_of_mem fun {a b} ha hb hne he => hne ?_
  have h1 := cubeV_set hn hs (hi a (by simpa using (List.mem_filter.1 ha).1))
  have h2 := cubeV_set hn hs (hi b (by simpa using (List.mem_filter.1 hb).1))
  rw [he] at h1
  have := h1.symm.trans h2
  omega
end Go.Pu

/-
  MARKS: what lies below a node; which arguments carry a value; critical events. No program is named here.
-/
namespace Go.Pu
open Go.Sy
variable [Drw]

def markA (c : Int → Bool) (m : List Bool) (args : List Int) : List Bool := args.foldl (fun m a => m.set a.toNat (m.getD a.toNat false || c a)) m
def markN (n : Nat) (ns : List NodeP) (c : Nat → Int → Bool) : Nat → List Bool → List Bool
  | 0, m => m
  | i + 1, m => markN n ns c i (if m.getD (n + i) false = true then markA (c i) m (ns.getD i node0).args else m)
def mark0 (f : FormP) : List Bool := (List.replicate (f.vars.toNat + f.nodes.length) false).set f.top.toNat true
def marksF (f : FormP) (c : Nat → Int → Bool) : List Bool := markN f.vars.toNat f.nodes c f.nodes.length (mark0 f)
theorem markA_length (c : Int → Bool) : ∀ (args : List Int) (m : List Bool), (markA c m args).length = m.length
  | [], m => rfl
  | a :: r, m => by
    have := markA_length c r (m.set a.toNat (m.getD a.toNat false || c a))
    rw [List.length_set] at this
    exact this
theorem markA_cons (c : Int → Bool) (m : List Bool) (a : Int) (r : List Int) : markA c m (a :: r) = markA c (m.set a.toNat (m.getD a.toNat false || c a)) r := rfl
theorem mark0_length (f : FormP) : (mark0 f).length = f.vars.toNat + f.nodes.length := by simp [mark0]
theorem markN_length (n : Nat) (ns : List NodeP) (c : Nat → Int → Bool) : ∀ (i : Nat) (m : List Bool), (markN n ns c i m).length = m.length
  | 0, m => rfl
  | i + 1, m => by
    rw [markN, markN_length n ns c i]
    split
    · exact markA_length _ _ _
    · rfl
theorem marksF_length (f : FormP) (c : Nat → Int → Bool) : (marksF f c).length = f.vars.toNat + f.nodes.length := by rw [marksF, markN_length, mark0_length]

/-! the sets and lists that marks make -/
def evN (m : List Bool) (n : Nat) : Nat → Int
  | 0 => 0
  | i + 1 => if (m.getD i false && decide (i < n)) = true then ior .i64 (evN m n i) (one i) else evN m n i
def ndN (m : List Bool) (n : Nat) : Nat → List Int
  | 0 => []
  | i + 1 => if (m.getD i false && decide (i < n)) = true then ndN m n i else if m.getD i false = true then ndN m n i ++ [(i : Int) - n] else ndN m n i
theorem ndN_length (m : List Bool) (n : Nat) : ∀ k, (ndN m n k).length ≤ k
  | 0 => Nat.le_refl _
  | k + 1 => by
    have := ndN_length m n k
    unfold ndN
    split
    · omega
    · split
      · simp; omega
      · omega
def critN (f : FormP) (s : Int) : Nat → Int
  | 0 => 0
  | k + 1 => if valueF f (ixor .i64 s (one k)) ≠ valueF f s then ior .i64 (critN f s k) (one k) else critN f s k

/-! what carries -/
def carC (kind : Int) (nv av : Bool) : Bool := if kind = 2 ∨ kind = 4 ∨ kind = 3 then nv == av else true
def carR (kind : Int) (nv av : Bool) : Bool := if kind = 2 then nv || !av else if kind = 3 then !nv || av else if kind = 4 then nv == av else true
def carF (f : FormP) (s : Int) (i : Nat) (a : Int) : Bool := carC (f.nodes.getD i node0).kind ((valsF f s).getD (f.vars.toNat + i) false) ((valsF f s).getD a.toNat false)
theorem cntT_all {v : List Bool} {args : List Int} : cntT v args = args.length ↔ ∀ a ∈ args, v.getD a.toNat false = true := by
  unfold cntT
  rw [Int.natCast_inj]
  exact List.length_filter_eq_length_iff
theorem cntT_pos {v : List Bool} {args : List Int} : 0 < cntT v args ↔ ∃ a ∈ args, v.getD a.toNat false = true := by
  unfold cntT
  rw [Int.natCast_pos, List.length_pos_iff_exists_mem]
  simp only [List.mem_filter]
theorem car_eq {f : FormP} (hf : FormOk f) (s : Int) {i : Nat} (hi : i < f.nodes.length) {a : Int} (ha : a ∈ f.nodes[i].args) :
    carR f.nodes[i].kind ((valsF f s).getD (f.vars.toNat + i) false) ((valsF f s).getD a.toNat false) = carF f s i a := by
  have hx : f.nodes.getD i node0 = f.nodes[i] := by simp [List.getD_eq_getElem?_getD, hi]
  unfold carF
  rw [hx, valsF_node hf s hi]
  generalize f.nodes[i] = x at ha
  generalize valsF f s = v
  unfold carR carC nodeV
  by_cases h2 : x.kind = 2
  · simp only [h2]
    simp only [Int.reduceEq, if_true, if_false, true_or]
    by_cases hc : cntT v x.args = x.args.length
    · have := cntT_all.1 hc a ha
      rw [this]; simp [hc]
    · simp [hc]
  · by_cases h3 : x.kind = 3
    · simp only [h3]
      simp only [Int.reduceEq, if_true, if_false, or_true]
      by_cases hc : 0 < cntT v x.args
      · simp [hc]
      · have : v.getD a.toNat false = false := by
          cases hv : v.getD a.toNat false with
          | false => rfl
          | true => exact absurd (cntT_pos.2 ⟨a, ha, hv⟩) hc
        rw [this]; simp [hc]
    · by_cases h4 : x.kind = 4
      · simp [h2, h3, h4]
      · simp [h2, h3, h4]
end Go.Pu
