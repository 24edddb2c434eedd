/-
 PuN, FmA, FmH, PuR, PuT, FpA, FpD, FnD, Shelf, FnH, FnL, FnP, one text.
-/
import Derived.Test.YtgoilpfpmbjegaaGreatDoorKbc
import Derived.Shelf.Small.Bits
import Derived.Ground.SlgnProg
import Derived.Shelf.SlicesG.CompactI
import Derived.Ground.SlsfProg
import Derived.Shelf.SlSortCmp.NoneTotal
import Derived.Test.YtgoilpfpmbjegaaGreatDoorProg
set_option linter.unusedSectionVars false
set_option linter.unusedVariables false
set_option linter.unusedSimpArgs false
section
namespace Go.Pu
open Go.Sy
variable [Drw]
structure NodeP where
 kind : Int
 k : Int
 args : List Int
structure FormP where
 vars : Int
 nodes : List NodeP
 top : Int
def qX1 : NodeP := ⟨0, 0, []⟩
def nodeC (x : NodeP) (q : Nat) : CV := match q with
 | 0 => .lit (.int .i64 x.kind)
 | 1 => .lit (.int .i64 x.k)
 | _ => qZ5 x.args
def qJ9 (ns : List NodeP) : CV := .sl ns.length 3 fun e q => nodeC (ns.getD e qX1) q
def qX5 (f : FormP) : List CV := [.lit (.int .i64 f.vars), qJ9 f.nodes, .lit (.int .i64 f.top)]
structure NodeIn (x : NodeP) : Prop where
 kind : inK .i64 x.kind
 k : inK .i64 x.k
 args : ∀ a ∈ x.args, inK .i64 a
structure FormIn (f : FormP) : Prop where
 vars : inK .i64 f.vars
 top : inK .i64 f.top
 nodes : ∀ x ∈ f.nodes, NodeIn x
def qC8 (kind : Int) (n : Int) : Bool := if kind = 0 then decide (n = 0) else if kind = 1 then decide (n = 1) else decide (1 ≤ n) && decide (n ≤ 16)
def kE (x : NodeP) : Int :=
 if x.kind = 0 then if x.k ≠ 0 /\ x.k ≠ 1 then 3 else 0
 else if x.kind = 4 then if x.k < 1 ∨ (x.args.length : Int) < x.k then 3 else 0
 else if x.k ≠ 0 then 2 else 0
def qK2 (vars : Int) (i : Nat) (x : NodeP) : Int :=
 if x.kind < 0 ∨ 5 < x.kind then 7
 else if qC8 x.kind x.args.length = false then 11
 else if (x.args.any fun a => decide (a < 0) || decide (vars + i ≤ a)) = true then 10
 else kE x
def nodesE (vars : Int) : Nat -> List NodeP -> Int
 | _, [] => 0
 | i, x :: r => if qK2 vars i x = 0 then nodesE vars (i + 1) r else qK2 vars i x
def argB (f : FormP) (a : Int) : Bool := decide (0 ≤ f.vars) && decide (0 ≤ a) && (decide (a < f.vars) || decide (a - f.vars < f.nodes.length))
def qJ2 (f : FormP) : Int :=
 if f.vars < 0 ∨ 24 < f.vars then 3
 else if 128 < f.nodes.length then 4
 else if nodesE f.vars 0 f.nodes = 0 then if argB f f.top = true then 0 else 10
 else nodesE f.vars 0 f.nodes
def qB5 (f : FormP) (s : Int) : Int := if qJ2 f = 0 then if s < 0 ∨ qW0 1 f.vars ≤ s then 3 else 0 else qJ2 f
def cntT (v : List Bool) (args : List Int) : Int := ((args.filter fun a => v.getD a.toNat false).length : Nat)
def nodeV (x : NodeP) (n : Int) : Bool :=
 if x.kind = 0 then decide (x.k = 1) else if x.kind = 1 then decide (n = 0) else if x.kind = 2 then decide (n = x.args.length)
 else if x.kind = 3 then decide (0 < n) else if x.kind = 4 then decide (x.k ≤ n) else if x.kind = 5 then decide (n % 2 = 1) else false
def qD0 (v : List Bool) : List NodeP -> List Bool
 | [] => v
 | x :: r => qD0 (v ++ [nodeV x (cntT v x.args)]) r
def eventsV (s : Int) (n : Nat) : List Bool := (List.range n).map fun i => bit s i
def valsF (f : FormP) (s : Int) : List Bool := qD0 (eventsV s f.vars.toNat) f.nodes
def qJ5 (f : FormP) (s : Int) : Bool := (valsF f s).getD f.top.toNat false
theorem valuesF_length : ∀ (r : List NodeP) (v : List Bool), (qD0 v r).length = v.length + r.length
 | [], v => by simp [qD0]
 | x :: r, v => by rw [qD0, valuesF_length r]; simp; omega
theorem eventsV_length (s : Int) (n : Nat) : (eventsV s n).length = n := by simp [eventsV]
end Go.Pu
namespace Go.Sy
open Go.Pu
variable [Drw]
def unN : CV -> List NodeP
 | .sl n _ f => (List.range n).map fun e => ⟨cvInt (f e 0), cvInt (f e 1), unI (f e 2)⟩
 | _ => []
def isN (x : CV) : Prop := CVEq x (qJ9 (unN x))
@[simp] theorem qQ1 (ns : List NodeP) : unN (qJ9 ns) = ns := by
  unfold unN qJ9
  refine List.ext_getElem (by simp) fun j h1 h2 => ?_
  simp only [List.getElem_map, List.getElem_range]
  have e : ns.getD j qX1 = ns[j] := by simp [List.getD_eq_getElem?_getD, h2]
  rw [e]
  simp [nodeC, cvInt]
@[simp] theorem qQ5 (ns : List NodeP) : isN (qJ9 ns) := by unfold isN; rw [qQ1]; exact CVEq.refl _
def fF (g : FormP -> SV) (p : FormP -> Prop) : List EV -> Option (SV × Prop)
 | [.ag [.lit (.int .i64 a), x, .lit (.int .i64 b)]] => some (g ⟨a, unN x, b⟩, isN x /\ p ⟨a, unN x, b⟩)
 | _ => none
def fFI (g : FormP -> Int -> SV) (p : FormP -> Int -> Prop) : List EV -> Option (SV × Prop)
 | [.ag [.lit (.int .i64 a), x, .lit (.int .i64 b)], .c (.lit (.int .i64 s))] => some (g ⟨a, unN x, b⟩ s, isN x /\ p ⟨a, unN x, b⟩ s)
 | _ => none
theorem form_eq {a b : Int} {x : CV} (h : isN x) : EvEq (.ag [.lit (.int .i64 a), x, .lit (.int .i64 b)]) (.ag (qX5 ⟨a, unN x, b⟩)) :=
 ⟨rfl, fun q y z hy hz => by
  match q, hy, hz with
  | 0, hy, hz => simp [qX5] at hy hz; subst hy; subst hz; exact CVEq.refl _
  | 1, hy, hz => simp [qX5] at hy hz; subst hy; subst hz; exact h
  | 2, hy, hz => simp [qX5] at hy hz; subst hy; subst hz; exact CVEq.refl _
  | q + 3, hy, hz => simp at hy⟩
section
variable {P : Program} {f : FuncId}
theorem fF_ok {g : FormP -> SV} {p : FormP -> Prop} (h : ∀ x, p x -> DoesF P f [.ag (qX5 x)] [] (g x) []) : ∀ ys y φ, fF g p ys = some (y, φ) -> φ -> DoesF P f ys [] y [] := by
 intro ys y φ he hφ
 unfold fF at he
 split at he
 ·simp only [Option.some.injEq, Prod.mk.injEq] at he
  obtain ⟨rfl, rfl⟩ := he
  refine DoesF.conv ?_ (h _ hφ.2)
  exact ⟨form_eq hφ.1, trivial⟩
 ·cases he
theorem fFI_ok {g : FormP -> Int -> SV} {p : FormP -> Int -> Prop} (h : ∀ x s, p x s -> DoesF P f [.ag (qX5 x), iV s] [] (g x s) []) : ∀ ys y φ, fFI g p ys = some (y, φ) -> φ -> DoesF P f ys [] y [] := by
 intro ys y φ he hφ
 unfold fFI at he
 split at he
 ·simp only [Option.some.injEq, Prod.mk.injEq] at he
  obtain ⟨rfl, rfl⟩ := he
  refine DoesF.conv ?_ (h _ _ hφ.2)
  exact ⟨form_eq hφ.1, CVEq.refl _, trivial⟩
 ·cases he
end
end Go.Sy
namespace Go.Pu
open Go.Sy
variable [Drw]
structure NodeOk (m : Int) (x : NodeP) : Prop where
 kind : 0 ≤ x.kind /\ x.kind ≤ 5
 cnt : qC8 x.kind x.args.length = true
 args : ∀ a ∈ x.args, 0 ≤ a /\ a < m
 k : kE x = 0
structure FormOk (f : FormP) : Prop where
 vars : 0 ≤ f.vars /\ f.vars ≤ 24
 len : f.nodes.length ≤ 128
 nodes : ∀ (q : Nat) (h : q < f.nodes.length), NodeOk (f.vars + q) f.nodes[q]
 top : 0 ≤ f.top /\ f.top < f.vars + f.nodes.length
theorem nodeE_ok {vars : Int} {i : Nat} {x : NodeP} (h : qK2 vars i x = 0) : NodeOk (vars + i) x := by
 unfold qK2 at h
 split at h
 ·cases h
 ·rename_i h1
  split at h
  ·cases h
  ·rename_i h2
   split at h
   ·cases h
   ·rename_i h3
    refine ⟨by omega, by simpa using h2, fun a ha => ?_, h⟩
    simp only [List.any_eq_true, Bool.or_eq_true, decide_eq_true_eq, not_exists, not_and, not_or] at h3
    have := h3 a ha
    omega
theorem nodesE_ok {vars : Int} : ∀ {ns : List NodeP} {i : Nat}, nodesE vars i ns = 0 -> ∀ (q : Nat) (h : q < ns.length), NodeOk (vars + (i + q : Nat)) ns[q]
 | [], _, _, q, h => by simp at h
 | x :: r, i, h, q, hq => by
   unfold nodesE at h
   split at h
   ·rename_i h1
    cases q with
    | zero => exact nodeE_ok h1
    | succ q =>
      have := nodesE_ok (i := i + 1) h q (by simpa using hq)
      have e : i + 1 + q = i + (q + 1) := by omega
      rw [e] at this
      simpa using this
   ·rename_i h1; exact absurd h h1
theorem qY1 {f : FormP} (h : qJ2 f = 0) : FormOk f := by
 unfold qJ2 at h
 split at h
 ·cases h
 ·rename_i h1
  split at h
  ·cases h
  ·rename_i h2
   split at h
   ·rename_i h3
    split at h
    ·rename_i h4
     refine ⟨by omega, by omega, fun q hq => by simpa using nodesE_ok h3 q hq, ?_⟩
     simp only [argB, Bool.and_eq_true, Bool.or_eq_true, decide_eq_true_eq] at h4
     omega
    ·cases h
   ·rename_i h3; exact absurd h h3
theorem stateE_ok {f : FormP} {s : Int} (h : qB5 f s = 0) : qJ2 f = 0 /\ 0 ≤ s /\ s < qW0 1 f.vars := by
 unfold qB5 at h
 split at h
 ·split at h
  ·cases h
  ·exact ⟨by assumption, by omega, by omega⟩
 ·contradiction
theorem stateE_eq {f : FormP} {s : Int} (h : qJ2 f = 0) (h' : 0 ≤ s /\ s < qW0 1 f.vars) : qB5 f s = 0 := by
 rw [qB5, if_pos h, if_neg (by omega)]
theorem valuesF_app : ∀ (r r' : List NodeP) (v : List Bool), qD0 v (r ++ r') = qD0 (qD0 v r) r'
 | [], r', v => rfl
 | x :: r, r', v => by simp only [List.cons_append, qD0]; exact valuesF_app r r' _
theorem valuesF_one (r : List NodeP) (x : NodeP) (v : List Bool) : qD0 v (r ++ [x]) = qD0 v r ++ [nodeV x (cntT (qD0 v r) x.args)] := by
 rw [valuesF_app]; rfl
theorem valuesF_pre : ∀ (r : List NodeP) (v : List Bool), ∃ w, qD0 v r = v ++ w
 | [], v => ⟨[], by simp [qD0]⟩
 | x :: r, v => by
   obtain ⟨w, hw⟩ := valuesF_pre r (v ++ [nodeV x (cntT v x.args)])
   exact ⟨_, by rw [qD0, hw, List.append_assoc]⟩
theorem valuesF_get (r : List NodeP) (v : List Bool) {i : Nat} (h : i < v.length) : (qD0 v r).getD i false = v.getD i false := by
 obtain ⟨w, hw⟩ := valuesF_pre r v
 rw [hw, List.getD_eq_getElem?_getD, List.getElem?_append_left h, <-List.getD_eq_getElem?_getD]
theorem cntT_congr {v w : List Bool} {args : List Int} (h : ∀ a ∈ args, v.getD a.toNat false = w.getD a.toNat false) : cntT v args = cntT w args := by
 unfold cntT
 congr 2
 exact List.filter_congr h
def valsN (f : FormP) (s : Int) (q : Nat) : List Bool := qD0 (eventsV s f.vars.toNat) (f.nodes.take q)
theorem valsN_zero (f : FormP) (s : Int) : valsN f s 0 = eventsV s f.vars.toNat := rfl
theorem valsN_all (f : FormP) (s : Int) {q : Nat} (h : f.nodes.length ≤ q) : valsN f s q = valsF f s := by rw [valsN, List.take_of_length_le h]; rfl
theorem qC1 (f : FormP) (s : Int) {q : Nat} (h : q ≤ f.nodes.length) : (valsN f s q).length = f.vars.toNat + q := by
 rw [valsN, valuesF_length, eventsV_length, List.length_take]; omega
theorem valsN_succ (f : FormP) (s : Int) {q : Nat} (h : q < f.nodes.length) : valsN f s (q + 1) = valsN f s q ++ [nodeV f.nodes[q] (cntT (valsN f s q) f.nodes[q].args)] := by
 rw [valsN, List.take_succ_eq_append_getElem h, valuesF_one]; rfl
theorem valsN_pre (f : FormP) (s : Int) {q : Nat} (h : q ≤ f.nodes.length) {i : Nat} (hi : i < f.vars.toNat + q) : (valsN f s q).getD i false = (valsF f s).getD i false := by
 have e : valsF f s = qD0 (valsN f s q) (f.nodes.drop q) := by
  rw [valsN, <-valuesF_app, List.take_append_drop]; rfl
 rw [e, valuesF_get _ _ (by rw [qC1 f s h]; exact hi)]
theorem valsF_length (f : FormP) (s : Int) : (valsF f s).length = f.vars.toNat + f.nodes.length := by
 rw [<-valsN_all f s (Nat.le_refl _), qC1 f s (Nat.le_refl _)]
theorem valsF_event (f : FormP) (s : Int) {i : Nat} (hi : i < f.vars.toNat) : (valsF f s).getD i false = bit s i := by
 rw [<-valsN_pre f s (Nat.zero_le _) (by omega), valsN_zero, eventsV, List.getD_eq_getElem?_getD]
 simp [hi]
theorem valsF_node {f : FormP} (hf : FormOk f) (s : Int) {q : Nat} (hq : q < f.nodes.length) : (valsF f s).getD (f.vars.toNat + q) false = nodeV f.nodes[q] (cntT (valsF f s) f.nodes[q].args) := by
 rw [<-valsN_pre f s (q := q + 1) (by omega) (by omega), valsN_succ f s hq, List.getD_eq_getElem?_getD, List.getElem?_append_right (by rw [qC1 f s (by omega)]; omega), qC1 f s (by omega)]
 simp only [Nat.sub_self, List.getElem?_cons_zero, Option.getD_some]
 congr 1
 refine cntT_congr fun a ha => valsN_pre f s (by omega) ?_
 have h1 := (hf.nodes q hq).args a ha
 have h2 := hf.vars
 omega
theorem cntT_take (v : List Bool) (l : List Int) {j : Nat} (h : j < l.length) : cntT v (l.take (j + 1)) = cntT v (l.take j) + if v.getD l[j].toNat false = true then 1 else 0 := by
 unfold cntT
 rw [List.take_succ_eq_append_getElem h, List.filter_append, List.length_append]
 cases hb : v.getD l[j].toNat false <;> simp [List.filter_cons, List.filter_nil, hb, -List.getD_eq_getElem?_getD]
theorem cntT_rng (v : List Bool) (l : List Int) : 0 ≤ cntT v l /\ cntT v l ≤ l.length := by
 unfold cntT
 have := List.length_filter_le (fun a => v.getD a.toNat false) l
 omega
theorem argsB_le {k : Int} {n : Nat} (h : qC8 k n = true) : n ≤ 16 := by
 unfold qC8 at h
 split at h
 ·simp at h; omega
 ·split at h
  ·simp at h; omega
  ·simp at h; omega
end Go.Pu
namespace Go.Pu
open Go.Sy Go.Sort Go.Lib Go.Proofs
variable [Drw]
def inN (n : Nat) (x : Int) : Prop := qQ6 x = true /\ ∀ i, n ≤ i -> bit x i = false
theorem inN_iff {n : Nat} (hn : n ≤ 24) {x : Int} : inN n x ↔ 0 ≤ x /\ x < ((2 ^ n : Nat) : Int) := by
 have hp : 2 ^ n ≤ 2 ^ 24 := Nat.pow_le_pow_right (by decide) hn
 constructor
 ·rintro ⟨h1, h2⟩
  have h3 := qJ3.1 h1
  obtain ⟨m, rfl⟩ := Int.eq_ofNat_of_zero_le h3.1
  refine ⟨h3.1, ?_⟩
  have : m < 2 ^ n := Nat.lt_pow_two_of_testBit m fun i hi => by
   rw [<-bit_nat (by omega) i]; exact h2 i hi
  omega
 ·rintro ⟨h1, h2⟩
  obtain ⟨m, rfl⟩ := Int.eq_ofNat_of_zero_le h1
  have hm : m < 2 ^ n := by omega
  have h3 : m < 16777216 := by
   have : (2 : Nat) ^ 24 = 16777216 := rfl
   omega
  refine ⟨qJ3.2 ⟨h1, by omega⟩, fun i hi => ?_⟩
  rw [bit_nat (by omega) i]
  exact Nat.testBit_lt_two_pow (Nat.lt_of_lt_of_le hm (Nat.pow_le_pow_right (by decide) hi))
theorem inN_of {n : Nat} {x : Int} (hn : n ≤ 24) (hr : rng x) (h : ∀ i, n ≤ i -> bit x i = false) : inN n x := ⟨validS_of hr fun i hi => h i (by omega), h⟩
theorem inN.ext {n : Nat} {x y : Int} (hx : inN n x) (hy : inN n y) (h : ∀ i, i < n -> bit x i = bit y i) : x = y :=
 valid_ext hx.1 hy.1 fun i _ => by
  by_cases hi : i < n
  ·exact h i hi
  ·rw [hx.2 i (by omega), hy.2 i (by omega)]
def allN (n : Nat) : Int := ((2 ^ n - 1 : Nat) : Int)
theorem bit_allN {n : Nat} (hn : n ≤ 24) (i : Nat) : bit (allN n) i = decide (i < n) := by
 have hp : 2 ^ n ≤ 2 ^ 24 := Nat.pow_le_pow_right (by decide) hn
 have h24 : (2 : Nat) ^ 24 = 16777216 := rfl
 rw [allN, bit_nat (by omega), Nat.testBit_two_pow_sub_one]
theorem inN_allN {n : Nat} (hn : n ≤ 24) : inN n (allN n) := (inN_iff hn).2 ⟨by unfold allN; omega, by unfold allN; have := Nat.two_pow_pos n; omega⟩
theorem qC4 (n : Nat) : qW0 1 (n : Int) = ((2 ^ n : Nat) : Int) := one_eq n
theorem inN_iand {n : Nat} (hn : n ≤ 24) {x y : Int} (h : inN n x) : inN n (qK9 .i64 x y) := inN_of hn (by simp) fun i hi => by simp [h.2 i hi]
theorem qW7 {n : Nat} (hn : n ≤ 24) {x y : Int} (h : inN n x) : inN n (qQ4 .i64 x y) := inN_of hn (by simp) fun i hi => by simp [h.2 i hi]
theorem inN_ior {n : Nat} (hn : n ≤ 24) {x y : Int} (h : inN n x) (h' : inN n y) : inN n (ior .i64 x y) := inN_of hn (by simp) fun i hi => by simp [h.2 i hi, h'.2 i hi]
@[simp] theorem rng_ixor (a b : Int) : rng (ixor .i64 a b) := by rw [ixor_eq]; exact toInt_rng _
theorem iand_zero' {x y : Int} : qK9 .i64 x y = 0 ↔ ∀ i, i < 64 -> (bit x i && bit y i) = false := by
 rw [eq_zero_iff (by simp)]
 simp
def tabF (f : FormP) (n : Nat) : List Bool := (List.range (2 ^ n)).map fun x : Nat => qJ5 f x
theorem tabF_length (f : FormP) (n : Nat) : (tabF f n).length = 2 ^ n := by simp [tabF]
theorem tabF_get (f : FormP) {n : Nat} {x : Nat} (hx : x < 2 ^ n) : (tabF f n).getD x false = qJ5 f x := by
 rw [List.getD_eq_getElem?_getD]; simp [tabF, hx]
def cubeC (c : Int × Int) (q : Nat) : CV := match q with
 | 0 => .lit (.int .i64 c.1)
 | _ => .lit (.int .i64 c.2)
def cubes (l : List (Int × Int)) : CV := rows 2 cubeC (0, 0) l
def cubeL (c : Int × Int) : List CV := [.lit (.int .i64 c.1), .lit (.int .i64 c.2)]
def ordC (a b : Int × Int) : Int :=
 if cmpI (popc (ior .i64 a.1 a.2)) (popc (ior .i64 b.1 b.2)) ≠ 0 then cmpI (popc (ior .i64 a.1 a.2)) (popc (ior .i64 b.1 b.2))
 else if cmpI a.1 b.1 ≠ 0 then cmpI a.1 b.1 else cmpI a.2 b.2
theorem cmpI_neg {a b : Int} : cmpI a b < 0 ↔ a < b := by unfold cmpI; split <;> (try split) <;> omega
theorem cmpI_zero {a b : Int} : cmpI a b = 0 ↔ a = b := by unfold cmpI; split <;> (try split) <;> omega
theorem ordC_neg (a b : Int × Int) : ordC a b < 0 ↔ popc (ior .i64 a.1 a.2) < popc (ior .i64 b.1 b.2) ∨ (popc (ior .i64 a.1 a.2) = popc (ior .i64 b.1 b.2) /\ (a.1 < b.1 ∨ (a.1 = b.1 /\ a.2 < b.2))) := by
 unfold ordC
 split
 ·rename_i h; rw [cmpI_neg]; rw [Ne, cmpI_zero] at h; omega
 ·rename_i h
  rw [Ne, cmpI_zero, Decidable.not_not] at h
  split
  ·rename_i h2; rw [cmpI_neg]; rw [Ne, cmpI_zero] at h2; omega
  ·rename_i h2; rw [cmpI_neg]; rw [Ne, cmpI_zero, Decidable.not_not] at h2; omega
def AscC (l : List (Int × Int)) : Prop := l.Pairwise fun a b => ordC a b < 0
theorem AscC.unique {l l' : List (Int × Int)} (h : AscC l) (h' : AscC l') (hm : ∀ x, x ∈ l ↔ x ∈ l') : l = l' := by
 induction l generalizing l' with
 | nil =>
   cases l' with
   | nil => rfl
   | cons y l' => exact absurd ((hm y).2 (.head _)) (by simp)
 | cons x l ih =>
   cases l' with
   | nil => exact absurd ((hm x).1 (.head _)) (by simp)
   | cons y l' =>
     have h1 := List.pairwise_cons.1 h
     have h2 := List.pairwise_cons.1 h'
     have irr : ∀ z, ¬ ordC z z < 0 := fun z => by simp [ordC_neg]
     have asy : ∀ a b, ordC a b < 0 -> ¬ ordC b a < 0 := fun a b => by simp only [ordC_neg]; omega
     have exy : x = y := by
      rcases List.mem_cons.1 ((hm x).1 (.head _)) with e | e
      ·exact e
      ·rcases List.mem_cons.1 ((hm y).2 (.head _)) with e' | e'
       ·exact e'.symm
       ·exact absurd (h1.1 y e') (asy _ _ (h2.1 x e))
     subst exy
     rw [ih h1.2 h2.2 fun z => ?_]
     constructor
     ·intro hz
      rcases List.mem_cons.1 ((hm z).1 (.tail _ hz)) with e | e
      ·subst e; exact absurd (h1.1 z hz) (irr z)
      ·exact e
     ·intro hz
      rcases List.mem_cons.1 ((hm z).2 (.tail _ hz)) with e | e
      ·subst e; exact absurd (h2.1 z hz) (irr z)
      ·exact e
end Go.Pu
namespace Go.Pu
open Go.Sy
variable [Drw]
def markA (c : Int -> Bool) (m : List Bool) (args : List Int) : List Bool := args.foldl (fun m a => m.set a.toNat (m.getD a.toNat false || c a)) m
def markN (n : Nat) (ns : List NodeP) (c : Nat -> Int -> Bool) : Nat -> List Bool -> List Bool
 | 0, m => m
 | i + 1, m => markN n ns c i (if m.getD (n + i) false = true then markA (c i) m (ns.getD i qX1).args else m)
def mark0 (f : FormP) : List Bool := (List.replicate (f.vars.toNat + f.nodes.length) false).set f.top.toNat true
def marksF (f : FormP) (c : Nat -> Int -> Bool) : List Bool := markN f.vars.toNat f.nodes c f.nodes.length (mark0 f)
theorem markA_length (c : Int -> Bool) : ∀ (args : List Int) (m : List Bool), (markA c m args).length = m.length
 | [], m => rfl
 | a :: r, m => by
   have := markA_length c r (m.set a.toNat (m.getD a.toNat false || c a))
   rw [List.length_set] at this
   exact this
theorem markA_cons (c : Int -> Bool) (m : List Bool) (a : Int) (r : List Int) : markA c m (a :: r) = markA c (m.set a.toNat (m.getD a.toNat false || c a)) r := rfl
theorem mark0_length (f : FormP) : (mark0 f).length = f.vars.toNat + f.nodes.length := by simp [mark0]
theorem markN_length (n : Nat) (ns : List NodeP) (c : Nat -> Int -> Bool) : ∀ (i : Nat) (m : List Bool), (markN n ns c i m).length = m.length
 | 0, m => rfl
 | i + 1, m => by
   rw [markN, markN_length n ns c i]
   split
   ·exact markA_length _ _ _
   ·rfl
theorem marksF_length (f : FormP) (c : Nat -> Int -> Bool) : (marksF f c).length = f.vars.toNat + f.nodes.length := by rw [marksF, markN_length, mark0_length]
theorem cntT_all {v : List Bool} {args : List Int} : cntT v args = args.length ↔ ∀ a ∈ args, v.getD a.toNat false = true := by
 unfold cntT
 rw [Int.natCast_inj]
 exact List.length_filter_eq_length_iff
theorem cntT_pos {v : List Bool} {args : List Int} : 0 < cntT v args ↔ ∃ a ∈ args, v.getD a.toNat false = true := by
 unfold cntT
 rw [Int.natCast_pos, List.length_pos_iff_exists_mem]
 simp only [List.mem_filter]
end Go.Pu
end
section
namespace Go.Proofs.YtgoilpfpmbjegaaGreatDoor
open Go.Sy Go.Pu
variable [Drw]
theorem arguments_does (kind n : Int) : DoesF Tryz.prog 151 [iV kind, iV n] [] (sB (qC8 kind n)) [] := by
 refine DoesF.body _ Tryz.func151 rfl rfl rfl rfl ?_
 refine KW.goIf qQ0 qJ4 100 rfl (by simp) rfl trivial (fun h => ?_) fun h => ?_
 ·have h' : kind = 0 := by simpa using h
  refine KW.goRet qQ0 qJ4 100 rfl rfl ?_ (by simp) trivial
  subst h'
  simp [SV.ren, EV.ren, qC8]
  rw [Bool.eq_iff_iff]; simp
 ·have h' : ¬ kind = 0 := by simpa using h
  refine KW.goIf qQ0 qJ4 100 rfl (by simp) rfl trivial (fun h => ?_) fun h => ?_
  ·have h2 : kind = 1 := by simpa using h
   refine KW.goRet qQ0 qJ4 100 rfl rfl ?_ (by simp) trivial
   subst h2
   simp [SV.ren, EV.ren, qC8]
   rw [Bool.eq_iff_iff]; simp
  ·have h2 : ¬ kind = 1 := by simpa using h
   refine KW.goRet qQ0 qJ4 100 rfl rfl ?_ (by simp) trivial
   simp [SV.ren, EV.ren, qC8, h', h2]
theorem validF_does (f : FormP) (a : Int) (hf : inK .i64 f.vars) (ha : inK .i64 a) : DoesF Tryz.prog 143 [.ag (qX5 f), iV a] [] (sB (argB f a)) [] := by
 refine DoesF.body _ Tryz.func143 rfl rfl rfl rfl ?_
 refine KW.goRet qQ0 qJ4 100 rfl rfl ?_ ?_ trivial
 ·simp [SV.ren, EV.ren, argB]
 ·simp only [inK] at hf ha
  simp +contextual [inK] <;> (intros; omega)
theorem rvalidF_does (f : FormP) (a : Int) (hf : inK .i64 f.vars) (ha : inK .i64 a) : DoesF Tryz.prog 66 [.ag (qX5 f), iV a] [] (sB (argB f a)) [] := by
 refine DoesF.body _ Tryz.func66 rfl rfl rfl rfl ?_
 refine KW.goRet qQ0 qJ4 100 rfl rfl ?_ ?_ trivial
 ·simp [SV.ren, EV.ren, argB]
 ·simp only [inK] at hf ha
  simp +contextual [inK] <;> (intros; omega)
end Go.Proofs.YtgoilpfpmbjegaaGreatDoor
namespace Go.Proofs.YtgoilpfpmbjegaaGreatDoor
open Go.Sy Go.Pu
variable [Drw]
def F1 : Fns := (151, fII (fun k n => sB (qC8 k n)) fun _ _ => True) ::
 (143, fFI (fun f a => sB (argB f a)) fun f a => inK .i64 f.vars /\ inK .i64 a) ::
 T9
theorem F1_ok : FnsOk Tryz.prog F1 := .cons (.cons (qJ4) Tryz.func143 rfl rfl (fFI_ok fun f a h => validF_does f a h.1 h.2)) Tryz.func151 rfl rfl (fII_ok fun k n _ => arguments_does k n)
theorem checkNode_does (f : FormP) (i : Nat) (hi : i < f.nodes.length) (hin : FormIn f) (hv : 0 ≤ f.vars /\ f.vars ≤ 24) (hl : f.nodes.length ≤ 128) :
  DoesF Tryz.prog 142 [.ag (qX5 f), iV i] [] (.e (eV (qK2 f.vars i (f.nodes.getD i qX1)))) [] := by
 refine DoesF.body _ Tryz.func142 rfl rfl rfl rfl ?_
 obtain ⟨vars, ns, top⟩ := f
 simp only at hi hv hl ⊢
 have hx : NodeIn (ns.getD i qX1) := hin.nodes _ (by rw [List.getD_eq_getElem?_getD, List.getElem?_eq_getElem hi]; exact List.getElem_mem hi)
 generalize hX : ns.getD i qX1 = X at hx
 have hXi : ns.getD (Int.toNat (i : Int)) qX1 = X := hX
 refine KW.goIf qQ0 F1_ok 100 rfl (by simp; omega) rfl trivial (fun h => ?_) fun h => ?_
 ·have h' : X.kind < 0 ∨ 5 < X.kind := by
   have e : (decide (X.kind < 0) || decide (5 < X.kind)) = true := by rw [<-hXi]; exact h
   simpa using e
  refine KW.goRet qQ0 F1_ok 100 rfl rfl ?_ (by simp) trivial
  simp [SV.ren, EV.ren, qK2, h', errV]
 ·have h1 : ¬ (X.kind < 0 ∨ 5 < X.kind) := by
   have e : (decide (X.kind < 0) || decide (5 < X.kind)) = false := by rw [<-hXi]; exact h
   simpa using e
  refine KW.goIf qQ0 F1_ok 100 rfl (by simp) rfl trivial (fun h => ?_) fun h => ?_
  ·have h2 : qC8 X.kind X.args.length = false := by
    have e : (!qC8 X.kind X.args.length) = true := by rw [<-hXi]; exact h
    simpa using e
   refine KW.goRet qQ0 F1_ok 100 rfl rfl ?_ (by simp) trivial
   simp [SV.ren, EV.ren, qK2, h1, h2, errV]
  ·have h2 : qC8 X.kind X.args.length = true := by
    have e : (!qC8 X.kind X.args.length) = false := by rw [<-hXi]; exact h
    simpa using e
   have hal : X.args.length ≤ 16 := by
    unfold qC8 at h2
    split at h2
    ·rw [decide_eq_true_iff] at h2; omega
    ·split at h2
     ·rw [decide_eq_true_iff] at h2; omega
     ·rw [Bool.and_eq_true, decide_eq_true_iff, decide_eq_true_iff] at h2; omega
   refine KW.goLpR qQ0 F1_ok 100 rfl (I := fun q : Nat => ⟨Tryz.f142.ntmps, [(1, sI i), (2, .e (.r 2)), (5, .e (.r 5)), (31, .e (lV X.args)), (32, sI X.args.length), (33, sI q)],
     [(2, .box 24 [iV vars, .c (qJ9 ns), iV top] none), (5, .box 65 [iV X.kind, iV X.k, lV X.args] none)]⟩)
    (R := fun q => q ≤ X.args.length /\ ((X.args.take q).any fun a => decide (a < 0) || decide (vars + i ≤ a)) = false) (m := fun q => X.args.length - q) 0 [(2, 2), (5, 5)] rfl rfl ⟨rfl, rfl, rfl, (by rw [<-hXi]; rfl), (by rw [<-hXi]; rfl), rfl, trivial⟩ (by simp) ⟨by simp, by simp⟩ ⟨rfl, (by rw [<-hXi]; rfl), trivial⟩ ?_
   rintro q ⟨g1, g2⟩
   refine KW.goIf qQ0 F1_ok 100 rfl (by simp) rfl trivial (fun h => ?_) fun h => ?_
   ·have hq : q < X.args.length := by simpa using h
    have hg : X.args.getD (Int.toNat (q : Int)) 0 = X.args[q] := by simp [List.getD_eq_getElem?_getD, hq]
    refine KW.goIf qQ0 F1_ok 100 rfl (by simp [inK] <;> omega) rfl trivial (fun h => ?_) fun h => ?_
    ·have h3 : (decide (X.args[q] < 0) || decide (vars + i ≤ X.args[q])) = true := by rw [<-hg]; exact h
     have h4 : (X.args.any fun a => decide (a < 0) || decide (vars + i ≤ a)) = true := List.any_eq_true.2 ⟨_, List.getElem_mem hq, h3⟩
     refine KW.goOutR qQ0 F1_ok 100 rfl (by simp) ?_
     refine KW.goRet qQ0 F1_ok 100 rfl rfl ?_ (by simp) trivial
     unfold qK2
     rw [if_neg h1, if_neg (by rw [h2]; simp), if_pos h4]
     simp [SV.ren, EV.ren, errV]
    ·have h3 : (decide (X.args[q] < 0) || decide (vars + i ≤ X.args[q])) = false := by rw [<-hg]; exact h
     refine KW.goToR qQ0 F1_ok 100 rfl (q + 1) [(2, 2), (5, 5)] rfl rfl ⟨rfl, rfl, rfl, rfl, rfl, rfl, trivial⟩ (by simp [inK]; omega) ⟨⟨by omega, ?_⟩, by omega⟩ ⟨rfl, rfl, trivial⟩
     rw [List.take_succ_eq_append_getElem hq, List.any_append, g2]
     simpa using h3
   ·have hq : q = X.args.length := by simp at h; omega
    rw [hq, List.take_length] at g2
    have hE : qK2 vars i X = kE X := by
     unfold qK2
     rw [if_neg h1, if_neg (by rw [h2]; simp), if_neg (by rw [g2]; simp)]
    rw [hE]
    refine KW.goOut qQ0 F1_ok 100 rfl (by simp) ?_
    refine KW.goIf qQ0 F1_ok 100 rfl (by simp) rfl trivial (fun h => ?_) fun h => ?_
    ·have hk : X.kind = 0 := by simpa using h
     refine KW.goIf qQ0 F1_ok 100 rfl (by simp +contextual) rfl trivial (fun h => ?_) fun h => ?_
     ·have hk2 : X.k ≠ 0 /\ X.k ≠ 1 := by simpa using h
      refine KW.goRet qQ0 F1_ok 100 rfl rfl ?_ (by simp) trivial
      unfold kE
      rw [if_pos hk, if_pos hk2]
      simp [SV.ren, EV.ren, errV]
     ·have hk2 : ¬ (X.k ≠ 0 /\ X.k ≠ 1) := by
       intro hc; simp [hc.1, hc.2] at h
      refine KW.goRet qQ0 F1_ok 100 rfl rfl ?_ (by simp) trivial
      unfold kE
      rw [if_pos hk, if_neg hk2]
      simp [SV.ren, EV.ren, errV]
    ·have hk : ¬ X.kind = 0 := by simpa using h
     refine KW.goIf qQ0 F1_ok 100 rfl (by simp) rfl trivial (fun h => ?_) fun h => ?_
     ·have hk4 : X.kind = 4 := by simpa using h
      refine KW.goIf qQ0 F1_ok 100 rfl (by simp +contextual) rfl trivial (fun h => ?_) fun h => ?_
      ·have hk2 : X.k < 1 ∨ (X.args.length : Int) < X.k := by simpa using h
       refine KW.goRet qQ0 F1_ok 100 rfl rfl ?_ (by simp) trivial
       unfold kE
       rw [if_neg hk, if_pos hk4, if_pos hk2]
       simp [SV.ren, EV.ren, errV]
      ·have hk2 : ¬ (X.k < 1 ∨ (X.args.length : Int) < X.k) := by
        intro hc
        have e : (decide (X.k < 1) || decide ((X.args.length : Int) < X.k)) = false := h
        rw [Bool.or_eq_false_iff, decide_eq_false_iff_not, decide_eq_false_iff_not] at e
        exact hc.elim e.1 e.2
       refine KW.goRet qQ0 F1_ok 100 rfl rfl ?_ (by simp) trivial
       unfold kE
       rw [if_neg hk, if_pos hk4, if_neg hk2]
       simp [SV.ren, EV.ren, errV]
     ·have hk4 : ¬ X.kind = 4 := by simpa using h
      refine KW.goIf qQ0 F1_ok 100 rfl (by simp) rfl trivial (fun h => ?_) fun h => ?_
      ·have hk2 : X.k ≠ 0 := by simpa using h
       refine KW.goRet qQ0 F1_ok 100 rfl rfl ?_ (by simp) trivial
       unfold kE
       rw [if_neg hk, if_neg hk4, if_pos hk2]
       simp [SV.ren, EV.ren, errV]
      ·have hk2 : ¬ X.k ≠ 0 := by simpa using h
       refine KW.goRet qQ0 F1_ok 100 rfl rfl ?_ (by simp) trivial
       unfold kE
       rw [if_neg hk, if_neg hk4, if_neg hk2]
       simp [SV.ren, EV.ren, errV]
end Go.Proofs.YtgoilpfpmbjegaaGreatDoor
namespace Go.Proofs.YtgoilpfpmbjegaaGreatDoor
open Go.Sy Go.Pu
variable [Drw]
def nodePre (f : FormP) (i : Int) : Prop := ∃ n : Nat, i = n /\ n < f.nodes.length /\ FormIn f /\ (0 ≤ f.vars /\ f.vars ≤ 24) /\ f.nodes.length ≤ 128
def F2 : Fns := (142, fFI (fun f i => .e (eV (qK2 f.vars i.toNat (f.nodes.getD i.toNat qX1)))) nodePre) ::
 F1
theorem qZ1 : FnsOk Tryz.prog F2 := .cons (F1_ok) Tryz.func142 rfl rfl (fFI_ok fun f i h => by obtain ⟨n, rfl, h1, h2, h3, h4⟩ := h; exact checkNode_does f n h1 h2 h3 h4)
theorem checkF_does (f : FormP) (hin : FormIn f) : DoesF Tryz.prog 122 [.ag (qX5 f)] [] (.e (eV (qJ2 f))) [] := by
 refine DoesF.body _ Tryz.func122 rfl rfl rfl rfl ?_
 obtain ⟨vars, ns, top⟩ := f
 refine KW.goIf qQ0 qZ1 100 rfl (by simp +contextual) rfl trivial (fun h => ?_) fun h => ?_
 ·have h1 : vars < 0 ∨ 24 < vars := by simpa using h
  refine KW.goRet qQ0 qZ1 100 rfl rfl ?_ (by simp) trivial
  simp [SV.ren, EV.ren, qJ2, h1, errV]
 ·have h1 : ¬ (vars < 0 ∨ 24 < vars) := by
   intro hc
   have e : (decide (vars < 0) || decide (24 < vars)) = false := h
   rw [Bool.or_eq_false_iff, decide_eq_false_iff_not, decide_eq_false_iff_not] at e
   exact hc.elim e.1 e.2
  refine KW.goIf qQ0 qZ1 100 rfl (by simp) rfl trivial (fun h => ?_) fun h => ?_
  ·have h2 : 128 < ns.length := by
    have e : decide ((128 : Int) < (ns.length : Int)) = true := h
    rw [decide_eq_true_iff] at e; omega
   refine KW.goRet qQ0 qZ1 100 rfl rfl ?_ (by simp) trivial
   simp [SV.ren, EV.ren, qJ2, h1, h2, errV]
  ·have h2 : ¬ 128 < ns.length := by
    have e : decide ((128 : Int) < (ns.length : Int)) = false := h
    rw [decide_eq_false_iff_not] at e; omega
   refine KW.goLpR qQ0 qZ1 100 rfl (I := fun q : Nat => ⟨Tryz.f122.ntmps, [(1, .e (.r 1)), (21, sI ns.length), (22, sI q)], [(1, .box 24 [iV vars, .c (qJ9 ns), iV top] none)]⟩)
    (R := fun q => q ≤ ns.length /\ nodesE vars q (ns.drop q) = nodesE vars 0 ns) (m := fun q => ns.length - q) 0 [(1, 1)] rfl rfl ⟨rfl, rfl, rfl, trivial⟩ (by simp) ⟨by simp, by simp⟩ ⟨rfl, trivial⟩ ?_
   rintro q ⟨g1, g2⟩
   refine KW.goIf qQ0 qZ1 100 rfl (by simp) rfl trivial (fun h => ?_) fun h => ?_
   ·have hq : q < ns.length := by simpa using h
    have hg : ns.getD q qX1 = ns[q] := by simp [List.getD_eq_getElem?_getD, hq]
    rw [List.drop_eq_getElem_cons hq, nodesE] at g2
    have hpre : nodePre ⟨vars, ns, top⟩ q := ⟨q, rfl, hq, hin, by simp only; omega, by simp only; omega⟩
    refine KW.goIf qQ0 qZ1 100 rfl (by simp only [qQ1, qQ5, true_and, and_true, qQ7]; exact hpre) rfl trivial (fun h => ?_) fun h => ?_
    ·simp only [qQ1, Int.toNat_natCast, hg] at h
     have h3 : ¬ qK2 vars q ns[q] = 0 := by
      have e : (!qY4 (errV 57 (qK2 vars q ns[q]))) = true := h
      simpa using e
     rw [if_neg h3] at g2
     refine KW.goOutR qQ0 qZ1 100 rfl (by simp) ?_
     refine KW.goRet qQ0 qZ1 100 rfl rfl ?_ (by simp) trivial
     simp only [qQ1, Int.toNat_natCast, hg]
     have e : qJ2 ⟨vars, ns, top⟩ = qK2 vars q ns[q] := by
      unfold qJ2
      simp only [if_neg h1, if_neg h2, <-g2, if_neg h3]
     rw [e]; rfl
    ·simp only [qQ1, Int.toNat_natCast, hg] at h
     have h3 : qK2 vars q ns[q] = 0 := by
      have e : (!qY4 (errV 57 (qK2 vars q ns[q]))) = false := h
      simpa using e
     rw [if_pos h3] at g2
     exact KW.goToR qQ0 qZ1 100 rfl (q + 1) [(1, 1)] rfl rfl ⟨rfl, rfl, rfl, trivial⟩ (by simp [inK]; omega) ⟨⟨by omega, g2⟩, by omega⟩ ⟨rfl, trivial⟩
   ·have hq : q = ns.length := by simp at h; omega
    rw [hq, List.drop_length, nodesE] at g2
    refine KW.goOut qQ0 qZ1 100 rfl (by simp) ?_
    refine KW.goIf qQ0 qZ1 100 rfl (by simp only [qQ1, qQ5, true_and, and_true]; exact ⟨hin.vars, hin.top⟩) rfl trivial (fun h => ?_) fun h => ?_
    ·simp only [qQ1] at h
     have h3 : argB ⟨vars, ns, top⟩ top = false := by
      have e : (!argB ⟨vars, ns, top⟩ top) = true := h
      simpa using e
     refine KW.goRet qQ0 qZ1 100 rfl rfl ?_ (by simp) trivial
     simp [SV.ren, EV.ren, qJ2, h1, h2, <-g2, h3, errV]
    ·simp only [qQ1] at h
     have h3 : argB ⟨vars, ns, top⟩ top = true := by
      have e : (!argB ⟨vars, ns, top⟩ top) = false := h
      simpa using e
     refine KW.goRet qQ0 qZ1 100 rfl rfl ?_ (by simp) trivial
     simp [SV.ren, EV.ren, qJ2, h1, h2, <-g2, h3, errV]
end Go.Proofs.YtgoilpfpmbjegaaGreatDoor
namespace Go.Proofs.YtgoilpfpmbjegaaGreatDoor
open Go.Sy Go.Pu
variable [Drw]
theorem rnode_does (f : FormP) (i : Nat) (hi : i < f.nodes.length) (hin : FormIn f) (hv : 0 ≤ f.vars /\ f.vars ≤ 24) (hl : f.nodes.length ≤ 128) :
  DoesF Tryz.prog 65 [.ag (qX5 f), iV i] [] (sI (qK2 f.vars i (f.nodes.getD i qX1))) [] := by
 refine DoesF.body _ Tryz.func65 rfl rfl rfl rfl ?_
 obtain ⟨vars, ns, top⟩ := f
 simp only at hi hv hl ⊢
 have hx : NodeIn (ns.getD i qX1) := hin.nodes _ (by rw [List.getD_eq_getElem?_getD, List.getElem?_eq_getElem hi]; exact List.getElem_mem hi)
 generalize hX : ns.getD i qX1 = X at hx
 have hXi : ns.getD (Int.toNat (i : Int)) qX1 = X := hX
 refine KW.goIf qQ0 qZ1 100 rfl (by simp; omega) rfl trivial (fun h => ?_) fun h => ?_
 ·have hk : X.kind = 0 := by rw [<-hXi]; simpa using h
  have h1 : ¬ (X.kind < 0 ∨ 5 < X.kind) := by omega
  refine KW.goIf qQ0 qZ1 100 rfl (by simp +contextual) rfl trivial (fun h => ?_) fun h => ?_
  ·have e : (decide ((X.args.length : Int) < 0) || decide ((0 : Int) < (X.args.length : Int))) = true := by rw [<-hXi]; exact h
   have h2 : qC8 X.kind X.args.length = false := by
    rw [Bool.or_eq_true, decide_eq_true_iff, decide_eq_true_iff] at e
    rw [hk, Bool.eq_false_iff]
    intro hc
    simp only [qC8] at hc
    simp at hc; simp [hc] at e
   refine KW.goRet qQ0 qZ1 100 rfl rfl ?_ (by simp) trivial
   simp [SV.ren, EV.ren, qK2, h1, h2]
  ·have e : (decide ((X.args.length : Int) < 0) || decide ((0 : Int) < (X.args.length : Int))) = false := by rw [<-hXi]; exact h
   rw [Bool.or_eq_false_iff, decide_eq_false_iff_not, decide_eq_false_iff_not] at e
   have h2 : qC8 X.kind X.args.length = true := by
    rw [hk]
    simp only [qC8]
    rw [if_pos trivial, decide_eq_true_iff]; omega
   refine KW.goLpR qQ0 qZ1 100 rfl (I := fun q : Nat => ⟨Tryz.f65.ntmps, [(1, sI i), (2, .e (.r 2)), (5, .e (.r 5)), (39, .e (lV X.args)), (40, sI X.args.length), (41, sI q)],
     [(2, .box 24 [iV vars, .c (qJ9 ns), iV top] none), (5, .box 65 [iV X.kind, iV X.k, lV X.args] none)]⟩)
    (R := fun q => q ≤ X.args.length /\ ((X.args.take q).any fun a => decide (a < 0) || decide (vars + i ≤ a)) = false) (m := fun q => X.args.length - q) 0 [(2, 2), (5, 5)] rfl rfl ⟨rfl, rfl, rfl, (by rw [<-hXi]; rfl), (by rw [<-hXi]; rfl), rfl, trivial⟩ (by simp) ⟨by simp, by simp⟩ ⟨rfl, (by rw [<-hXi]; rfl), trivial⟩ ?_
   rintro q ⟨g1, g2⟩
   refine KW.goIf qQ0 qZ1 100 rfl (by simp) rfl trivial (fun h => ?_) fun h => ?_
   ·have hq : q < X.args.length := by simpa using h
    have hg : X.args.getD (Int.toNat (q : Int)) 0 = X.args[q] := by simp [List.getD_eq_getElem?_getD, hq]
    refine KW.goIf qQ0 qZ1 100 rfl (by simp [inK] <;> omega) rfl trivial (fun h => ?_) fun h => ?_
    ·have h3 : (decide (X.args[q] < 0) || decide (vars + i ≤ X.args[q])) = true := by rw [<-hg]; exact h
     have h4 : (X.args.any fun a => decide (a < 0) || decide (vars + i ≤ a)) = true := List.any_eq_true.2 ⟨_, List.getElem_mem hq, h3⟩
     refine KW.goOutR qQ0 qZ1 100 rfl (by simp) ?_
     refine KW.goRet qQ0 qZ1 100 rfl rfl ?_ (by simp) trivial
     unfold qK2
     rw [if_neg h1, if_neg (by rw [h2]; simp), if_pos h4]
     simp [SV.ren, EV.ren]
    ·have h3 : (decide (X.args[q] < 0) || decide (vars + i ≤ X.args[q])) = false := by rw [<-hg]; exact h
     refine KW.goToR qQ0 qZ1 100 rfl (q + 1) [(2, 2), (5, 5)] rfl rfl ⟨rfl, rfl, rfl, rfl, rfl, rfl, trivial⟩ (by simp [inK]; omega) ⟨⟨by omega, ?_⟩, by omega⟩ ⟨rfl, rfl, trivial⟩
     rw [List.take_succ_eq_append_getElem hq, List.any_append, g2]
     simpa using h3
   ·have hq : q = X.args.length := by simp at h; omega
    rw [hq, List.take_length] at g2
    have hE : qK2 vars i X = kE X := by
     unfold qK2
     rw [if_neg h1, if_neg (by rw [h2]; simp), if_neg (by rw [g2]; simp)]
    rw [hE]
    refine KW.goOut qQ0 qZ1 100 rfl (by simp) ?_
    refine KW.goIf qQ0 qZ1 100 rfl (by simp) rfl trivial (fun h => ?_) fun h => ?_
    ·refine KW.goIf qQ0 qZ1 100 rfl (by simp +contextual) rfl trivial (fun h => ?_) fun h => ?_
     ·have hk2 : X.k ≠ 0 /\ X.k ≠ 1 := by simpa using h
      refine KW.goRet qQ0 qZ1 100 rfl rfl ?_ (by simp) trivial
      unfold kE
      rw [if_pos hk, if_pos hk2]
      simp [SV.ren, EV.ren]
     ·have hk2 : ¬ (X.k ≠ 0 /\ X.k ≠ 1) := by
       intro hc; simp [hc.1, hc.2] at h
      refine KW.goRet qQ0 qZ1 100 rfl rfl ?_ (by simp) trivial
      unfold kE
      rw [if_pos hk, if_neg hk2]
      simp [SV.ren, EV.ren]
    ·exact absurd hk (by simpa using h)
 ·have hn0 : ¬ X.kind = 0 := by rw [<-hXi]; simpa using h
  refine KW.goIf qQ0 qZ1 100 rfl (by simp) rfl trivial (fun h => ?_) fun h => ?_
  ·have hk : X.kind = 1 := by rw [<-hXi]; simpa using h
   have h1 : ¬ (X.kind < 0 ∨ 5 < X.kind) := by omega
   refine KW.goIf qQ0 qZ1 100 rfl (by simp +contextual) rfl trivial (fun h => ?_) fun h => ?_
   ·have e : (decide ((X.args.length : Int) < 1) || decide ((1 : Int) < (X.args.length : Int))) = true := by rw [<-hXi]; exact h
    have h2 : qC8 X.kind X.args.length = false := by
     rw [Bool.or_eq_true, decide_eq_true_iff, decide_eq_true_iff] at e
     rw [hk, Bool.eq_false_iff]
     intro hc
     simp only [qC8] at hc
     simp at hc; omega
    refine KW.goRet qQ0 qZ1 100 rfl rfl ?_ (by simp) trivial
    simp [SV.ren, EV.ren, qK2, h1, h2]
   ·have e : (decide ((X.args.length : Int) < 1) || decide ((1 : Int) < (X.args.length : Int))) = false := by rw [<-hXi]; exact h
    rw [Bool.or_eq_false_iff, decide_eq_false_iff_not, decide_eq_false_iff_not] at e
    have h2 : qC8 X.kind X.args.length = true := by
     rw [hk]
     simp only [qC8]
     first | (rw [if_pos trivial, decide_eq_true_iff]; omega) | (rw [if_neg (by decide), if_pos trivial, decide_eq_true_iff]; omega)
    refine KW.goLpR qQ0 qZ1 100 rfl (I := fun q : Nat => ⟨Tryz.f65.ntmps, [(1, sI i), (2, .e (.r 2)), (5, .e (.r 5)), (39, .e (lV X.args)), (40, sI X.args.length), (41, sI q)],
      [(2, .box 24 [iV vars, .c (qJ9 ns), iV top] none), (5, .box 65 [iV X.kind, iV X.k, lV X.args] none)]⟩)
     (R := fun q => q ≤ X.args.length /\ ((X.args.take q).any fun a => decide (a < 0) || decide (vars + i ≤ a)) = false) (m := fun q => X.args.length - q) 0 [(2, 2), (5, 5)] rfl rfl ⟨rfl, rfl, rfl, (by rw [<-hXi]; rfl), (by rw [<-hXi]; rfl), rfl, trivial⟩ (by simp) ⟨by simp, by simp⟩ ⟨rfl, (by rw [<-hXi]; rfl), trivial⟩ ?_
    rintro q ⟨g1, g2⟩
    refine KW.goIf qQ0 qZ1 100 rfl (by simp) rfl trivial (fun h => ?_) fun h => ?_
    ·have hq : q < X.args.length := by simpa using h
     have hg : X.args.getD (Int.toNat (q : Int)) 0 = X.args[q] := by simp [List.getD_eq_getElem?_getD, hq]
     refine KW.goIf qQ0 qZ1 100 rfl (by simp [inK] <;> omega) rfl trivial (fun h => ?_) fun h => ?_
     ·have h3 : (decide (X.args[q] < 0) || decide (vars + i ≤ X.args[q])) = true := by rw [<-hg]; exact h
      have h4 : (X.args.any fun a => decide (a < 0) || decide (vars + i ≤ a)) = true := List.any_eq_true.2 ⟨_, List.getElem_mem hq, h3⟩
      refine KW.goOutR qQ0 qZ1 100 rfl (by simp) ?_
      refine KW.goRet qQ0 qZ1 100 rfl rfl ?_ (by simp) trivial
      unfold qK2
      rw [if_neg h1, if_neg (by rw [h2]; simp), if_pos h4]
      simp [SV.ren, EV.ren]
     ·have h3 : (decide (X.args[q] < 0) || decide (vars + i ≤ X.args[q])) = false := by rw [<-hg]; exact h
      refine KW.goToR qQ0 qZ1 100 rfl (q + 1) [(2, 2), (5, 5)] rfl rfl ⟨rfl, rfl, rfl, rfl, rfl, rfl, trivial⟩ (by simp [inK]; omega) ⟨⟨by omega, ?_⟩, by omega⟩ ⟨rfl, rfl, trivial⟩
      rw [List.take_succ_eq_append_getElem hq, List.any_append, g2]
      simpa using h3
    ·have hq : q = X.args.length := by simp at h; omega
     rw [hq, List.take_length] at g2
     have hE : qK2 vars i X = kE X := by
      unfold qK2
      rw [if_neg h1, if_neg (by rw [h2]; simp), if_neg (by rw [g2]; simp)]
     rw [hE]
     refine KW.goOut qQ0 qZ1 100 rfl (by simp) ?_
     refine KW.goIf qQ0 qZ1 100 rfl (by simp) rfl trivial (fun h => ?_) fun h => ?_
     ·exact absurd (show X.kind = 0 by simpa using h) (by omega)
     ·clear h
      refine KW.goIf qQ0 qZ1 100 rfl (by simp) rfl trivial (fun h => ?_) fun h => ?_
      ·exact absurd (show X.kind = 4 by simpa using h) (by omega)
      ·refine KW.goIf qQ0 qZ1 100 rfl (by simp) rfl trivial (fun h => ?_) fun h => ?_
       ·have hk2 : X.k ≠ 0 := by simpa using h
        refine KW.goRet qQ0 qZ1 100 rfl rfl ?_ (by simp) trivial
        unfold kE
        rw [if_neg (by omega), if_neg (by omega), if_pos hk2]
        simp [SV.ren, EV.ren]
       ·have hk2 : ¬ X.k ≠ 0 := by simpa using h
        refine KW.goRet qQ0 qZ1 100 rfl rfl ?_ (by simp) trivial
        unfold kE
        rw [if_neg (by omega), if_neg (by omega), if_neg hk2]
        simp [SV.ren, EV.ren]
  ·have hn1 : ¬ X.kind = 1 := by rw [<-hXi]; simpa using h
   refine KW.goIf qQ0 qZ1 100 rfl (by simp) rfl trivial (fun h => ?_) fun h => ?_
   ·have hk : X.kind = 2 := by rw [<-hXi]; simpa using h
    refine KW.goIf qQ0 qZ1 100 rfl (by simp) rfl trivial (fun h => ?_) fun h => absurd hk (by rw [<-hXi]; simpa using h)
    have h1 : ¬ (X.kind < 0 ∨ 5 < X.kind) := by omega
    refine KW.goIf qQ0 qZ1 100 rfl (by simp +contextual) rfl trivial (fun h => ?_) fun h => ?_
    ·have e : (decide ((X.args.length : Int) < 1) || decide ((16 : Int) < (X.args.length : Int))) = true := by rw [<-hXi]; exact h
     have h2 : qC8 X.kind X.args.length = false := by
      rw [Bool.or_eq_true, decide_eq_true_iff, decide_eq_true_iff] at e
      rw [hk, Bool.eq_false_iff]
      intro hc
      simp only [qC8] at hc
      simp at hc; omega
     refine KW.goRet qQ0 qZ1 100 rfl rfl ?_ (by simp) trivial
     simp [SV.ren, EV.ren, qK2, h1, h2]
    ·have e : (decide ((X.args.length : Int) < 1) || decide ((16 : Int) < (X.args.length : Int))) = false := by rw [<-hXi]; exact h
     rw [Bool.or_eq_false_iff, decide_eq_false_iff_not, decide_eq_false_iff_not] at e
     have h2 : qC8 X.kind X.args.length = true := by
      rw [hk]
      simp only [qC8]
      first | (rw [Bool.and_eq_true, decide_eq_true_iff, decide_eq_true_iff]; omega) | (simp; omega)
     refine KW.goLpR qQ0 qZ1 100 rfl (I := fun q : Nat => ⟨Tryz.f65.ntmps, [(1, sI i), (2, .e (.r 2)), (5, .e (.r 5)), (39, .e (lV X.args)), (40, sI X.args.length), (41, sI q)],
       [(2, .box 24 [iV vars, .c (qJ9 ns), iV top] none), (5, .box 65 [iV X.kind, iV X.k, lV X.args] none)]⟩)
      (R := fun q => q ≤ X.args.length /\ ((X.args.take q).any fun a => decide (a < 0) || decide (vars + i ≤ a)) = false) (m := fun q => X.args.length - q) 0 [(2, 2), (5, 5)] rfl rfl ⟨rfl, rfl, rfl, (by rw [<-hXi]; rfl), (by rw [<-hXi]; rfl), rfl, trivial⟩ (by simp) ⟨by simp, by simp⟩ ⟨rfl, (by rw [<-hXi]; rfl), trivial⟩ ?_
     rintro q ⟨g1, g2⟩
     refine KW.goIf qQ0 qZ1 100 rfl (by simp) rfl trivial (fun h => ?_) fun h => ?_
     ·have hq : q < X.args.length := by simpa using h
      have hg : X.args.getD (Int.toNat (q : Int)) 0 = X.args[q] := by simp [List.getD_eq_getElem?_getD, hq]
      refine KW.goIf qQ0 qZ1 100 rfl (by simp [inK] <;> omega) rfl trivial (fun h => ?_) fun h => ?_
      ·have h3 : (decide (X.args[q] < 0) || decide (vars + i ≤ X.args[q])) = true := by rw [<-hg]; exact h
       have h4 : (X.args.any fun a => decide (a < 0) || decide (vars + i ≤ a)) = true := List.any_eq_true.2 ⟨_, List.getElem_mem hq, h3⟩
       refine KW.goOutR qQ0 qZ1 100 rfl (by simp) ?_
       refine KW.goRet qQ0 qZ1 100 rfl rfl ?_ (by simp) trivial
       unfold qK2
       rw [if_neg h1, if_neg (by rw [h2]; simp), if_pos h4]
       simp [SV.ren, EV.ren]
      ·have h3 : (decide (X.args[q] < 0) || decide (vars + i ≤ X.args[q])) = false := by rw [<-hg]; exact h
       refine KW.goToR qQ0 qZ1 100 rfl (q + 1) [(2, 2), (5, 5)] rfl rfl ⟨rfl, rfl, rfl, rfl, rfl, rfl, trivial⟩ (by simp [inK]; omega) ⟨⟨by omega, ?_⟩, by omega⟩ ⟨rfl, rfl, trivial⟩
       rw [List.take_succ_eq_append_getElem hq, List.any_append, g2]
       simpa using h3
     ·have hq : q = X.args.length := by simp at h; omega
      rw [hq, List.take_length] at g2
      have hE : qK2 vars i X = kE X := by
       unfold qK2
       rw [if_neg h1, if_neg (by rw [h2]; simp), if_neg (by rw [g2]; simp)]
      rw [hE]
      refine KW.goOut qQ0 qZ1 100 rfl (by simp) ?_
      refine KW.goIf qQ0 qZ1 100 rfl (by simp) rfl trivial (fun h => ?_) fun h => ?_
      ·exact absurd (show X.kind = 0 by simpa using h) (by omega)
      ·clear h
       refine KW.goIf qQ0 qZ1 100 rfl (by simp) rfl trivial (fun h => ?_) fun h => ?_
       ·exact absurd (show X.kind = 4 by simpa using h) (by omega)
       ·refine KW.goIf qQ0 qZ1 100 rfl (by simp) rfl trivial (fun h => ?_) fun h => ?_
        ·have hk2 : X.k ≠ 0 := by simpa using h
         refine KW.goRet qQ0 qZ1 100 rfl rfl ?_ (by simp) trivial
         unfold kE
         rw [if_neg (by omega), if_neg (by omega), if_pos hk2]
         simp [SV.ren, EV.ren]
        ·have hk2 : ¬ X.k ≠ 0 := by simpa using h
         refine KW.goRet qQ0 qZ1 100 rfl rfl ?_ (by simp) trivial
         unfold kE
         rw [if_neg (by omega), if_neg (by omega), if_neg hk2]
         simp [SV.ren, EV.ren]
   ·have hn2 : ¬ X.kind = 2 := by rw [<-hXi]; simpa using h
    refine KW.goIf qQ0 qZ1 100 rfl (by simp) rfl trivial (fun h => ?_) fun h => ?_
    ·have hk : X.kind = 3 := by rw [<-hXi]; simpa using h
     refine KW.goIf qQ0 qZ1 100 rfl (by simp) rfl trivial (fun h => ?_) fun h => absurd hk (by rw [<-hXi]; simpa using h)
     have h1 : ¬ (X.kind < 0 ∨ 5 < X.kind) := by omega
     refine KW.goIf qQ0 qZ1 100 rfl (by simp +contextual) rfl trivial (fun h => ?_) fun h => ?_
     ·have e : (decide ((X.args.length : Int) < 1) || decide ((16 : Int) < (X.args.length : Int))) = true := by rw [<-hXi]; exact h
      have h2 : qC8 X.kind X.args.length = false := by
       rw [Bool.or_eq_true, decide_eq_true_iff, decide_eq_true_iff] at e
       rw [hk, Bool.eq_false_iff]
       intro hc
       simp only [qC8] at hc
       simp at hc; omega
      refine KW.goRet qQ0 qZ1 100 rfl rfl ?_ (by simp) trivial
      simp [SV.ren, EV.ren, qK2, h1, h2]
     ·have e : (decide ((X.args.length : Int) < 1) || decide ((16 : Int) < (X.args.length : Int))) = false := by rw [<-hXi]; exact h
      rw [Bool.or_eq_false_iff, decide_eq_false_iff_not, decide_eq_false_iff_not] at e
      have h2 : qC8 X.kind X.args.length = true := by
       rw [hk]
       simp only [qC8]
       first | (rw [Bool.and_eq_true, decide_eq_true_iff, decide_eq_true_iff]; omega) | (simp; omega)
      refine KW.goLpR qQ0 qZ1 100 rfl (I := fun q : Nat => ⟨Tryz.f65.ntmps, [(1, sI i), (2, .e (.r 2)), (5, .e (.r 5)), (39, .e (lV X.args)), (40, sI X.args.length), (41, sI q)],
        [(2, .box 24 [iV vars, .c (qJ9 ns), iV top] none), (5, .box 65 [iV X.kind, iV X.k, lV X.args] none)]⟩)
       (R := fun q => q ≤ X.args.length /\ ((X.args.take q).any fun a => decide (a < 0) || decide (vars + i ≤ a)) = false) (m := fun q => X.args.length - q) 0 [(2, 2), (5, 5)] rfl rfl ⟨rfl, rfl, rfl, (by rw [<-hXi]; rfl), (by rw [<-hXi]; rfl), rfl, trivial⟩ (by simp) ⟨by simp, by simp⟩ ⟨rfl, (by rw [<-hXi]; rfl), trivial⟩ ?_
      rintro q ⟨g1, g2⟩
      refine KW.goIf qQ0 qZ1 100 rfl (by simp) rfl trivial (fun h => ?_) fun h => ?_
      ·have hq : q < X.args.length := by simpa using h
       have hg : X.args.getD (Int.toNat (q : Int)) 0 = X.args[q] := by simp [List.getD_eq_getElem?_getD, hq]
       refine KW.goIf qQ0 qZ1 100 rfl (by simp [inK] <;> omega) rfl trivial (fun h => ?_) fun h => ?_
       ·have h3 : (decide (X.args[q] < 0) || decide (vars + i ≤ X.args[q])) = true := by rw [<-hg]; exact h
        have h4 : (X.args.any fun a => decide (a < 0) || decide (vars + i ≤ a)) = true := List.any_eq_true.2 ⟨_, List.getElem_mem hq, h3⟩
        refine KW.goOutR qQ0 qZ1 100 rfl (by simp) ?_
        refine KW.goRet qQ0 qZ1 100 rfl rfl ?_ (by simp) trivial
        unfold qK2
        rw [if_neg h1, if_neg (by rw [h2]; simp), if_pos h4]
        simp [SV.ren, EV.ren]
       ·have h3 : (decide (X.args[q] < 0) || decide (vars + i ≤ X.args[q])) = false := by rw [<-hg]; exact h
        refine KW.goToR qQ0 qZ1 100 rfl (q + 1) [(2, 2), (5, 5)] rfl rfl ⟨rfl, rfl, rfl, rfl, rfl, rfl, trivial⟩ (by simp [inK]; omega) ⟨⟨by omega, ?_⟩, by omega⟩ ⟨rfl, rfl, trivial⟩
        rw [List.take_succ_eq_append_getElem hq, List.any_append, g2]
        simpa using h3
      ·have hq : q = X.args.length := by simp at h; omega
       rw [hq, List.take_length] at g2
       have hE : qK2 vars i X = kE X := by
        unfold qK2
        rw [if_neg h1, if_neg (by rw [h2]; simp), if_neg (by rw [g2]; simp)]
       rw [hE]
       refine KW.goOut qQ0 qZ1 100 rfl (by simp) ?_
       refine KW.goIf qQ0 qZ1 100 rfl (by simp) rfl trivial (fun h => ?_) fun h => ?_
       ·exact absurd (show X.kind = 0 by simpa using h) (by omega)
       ·clear h
        refine KW.goIf qQ0 qZ1 100 rfl (by simp) rfl trivial (fun h => ?_) fun h => ?_
        ·exact absurd (show X.kind = 4 by simpa using h) (by omega)
        ·refine KW.goIf qQ0 qZ1 100 rfl (by simp) rfl trivial (fun h => ?_) fun h => ?_
         ·have hk2 : X.k ≠ 0 := by simpa using h
          refine KW.goRet qQ0 qZ1 100 rfl rfl ?_ (by simp) trivial
          unfold kE
          rw [if_neg (by omega), if_neg (by omega), if_pos hk2]
          simp [SV.ren, EV.ren]
         ·have hk2 : ¬ X.k ≠ 0 := by simpa using h
          refine KW.goRet qQ0 qZ1 100 rfl rfl ?_ (by simp) trivial
          unfold kE
          rw [if_neg (by omega), if_neg (by omega), if_neg hk2]
          simp [SV.ren, EV.ren]
    ·have hn3 : ¬ X.kind = 3 := by rw [<-hXi]; simpa using h
     refine KW.goIf qQ0 qZ1 100 rfl (by simp) rfl trivial (fun h => ?_) fun h => ?_
     ·have hk : X.kind = 4 := by rw [<-hXi]; simpa using h
      refine KW.goIf qQ0 qZ1 100 rfl (by simp) rfl trivial (fun h => ?_) fun h => absurd hk (by rw [<-hXi]; simpa using h)
      have h1 : ¬ (X.kind < 0 ∨ 5 < X.kind) := by omega
      refine KW.goIf qQ0 qZ1 100 rfl (by simp +contextual) rfl trivial (fun h => ?_) fun h => ?_
      ·have e : (decide ((X.args.length : Int) < 1) || decide ((16 : Int) < (X.args.length : Int))) = true := by rw [<-hXi]; exact h
       have h2 : qC8 X.kind X.args.length = false := by
        rw [Bool.or_eq_true, decide_eq_true_iff, decide_eq_true_iff] at e
        rw [hk, Bool.eq_false_iff]
        intro hc
        simp only [qC8] at hc
        simp at hc; omega
       refine KW.goRet qQ0 qZ1 100 rfl rfl ?_ (by simp) trivial
       simp [SV.ren, EV.ren, qK2, h1, h2]
      ·have e : (decide ((X.args.length : Int) < 1) || decide ((16 : Int) < (X.args.length : Int))) = false := by rw [<-hXi]; exact h
       rw [Bool.or_eq_false_iff, decide_eq_false_iff_not, decide_eq_false_iff_not] at e
       have h2 : qC8 X.kind X.args.length = true := by
        rw [hk]
        simp only [qC8]
        first | (rw [Bool.and_eq_true, decide_eq_true_iff, decide_eq_true_iff]; omega) | (simp; omega)
       refine KW.goLpR qQ0 qZ1 100 rfl (I := fun q : Nat => ⟨Tryz.f65.ntmps, [(1, sI i), (2, .e (.r 2)), (5, .e (.r 5)), (39, .e (lV X.args)), (40, sI X.args.length), (41, sI q)],
         [(2, .box 24 [iV vars, .c (qJ9 ns), iV top] none), (5, .box 65 [iV X.kind, iV X.k, lV X.args] none)]⟩)
        (R := fun q => q ≤ X.args.length /\ ((X.args.take q).any fun a => decide (a < 0) || decide (vars + i ≤ a)) = false) (m := fun q => X.args.length - q) 0 [(2, 2), (5, 5)] rfl rfl ⟨rfl, rfl, rfl, (by rw [<-hXi]; rfl), (by rw [<-hXi]; rfl), rfl, trivial⟩ (by simp) ⟨by simp, by simp⟩ ⟨rfl, (by rw [<-hXi]; rfl), trivial⟩ ?_
       rintro q ⟨g1, g2⟩
       refine KW.goIf qQ0 qZ1 100 rfl (by simp) rfl trivial (fun h => ?_) fun h => ?_
       ·have hq : q < X.args.length := by simpa using h
        have hg : X.args.getD (Int.toNat (q : Int)) 0 = X.args[q] := by simp [List.getD_eq_getElem?_getD, hq]
        refine KW.goIf qQ0 qZ1 100 rfl (by simp [inK] <;> omega) rfl trivial (fun h => ?_) fun h => ?_
        ·have h3 : (decide (X.args[q] < 0) || decide (vars + i ≤ X.args[q])) = true := by rw [<-hg]; exact h
         have h4 : (X.args.any fun a => decide (a < 0) || decide (vars + i ≤ a)) = true := List.any_eq_true.2 ⟨_, List.getElem_mem hq, h3⟩
         refine KW.goOutR qQ0 qZ1 100 rfl (by simp) ?_
         refine KW.goRet qQ0 qZ1 100 rfl rfl ?_ (by simp) trivial
         unfold qK2
         rw [if_neg h1, if_neg (by rw [h2]; simp), if_pos h4]
         simp [SV.ren, EV.ren]
        ·have h3 : (decide (X.args[q] < 0) || decide (vars + i ≤ X.args[q])) = false := by rw [<-hg]; exact h
         refine KW.goToR qQ0 qZ1 100 rfl (q + 1) [(2, 2), (5, 5)] rfl rfl ⟨rfl, rfl, rfl, rfl, rfl, rfl, trivial⟩ (by simp [inK]; omega) ⟨⟨by omega, ?_⟩, by omega⟩ ⟨rfl, rfl, trivial⟩
         rw [List.take_succ_eq_append_getElem hq, List.any_append, g2]
         simpa using h3
       ·have hq : q = X.args.length := by simp at h; omega
        rw [hq, List.take_length] at g2
        have hE : qK2 vars i X = kE X := by
         unfold qK2
         rw [if_neg h1, if_neg (by rw [h2]; simp), if_neg (by rw [g2]; simp)]
        rw [hE]
        refine KW.goOut qQ0 qZ1 100 rfl (by simp) ?_
        refine KW.goIf qQ0 qZ1 100 rfl (by simp) rfl trivial (fun h => ?_) fun h => ?_
        ·exact absurd (show X.kind = 0 by simpa using h) (by omega)
        ·clear h
         refine KW.goIf qQ0 qZ1 100 rfl (by simp) rfl trivial (fun h => ?_) fun h => ?_
         ·refine KW.goIf qQ0 qZ1 100 rfl (by simp +contextual) rfl trivial (fun h => ?_) fun h => ?_
          ·have hk2 : X.k < 1 ∨ (X.args.length : Int) < X.k := by simpa using h
           refine KW.goRet qQ0 qZ1 100 rfl rfl ?_ (by simp) trivial
           unfold kE
           rw [if_neg (by omega), if_pos hk, if_pos hk2]
           simp [SV.ren, EV.ren]
          ·have hk2 : ¬ (X.k < 1 ∨ (X.args.length : Int) < X.k) := by
            intro hc
            have e : (decide (X.k < 1) || decide ((X.args.length : Int) < X.k)) = false := h
            rw [Bool.or_eq_false_iff, decide_eq_false_iff_not, decide_eq_false_iff_not] at e
            exact hc.elim e.1 e.2
           refine KW.goRet qQ0 qZ1 100 rfl rfl ?_ (by simp) trivial
           unfold kE
           rw [if_neg (by omega), if_pos hk, if_neg hk2]
           simp [SV.ren, EV.ren]
         ·exact absurd hk (by simpa using h)
     ·have hn4 : ¬ X.kind = 4 := by rw [<-hXi]; simpa using h
      refine KW.goIf qQ0 qZ1 100 rfl (by simp) rfl trivial (fun h => ?_) fun h => ?_
      ·have hk : X.kind = 5 := by rw [<-hXi]; simpa using h
       have h1 : ¬ (X.kind < 0 ∨ 5 < X.kind) := by omega
       refine KW.goIf qQ0 qZ1 100 rfl (by simp +contextual) rfl trivial (fun h => ?_) fun h => ?_
       ·have e : (decide ((X.args.length : Int) < 1) || decide ((16 : Int) < (X.args.length : Int))) = true := by rw [<-hXi]; exact h
        have h2 : qC8 X.kind X.args.length = false := by
         rw [Bool.or_eq_true, decide_eq_true_iff, decide_eq_true_iff] at e
         rw [hk, Bool.eq_false_iff]
         intro hc
         simp only [qC8] at hc
         simp at hc; omega
        refine KW.goRet qQ0 qZ1 100 rfl rfl ?_ (by simp) trivial
        simp [SV.ren, EV.ren, qK2, h1, h2]
       ·have e : (decide ((X.args.length : Int) < 1) || decide ((16 : Int) < (X.args.length : Int))) = false := by rw [<-hXi]; exact h
        rw [Bool.or_eq_false_iff, decide_eq_false_iff_not, decide_eq_false_iff_not] at e
        have h2 : qC8 X.kind X.args.length = true := by
         rw [hk]
         simp only [qC8]
         first | (rw [Bool.and_eq_true, decide_eq_true_iff, decide_eq_true_iff]; omega) | (simp; omega)
        refine KW.goLpR qQ0 qZ1 100 rfl (I := fun q : Nat => ⟨Tryz.f65.ntmps, [(1, sI i), (2, .e (.r 2)), (5, .e (.r 5)), (39, .e (lV X.args)), (40, sI X.args.length), (41, sI q)],
          [(2, .box 24 [iV vars, .c (qJ9 ns), iV top] none), (5, .box 65 [iV X.kind, iV X.k, lV X.args] none)]⟩)
         (R := fun q => q ≤ X.args.length /\ ((X.args.take q).any fun a => decide (a < 0) || decide (vars + i ≤ a)) = false) (m := fun q => X.args.length - q) 0 [(2, 2), (5, 5)] rfl rfl ⟨rfl, rfl, rfl, (by rw [<-hXi]; rfl), (by rw [<-hXi]; rfl), rfl, trivial⟩ (by simp) ⟨by simp, by simp⟩ ⟨rfl, (by rw [<-hXi]; rfl), trivial⟩ ?_
        rintro q ⟨g1, g2⟩
        refine KW.goIf qQ0 qZ1 100 rfl (by simp) rfl trivial (fun h => ?_) fun h => ?_
        ·have hq : q < X.args.length := by simpa using h
         have hg : X.args.getD (Int.toNat (q : Int)) 0 = X.args[q] := by simp [List.getD_eq_getElem?_getD, hq]
         refine KW.goIf qQ0 qZ1 100 rfl (by simp [inK] <;> omega) rfl trivial (fun h => ?_) fun h => ?_
         ·have h3 : (decide (X.args[q] < 0) || decide (vars + i ≤ X.args[q])) = true := by rw [<-hg]; exact h
          have h4 : (X.args.any fun a => decide (a < 0) || decide (vars + i ≤ a)) = true := List.any_eq_true.2 ⟨_, List.getElem_mem hq, h3⟩
          refine KW.goOutR qQ0 qZ1 100 rfl (by simp) ?_
          refine KW.goRet qQ0 qZ1 100 rfl rfl ?_ (by simp) trivial
          unfold qK2
          rw [if_neg h1, if_neg (by rw [h2]; simp), if_pos h4]
          simp [SV.ren, EV.ren]
         ·have h3 : (decide (X.args[q] < 0) || decide (vars + i ≤ X.args[q])) = false := by rw [<-hg]; exact h
          refine KW.goToR qQ0 qZ1 100 rfl (q + 1) [(2, 2), (5, 5)] rfl rfl ⟨rfl, rfl, rfl, rfl, rfl, rfl, trivial⟩ (by simp [inK]; omega) ⟨⟨by omega, ?_⟩, by omega⟩ ⟨rfl, rfl, trivial⟩
          rw [List.take_succ_eq_append_getElem hq, List.any_append, g2]
          simpa using h3
        ·have hq : q = X.args.length := by simp at h; omega
         rw [hq, List.take_length] at g2
         have hE : qK2 vars i X = kE X := by
          unfold qK2
          rw [if_neg h1, if_neg (by rw [h2]; simp), if_neg (by rw [g2]; simp)]
         rw [hE]
         refine KW.goOut qQ0 qZ1 100 rfl (by simp) ?_
         refine KW.goIf qQ0 qZ1 100 rfl (by simp) rfl trivial (fun h => ?_) fun h => ?_
         ·exact absurd (show X.kind = 0 by simpa using h) (by omega)
         ·clear h
          refine KW.goIf qQ0 qZ1 100 rfl (by simp) rfl trivial (fun h => ?_) fun h => ?_
          ·exact absurd (show X.kind = 4 by simpa using h) (by omega)
          ·refine KW.goIf qQ0 qZ1 100 rfl (by simp) rfl trivial (fun h => ?_) fun h => ?_
           ·have hk2 : X.k ≠ 0 := by simpa using h
            refine KW.goRet qQ0 qZ1 100 rfl rfl ?_ (by simp) trivial
            unfold kE
            rw [if_neg (by omega), if_neg (by omega), if_pos hk2]
            simp [SV.ren, EV.ren]
           ·have hk2 : ¬ X.k ≠ 0 := by simpa using h
            refine KW.goRet qQ0 qZ1 100 rfl rfl ?_ (by simp) trivial
            unfold kE
            rw [if_neg (by omega), if_neg (by omega), if_neg hk2]
            simp [SV.ren, EV.ren]
      ·have hn5 : ¬ X.kind = 5 := by rw [<-hXi]; simpa using h
       refine KW.goRet qQ0 qZ1 100 rfl rfl ?_ (by simp) trivial
       have h' : X.kind < 0 ∨ 5 < X.kind := by omega
       simp [SV.ren, EV.ren, qK2, h']
end Go.Proofs.YtgoilpfpmbjegaaGreatDoor
namespace Go.Proofs.YtgoilpfpmbjegaaGreatDoor
open Go.Sy Go.Pu
variable [Drw]
def F3 : Fns := (122, fF (fun f => .e (eV (qJ2 f))) FormIn) ::
 (65, fFI (fun f i => sI (qK2 f.vars i.toNat (f.nodes.getD i.toNat qX1))) nodePre) ::
 (66, fFI (fun f a => sB (argB f a)) fun f a => inK .i64 f.vars /\ inK .i64 a) ::
 F2
theorem F3_ok : FnsOk Tryz.prog F3 := .cons (.cons (.cons (qZ1) Tryz.func66 rfl rfl (fFI_ok fun f a h => rvalidF_does f a h.1 h.2)) Tryz.func65 rfl rfl (fFI_ok fun f i h => by obtain ⟨n, rfl, h1, h2, h3, h4⟩ := h; exact rnode_does f n h1 h2 h3 h4)) Tryz.func122 rfl rfl (fF_ok fun f h => checkF_does f h)
theorem rcheckF_does (f : FormP) (hin : FormIn f) : DoesF Tryz.prog 27 [.ag (qX5 f)] [] (sI (qJ2 f)) [] := by
 refine DoesF.body _ Tryz.func27 rfl rfl rfl rfl ?_
 obtain ⟨vars, ns, top⟩ := f
 refine KW.goIf qQ0 F3_ok 100 rfl (by simp +contextual) rfl trivial (fun h => ?_) fun h => ?_
 ·have h1 : vars < 0 ∨ 24 < vars := by simpa using h
  refine KW.goRet qQ0 F3_ok 100 rfl rfl ?_ (by simp) trivial
  simp [SV.ren, EV.ren, qJ2, h1]
 ·have h1 : ¬ (vars < 0 ∨ 24 < vars) := by
   intro hc
   have e : (decide (vars < 0) || decide (24 < vars)) = false := h
   rw [Bool.or_eq_false_iff, decide_eq_false_iff_not, decide_eq_false_iff_not] at e
   exact hc.elim e.1 e.2
  refine KW.goIf qQ0 F3_ok 100 rfl (by simp) rfl trivial (fun h => ?_) fun h => ?_
  ·have h2 : 128 < ns.length := by
    have e : decide ((128 : Int) < (ns.length : Int)) = true := h
    rw [decide_eq_true_iff] at e; omega
   refine KW.goRet qQ0 F3_ok 100 rfl rfl ?_ (by simp) trivial
   simp [SV.ren, EV.ren, qJ2, h1, h2]
  ·have h2 : ¬ 128 < ns.length := by
    have e : decide ((128 : Int) < (ns.length : Int)) = false := h
    rw [decide_eq_false_iff_not] at e; omega
   refine KW.goLpR qQ0 F3_ok 100 rfl (I := fun q : Nat => ⟨Tryz.f27.ntmps, [(1, .e (.r 1)), (19, sI ns.length), (20, sI q)], [(1, .box 24 [iV vars, .c (qJ9 ns), iV top] none)]⟩)
    (R := fun q => q ≤ ns.length /\ nodesE vars q (ns.drop q) = nodesE vars 0 ns) (m := fun q => ns.length - q) 0 [(1, 1)] rfl rfl ⟨rfl, rfl, rfl, trivial⟩ (by simp) ⟨by simp, by simp⟩ ⟨rfl, trivial⟩ ?_
   rintro q ⟨g1, g2⟩
   refine KW.goIf qQ0 F3_ok 100 rfl (by simp) rfl trivial (fun h => ?_) fun h => ?_
   ·have hq : q < ns.length := by simpa using h
    have hg : ns.getD q qX1 = ns[q] := by simp [List.getD_eq_getElem?_getD, hq]
    rw [List.drop_eq_getElem_cons hq, nodesE] at g2
    have hpre : nodePre ⟨vars, ns, top⟩ q := ⟨q, rfl, hq, hin, by simp only; omega, by simp only; omega⟩
    refine KW.goIf qQ0 F3_ok 100 rfl (by simp only [qQ1, qQ5, true_and, and_true]; exact hpre) rfl trivial (fun h => ?_) fun h => ?_
    ·simp only [qQ1, Int.toNat_natCast, hg] at h
     have h3 : ¬ qK2 vars q ns[q] = 0 := by
      have e : (qK2 vars q ns[q] != 0) = true := h
      simpa using e
     rw [if_neg h3] at g2
     refine KW.goOutR qQ0 F3_ok 100 rfl (by simp) ?_
     refine KW.goRet qQ0 F3_ok 100 rfl rfl ?_ (by simp) trivial
     simp only [qQ1, Int.toNat_natCast, hg]
     have e : qJ2 ⟨vars, ns, top⟩ = qK2 vars q ns[q] := by
      unfold qJ2
      simp only [if_neg h1, if_neg h2, <-g2, if_neg h3]
     rw [e]; rfl
    ·simp only [qQ1, Int.toNat_natCast, hg] at h
     have h3 : qK2 vars q ns[q] = 0 := by
      have e : (qK2 vars q ns[q] != 0) = false := h
      simpa using e
     rw [if_pos h3] at g2
     exact KW.goToR qQ0 F3_ok 100 rfl (q + 1) [(1, 1)] rfl rfl ⟨rfl, rfl, rfl, trivial⟩ (by simp [inK]; omega) ⟨⟨by omega, g2⟩, by omega⟩ ⟨rfl, trivial⟩
   ·have hq : q = ns.length := by simp at h; omega
    rw [hq, List.drop_length, nodesE] at g2
    refine KW.goOut qQ0 F3_ok 100 rfl (by simp) ?_
    refine KW.goIf qQ0 F3_ok 100 rfl (by simp only [qQ1, qQ5, true_and, and_true]; exact ⟨hin.vars, hin.top⟩) rfl trivial (fun h => ?_) fun h => ?_
    ·simp only [qQ1] at h
     have h3 : argB ⟨vars, ns, top⟩ top = false := by
      have e : (!argB ⟨vars, ns, top⟩ top) = true := h
      simpa using e
     refine KW.goRet qQ0 F3_ok 100 rfl rfl ?_ (by simp) trivial
     simp [SV.ren, EV.ren, qJ2, h1, h2, <-g2, h3]
    ·simp only [qQ1] at h
     have h3 : argB ⟨vars, ns, top⟩ top = true := by
      have e : (!argB ⟨vars, ns, top⟩ top) = false := h
      simpa using e
     refine KW.goRet qQ0 F3_ok 100 rfl rfl ?_ (by simp) trivial
     simp [SV.ren, EV.ren, qJ2, h1, h2, <-g2, h3]
end Go.Proofs.YtgoilpfpmbjegaaGreatDoor
namespace Go.Proofs.YtgoilpfpmbjegaaGreatDoor
open Go.Sy Go.Pu
variable [Drw]
def F4 : Fns := (27, fF (fun f => sI (qJ2 f)) FormIn) ::
 F3
theorem F4_ok : FnsOk Tryz.prog F4 := .cons (F3_ok) Tryz.func27 rfl rfl (fF_ok fun f h => rcheckF_does f h)
theorem formE_vars {f : FormP} (h : qJ2 f = 0) : 0 ≤ f.vars /\ f.vars ≤ 24 := by
 unfold qJ2 at h
 split at h
 ·cases h
 ·omega
theorem shl_rng {v : Int} (h : 0 ≤ v /\ v ≤ 24) : 1 ≤ qW0 1 v /\ qW0 1 v ≤ 16777216 := by
 obtain ⟨n, rfl⟩ := Int.eq_ofNat_of_zero_le h.1
 have key : ∀ m : Fin 25, 1 ≤ qW0 1 (m.val : Int) /\ qW0 1 (m.val : Int) ≤ 16777216 := by decide +kernel
 exact key ⟨n, by omega⟩
theorem fcheck_does (f : FormP) (s : Int) (hin : FormIn f) : DoesF Tryz.prog 88 [.ag (qX5 f), iV s] [] (.e (eV (qB5 f s))) [] := by
 refine DoesF.body _ Tryz.func88 rfl rfl rfl rfl ?_
 obtain ⟨vars, ns, top⟩ := f
 refine KW.goIf qQ0 F4_ok 100 rfl (by simp only [qQ1, qQ5, true_and, and_true, qQ7]; exact hin) rfl trivial (fun h => ?_) fun h => ?_
 ·simp only [qQ1] at h
  have h1 : ¬ qJ2 ⟨vars, ns, top⟩ = 0 := by
   have e : (!qY4 (errV 57 (qJ2 ⟨vars, ns, top⟩))) = true := h
   simpa using e
  refine KW.goRet qQ0 F4_ok 100 rfl rfl ?_ (by simp) trivial
  simp only [qQ1, SV.ren, EV.ren]
  rw [qB5, if_neg h1]
 ·simp only [qQ1] at h
  have h1 : qJ2 ⟨vars, ns, top⟩ = 0 := by
   have e : (!qY4 (errV 57 (qJ2 ⟨vars, ns, top⟩))) = false := h
   simpa using e
  have hv := formE_vars h1
  have hs := shl_rng hv
  refine KW.goIf qQ0 F4_ok 100 rfl (by simp only [inK, qC0, true_and, and_true]; simp only at hv hs; simp; omega) rfl trivial (fun h => ?_) fun h => ?_
  ·have h2 : s < 0 ∨ qW0 1 vars ≤ s := by
    have e : (decide (s < 0) || decide (qW0 1 vars ≤ s)) = true := h
    simpa using e
   refine KW.goRet qQ0 F4_ok 100 rfl rfl ?_ (by simp) trivial
   rw [qB5, if_pos h1, if_pos h2]
   simp [SV.ren, EV.ren, errV]
  ·have h2 : ¬ (s < 0 ∨ qW0 1 vars ≤ s) := by
    have e : (decide (s < 0) || decide (qW0 1 vars ≤ s)) = false := h
    rw [Bool.or_eq_false_iff, decide_eq_false_iff_not, decide_eq_false_iff_not] at e
    exact fun hc => hc.elim e.1 e.2
   refine KW.goRet qQ0 F4_ok 100 rfl rfl ?_ (by simp) trivial
   rw [qB5, if_pos h1, if_neg h2]
   simp [SV.ren, EV.ren, errV]
end Go.Proofs.YtgoilpfpmbjegaaGreatDoor
namespace Go.Proofs.YtgoilpfpmbjegaaGreatDoor
open Go.Sy Go.Pu
variable [Drw]
def setB (f : FormP) (s : Int) : Bool := decide (0 ≤ s) && decide (s < qW0 1 f.vars)
theorem set_does (f : FormP) (s : Int) (hv : 0 ≤ f.vars /\ f.vars ≤ 24) : DoesF Tryz.prog 51 [.ag (qX5 f), iV s] [] (sB (setB f s)) [] := by
 refine DoesF.body _ Tryz.func51 rfl rfl rfl rfl ?_
 obtain ⟨vars, ns, top⟩ := f
 have hs := shl_rng hv
 refine KW.goRet qQ0 F4_ok 100 rfl rfl ?_ ?_ trivial
 ·simp [SV.ren, EV.ren, setB]
 ·simp only at hv hs
  simp +contextual [inK, qC0] <;> (intros; omega)
def F5 : Fns := (51, fFI (fun f s => sB (setB f s)) fun f s => 0 ≤ f.vars /\ f.vars ≤ 24) ::
 (88, fFI (fun f s => .e (eV (qB5 f s))) fun f s => FormIn f) ::
 F4
theorem F5_ok : FnsOk Tryz.prog F5 := .cons (.cons (F4_ok) Tryz.func88 rfl rfl (fFI_ok fun f s h => fcheck_does f s h)) Tryz.func51 rfl rfl (fFI_ok fun f s h => set_does f s h)
end Go.Proofs.YtgoilpfpmbjegaaGreatDoor
namespace Go.Proofs.YtgoilpfpmbjegaaGreatDoor
open Go.Sy Go.Pu
variable [Drw]
def F6 : Fns := F5
theorem F6_ok : FnsOk Tryz.prog F6 := F5_ok
end Go.Proofs.YtgoilpfpmbjegaaGreatDoor
end
section
namespace Go.Proofs.YtgoilpfpmbjegaaGreatDoor
open Go.Sy Go.Pu
variable [Drw]
theorem values_does (f : FormP) (s : Int) (hin : FormIn f) (hE : qB5 f s = 0) : DoesF Tryz.prog 89 [.ag (qX5 f), iV s] [] (.e (.c (bools (valsF f s)))) [] := by
 refine DoesF.body _ Tryz.func89 rfl rfl rfl rfl ?_
 obtain ⟨vars, ns, top⟩ := f
 have h0 : qJ2 ⟨vars, ns, top⟩ = 0 := by
  unfold qB5 at hE
  split at hE
  ·assumption
  ·contradiction
 have hv := formE_vars h0
 obtain ⟨n, rfl⟩ := Int.eq_ofNat_of_zero_le hv.1
 simp only at hv
 have hl : ns.length ≤ 128 := by
  unfold qJ2 at h0
  simp only at h0
  split at h0
  ·cases h0
  ·split at h0
   ·cases h0
   ·omega
 refine KW.goLpR qQ0 F5_ok 100 rfl (I := fun q : Nat => ⟨Tryz.f89.ntmps, [(1, sI s), (2, .e (.r 2)), (5, .e (.r 5)), (23, sI n), (24, sI q)],
   [(2, .box 24 [iV n, .c (qJ9 ns), iV top] none), (5, .own 4 (bools (eventsV s q ++ List.replicate (n - q) false)))]⟩)
  (R := fun q => q ≤ n) (m := fun q => n - q) 0 [(2, 2), (5, 21)] rfl rfl ⟨rfl, rfl, rfl, ?_, rfl, trivial⟩ (by simp [inK]; omega) (by simp) ⟨rfl, ?_, trivial⟩ ?_
 ·show some (sI ((List.replicate (Int.toNat (n : Int)) false).length : Nat)) = some (sI n)
  simp
 ·show some (Res.own _ (bools (List.replicate (Int.toNat (n : Int)) false))) = some (Res.own _ (bools (eventsV s 0 ++ List.replicate (n - 0) false)))
  simp [eventsV]
 rintro q hq
 have hlen : (eventsV s q ++ List.replicate (n - q) false).length = n := by rw [List.length_append, eventsV_length, List.length_replicate]; omega
 refine KW.goIf qQ0 F5_ok 100 rfl (by simp) rfl trivial (fun h => ?_) fun h => ?_
 ·have hq' : q < n := by simpa using h
  refine KW.go qQ0 F5_ok 100 rfl (by simp only [inK, qC0, true_and, and_true, hlen]; omega) ?_
  refine KW.updB 5 rfl ?_
  have hst : (eventsV s q ++ List.replicate (n - q) false).set (Int.toNat (q : Int)) (qK9 .i64 (ishr s q) 1 == 1) = eventsV s (q + 1) ++ List.replicate (n - (q + 1)) false := by
   have e : (qK9 .i64 (ishr s q) 1 == 1) = bit s q := by
    rw [ishr_bit s (by omega)]
    cases bit s q <;> rfl
   rw [e, Int.toNat_natCast, List.set_append_right _ _ (by rw [eventsV_length]; omega), eventsV_length, Nat.sub_self]
   have e2 : n - q = (n - (q + 1)) + 1 := by omega
   rw [e2, List.replicate_succ, List.set_cons_zero]
   simp [eventsV, List.range_succ]
  rw [hst]
  exact KW.to (q + 1) ⟨by omega, by omega⟩ [(2, 2), (5, 5)] ⟨rfl, rfl, ⟨rfl, rfl, rfl, rfl, rfl, trivial⟩, ⟨rfl, rfl, trivial⟩⟩
 ·have hq' : q = n := by simp at h; omega
  subst hq'
  refine KW.goOut qQ0 F5_ok 100 rfl (by simp) ?_
  have ok : FormOk ⟨q, ns, top⟩ := qY1 h0
  have e0 : eventsV s q ++ List.replicate (q - q) false = valsN ⟨q, ns, top⟩ s 0 := by simp [valsN_zero]
  refine KW.goLpR qQ0 F5_ok 100 rfl (I := fun p : Nat => ⟨Tryz.f89.ntmps, [(5, .e (.r 5)), (37, .e (.c (qJ9 ns))), (38, sI ns.length), (39, sI p)], [(5, .own 4 (bools (valsN ⟨q, ns, top⟩ s p)))]⟩)
   (R := fun p => p ≤ ns.length) (m := fun p => ns.length - p) 0 [(5, 5)] rfl rfl ⟨rfl, rfl, rfl, rfl, trivial⟩ (by simp) (by simp) ⟨qV8 _ e0, trivial⟩ ?_
  rintro p hp
  have hlen := qC1 ⟨q, ns, top⟩ s hp
  simp only [Int.toNat_natCast] at hlen
  refine KW.goIf qQ0 F5_ok 100 rfl (by simp) rfl trivial (fun h => ?_) fun h => ?_
  ·have hp' : p < ns.length := by simpa using h
   have okp := ok.nodes p hp'
   simp only at okp
   have hX : ns.getD (Int.toNat (p : Int)) qX1 = ns[p] := by simp [List.getD_eq_getElem?_getD, hp']
   have hinX : NodeIn ns[p] := hin.nodes _ (List.getElem_mem hp')
   have hsucc := valsN_succ ⟨q, ns, top⟩ s hp'
   simp only at hsucc
   generalize ns[p] = X at okp hX hinX hsucc
   have h16 := argsB_le okp.cnt
   generalize hV : valsN ⟨q, ns, top⟩ s p = V at hlen hsucc
   refine KW.goLpR qQ0 F5_ok 100 rfl (I := fun j : Nat => ⟨Tryz.f89.ntmps, [(5, .e (.r 5)), (8, .e (.r 8)), (9, sI (cntT V (X.args.take j))), (37, .e (.c (qJ9 ns))), (38, sI ns.length), (39, sI p), (44, .e (lV X.args)), (45, sI X.args.length), (46, sI j)],
     [(5, .own 4 (bools V)), (8, .box 65 [iV X.kind, iV X.k, lV X.args] none)]⟩)
    (R := fun j => j ≤ X.args.length) (m := fun j => X.args.length - j) 0 [(5, 5), (8, 8)] rfl rfl ⟨rfl, rfl, rfl, rfl, rfl, rfl, (by rw [<-hX]; rfl), (by rw [<-hX]; rfl), rfl, trivial⟩ (by simp; omega) (by simp) ⟨by rw [<-hV]; rfl, (by rw [<-hX]; rfl), trivial⟩ ?_
   rintro j hj
   have hc := cntT_rng V (X.args.take j)
   have hcl : (X.args.take j).length ≤ 16 := by simp; omega
   refine KW.goIf qQ0 F5_ok 100 rfl (by simp) rfl trivial (fun h => ?_) fun h => ?_
   ·have hj' : j < X.args.length := by simpa using h
    have hg : X.args.getD (Int.toNat (j : Int)) 0 = X.args[j] := by simp [List.getD_eq_getElem?_getD, hj']
    have ha := okp.args _ (List.getElem_mem hj')
    have ht := cntT_take V X.args hj'
    generalize X.args[j] = a at hg ha ht
    refine KW.goIf qQ0 F5_ok 100 rfl (by rw [hg, hlen]; simp; omega) rfl trivial (fun h => ?_) fun h => ?_
    ·rw [hg] at h
     refine KW.goToR qQ0 F5_ok 100 rfl (j + 1) [(5, 5), (8, 8)] rfl rfl ⟨rfl, rfl, ?_, rfl, rfl, rfl, rfl, rfl, rfl, trivial⟩ (by simp only [inK, true_and, and_true]; omega) ⟨by omega, by omega⟩ ⟨rfl, rfl, trivial⟩
     rw [ht, if_pos (by simpa using h)]; rfl
    ·rw [hg] at h
     refine KW.goToR qQ0 F5_ok 100 rfl (j + 1) [(5, 5), (8, 8)] rfl rfl ⟨rfl, rfl, ?_, rfl, rfl, rfl, rfl, rfl, rfl, trivial⟩ (by simp only [inK, true_and, and_true]; omega) ⟨by omega, by omega⟩ ⟨rfl, rfl, trivial⟩
     rw [ht, if_neg (by simpa using h), Int.add_zero]; rfl
   ·have hj' : j = X.args.length := by simp at h; omega
    subst hj'
    rw [List.take_length] at hc ⊢
    refine KW.goOut qQ0 F5_ok 100 rfl (by simp) ?_
    have fin : ∀ b, b = nodeV X (cntT V X.args) -> V ++ [b] = valsN ⟨q, ns, top⟩ s (p + 1) := fun b hb => by rw [hb, hsucc]
    refine KW.goIf qQ0 F5_ok 100 rfl (by simp) rfl trivial (fun h => ?_) fun h => ?_
    ·have k0 : X.kind = 0 := by simpa using h
     refine KW.go qQ0 F5_ok 100 rfl (by simp only [inK, true_and, and_true, hlen]; omega) (KW.catB 93 rfl (KW.to (p + 1) ⟨by omega, by omega⟩ [(5, 93)] ⟨rfl, rfl, ⟨rfl, rfl, rfl, rfl, trivial⟩, ⟨qV8 _ (fin _ ?_), trivial⟩⟩))
     simp [nodeV, k0]
     try (rw [Bool.eq_iff_iff]; simp)
    ·have n0 : ¬ X.kind = 0 := by simpa using h
     refine KW.goIf qQ0 F5_ok 100 rfl (by simp) rfl trivial (fun h => ?_) fun h => ?_
     ·have k1 : X.kind = 1 := by simpa using h
      refine KW.go qQ0 F5_ok 100 rfl (by simp only [inK, true_and, and_true, hlen]; omega) (KW.catB 93 rfl (KW.to (p + 1) ⟨by omega, by omega⟩ [(5, 93)] ⟨rfl, rfl, ⟨rfl, rfl, rfl, rfl, trivial⟩, ⟨qV8 _ (fin _ ?_), trivial⟩⟩))
      simp [nodeV, k1]
      try (rw [Bool.eq_iff_iff]; simp)
     ·have n1 : ¬ X.kind = 1 := by simpa using h
      refine KW.goIf qQ0 F5_ok 100 rfl (by simp) rfl trivial (fun h => ?_) fun h => ?_
      ·have k2 : X.kind = 2 := by simpa using h
       refine KW.go qQ0 F5_ok 100 rfl (by simp only [inK, true_and, and_true, hlen]; omega) (KW.catB 93 rfl (KW.to (p + 1) ⟨by omega, by omega⟩ [(5, 93)] ⟨rfl, rfl, ⟨rfl, rfl, rfl, rfl, trivial⟩, ⟨qV8 _ (fin _ ?_), trivial⟩⟩))
       simp [nodeV, k2]
       rw [Bool.eq_iff_iff]; simp
      ·have n2 : ¬ X.kind = 2 := by simpa using h
       refine KW.goIf qQ0 F5_ok 100 rfl (by simp) rfl trivial (fun h => ?_) fun h => ?_
       ·have k3 : X.kind = 3 := by simpa using h
        refine KW.go qQ0 F5_ok 100 rfl (by simp only [inK, true_and, and_true, hlen]; omega) (KW.catB 93 rfl (KW.to (p + 1) ⟨by omega, by omega⟩ [(5, 93)] ⟨rfl, rfl, ⟨rfl, rfl, rfl, rfl, trivial⟩, ⟨qV8 _ (fin _ ?_), trivial⟩⟩))
        simp [nodeV, k3]
        try (rw [Bool.eq_iff_iff]; simp)
       ·have n3 : ¬ X.kind = 3 := by simpa using h
        refine KW.goIf qQ0 F5_ok 100 rfl (by simp) rfl trivial (fun h => ?_) fun h => ?_
        ·have k4 : X.kind = 4 := by simpa using h
         refine KW.go qQ0 F5_ok 100 rfl (by simp only [inK, true_and, and_true, hlen]; omega) (KW.catB 93 rfl (KW.to (p + 1) ⟨by omega, by omega⟩ [(5, 93)] ⟨rfl, rfl, ⟨rfl, rfl, rfl, rfl, trivial⟩, ⟨qV8 _ (fin _ ?_), trivial⟩⟩))
         simp [nodeV, k4]
         try (rw [Bool.eq_iff_iff]; simp)
        ·have n4 : ¬ X.kind = 4 := by simpa using h
         refine KW.goIf qQ0 F5_ok 100 rfl (by simp) rfl trivial (fun h => ?_) fun h => ?_
         ·have k5 : X.kind = 5 := by simpa using h
          refine KW.go qQ0 F5_ok 100 rfl (by simp only [inK, true_and, and_true, hlen]; omega) (KW.catB 93 rfl (KW.to (p + 1) ⟨by omega, by omega⟩ [(5, 93)] ⟨rfl, rfl, ⟨rfl, rfl, rfl, rfl, trivial⟩, ⟨qV8 _ (fin _ ?_), trivial⟩⟩))
          simp [nodeV, k5]
          rw [Int.tmod_eq_emod_of_nonneg hc.1, Bool.eq_iff_iff]; simp
         ·have n5 : ¬ X.kind = 5 := by simpa using h
          exact absurd okp.kind (by omega)
  ·have hp' : p = ns.length := by simp at h; omega
   refine KW.goOut qQ0 F5_ok 100 rfl (by simp) ?_
   have e9 : valsN ⟨q, ns, top⟩ s p = valsF ⟨q, ns, top⟩ s := valsN_all _ _ (by rw [hp']; exact Nat.le_refl _)
   rw [<-e9]
   exact KW.goRetO qQ0 F5_ok 100 rfl 5 4 rfl rfl rfl rfl (by simp)
def F7 : Fns := (89, fFI (fun f s => .e (.c (bools (valsF f s)))) fun f s => FormIn f /\ qB5 f s = 0) ::
 F6
theorem F7_ok : FnsOk Tryz.prog F7 := .cons (F6_ok) Tryz.func89 rfl rfl (fFI_ok fun f s h => values_does f s h.1 h.2)
def valV (f : FormP) (s : Int) : Bool := decide (qB5 f s = 0) && qJ5 f s
theorem value_does (f : FormP) (s : Int) (hin : FormIn f) : DoesF Tryz.prog 48 [.ag (qX5 f), iV s] [] (.tup [bV (valV f s), eV (qB5 f s)]) [] := by
 refine DoesF.body _ Tryz.func48 rfl rfl rfl rfl ?_
 obtain ⟨vars, ns, top⟩ := f
 refine KW.goIf qQ0 F7_ok 100 rfl (by simp only [qQ1, qQ5, true_and, and_true, qQ7]; exact hin) rfl trivial (fun h => ?_) fun h => ?_
 ·simp only [qQ1] at h
  have h1 : ¬ qB5 ⟨vars, ns, top⟩ s = 0 := by
   have e : (!qY4 (errV 57 (qB5 ⟨vars, ns, top⟩ s))) = true := h
   simpa using e
  refine KW.goRet qQ0 F7_ok 100 rfl rfl ?_ (by simp) trivial
  simp [SV.ren, renL, EV.ren, valV, h1]
 ·simp only [qQ1] at h
  have h1 : qB5 ⟨vars, ns, top⟩ s = 0 := by
   have e : (!qY4 (errV 57 (qB5 ⟨vars, ns, top⟩ s))) = false := h
   simpa using e
  have ok : FormOk ⟨vars, ns, top⟩ := qY1 (stateE_ok h1).1
  have ht := ok.top
  have hl := valsF_length ⟨vars, ns, top⟩ s
  simp only at ht hl
  refine KW.goD qQ0 F7_ok rfl 100 rfl (by decide) rfl (by simp) (by simp only [qQ1, qQ5, true_and, and_true, hl]; exact ⟨⟨⟨hin, h1⟩, by omega⟩, by omega⟩) ?_
  refine KW.goRet qQ0 F7_ok 100 rfl rfl ?_ (by simp) trivial
  simp [SV.ren, renL, EV.ren, valV, h1, qJ5, errV]
end Go.Proofs.YtgoilpfpmbjegaaGreatDoor
namespace Go.Sy
open Go.Pu
variable [Drw]
def cvBool : CV -> Bool
 | .lit (.bool b) => b
 | _ => false
def unB : CV -> List Bool
 | .sl n _ f => (List.range n).map fun e => cvBool (f e 0)
 | _ => []
def isB (x : CV) : Prop := CVEq x (bools (unB x))
@[simp] theorem unB_bools (xs : List Bool) : unB (bools xs) = xs := by
  unfold unB bools
  refine List.ext_getElem (by simp) fun j h1 h2 => ?_
  simp [List.getD_eq_getElem?_getD, h2, cvBool]
@[simp] theorem isB_bools (xs : List Bool) : isB (bools xs) := by unfold isB; rw [unB_bools]; exact CVEq.refl _
def fFBII (g : FormP -> List Bool -> Int -> Int -> SV) (p : FormP -> List Bool -> Int -> Int -> Prop) : List EV -> Option (SV × Prop)
 | [.ag [.lit (.int .i64 a), x, .lit (.int .i64 b)], .c v, .c (.lit (.int .i64 s)), .c (.lit (.int .i64 i))] => some (g ⟨a, unN x, b⟩ (unB v) s i, isN x /\ isB v /\ p ⟨a, unN x, b⟩ (unB v) s i)
 | _ => none
section
variable {P : Program} {f : FuncId}
theorem fFBII_ok {g : FormP -> List Bool -> Int -> Int -> SV} {p : FormP -> List Bool -> Int -> Int -> Prop} (h : ∀ x v s i, p x v s i -> DoesF P f [.ag (qX5 x), .c (bools v), iV s, iV i] [] (g x v s i) []) : ∀ ys y φ, fFBII g p ys = some (y, φ) -> φ -> DoesF P f ys [] y [] := by
 intro ys y φ he hφ
 unfold fFBII at he
 split at he
 ·simp only [Option.some.injEq, Prod.mk.injEq] at he
  obtain ⟨rfl, rfl⟩ := he
  refine DoesF.conv ?_ (h _ _ _ _ hφ.2.2)
  exact ⟨form_eq hφ.1, hφ.2.1, CVEq.refl _, CVEq.refl _, trivial⟩
 ·cases he
end
end Go.Sy
namespace Go.Proofs.YtgoilpfpmbjegaaGreatDoor
open Go.Sy Go.Pu
variable [Drw]
abbrev blV (l : List Bool) : EV := .c (bools l)
def ofB (f : FormP) (vs : List Bool) (s a : Int) : Bool := if a < f.vars then bit s a.toNat else vs.getD (a - f.vars).toNat false
theorem of_does (f : FormP) (vs : List Bool) (s a : Int) (hv : 0 ≤ f.vars /\ f.vars ≤ 24) (ha : 0 ≤ a /\ a < f.vars + vs.length) : DoesF Tryz.prog 93 [.ag (qX5 f), blV vs, iV s, iV a] [] (sB (ofB f vs s a)) [] := by
 refine DoesF.body _ Tryz.func93 rfl rfl rfl rfl ?_
 obtain ⟨vars, ns, top⟩ := f
 simp only at hv ha
 refine KW.len 1 rfl rfl fun hl => ?_
 refine KW.goIf qQ0 F7_ok 100 rfl (by simp) rfl trivial (fun h => ?_) fun h => ?_
 ·have h1 : a < vars := by simpa using h
  obtain ⟨n, rfl⟩ := Int.eq_ofNat_of_zero_le ha.1
  refine KW.goRet qQ0 F7_ok 100 rfl rfl ?_ (by simp only [inK, qC0]; simp; omega) trivial
  rw [ofB, if_pos (by simpa using h1), Int.toNat_natCast]
  have e : (qK9 .i64 (ishr s n) 1 == 1) = bit s n := by
   rw [ishr_bit s (by omega)]
   cases bit s n <;> rfl
  rw [<-e]; rfl
 ·have h1 : ¬ a < vars := by
   have e : decide (a < vars) = false := h
   rwa [decide_eq_false_iff_not] at e
  refine KW.goRet qQ0 F7_ok 100 rfl rfl ?_ (by simp only [inK]; simp; omega) trivial
  rw [ofB, if_neg (by simpa using h1)]
  rfl
def F8 : Fns := (93, fFBII (fun f vs s a => sB (ofB f vs s a)) fun f vs s a => (0 ≤ f.vars /\ f.vars ≤ 24) /\ (0 ≤ a /\ a < f.vars + vs.length)) ::
 (48, fFI (fun f s => .tup [bV (valV f s), eV (qB5 f s)]) fun f s => FormIn f) ::
 F7
theorem qA0 : FnsOk Tryz.prog F8 := .cons (.cons (F7_ok) Tryz.func48 rfl rfl (fFI_ok fun f s h => value_does f s h)) Tryz.func93 rfl rfl (fFBII_ok fun f vs s a h => of_does f vs s a h.1 h.2)
def nodesV (f : FormP) (s : Int) : List Bool := (valsF f s).drop f.vars.toNat
theorem nodesV_length (f : FormP) (s : Int) : (nodesV f s).length = f.nodes.length := by rw [nodesV, List.length_drop, valsF_length]; omega
theorem ofB_pre {f : FormP} {s : Int} {q : Nat} (hv : 0 ≤ f.vars) (hq : q ≤ f.nodes.length) (pad : List Bool) {a : Int} (h0 : 0 ≤ a) (h1 : a < f.vars + q) :
  ofB f ((valsN f s q).drop f.vars.toNat ++ pad) s a = (valsN f s q).getD a.toNat false := by
 have hl := qC1 f s hq
 unfold ofB
 split
 ·rename_i h
  rw [valsN_pre f s hq (by omega), valsF_event f s (by omega)]
 ·rename_i h
  rw [List.getD_eq_getElem?_getD, List.getElem?_append_left (by rw [List.length_drop]; omega), List.getElem?_drop, List.getD_eq_getElem?_getD]
  congr 2
  omega
theorem rvalues_does (f : FormP) (s : Int) (hin : FormIn f) (h0 : qJ2 f = 0) : DoesF Tryz.prog 94 [.ag (qX5 f), iV s] [] (.e (blV (nodesV f s))) [] := by
 refine DoesF.body _ Tryz.func94 rfl rfl rfl rfl ?_
 obtain ⟨vars, ns, top⟩ := f
 have ok : FormOk ⟨vars, ns, top⟩ := qY1 h0
 have hv := ok.vars
 have hn := ok.len
 simp only at hv hn
 obtain ⟨n, rfl⟩ := Int.eq_ofNat_of_zero_le hv.1
 have e0 : List.replicate (Int.toNat (ns.length : Int)) false = (valsN ⟨n, ns, top⟩ s 0).drop n ++ List.replicate (ns.length - 0) false := by
  rw [List.drop_of_length_le (by rw [qC1 _ _ (Nat.zero_le _)]; simp)]; simp
 refine KW.goLpR qQ0 qA0 100 rfl (I := fun p : Nat => ⟨Tryz.f94.ntmps, [(1, sI s), (2, .e (.r 2)), (5, .e (.r 5)), (16, .e (.c (qJ9 ns))), (17, sI ns.length), (18, sI p)],
   [(2, .box 24 [iV n, .c (qJ9 ns), iV top] none), (5, .own 4 (bools ((valsN ⟨n, ns, top⟩ s p).drop n ++ List.replicate (ns.length - p) false)))]⟩)
  (R := fun p => p ≤ ns.length) (m := fun p => ns.length - p) 0 [(2, 2), (5, 14)] rfl rfl ⟨rfl, rfl, rfl, rfl, rfl, rfl, trivial⟩ (by simp [inK]; omega) (by simp) ⟨rfl, qV8 _ e0, trivial⟩ ?_
 rintro p hp
 have hlen := qC1 ⟨n, ns, top⟩ s hp
 simp only [Int.toNat_natCast] at hlen
 refine KW.goIf qQ0 qA0 100 rfl (by simp) rfl trivial (fun h => ?_) fun h => ?_
 ·have hp' : p < ns.length := by simpa using h
  have okp := ok.nodes p hp'
  simp only at okp
  have hX : ns.getD (Int.toNat (p : Int)) qX1 = ns[p] := by simp [List.getD_eq_getElem?_getD, hp']
  have hinX : NodeIn ns[p] := hin.nodes _ (List.getElem_mem hp')
  have hsucc := valsN_succ ⟨n, ns, top⟩ s hp'
  have hof := fun (a : Int) h0 h1 => ofB_pre (f := ⟨n, ns, top⟩) (s := s) (a := a) (by simp) hp (List.replicate (ns.length - p) false) h0 h1
  simp only [Int.toNat_natCast] at hsucc hof
  generalize ns[p] = X at okp hX hinX hsucc
  have h16 := argsB_le okp.cnt
  generalize hV : valsN ⟨n, ns, top⟩ s p = V at hlen hsucc hof
  have hrl : (V.drop n ++ List.replicate (ns.length - p) false).length = ns.length := by rw [List.length_append, List.length_drop, List.length_replicate]; omega
  generalize hW : V.drop n ++ List.replicate (ns.length - p) false = W at hof hrl
  refine KW.goLpR qQ0 qA0 100 rfl (I := fun j : Nat => ⟨Tryz.f94.ntmps, [(1, sI s), (2, .e (.r 2)), (5, .e (.r 5)), (6, sI p), (7, .e (.r 7)), (8, sI (cntT V (X.args.take j))), (16, .e (.c (qJ9 ns))), (17, sI ns.length), (18, sI p), (24, .e (lV X.args)), (25, sI X.args.length), (26, sI j)],
    [(2, .box 24 [iV n, .c (qJ9 ns), iV top] none), (5, .own 4 (bools W)), (7, .box 65 [iV X.kind, iV X.k, lV X.args] none)]⟩)
   (R := fun j => j ≤ X.args.length) (m := fun j => X.args.length - j) 0 [(2, 2), (5, 5), (7, 7)] rfl rfl ⟨rfl, rfl, rfl, rfl, rfl, rfl, rfl, rfl, rfl, (by rw [<-hX]; rfl), (by rw [<-hX]; rfl), rfl, trivial⟩ (by simp; omega) (by simp) ⟨rfl, by rw [<-hW, <-hV]; rfl, (by rw [<-hX]; rfl), trivial⟩ ?_
  rintro j hj
  have hc := cntT_rng V (X.args.take j)
  have hcl : (X.args.take j).length ≤ 16 := by simp; omega
  refine KW.goIf qQ0 qA0 100 rfl (by simp) rfl trivial (fun h => ?_) fun h => ?_
  ·have hj' : j < X.args.length := by simpa using h
   have hg : X.args.getD (Int.toNat (j : Int)) 0 = X.args[j] := by simp [List.getD_eq_getElem?_getD, hj']
   have ha := okp.args _ (List.getElem_mem hj')
   have ht := cntT_take V X.args hj'
   generalize X.args[j] = a at hg ha ht
   refine KW.goIf qQ0 qA0 100 rfl (by rw [hg]; simp only [qQ1, qQ5, unB_bools, isB_bools, true_and, and_true, hrl]; simp; omega) rfl trivial (fun h => ?_) fun h => ?_
   ·rw [hg] at h
    simp only [qQ1, unB_bools] at h
    refine KW.goToR qQ0 qA0 100 rfl (j + 1) [(2, 2), (5, 5), (7, 7)] rfl rfl ⟨rfl, rfl, rfl, rfl, rfl, ?_, rfl, rfl, rfl, rfl, rfl, rfl, trivial⟩ (by simp only [inK, true_and, and_true]; omega) ⟨by omega, by omega⟩ ⟨rfl, rfl, rfl, trivial⟩
    have e : ofB ⟨n, ns, top⟩ W s a = true := h
    rw [ht, if_pos (by rw [<-hof a ha.1 ha.2]; exact e)]; rfl
   ·rw [hg] at h
    simp only [qQ1, unB_bools] at h
    refine KW.goToR qQ0 qA0 100 rfl (j + 1) [(2, 2), (5, 5), (7, 7)] rfl rfl ⟨rfl, rfl, rfl, rfl, rfl, ?_, rfl, rfl, rfl, rfl, rfl, rfl, trivial⟩ (by simp only [inK, true_and, and_true]; omega) ⟨by omega, by omega⟩ ⟨rfl, rfl, rfl, trivial⟩
    have e : ofB ⟨n, ns, top⟩ W s a = false := h
    rw [ht, if_neg (by rw [<-hof a ha.1 ha.2, e]; decide), Int.add_zero]; rfl
  ·have hj' : j = X.args.length := by simp at h; omega
   subst hj'
   rw [List.take_length] at hc ⊢
   refine KW.goOut qQ0 qA0 100 rfl (by simp) ?_
   have fin : ∀ b, b = nodeV X (cntT V X.args) -> W.set (Int.toNat (p : Int)) b = (valsN ⟨n, ns, top⟩ s (p + 1)).drop n ++ List.replicate (ns.length - (p + 1)) false := fun b hb => by
    rw [hb, hsucc, <-hW, Int.toNat_natCast, List.drop_append_of_le_length (by omega), List.set_append_right _ _ (by rw [List.length_drop]; omega), List.length_drop]
    have e1 : p - (V.length - n) = 0 := by omega
    have e2 : ns.length - p = (ns.length - (p + 1)) + 1 := by omega
    rw [e1, e2, List.replicate_succ, List.set_cons_zero]; simp
   refine KW.goIf qQ0 qA0 100 rfl (by simp) rfl trivial (fun h => ?_) fun h => ?_
   ·have k0 : X.kind = 0 := by simpa using h
    refine KW.go qQ0 qA0 100 rfl (by simp only [inK, true_and, and_true, hrl]; omega) (KW.updB 5 rfl (KW.to (p + 1) ⟨by omega, by omega⟩ [(2, 2), (5, 5)] ⟨rfl, rfl, ⟨rfl, rfl, rfl, rfl, rfl, rfl, trivial⟩, ⟨rfl, qV8 _ (fin _ ?_), trivial⟩⟩))
    simp [nodeV, k0]
    try (rw [Bool.eq_iff_iff]; simp)
   ·have n0 : ¬ X.kind = 0 := by simpa using h
    refine KW.goIf qQ0 qA0 100 rfl (by simp) rfl trivial (fun h => ?_) fun h => ?_
    ·have k1 : X.kind = 1 := by simpa using h
     refine KW.go qQ0 qA0 100 rfl (by simp only [inK, true_and, and_true, hrl]; omega) (KW.updB 5 rfl (KW.to (p + 1) ⟨by omega, by omega⟩ [(2, 2), (5, 5)] ⟨rfl, rfl, ⟨rfl, rfl, rfl, rfl, rfl, rfl, trivial⟩, ⟨rfl, qV8 _ (fin _ ?_), trivial⟩⟩))
     simp [nodeV, k1]
     try (rw [Bool.eq_iff_iff]; simp)
    ·have n1 : ¬ X.kind = 1 := by simpa using h
     refine KW.goIf qQ0 qA0 100 rfl (by simp) rfl trivial (fun h => ?_) fun h => ?_
     ·have k2 : X.kind = 2 := by simpa using h
      refine KW.go qQ0 qA0 100 rfl (by simp only [inK, true_and, and_true, hrl]; omega) (KW.updB 5 rfl (KW.to (p + 1) ⟨by omega, by omega⟩ [(2, 2), (5, 5)] ⟨rfl, rfl, ⟨rfl, rfl, rfl, rfl, rfl, rfl, trivial⟩, ⟨rfl, qV8 _ (fin _ ?_), trivial⟩⟩))
      simp [nodeV, k2]
      try (rw [Bool.eq_iff_iff]; simp)
     ·have n2 : ¬ X.kind = 2 := by simpa using h
      refine KW.goIf qQ0 qA0 100 rfl (by simp) rfl trivial (fun h => ?_) fun h => ?_
      ·have k3 : X.kind = 3 := by simpa using h
       refine KW.go qQ0 qA0 100 rfl (by simp only [inK, true_and, and_true, hrl]; omega) (KW.updB 5 rfl (KW.to (p + 1) ⟨by omega, by omega⟩ [(2, 2), (5, 5)] ⟨rfl, rfl, ⟨rfl, rfl, rfl, rfl, rfl, rfl, trivial⟩, ⟨rfl, qV8 _ (fin _ ?_), trivial⟩⟩))
       simp [nodeV, k3]
       try (rw [Bool.eq_iff_iff]; simp)
      ·have n3 : ¬ X.kind = 3 := by simpa using h
       refine KW.goIf qQ0 qA0 100 rfl (by simp) rfl trivial (fun h => ?_) fun h => ?_
       ·have k4 : X.kind = 4 := by simpa using h
        refine KW.go qQ0 qA0 100 rfl (by simp only [inK, true_and, and_true, hrl]; omega) (KW.updB 5 rfl (KW.to (p + 1) ⟨by omega, by omega⟩ [(2, 2), (5, 5)] ⟨rfl, rfl, ⟨rfl, rfl, rfl, rfl, rfl, rfl, trivial⟩, ⟨rfl, qV8 _ (fin _ ?_), trivial⟩⟩))
        simp [nodeV, k4]
        try (rw [Bool.eq_iff_iff]; simp)
       ·have n4 : ¬ X.kind = 4 := by simpa using h
        have k5 : X.kind = 5 := by have := okp.kind; omega
        refine KW.go qQ0 qA0 100 rfl (by simp only [inK, true_and, and_true, hrl]; omega) (KW.updB 5 rfl (KW.to (p + 1) ⟨by omega, by omega⟩ [(2, 2), (5, 5)] ⟨rfl, rfl, ⟨rfl, rfl, rfl, rfl, rfl, rfl, trivial⟩, ⟨rfl, qV8 _ (fin _ ?_), trivial⟩⟩))
        simp [nodeV, k5]
        rw [Int.tmod_eq_emod_of_nonneg hc.1, Bool.eq_iff_iff]; simp
 ·have hp' : p = ns.length := by simp at h; omega
  refine KW.goOut qQ0 qA0 100 rfl (by simp) ?_
  refine KW.goRetO qQ0 qA0 100 rfl 5 4 rfl rfl rfl ?_ (by simp)
  rw [hp', valsN_all _ _ (Nat.le_refl _), Nat.sub_self]
  simp [nodesV]
end Go.Proofs.YtgoilpfpmbjegaaGreatDoor
end
section
namespace Go.Pu
open Go.Sy
variable [Drw]
theorem getD_set (m : List Bool) (i j : Nat) (b : Bool) : (m.set i b).getD j false = if i = j /\ j < m.length then b else m.getD j false := by
 rw [List.getD_eq_getElem?_getD, List.getElem?_set, List.getD_eq_getElem?_getD]
 by_cases h : i = j
 ·subst h
  by_cases h2 : i < m.length
  ·simp [h2]
  ·simp [h2]
 ·simp [h]
theorem markA_mono (c : Int -> Bool) : ∀ (args : List Int) (m : List Bool) {j : Nat}, m.getD j false = true -> (markA c m args).getD j false = true
 | [], m, j, h => h
 | a :: r, m, j, h => by
   rw [markA_cons]
   refine markA_mono c r _ ?_
   rw [getD_set]
   split
   ·rename_i hh; rw [hh.1, h]; rfl
   ·exact h
theorem markA_set (c : Int -> Bool) : ∀ (args : List Int) (m : List Bool) {a : Int}, a ∈ args -> c a = true -> a.toNat < m.length -> (markA c m args).getD a.toNat false = true
 | b :: r, m, a, ha, hc, hl => by
   rw [markA_cons]
   rcases List.mem_cons.1 ha with rfl | ha
   ·refine markA_mono c r _ ?_
    rw [getD_set, if_pos ⟨rfl, hl⟩, hc, Bool.or_true]
   ·exact markA_set c r _ ha hc (by rw [List.length_set]; exact hl)
theorem markA_far (c : Int -> Bool) : ∀ (args : List Int) (m : List Bool) {j : Nat}, (∀ a ∈ args, a.toNat ≠ j) -> (markA c m args).getD j false = m.getD j false
 | [], m, j, h => rfl
 | a :: r, m, j, h => by
   rw [markA_cons, markA_far c r _ fun b hb => h b (.tail _ hb), getD_set, if_neg (fun hh => h a (.head _) hh.1)]
theorem markN_far {n : Nat} {ns : List NodeP} (c : Nat -> Int -> Bool) (hn : ∀ (q : Nat) (h : q < ns.length), ∀ a ∈ ns[q].args, a.toNat < n + q) : ∀ (i : Nat) (m : List Bool), i ≤ ns.length -> ∀ {j : Nat}, n + i ≤ j -> (markN n ns c i m).getD j false = m.getD j false
 | 0, m, _, j, _ => rfl
 | i + 1, m, hi, j, hj => by
   rw [markN, markN_far c hn i _ (by omega) (by omega)]
   split
   ·refine markA_far _ _ _ fun a ha => ?_
    rw [List.getD_eq_getElem?_getD, List.getElem?_eq_getElem (by omega)] at ha
    have := hn i (by omega) a ha
    omega
   ·rfl
theorem markN_mono {n : Nat} {ns : List NodeP} (c : Nat -> Int -> Bool) : ∀ (i : Nat) (m : List Bool) {j : Nat}, m.getD j false = true -> (markN n ns c i m).getD j false = true
 | 0, m, j, h => h
 | i + 1, m, j, h => by
   rw [markN]
   refine markN_mono c i _ ?_
   split
   ·exact markA_mono _ _ _ h
   ·exact h
theorem markN_closed {n : Nat} {ns : List NodeP} (c : Nat -> Int -> Bool) (hn : ∀ (q : Nat) (h : q < ns.length), ∀ a ∈ ns[q].args, a.toNat < n + q) : ∀ (i : Nat) (m : List Bool), i ≤ ns.length -> m.length = n + ns.length -> ∀ (q : Nat) (h : q < ns.length), q < i -> (markN n ns c i m).getD (n + q) false = true ->
  ∀ a ∈ ns[q].args, c q a = true -> (markN n ns c i m).getD a.toNat false = true
 | 0, m, _, _, q, h, hq, _ => by omega
 | i + 1, m, hi, hl, q, h, hq, hm => by
   intro a ha hc
   rw [markN] at hm ⊢
   by_cases hqi : q = i
   ·subst hqi
    rw [markN_far c hn q _ (by omega) (Nat.le_refl _)] at hm
    have hg : ns.getD q qX1 = ns[q] := by simp [List.getD_eq_getElem?_getD, h]
    split at hm
    ·rename_i h1
     rw [if_pos h1, hg]
     exact markN_mono c q _ (markA_set _ _ _ ha hc (by have := hn q h a ha; omega))
    ·rename_i h1
     exact absurd hm h1
   ·refine markN_closed c hn i _ (by omega) ?_ q h (by omega) hm a ha hc
    split
    ·rw [markA_length]; exact hl
    ·exact hl
theorem FormOk.args_lt {f : FormP} (ok : FormOk f) : ∀ (q : Nat) (h : q < f.nodes.length), ∀ a ∈ f.nodes[q].args, a.toNat < f.vars.toNat + q := fun q h a ha => by
 have h1 := (ok.nodes q h).args a ha
 have h2 := ok.vars
 omega
theorem marksF_closed {f : FormP} (ok : FormOk f) (c : Nat -> Int -> Bool) {q : Nat} (h : q < f.nodes.length) (hm : (marksF f c).getD (f.vars.toNat + q) false = true) {a : Int} (ha : a ∈ f.nodes[q].args) (hc : c q a = true) : (marksF f c).getD a.toNat false = true :=
 markN_closed c ok.args_lt f.nodes.length (mark0 f) (Nat.le_refl _) (mark0_length f) q h h hm a ha hc
theorem marksF_top {f : FormP} (ok : FormOk f) (c : Nat -> Int -> Bool) : (marksF f c).getD f.top.toNat false = true := by
 refine markN_mono c _ _ ?_
 have h1 := ok.top
 have h2 := ok.vars
 have hlt : f.top.toNat < (List.replicate (f.vars.toNat + f.nodes.length) false).length := by simp; omega
 rw [mark0, getD_set, if_pos ⟨rfl, hlt⟩]
theorem cntT_mono {v w : List Bool} : ∀ {args : List Int}, (∀ a ∈ args, v.getD a.toNat false = true -> w.getD a.toNat false = true) -> cntT v args ≤ cntT w args := by
 intro args h
 unfold cntT
 have : (args.filter fun a => v.getD a.toNat false).length ≤ (args.filter fun a => w.getD a.toNat false).length := by
  induction args with
  | nil => simp
  | cons a r ih =>
    have ih' := ih fun b hb => h b (.tail _ hb)
    have ha := h a (.head _)
    rw [List.filter_cons, List.filter_cons]
    split
    ·rename_i hv
     rw [if_pos (ha hv)]; simp only [List.length_cons]; omega
    ·split
     ·simp only [List.length_cons]; omega
     ·exact ih'
 omega
end Go.Pu
end
section
namespace Go.Pu
open Go.Sy
variable [Drw]
def qZ2 (f : FormP) : List Bool := marksF f fun _ _ => true
theorem belowF_length (f : FormP) : (qZ2 f).length = f.vars.toNat + f.nodes.length := marksF_length _ _
def qW6 (n : Nat) (ns : List NodeP) (m : List Bool) : Nat -> List Int × List NodeP
 | 0 => ((List.range (n + ns.length)).map fun i => if i < n then (i : Int) else 0, [])
 | i + 1 => if m.getD (n + i) false = true then ((qW6 n ns m i).1.set (n + i) ((n : Int) + ((qW6 n ns m i).2.length : Int)), (qW6 n ns m i).2 ++ [⟨(ns.getD i qX1).kind, (ns.getD i qX1).k, (ns.getD i qX1).args.map fun a => (qW6 n ns m i).1.getD a.toNat 0⟩])
   else qW6 n ns m i
theorem trimN_succ (n : Nat) (ns : List NodeP) (m : List Bool) (i : Nat) : qW6 n ns m (i + 1) = if m.getD (n + i) false = true then ((qW6 n ns m i).1.set (n + i) ((n : Int) + ((qW6 n ns m i).2.length : Int)), (qW6 n ns m i).2 ++ [⟨(ns.getD i qX1).kind, (ns.getD i qX1).k, (ns.getD i qX1).args.map fun a => (qW6 n ns m i).1.getD a.toNat 0⟩])
  else qW6 n ns m i := rfl
theorem trimN_len (n : Nat) (ns : List NodeP) (m : List Bool) : ∀ i, (qW6 n ns m i).1.length = n + ns.length /\ (qW6 n ns m i).2.length ≤ i
 | 0 => ⟨by simp [qW6], by simp [qW6]⟩
 | i + 1 => by
   have := trimN_len n ns m i
   unfold qW6
   split
   ·simp; omega
   ·exact ⟨this.1, by omega⟩
theorem trimN_kinds (n : Nat) (ns : List NodeP) (m : List Bool) : ∀ i, (qW6 n ns m i).2.map NodeP.kind = ((List.range i).filter fun j => m.getD (n + j) false).map fun j => (ns.getD j qX1).kind
 | 0 => rfl
 | i + 1 => by
   unfold qW6
   rw [List.range_succ, List.filter_append, List.map_append, <-trimN_kinds n ns m i]
   split
   ·rename_i h; simp [h, -List.getD_eq_getElem?_getD]
   ·rename_i h
    have : m.getD (n + i) false = false := by simpa using h
    simp [this, -List.getD_eq_getElem?_getD]
def trimF (f : FormP) : FormP := ⟨f.vars, (qW6 f.vars.toNat f.nodes (qZ2 f) f.nodes.length).2, (qW6 f.vars.toNat f.nodes (qZ2 f) f.nodes.length).1.getD f.top.toNat 0⟩
def cohF (f : FormP) : Bool := (List.range f.nodes.length).all fun i => !((qZ2 f).getD (f.vars.toNat + i) false && ((f.nodes.getD i qX1).kind == 1 || (f.nodes.getD i qX1).kind == 5))
theorem cohF_trim (f : FormP) : cohF f = (trimF f).nodes.all fun x => !(x.kind == 1 || x.kind == 5) := by
 have e : (trimF f).nodes.map NodeP.kind = _ := trimN_kinds f.vars.toNat f.nodes (qZ2 f) f.nodes.length
 have e2 : ((trimF f).nodes.all fun x => !(x.kind == 1 || x.kind == 5)) = ((trimF f).nodes.map NodeP.kind).all fun k => !(k == 1 || k == 5) := by rw [List.all_map]; rfl
 rw [e2, e, List.all_map, List.all_filter, cohF]
 congr 1
 funext i
 simp only [Function.comp_apply]
 cases (qZ2 f).getD (f.vars.toNat + i) false <;> simp
end Go.Pu
namespace Go.Pu
open Go.Sy
variable [Drw]
theorem nodeV_mono {X : NodeP} (hk : 0 ≤ X.kind /\ X.kind ≤ 5) (h1 : ¬ X.kind = 1) (h5 : ¬ X.kind = 5) {c d : Int} (hcd : c ≤ d) (hd : d ≤ X.args.length) (h : nodeV X c = true) : nodeV X d = true := by
 have : X.kind = 0 ∨ X.kind = 2 ∨ X.kind = 3 ∨ X.kind = 4 := by omega
 unfold nodeV at h ⊢
 rcases this with hc | hc | hc | hc <;> simp only [hc, Int.reduceEq, if_true, if_false, decide_eq_true_eq] at h ⊢ <;> omega
theorem coh_node {f : FormP} (hc : cohF f = true) {q : Nat} (hq : q < f.nodes.length) (hm : (qZ2 f).getD (f.vars.toNat + q) false = true) : ¬ f.nodes[q].kind = 1 /\ ¬ f.nodes[q].kind = 5 := by
 unfold cohF at hc
 rw [List.all_eq_true] at hc
 have := hc q (by simpa using hq)
 rw [hm, List.getD_eq_getElem?_getD, List.getElem?_eq_getElem hq] at this
 simpa using this
theorem value_mono {f : FormP} (ok : FormOk f) (hc : cohF f = true) {x y : Int} (h : ∀ i, i < f.vars.toNat -> bit x i = true -> bit y i = true) (hv : qJ5 f x = true) : qJ5 f y = true := by
 have key : ∀ j, j < f.vars.toNat + f.nodes.length -> (qZ2 f).getD j false = true -> (valsF f x).getD j false = true -> (valsF f y).getD j false = true := by
  intro j
  induction j using Nat.strongRecOn with
  | ind j ih =>
    intro hj hm hx
    by_cases hjn : j < f.vars.toNat
    ·rw [valsF_event f x hjn] at hx
     rw [valsF_event f y hjn]
     exact h j hjn hx
    ·obtain ⟨q, rfl⟩ : ∃ q, j = f.vars.toNat + q := ⟨j - f.vars.toNat, by omega⟩
     have hq : q < f.nodes.length := by omega
     rw [valsF_node ok x hq] at hx
     rw [valsF_node ok y hq]
     obtain ⟨k1, k5⟩ := coh_node hc hq hm
     refine nodeV_mono (ok.nodes q hq).kind k1 k5 (cntT_mono fun a ha hax => ?_) (cntT_rng _ _).2 hx
     have hlt := ok.args_lt q hq a ha
     exact ih a.toNat hlt (by omega) (marksF_closed ok (fun _ _ => true) hq hm ha rfl) hax
 have h1 := ok.top
 have h2 := ok.vars
 exact key f.top.toNat (by omega) (marksF_top ok _) hv
section
variable {f : FormP} {n : Nat} {s T : Int}
end
end Go.Pu
end
section
namespace Go.Proofs.YtgoilpfpmbjegaaGreatDoor
open Go.Sy Go.Pu
variable [Drw]
theorem below_does (f : FormP) (hin : FormIn f) (h0 : qJ2 f = 0) : DoesF Tryz.prog 130 [.ag (qX5 f)] [] (.e (blV (qZ2 f))) [] := by
 refine DoesF.body _ Tryz.func130 rfl rfl rfl rfl ?_
 have ok : FormOk f := qY1 h0
 obtain ⟨vars, ns, top⟩ := f
 have hv := ok.vars
 have hn128 := ok.len
 have htop := ok.top
 simp only at hv hn128 htop
 obtain ⟨n, rfl⟩ := Int.eq_ofNat_of_zero_le hv.1
 have hn24 : n ≤ 24 := by omega
 have hm0 := mark0_length ⟨n, ns, top⟩
 simp only [Int.toNat_natCast] at hm0
 refine KW.go qQ0 qA0 100 rfl (by simp [inK]; omega) (KW.updB 13 rfl ?_)
 refine KW.lp (I := fun q : Nat × List Bool => ⟨Tryz.f130.ntmps, [(1, .e (.r 1)), (3, .e (.r 3)), (4, sI ((q.1 : Int) - 1))],
   [(1, .box 24 [iV n, .c (qJ9 ns), iV top] none), (3, .own 4 (bools q.2))]⟩)
  (R := fun q => q.1 ≤ ns.length /\ q.2.length = n + ns.length /\ markN n ns (fun _ _ => true) q.1 q.2 = qZ2 ⟨n, ns, top⟩) (m := fun q => q.1) (ns.length, mark0 ⟨n, ns, top⟩) ⟨Nat.le_refl _, hm0, rfl⟩ [(1, 1), (3, 13)] ⟨rfl, rfl, ⟨rfl, rfl, rfl, trivial⟩, ⟨rfl, qV8 _ ?_, trivial⟩⟩ ?_
 ·show (List.replicate (Int.toNat ((n : Int) + (ns.length : Int))) false).set top.toNat true = mark0 ⟨n, ns, top⟩
  rw [mark0]
  simp only [Int.toNat_natCast]
  congr 2
 rintro ⟨i1, m⟩ ⟨r1, r2, r3⟩
 simp only at r1 r2 r3
 refine KW.goIf qQ0 qA0 100 rfl (by simp) rfl trivial (fun h => ?_) fun h => ?_
 ·obtain ⟨i, rfl⟩ : ∃ i, i1 = i + 1 := ⟨i1 - 1, by simp at h; omega⟩
  have hi : i < ns.length := by omega
  have hii : ((i + 1 : Nat) : Int) - 1 = (i : Int) := by omega
  have hidx : Int.toNat ((n : Int) + (i : Int)) = n + i := by omega
  rw [markN] at r3
  simp only [hii]
  refine KW.goIf qQ0 qA0 100 rfl (by simp only [inK, true_and, and_true, r2]; omega) rfl trivial (fun h => ?_) fun h => ?_
  ·have h3 : m.getD (n + i) false = true := by
    have e : m.getD (Int.toNat ((n : Int) + (i : Int))) false = true := h
    rw [hidx] at e; exact e
   rw [if_pos h3] at r3
   have hX : ns.getD (Int.toNat (i : Int)) qX1 = ns[i] := by simp [List.getD_eq_getElem?_getD, hi]
   have hX2 : ns.getD i qX1 = ns[i] := hX
   have okX := ok.nodes i hi
   rw [hX2] at r3
   simp only at okX
   generalize hXX : ns[i] = X at hX okX r3
   have h16 := argsB_le okX.cnt
   refine KW.goLpR qQ0 qA0 100 rfl (I := fun q : Nat × List Bool => ⟨Tryz.f130.ntmps, [(1, .e (.r 1)), (3, .e (.r 3)), (4, sI (i : Int)), (38, .e (lV X.args)), (39, sI X.args.length), (40, sI q.1)],
     [(1, .box 24 [iV n, .c (qJ9 ns), iV top] none), (3, .own 4 (bools q.2))]⟩)
    (R := fun q => q.1 ≤ X.args.length /\ q.2.length = n + ns.length /\ markN n ns (fun _ _ => true) i (markA (fun _ => true) q.2 (X.args.drop q.1)) = qZ2 ⟨n, ns, top⟩) (m := fun q => X.args.length - q.1) (0, m) [(1, 1), (3, 3)] rfl rfl
    ⟨rfl, rfl, rfl, (by rw [<-hX]; rfl), (by rw [<-hX]; rfl), rfl, trivial⟩ (by simp only [inK, true_and, and_true]; simp; omega) ⟨Nat.zero_le _, r2, r3⟩ ⟨rfl, rfl, trivial⟩ ?_
   rintro ⟨j, m'⟩ ⟨g1, g2, g3⟩
   simp only at g1 g2 g3
   refine KW.goIf qQ0 qA0 100 rfl (by simp) rfl trivial (fun h => ?_) fun h => ?_
   ·have hj : j < X.args.length := by simpa using h
    have hg : X.args.getD (Int.toNat (j : Int)) 0 = X.args[j] := by simp [List.getD_eq_getElem?_getD, hj]
    have ha := okX.args _ (List.getElem_mem hj)
    rw [List.drop_eq_getElem_cons hj, markA_cons, Bool.or_true] at g3
    generalize X.args[j] = a at hg ha g3
    refine KW.go qQ0 qA0 100 rfl (by simp only [inK, true_and, and_true, hg, g2]; omega) (KW.updB 3 rfl ?_)
    simp only [hg]
    exact KW.to (j + 1, m'.set a.toNat true) ⟨⟨by simp only; omega, by simp only [List.length_set]; exact g2, g3⟩, by simp only; omega⟩ [(1, 1), (3, 3)] ⟨rfl, rfl, ⟨rfl, rfl, rfl, rfl, rfl, rfl, trivial⟩, ⟨rfl, rfl, trivial⟩⟩
   ·have hj : j = X.args.length := by simp at h; omega
    rw [hj, List.drop_length] at g3
    refine KW.goOut qQ0 qA0 100 rfl (by simp) ?_
    exact KW.goToR qQ0 qA0 100 rfl (i, m') [(1, 1), (3, 3)] rfl rfl ⟨rfl, rfl, rfl, trivial⟩ (by simp only [inK, true_and, and_true]; omega) ⟨⟨by simp only; omega, g2, g3⟩, by simp only; omega⟩ ⟨rfl, rfl, trivial⟩
  ·have h3 : m.getD (n + i) false = false := by
    have e : m.getD (Int.toNat ((n : Int) + (i : Int))) false = false := h
    rw [hidx] at e; exact e
   rw [if_neg (by rw [h3]; decide)] at r3
   exact KW.goToR qQ0 qA0 100 rfl (i, m) [(1, 1), (3, 3)] rfl rfl ⟨rfl, rfl, rfl, trivial⟩ (by simp only [inK, true_and, and_true]; omega) ⟨⟨by simp only; omega, r2, r3⟩, by simp only; omega⟩ ⟨rfl, rfl, trivial⟩
 ·have hi0 : i1 = 0 := by simp at h; omega
  subst hi0
  replace r3 : m = qZ2 ⟨n, ns, top⟩ := r3
  subst r3
  refine KW.goOut qQ0 qA0 100 rfl (by simp) ?_
  exact KW.goRetO qQ0 qA0 100 rfl 3 2 rfl rfl rfl rfl (by simp)
theorem rbelow_does (f : FormP) (hin : FormIn f) (h0 : qJ2 f = 0) : DoesF Tryz.prog 115 [.ag (qX5 f)] [] (.e (blV (qZ2 f))) [] := by
 refine DoesF.body _ Tryz.func115 rfl rfl rfl rfl ?_
 have ok : FormOk f := qY1 h0
 obtain ⟨vars, ns, top⟩ := f
 have hv := ok.vars
 have hn128 := ok.len
 have htop := ok.top
 simp only at hv hn128 htop
 obtain ⟨n, rfl⟩ := Int.eq_ofNat_of_zero_le hv.1
 have hn24 : n ≤ 24 := by omega
 have hm0 := mark0_length ⟨n, ns, top⟩
 simp only [Int.toNat_natCast] at hm0
 refine KW.go qQ0 qA0 100 rfl (by simp [inK]; omega) (KW.updB 13 rfl ?_)
 refine KW.lp (I := fun q : Nat × List Bool => ⟨Tryz.f115.ntmps, [(1, .e (.r 1)), (3, .e (.r 3)), (4, sI ((q.1 : Int) - 1))],
   [(1, .box 24 [iV n, .c (qJ9 ns), iV top] none), (3, .own 4 (bools q.2))]⟩)
  (R := fun q => q.1 ≤ ns.length /\ q.2.length = n + ns.length /\ markN n ns (fun _ _ => true) q.1 q.2 = qZ2 ⟨n, ns, top⟩) (m := fun q => q.1) (ns.length, mark0 ⟨n, ns, top⟩) ⟨Nat.le_refl _, hm0, rfl⟩ [(1, 1), (3, 13)] ⟨rfl, rfl, ⟨rfl, rfl, rfl, trivial⟩, ⟨rfl, qV8 _ ?_, trivial⟩⟩ ?_
 ·show (List.replicate (Int.toNat ((n : Int) + (ns.length : Int))) false).set top.toNat true = mark0 ⟨n, ns, top⟩
  rw [mark0]
  simp only [Int.toNat_natCast]
  congr 2
 rintro ⟨i1, m⟩ ⟨r1, r2, r3⟩
 simp only at r1 r2 r3
 refine KW.goIf qQ0 qA0 100 rfl (by simp) rfl trivial (fun h => ?_) fun h => ?_
 ·obtain ⟨i, rfl⟩ : ∃ i, i1 = i + 1 := ⟨i1 - 1, by simp at h; omega⟩
  have hi : i < ns.length := by omega
  have hii : ((i + 1 : Nat) : Int) - 1 = (i : Int) := by omega
  have hidx : Int.toNat ((n : Int) + (i : Int)) = n + i := by omega
  rw [markN] at r3
  simp only [hii]
  refine KW.goIf qQ0 qA0 100 rfl (by simp only [inK, true_and, and_true, r2]; omega) rfl trivial (fun h => ?_) fun h => ?_
  ·have h3 : m.getD (n + i) false = false := by
    have e : (!m.getD (Int.toNat ((n : Int) + (i : Int))) false) = true := h
    rw [hidx] at e; simpa using e
   rw [if_neg (by rw [h3]; decide)] at r3
   exact KW.goToR qQ0 qA0 100 rfl (i, m) [(1, 1), (3, 3)] rfl rfl ⟨rfl, rfl, rfl, trivial⟩ (by simp only [inK, true_and, and_true]; omega) ⟨⟨by simp only; omega, r2, r3⟩, by simp only; omega⟩ ⟨rfl, rfl, trivial⟩
  ·have h3 : m.getD (n + i) false = true := by
    have e : (!m.getD (Int.toNat ((n : Int) + (i : Int))) false) = false := h
    rw [hidx] at e; simpa using e
   rw [if_pos h3] at r3
   have hX : ns.getD (Int.toNat (i : Int)) qX1 = ns[i] := by simp [List.getD_eq_getElem?_getD, hi]
   have hX2 : ns.getD i qX1 = ns[i] := hX
   have okX := ok.nodes i hi
   rw [hX2] at r3
   simp only at okX
   generalize hXX : ns[i] = X at hX okX r3
   have h16 := argsB_le okX.cnt
   refine KW.goLpR qQ0 qA0 100 rfl (I := fun q : Nat × List Bool => ⟨Tryz.f115.ntmps, [(1, .e (.r 1)), (3, .e (.r 3)), (4, sI (i : Int)), (39, .e (lV X.args)), (40, sI X.args.length), (41, sI q.1)],
     [(1, .box 24 [iV n, .c (qJ9 ns), iV top] none), (3, .own 4 (bools q.2))]⟩)
    (R := fun q => q.1 ≤ X.args.length /\ q.2.length = n + ns.length /\ markN n ns (fun _ _ => true) i (markA (fun _ => true) q.2 (X.args.drop q.1)) = qZ2 ⟨n, ns, top⟩) (m := fun q => X.args.length - q.1) (0, m) [(1, 1), (3, 3)] rfl rfl
    ⟨rfl, rfl, rfl, (by rw [<-hX]; rfl), (by rw [<-hX]; rfl), rfl, trivial⟩ (by simp only [inK, true_and, and_true]; simp; omega) ⟨Nat.zero_le _, r2, r3⟩ ⟨rfl, rfl, trivial⟩ ?_
   rintro ⟨j, m'⟩ ⟨g1, g2, g3⟩
   simp only at g1 g2 g3
   refine KW.goIf qQ0 qA0 100 rfl (by simp) rfl trivial (fun h => ?_) fun h => ?_
   ·have hj : j < X.args.length := by simpa using h
    have hg : X.args.getD (Int.toNat (j : Int)) 0 = X.args[j] := by simp [List.getD_eq_getElem?_getD, hj]
    have ha := okX.args _ (List.getElem_mem hj)
    rw [List.drop_eq_getElem_cons hj, markA_cons, Bool.or_true] at g3
    generalize X.args[j] = a at hg ha g3
    refine KW.go qQ0 qA0 100 rfl (by simp only [inK, true_and, and_true, hg, g2]; omega) (KW.updB 3 rfl ?_)
    simp only [hg]
    exact KW.to (j + 1, m'.set a.toNat true) ⟨⟨by simp only; omega, by simp only [List.length_set]; exact g2, g3⟩, by simp only; omega⟩ [(1, 1), (3, 3)] ⟨rfl, rfl, ⟨rfl, rfl, rfl, rfl, rfl, rfl, trivial⟩, ⟨rfl, rfl, trivial⟩⟩
   ·have hj : j = X.args.length := by simp at h; omega
    rw [hj, List.drop_length] at g3
    refine KW.goOut qQ0 qA0 100 rfl (by simp) ?_
    exact KW.goToR qQ0 qA0 100 rfl (i, m') [(1, 1), (3, 3)] rfl rfl ⟨rfl, rfl, rfl, trivial⟩ (by simp only [inK, true_and, and_true]; omega) ⟨⟨by simp only; omega, g2, g3⟩, by simp only; omega⟩ ⟨rfl, rfl, trivial⟩
 ·have hi0 : i1 = 0 := by simp at h; omega
  subst hi0
  replace r3 : m = qZ2 ⟨n, ns, top⟩ := r3
  subst r3
  refine KW.goOut qQ0 qA0 100 rfl (by simp) ?_
  exact KW.goRetO qQ0 qA0 100 rfl 3 2 rfl rfl rfl rfl (by simp)
end Go.Proofs.YtgoilpfpmbjegaaGreatDoor
namespace Go.Pu
open Go.Sy
variable [Drw]
def initN (t k : Nat) : List Int := (List.range t).map fun i => if i < k then (i : Int) else 0
theorem initN_set {t k : Nat} : (initN t k).set k (k : Int) = initN t (k + 1) := by
 unfold initN
 refine List.ext_getElem (by simp) fun i h1 h2 => ?_
 rw [List.getElem_set]
 simp only [List.getElem_map, List.getElem_range]
 by_cases h : k = i
 ·subst h; simp
 ·rw [if_neg h]
  by_cases h3 : i < k
  ·rw [if_pos h3, if_pos (by omega)]
  ·rw [if_neg h3, if_neg (by omega)]
end Go.Pu
namespace Go.Proofs.YtgoilpfpmbjegaaGreatDoor
open Go.Sy Go.Pu
variable [Drw]
def G1 : Fns := (130, fF (fun f => .e (blV (qZ2 f))) fun f => FormIn f /\ qJ2 f = 0) ::
 (115, fF (fun f => .e (blV (qZ2 f))) fun f => FormIn f /\ qJ2 f = 0) ::
 F8
theorem G1_ok : FnsOk Tryz.prog G1 := .cons (.cons (qA0) Tryz.func115 rfl rfl (fF_ok fun f h => rbelow_does f h.1 h.2)) Tryz.func130 rfl rfl (fF_ok fun f h => below_does f h.1 h.2)
def trimC (f : FormP) : List CV := if qJ2 f = 0 then qX5 (trimF f) else [.lit (.int .i64 0), .lit (.slice none 0 0), .lit (.int .i64 0)]
theorem trim_does (f : FormP) (hin : FormIn f) : DoesF Tryz.prog 106 [.ag (qX5 f)] [] (.tup [.ag (trimC f), eV (qJ2 f)]) [] := by
 refine DoesF.bodyC qQ0 _ Tryz.func106 rfl rfl rfl rfl ?_
 obtain ⟨vars, ns, top⟩ := f
 refine KW.goIf qQ0 G1_ok 100 rfl (by simp only [qQ1, qQ5, true_and, and_true, qQ7]; exact hin) rfl trivial (fun h => ?_) fun h => ?_
 ·simp only [qQ1] at h
  have h1 : ¬ qJ2 ⟨vars, ns, top⟩ = 0 := by
   have e : (!qY4 (errV 57 (qJ2 ⟨vars, ns, top⟩))) = true := h
   simpa using e
  rw [trimC, if_neg h1]
  refine KW.goRetC qQ0 G1_ok 100 rfl rfl ?_ (by simp) trivial
  simp only [qQ1]
  rfl
 ·simp only [qQ1] at h
  have h0 : qJ2 ⟨vars, ns, top⟩ = 0 := by
   have e : (!qY4 (errV 57 (qJ2 ⟨vars, ns, top⟩))) = false := h
   simpa using e
  rw [trimC, if_pos h0]
  have ok := qY1 h0
  have hv := ok.vars
  have hn128 := ok.len
  have htop := ok.top
  simp only at hv hn128 htop
  obtain ⟨n, rfl⟩ := Int.eq_ofNat_of_zero_le hv.1
  have hn24 : n ≤ 24 := by omega
  refine KW.goLpR qQ0 G1_ok 100 rfl (I := fun q : Nat => ⟨Tryz.f106.ntmps, [(1, .e (.r 1)), (2, .e (.r 2)), (5, .e (.r 5)), (6, .e (.r 6)), (31, sI n), (32, sI q)],
    [(1, .box 24 [iV n, .c (qJ9 ns), iV top] none), (2, .box 24 [iV 0, .c (.lit (.slice none 0 0)), iV 0] none), (5, .box 24 [iV n, .c (.lit (.slice none 0 0)), iV 0] none), (6, .own 3 (qZ5 (initN (n + ns.length) q)))]⟩)
   (R := fun q => q ≤ n) (m := fun q => n - q) 0 [(1, 1), (2, 2), (5, 5), (6, 29)] rfl rfl ⟨rfl, rfl, rfl, rfl, rfl, rfl, trivial⟩ (by simp [inK]; omega) (Nat.zero_le _) ⟨rfl, rfl, rfl, ?_, trivial⟩ ?_
  ·refine qA3 _ ?_
   show List.replicate (Int.toNat ((n : Int) + (ns.length : Int))) (0 : Int) = initN (n + ns.length) 0
   rw [show Int.toNat ((n : Int) + (ns.length : Int)) = n + ns.length by omega]
   refine List.ext_getElem (by simp [initN]) fun i h1 h2 => by simp [initN]
  rintro q hq0
  refine KW.goIf qQ0 G1_ok 100 rfl (by simp) rfl trivial (fun h => ?_) fun h => ?_
  ·have hq : q < n := by simpa using h
   refine KW.go qQ0 G1_ok 100 rfl (by simp [inK, initN]; omega) (KW.updI 6 rfl (KW.to (q + 1) ⟨by omega, by omega⟩ [(1, 1), (2, 2), (5, 5), (6, 6)] ⟨rfl, rfl, ⟨rfl, rfl, rfl, rfl, rfl, rfl, trivial⟩, ⟨rfl, rfl, rfl, qA3 _ ?_, trivial⟩⟩))
   simp only [Int.toNat_natCast]
   exact initN_set
  have hq : q = n := by simp at h; omega
  subst hq
  refine KW.goOut qQ0 G1_ok 100 rfl (by simp) ?_
  clear h
  have hML := belowF_length ⟨q, ns, top⟩
  simp only [Int.toNat_natCast] at hML
  refine KW.goD qQ0 G1_ok rfl 100 rfl (by decide) rfl (by simp) (by simp only [qQ1, qQ5, true_and, and_true, hML]; exact ⟨⟨hin, h0⟩, by omega, by omega, by omega⟩) ?_
  simp only [qQ1]
  generalize hM : qZ2 ⟨q, ns, top⟩ = M at hML
  refine KW.conv 44 (bools (M.drop q)) rfl ⟨by simp, .inr ⟨rfl, fun e p he hp => ?_⟩⟩ ?_
  ·simp [List.getD_eq_getElem?_getD, List.getElem?_drop, Nat.add_comm]
   exact CVEq.refl _
  refine KW.nilB 5 1 201 65 (qJ9 []) rfl rfl rfl rfl rfl ?_
  have ht0 : initN (q + ns.length) q = (qW6 q ns M 0).1 := rfl
  have htl := trimN_len q ns M
  rw [ht0]
  refine KW.goLpR qQ0 G1_ok 100 rfl (I := fun i : Nat => ⟨Tryz.f106.ntmps, [(1, .e (.r 1)), (2, .e (.r 2)), (5, .e (.r 5)), (6, .e (.r 6)), (44, .e (blV (M.drop q))), (45, sI ns.length), (46, sI i)],
    [(1, .box 24 [iV q, .c (qJ9 ns), iV top] none), (2, .box 24 [iV 0, .c (.lit (.slice none 0 0)), iV 0] none), (5, .box 24 [iV q, .r 201, iV 0] none), (6, .own 3 (qZ5 (qW6 q ns M i).1)), (201, .own 65 (qJ9 (qW6 q ns M i).2))]⟩)
   (R := fun i => i ≤ ns.length) (m := fun i => ns.length - i) 0 [(1, 1), (2, 2), (5, 5), (6, 6), (201, 201)] rfl rfl ⟨rfl, rfl, rfl, rfl, rfl, ?_, rfl, trivial⟩ (by simp) (Nat.zero_le _) ⟨rfl, rfl, rfl, rfl, rfl, trivial⟩ ?_
  ·have e : ((((M.length : Nat) : Int).toNat - ((q : Nat) : Int).toNat : Nat) : Int) = (ns.length : Int) := by simp [hML]; omega
   rw [<-e]; rfl
  rintro i hi0
  refine KW.goIf qQ0 G1_ok 100 rfl (by simp) rfl trivial (fun h => ?_) fun h => ?_
  ·have hi : i < ns.length := by simpa using h
   have hX : ns.getD (Int.toNat (i : Int)) qX1 = ns[i] := by simp [List.getD_eq_getElem?_getD, hi]
   have hX2 : ns.getD i qX1 = ns[i] := hX
   have okX := ok.nodes i hi
   have hMd : (M.drop q).getD (Int.toNat (i : Int)) false = M.getD (q + i) false := by
    simp [List.getD_eq_getElem?_getD, List.getElem?_drop]
   have e1 := trimN_succ q ns M i
   refine KW.goIf qQ0 G1_ok 100 rfl (by simp [hML]; try omega) rfl trivial (fun h => ?_) fun h => ?_
   ·have h3 : M.getD (q + i) false = false := by
     have e : (!(M.drop q).getD (Int.toNat (i : Int)) false) = true := h
     rw [hMd] at e; simpa using e
    rw [if_neg (by rw [h3]; decide)] at e1
    refine KW.goToR qQ0 G1_ok 100 rfl (i + 1) [(1, 1), (2, 2), (5, 5), (6, 6), (201, 201)] rfl rfl ⟨rfl, rfl, rfl, rfl, rfl, rfl, rfl, trivial⟩ (by simp [inK]; omega) ⟨by omega, by omega⟩ ⟨rfl, rfl, rfl, ?_, ?_, trivial⟩
    ·rw [e1]; rfl
    ·rw [e1]; rfl
   ·have h3 : M.getD (q + i) false = true := by
     have e : (!(M.drop q).getD (Int.toNat (i : Int)) false) = false := h
     rw [hMd] at e; simpa using e
    rw [if_pos h3, hX2] at e1
    simp only at okX
    generalize hXX : ns[i] = X at hX okX e1
    have hk : (ns.getD (Int.toNat (i : Int)) qX1).args = X.args := by rw [hX]
    generalize hT : qW6 q ns M i = Tr at e1
    obtain ⟨mv, kept⟩ := Tr
    simp only at e1
    have hl := htl i
    rw [hT] at hl
    simp only at hl
    refine KW.go qQ0 G1_ok 100 rfl (by simp [hi]) ?_
    refine KW.nilB 11 2 200 3 (qZ5 []) rfl rfl rfl rfl rfl ?_
    refine KW.goLpR qQ0 G1_ok 100 rfl (I := fun j : Nat => ⟨Tryz.f106.ntmps, [(1, .e (.r 1)), (2, .e (.r 2)), (5, .e (.r 5)), (6, .e (.r 6)), (8, sI i), (11, .e (.r 11)), (44, .e (blV (M.drop q))), (45, sI ns.length), (46, sI i), (64, .e (lV X.args)), (65, sI X.args.length), (66, sI j)],
      [(1, .box 24 [iV q, .c (qJ9 ns), iV top] none), (2, .box 24 [iV 0, .c (.lit (.slice none 0 0)), iV 0] none), (5, .box 24 [iV q, .r 201, iV 0] none), (6, .own 3 (qZ5 mv)), (201, .own 65 (qJ9 kept)),
        (11, .box 65 [iV X.kind, iV X.k, .r 200] none), (200, .own 3 (qZ5 ((X.args.take j).map fun a => mv.getD a.toNat 0)))]⟩)
     (R := fun j => j ≤ X.args.length) (m := fun j => X.args.length - j) 0 [(1, 1), (2, 2), (5, 5), (6, 6), (201, 201), (11, 11), (200, 200)] rfl rfl ⟨rfl, rfl, rfl, rfl, rfl, rfl, rfl, rfl, rfl, ?_, ?_, rfl, trivial⟩ (by simp) (Nat.zero_le _) ⟨rfl, rfl, rfl, ?_, ?_, ?_, ?_, trivial⟩ ?_
    ·rw [<-hX]; rfl
    ·rw [<-hX]; rfl
    ·simp only [hT]; rfl
    ·simp only [hT]; rfl
    ·rw [<-hX]; rfl
    ·rfl
    rintro j hj0
    refine KW.goIf qQ0 G1_ok 100 rfl (by simp) rfl trivial (fun h => ?_) fun h => ?_
    ·have hj : j < X.args.length := by simpa using h
     have hg : X.args.getD (Int.toNat (j : Int)) 0 = X.args[j] := by simp [List.getD_eq_getElem?_getD, hj]
     have ha := okX.args _ (List.getElem_mem hj)
     have htk : X.args.take (j + 1) = X.args.take j ++ [X.args[j]] := by rw [List.take_add_one, List.getElem?_eq_getElem hj]; rfl
     have h16 := argsB_le okX.cnt
     generalize X.args[j] = a at hg ha htk
     refine KW.goDX qQ0 G1_ok rfl 100 rfl 7 rfl (by decide +kernel) (by decide +kernel) rfl rfl (by simp <;> try omega) ?_ ?_
     ·simp only [hg, hl.1]
      have := ha
      simp
      omega
     ·refine KW.goToR qQ0 G1_ok 100 rfl (j + 1) [(1, 1), (2, 2), (5, 5), (6, 6), (201, 201), (11, 11), (200, 77)] rfl rfl ⟨rfl, rfl, rfl, rfl, rfl, rfl, rfl, rfl, rfl, rfl, rfl, rfl, trivial⟩ ?_ ⟨by omega, by omega⟩ ⟨rfl, rfl, rfl, rfl, rfl, rfl, ?_, trivial⟩
      ·simp [inK, List.length_take]
       omega
      ·refine qC3 _ ?_
       rw [htk, List.map_append]
       simp only [hg]
       rfl
    ·have hj : j = X.args.length := by simp at h; omega
     subst hj
     refine KW.goOut qQ0 G1_ok 100 rfl (by simp) ?_
     refine KW.frzB 11 2 200 rfl rfl rfl rfl ?_
     refine KW.go qQ0 G1_ok 100 rfl ?_ (KW.updI 6 rfl (KW.catG 96 ⟨X.kind, X.k, X.args.map fun a => mv.getD a.toNat 0⟩ rfl ?_ (KW.to (i + 1) ⟨by omega, by omega⟩ [(1, 1), (2, 2), (5, 5), (6, 6), (201, 96)] ⟨rfl, rfl, ⟨rfl, rfl, rfl, rfl, rfl, rfl, rfl, trivial⟩, ⟨rfl, rfl, rfl, ?_, ?_, trivial⟩⟩)))
     ·simp [inK, hl.1]
      omega
     ·intro p hp
      match p, hp with
      | 0, _ => exact CVEq.refl (.lit (.int .i64 X.kind))
      | 1, _ => exact CVEq.refl (.lit (.int .i64 X.k))
      | 2, _ =>
        show CVEq (qZ5 ((X.args.take X.args.length).map fun a => mv.getD a.toNat 0)) (qZ5 (X.args.map fun a => mv.getD a.toNat 0))
        rw [List.take_length]; exact CVEq.refl _
     ·rw [e1]
      refine qA3 _ ?_
      rw [show Int.toNat ((q : Int) + (i : Int)) = q + i by omega]
     ·rw [e1]; rfl
  ·have hi : i = ns.length := by simp at h; omega
   subst hi
   refine KW.goOut qQ0 G1_ok 100 rfl (by simp) ?_
   refine KW.frzB 5 1 201 rfl rfl rfl rfl ?_
   refine KW.goRetC qQ0 G1_ok 100 rfl rfl ?_ ?_ trivial
   ·have e : trimF ⟨q, ns, top⟩ = ⟨q, (qW6 q ns M ns.length).2, (qW6 q ns M ns.length).1.getD top.toNat 0⟩ := by
     rw [trimF]
     simp only [Int.toNat_natCast, hM]
    rw [e, h0]; rfl
   ·have := (htl ns.length).1
    simp [this]
    omega
end Go.Proofs.YtgoilpfpmbjegaaGreatDoor
namespace Go.Proofs.YtgoilpfpmbjegaaGreatDoor
open Go.Sy Go.Pu
variable [Drw]
theorem trim_good (f : FormP) (hin : FormIn f) (h0 : qJ2 f = 0) : DoesF Tryz.prog 106 [.ag (qX5 f)] [] (.tup [.ag (qX5 (trimF f)), .c (.lit .nilIface)]) [] := by
 have := trim_does f hin
 rw [trimC, if_pos h0, h0] at this
 exact this
theorem trim_bad (f : FormP) (hin : FormIn f) (h0 : ¬ qJ2 f = 0) : DoesF Tryz.prog 106 [.ag (qX5 f)] [] (.tup [.ag [.lit (.int .i64 0), .lit (.slice none 0 0), .lit (.int .i64 0)], eV (qJ2 f)]) [] := by
 have := trim_does f hin
 rw [trimC, if_neg h0] at this
 exact this
def G2a : Fns := (106, fF (fun f => .tup [.ag (qX5 (trimF f)), .c (.lit .nilIface)]) fun f => FormIn f /\ qJ2 f = 0) ::
 G1
theorem G2a_ok : FnsOk Tryz.prog G2a := .cons (G1_ok) Tryz.func106 rfl rfl (fF_ok fun f h => trim_good f h.1 h.2)
def G2b : Fns := (106, fF (fun f => .tup [.ag [.lit (.int .i64 0), .lit (.slice none 0 0), .lit (.int .i64 0)], eV (qJ2 f)]) fun f => FormIn f /\ ¬ qJ2 f = 0) ::
 G1
theorem G2b_ok : FnsOk Tryz.prog G2b := .cons (G1_ok) Tryz.func106 rfl rfl (fF_ok fun f h => trim_bad f h.1 h.2)
def cohV (f : FormP) : Bool := decide (qJ2 f = 0) && cohF f
theorem syntax_does (f : FormP) (hin : FormIn f) : DoesF Tryz.prog 70 [.ag (qX5 f)] [] (.tup [bV (cohV f), eV (qJ2 f)]) [] := by
 refine DoesF.body _ Tryz.func70 rfl rfl rfl rfl ?_
 by_cases h0 : qJ2 f = 0
 ·have hc : cohV f = (trimF f).nodes.all fun x => !(x.kind == 1 || x.kind == 5) := by rw [<-cohF_trim]; simp [cohV, h0]
  rw [hc, h0]
  have ok := qY1 h0
  have hTl : (trimF f).nodes.length ≤ 128 := by
   have h1 := (trimN_len f.vars.toNat f.nodes (qZ2 f) f.nodes.length).2
   have h2 := ok.len
   exact Nat.le_trans h1 h2
  obtain ⟨vars, ns, top⟩ := f
  refine KW.goIf qQ0 G2a_ok 100 rfl (by simp only [qQ1, qQ5, true_and, and_true]; simp [hin, h0, ifcV]) rfl trivial (fun h => absurd h (by decide)) fun h => ?_
  simp only [qQ1]
  generalize trimF ⟨vars, ns, top⟩ = T at hTl
  obtain ⟨tv, tn, tt⟩ := T
  simp only at hTl
  refine KW.goLpR qQ0 G2a_ok 100 rfl (I := fun i : Nat => ⟨Tryz.f70.ntmps, [(17, .e (.c (qJ9 tn))), (18, sI tn.length), (19, sI i)], []⟩)
   (R := fun i => i ≤ tn.length /\ (tn.drop i).all (fun x => !(x.kind == 1 || x.kind == 5)) = tn.all fun x => !(x.kind == 1 || x.kind == 5)) (m := fun i => tn.length - i) 0 [] rfl rfl ⟨rfl, rfl, rfl, trivial⟩ (by simp) ⟨Nat.zero_le _, rfl⟩ trivial ?_
  rintro i ⟨hi0, hr⟩
  refine KW.goIf qQ0 G2a_ok 100 rfl (by simp) rfl trivial (fun h => ?_) fun h => ?_
  ·have hi : i < tn.length := by simpa using h
   have hX : tn.getD (Int.toNat (i : Int)) qX1 = tn[i] := by simp [List.getD_eq_getElem?_getD, hi]
   rw [List.drop_eq_getElem_cons hi, List.all_cons] at hr
   generalize tn[i] = X at hX hr
   refine KW.goIf qQ0 G2a_ok 100 rfl (by simp [hi]) rfl trivial (fun h => ?_) fun h => ?_
   ·have e : (X.kind == 1 || X.kind == 5) = true := by rw [<-hX]; exact h
    rw [e] at hr
    simp only [Bool.not_true, Bool.false_and] at hr
    refine KW.goOutR qQ0 G2a_ok 100 rfl (by simp) ?_
    refine KW.goRet qQ0 G2a_ok 100 rfl rfl ?_ (by simp) trivial
    simp only [<-hr]; rfl
   ·have e : (X.kind == 1 || X.kind == 5) = false := by rw [<-hX]; exact h
    rw [e] at hr
    simp only [Bool.not_false, Bool.true_and] at hr
    exact KW.goToR qQ0 G2a_ok 100 rfl (i + 1) [] rfl rfl ⟨rfl, rfl, rfl, trivial⟩ (by simp [inK]; omega) ⟨⟨by omega, hr⟩, by omega⟩ trivial
  ·have hi : i = tn.length := by simp at h; omega
   rw [hi, List.drop_length] at hr
   refine KW.goOut qQ0 G2a_ok 100 rfl (by simp) ?_
   refine KW.goRet qQ0 G2a_ok 100 rfl rfl ?_ (by simp) trivial
   simp only [<-hr]; rfl
 ·have hc : cohV f = false := by simp [cohV, h0]
  rw [hc]
  obtain ⟨vars, ns, top⟩ := f
  refine KW.goIf qQ0 G2b_ok 100 rfl (by simp only [qQ1, qQ5, true_and, and_true, qQ7]; exact ⟨hin, h0⟩) rfl trivial (fun h => ?_) fun h => ?_
  ·refine KW.goRet qQ0 G2b_ok 100 rfl rfl ?_ (by simp) trivial
   simp only [qQ1]; rfl
  ·exfalso
   simp only [qQ1] at h
   have e : (!qY4 (errV 57 (qJ2 ⟨vars, ns, top⟩))) = false := h
   exact h0 (by simpa using e)
theorem rsyntax_does (f : FormP) (hin : FormIn f) (h0 : qJ2 f = 0) : DoesF Tryz.prog 113 [.ag (qX5 f)] [] (sB (cohF f)) [] := by
 refine DoesF.body _ Tryz.func113 rfl rfl rfl rfl ?_
 have ok := qY1 h0
 obtain ⟨vars, ns, top⟩ := f
 have hv := ok.vars
 have hn128 := ok.len
 simp only at hv hn128
 obtain ⟨n, rfl⟩ := Int.eq_ofNat_of_zero_le hv.1
 have hML := belowF_length ⟨n, ns, top⟩
 have hco : cohF ⟨n, ns, top⟩ = (List.range ns.length).all fun i => !((qZ2 ⟨n, ns, top⟩).getD (n + i) false && ((ns.getD i qX1).kind == 1 || (ns.getD i qX1).kind == 5)) := rfl
 simp only [Int.toNat_natCast] at hML
 rw [hco]
 refine KW.goLpR qQ0 G1_ok 100 rfl (I := fun i : Nat => ⟨Tryz.f113.ntmps, [(1, .e (.r 1)), (3, .e (blV (qZ2 ⟨n, ns, top⟩))), (9, .e (.c (qJ9 ns))), (10, sI ns.length), (11, sI i)],
   [(1, .box 24 [iV n, .c (qJ9 ns), iV top] none)]⟩)
  (R := fun i => i ≤ ns.length /\ ∀ j, j < i -> (!((qZ2 ⟨n, ns, top⟩).getD (n + j) false && ((ns.getD j qX1).kind == 1 || (ns.getD j qX1).kind == 5))) = true) (m := fun i => ns.length - i) 0 [(1, 1)] rfl rfl ⟨rfl, ?_, rfl, rfl, rfl, trivial⟩ (by simp only [qQ1, qQ5, true_and, and_true]; simp [hin, h0]) ⟨Nat.zero_le _, fun j hj => by omega⟩ ⟨rfl, trivial⟩ ?_
 ·simp only [qQ1]; rfl
 rintro i ⟨hi0, hr⟩
 refine KW.goIf qQ0 G1_ok 100 rfl (by simp) rfl trivial (fun h => ?_) fun h => ?_
 ·have hi : i < ns.length := by simpa using h
  generalize hB : qZ2 ⟨n, ns, top⟩ = M at hML hr
  have hidx : Int.toNat ((n : Int) + (i : Int)) = n + i := by omega
  refine KW.goIf qQ0 G1_ok 100 rfl (by simp +contextual [hi, hML, inK]; omega) rfl trivial (fun h => ?_) fun h => ?_
  ·have e : (M.getD (n + i) false && ((ns.getD i qX1).kind == 1 || (ns.getD i qX1).kind == 5)) = true := by
    rw [<-hidx]; exact h
   refine KW.goOutR qQ0 G1_ok 100 rfl (by simp) ?_
   refine KW.goRet qQ0 G1_ok 100 rfl rfl ?_ (by simp) trivial
   have e2 : ((List.range ns.length).all fun i => !(M.getD (n + i) false && ((ns.getD i qX1).kind == 1 || (ns.getD i qX1).kind == 5))) = false := by
    rw [List.all_eq_false]
    exact ⟨i, by simpa using hi, by rw [e]; decide⟩
   rw [e2]; rfl
  ·have e : (M.getD (n + i) false && ((ns.getD i qX1).kind == 1 || (ns.getD i qX1).kind == 5)) = false := by
    rw [<-hidx]; exact h
   refine KW.goToR qQ0 G1_ok 100 rfl (i + 1) [(1, 1)] rfl rfl ⟨rfl, rfl, rfl, rfl, rfl, trivial⟩ (by simp [inK]; omega) ⟨⟨by omega, fun j hj => ?_⟩, by omega⟩ ⟨rfl, trivial⟩
   by_cases hji : j = i
   ·subst hji; rw [e]; rfl
   ·exact hr j (by omega)
 ·have hi : i = ns.length := by simp at h; omega
  refine KW.goOut qQ0 G1_ok 100 rfl (by simp) ?_
  refine KW.goRet qQ0 G1_ok 100 rfl rfl ?_ (by simp) trivial
  have e2 : ((List.range ns.length).all fun i => !((qZ2 ⟨n, ns, top⟩).getD (n + i) false && ((ns.getD i qX1).kind == 1 || (ns.getD i qX1).kind == 5))) = true := by
   rw [List.all_eq_true]
   exact fun j hj => hr j (by rw [hi]; simpa using hj)
  rw [e2]; rfl
end Go.Proofs.YtgoilpfpmbjegaaGreatDoor
end
section
namespace Go.Pu
open Go.Sy
variable [Drw]
def fFIB (g : FormP -> Int -> Bool -> SV) (p : FormP -> Int -> Bool -> Prop) : List EV -> Option (SV × Prop)
 | [.ag [.lit (.int .i64 a), x, .lit (.int .i64 b)], .c (.lit (.int .i64 s)), .c (.lit (.bool c))] => some (g ⟨a, unN x, b⟩ s c, isN x /\ p ⟨a, unN x, b⟩ s c)
 | _ => none
theorem fFIB_ok {P : Program} {f : FuncId} {g : FormP -> Int -> Bool -> SV} {p : FormP -> Int -> Bool -> Prop} (h : ∀ x s c, p x s c -> DoesF P f [.ag (qX5 x), iV s, bV c] [] (g x s c) []) : ∀ ys y φ, fFIB g p ys = some (y, φ) -> φ -> DoesF P f ys [] y [] := by
 intro ys y φ he hφ
 unfold fFIB at he
 split at he
 ·simp only [Option.some.injEq, Prod.mk.injEq] at he
  obtain ⟨rfl, rfl⟩ := he
  refine DoesF.conv ?_ (h _ _ _ hφ.2)
  exact ⟨form_eq hφ.1, CVEq.refl _, CVEq.refl _, trivial⟩
 ·cases he
end Go.Pu
namespace Go.Proofs.YtgoilpfpmbjegaaGreatDoor
open Go.Sy Go.Pu
variable [Drw]
def G3 : Fns := (70, fF (fun f => .tup [bV (cohV f), eV (qJ2 f)]) FormIn) ::
 (113, fF (fun f => sB (cohF f)) fun f => FormIn f /\ qJ2 f = 0) ::
 G1
theorem G3_ok : FnsOk Tryz.prog G3 := .cons (.cons (G1_ok) Tryz.func113 rfl rfl (fF_ok fun f h => rsyntax_does f h.1 h.2)) Tryz.func70 rfl rfl (fF_ok fun f h => syntax_does f h)
def qV7 (f : FormP) : Int := if qJ2 f = 0 then if cohF f = true then 0 else 7 else qJ2 f
theorem pcheck_does (f : FormP) (hin : FormIn f) : DoesF Tryz.prog 107 [.ag (qX5 f)] [] (.e (eV (qV7 f))) [] := by
 refine DoesF.body _ Tryz.func107 rfl rfl rfl rfl ?_
 obtain ⟨vars, ns, top⟩ := f
 refine KW.goIf qQ0 G3_ok 100 rfl (by simp only [qQ1, qQ5, true_and, and_true, qQ7]; simp [hin]) rfl trivial (fun h => ?_) fun h => ?_
 ·simp only [qQ1] at h
  have e : (qY4 (errV 57 (qJ2 ⟨vars, ns, top⟩)) && !cohV ⟨vars, ns, top⟩) = true := h
  have h1 : qJ2 ⟨vars, ns, top⟩ = 0 /\ cohF ⟨vars, ns, top⟩ = false := by
   simp only [Bool.and_eq_true, cohV] at e
   have h1 : qJ2 ⟨vars, ns, top⟩ = 0 := by simpa using e.1
   exact ⟨h1, by simpa [h1] using e.2⟩
  have e2 : qV7 ⟨vars, ns, top⟩ = 7 := by simp [qV7, h1]
  refine KW.goRet qQ0 G3_ok 100 rfl rfl ?_ (by simp) trivial
  rw [e2]; rfl
 ·simp only [qQ1] at h
  have e : (qY4 (errV 57 (qJ2 ⟨vars, ns, top⟩)) && !cohV ⟨vars, ns, top⟩) = false := h
  have e2 : qV7 ⟨vars, ns, top⟩ = qJ2 ⟨vars, ns, top⟩ := by
   by_cases h1 : qJ2 ⟨vars, ns, top⟩ = 0
   ·have h2 : cohF ⟨vars, ns, top⟩ = true := by simpa [h1, cohV] using e
    simp [qV7, h1, h2]
   ·simp [qV7, h1]
  refine KW.goRet qQ0 G3_ok 100 rfl rfl ?_ (by simp) trivial
  simp only [qQ1, e2]; rfl
def G4 : Fns := (107, fF (fun f => .e (eV (qV7 f))) FormIn) ::
 G3
theorem G4_ok : FnsOk Tryz.prog G4 := .cons (G3_ok) Tryz.func107 rfl rfl (fF_ok fun f h => pcheck_does f h)
def qK6 (f : FormP) (s : Int) : Int := if qV7 f = 0 then if 0 ≤ s /\ s < qW0 1 f.vars then 0 else 3 else qV7 f
theorem checked_does (f : FormP) (s : Int) (hin : FormIn f) : DoesF Tryz.prog 123 [.ag (qX5 f), iV s] [] (.e (eV (qK6 f s))) [] := by
 refine DoesF.body _ Tryz.func123 rfl rfl rfl rfl ?_
 obtain ⟨vars, ns, top⟩ := f
 refine KW.goIf qQ0 G4_ok 100 rfl (by simp only [qQ1, qQ5, true_and, and_true, qQ7]; simp [hin]) rfl trivial (fun h => ?_) fun h => ?_
 ·simp only [qQ1] at h
  have h1 : ¬ qV7 ⟨vars, ns, top⟩ = 0 := by
   have e : (!qY4 (errV 57 (qV7 ⟨vars, ns, top⟩))) = true := h
   simpa using e
  have e2 : qK6 ⟨vars, ns, top⟩ s = qV7 ⟨vars, ns, top⟩ := by simp [qK6, h1]
  refine KW.goRet qQ0 G4_ok 100 rfl rfl ?_ (by simp) trivial
  simp only [qQ1, e2]; rfl
 ·simp only [qQ1] at h
  have h1 : qV7 ⟨vars, ns, top⟩ = 0 := by
   have e : (!qY4 (errV 57 (qV7 ⟨vars, ns, top⟩))) = false := h
   simpa using e
  have h0 : qJ2 ⟨vars, ns, top⟩ = 0 := by
   unfold qV7 at h1
   split at h1
   ·assumption
   ·exact h1
  have hv := (qY1 h0).vars
  simp only at hv
  have hsr := shl_rng hv
  refine KW.goIf qQ0 G4_ok 100 rfl (by simp [inK, qC0]; intros; omega) rfl trivial (fun h => ?_) fun h => ?_
  ·have h2 : ¬ (0 ≤ s /\ s < qW0 1 vars) := by
    have e : (decide (s < 0) || decide (s ≥ qW0 1 vars)) = true := h
    simp at e; omega
   have e2 : qK6 ⟨vars, ns, top⟩ s = 3 := by simp only [qK6, h1, if_true]; rw [if_neg h2]
   refine KW.goRet qQ0 G4_ok 100 rfl rfl ?_ (by simp) trivial
   rw [e2]; rfl
  ·have h2 : 0 ≤ s /\ s < qW0 1 vars := by
    have e : (decide (s < 0) || decide (s ≥ qW0 1 vars)) = false := h
    simp at e; omega
   have e2 : qK6 ⟨vars, ns, top⟩ s = 0 := by simp only [qK6, h1, if_true]; rw [if_pos h2]
   refine KW.goRet qQ0 G4_ok 100 rfl rfl ?_ (by simp) trivial
   rw [e2]; rfl
def G5 : Fns := (123, fFI (fun f s => .e (eV (qK6 f s))) fun f s => FormIn f) ::
 G4
theorem G5_ok : FnsOk Tryz.prog G5 := .cons (G4_ok) Tryz.func123 rfl rfl (fFI_ok fun f s h => checked_does f s h)
def cmplF (f : FormP) (s : Int) (b : Bool) : Int := if b = true then qQ4 .i64 (qW0 1 f.vars - 1) s else s
theorem cuts_does (f : FormP) (s : Int) (b : Bool) (hin : FormIn f) (h0 : qJ2 f = 0) : DoesF Tryz.prog 124 [.ag (qX5 f), iV s, bV b] [] (.tup [bV (valV f (cmplF f s b) != b), eV (qB5 f (cmplF f s b))]) [] := by
 refine DoesF.body _ Tryz.func124 rfl rfl rfl rfl ?_
 obtain ⟨vars, ns, top⟩ := f
 have hv := (qY1 h0).vars
 simp only at hv
 have hsr := shl_rng hv
 refine KW.goIf qQ0 G5_ok 100 rfl (by simp) rfl trivial (fun h => ?_) fun h => ?_
 ·subst h
  refine KW.goRet qQ0 G5_ok 100 rfl rfl ?_ (by simp only [qQ1, qQ5, true_and, and_true, inK, qC0]; simp [hin]; omega) trivial
  simp only [qQ1]; rfl
 ·subst h
  refine KW.goRet qQ0 G5_ok 100 rfl rfl ?_ (by simp only [qQ1, qQ5, true_and, and_true, inK, qC0]; simp [hin]) trivial
  simp only [qQ1]; rfl
def G6 : Fns := (124, fFIB (fun f s b => .tup [bV (valV f (cmplF f s b) != b), eV (qB5 f (cmplF f s b))]) fun f s b => FormIn f /\ qJ2 f = 0) ::
 G5
theorem G6_ok : FnsOk Tryz.prog G6 := .cons (G5_ok) Tryz.func124 rfl rfl (fFIB_ok fun f s b h => cuts_does f s b h.1 h.2)
theorem pathSE_ok {f : FormP} {s : Int} (h : qK6 f s = 0) : qJ2 f = 0 /\ cohF f = true /\ 0 ≤ s /\ s < qW0 1 f.vars := by
 unfold qK6 at h
 split at h
 ·rename_i h1
  split at h
  ·rename_i h2
   unfold qV7 at h1
   split at h1
   ·rename_i h3
    split at h1
    ·rename_i h4; exact ⟨h3, h4, h2⟩
    ·exact absurd h1 (by decide)
   ·rename_i h3; exact absurd h1 h3
  ·exact absurd h (by decide)
 ·rename_i h1; exact absurd h h1
theorem cmpl_in {f : FormP} {n : Nat} (hn : f.vars = n) (hn24 : n ≤ 24) {s : Int} (hs : inN n s) (b : Bool) : inN n (cmplF f s b) := by
 unfold cmplF
 split
 ·rw [hn, show qW0 1 (n : Int) - 1 = allN n by have := Nat.two_pow_pos n; rw [qC4, allN]; omega]
  exact qW7 hn24 (inN_allN hn24)
 ·exact hs
theorem cmpl_state {f : FormP} {n : Nat} (h0 : qJ2 f = 0) (hn : f.vars = n) {s : Int} (hs : inN n s) (b : Bool) : qB5 f (cmplF f s b) = 0 := by
 have hv := (qY1 h0).vars
 have hn24 : n ≤ 24 := by omega
 have := (inN_iff hn24).1 (cmpl_in hn hn24 hs b)
 exact stateE_eq h0 ⟨this.1, by rw [hn, qC4]; exact this.2⟩
def isP (f : FormP) (s : Int) (b : Bool) : Bool := qJ5 f (cmplF f s b) != b
def isV (f : FormP) (s : Int) (b : Bool) : Bool := decide (qK6 f s = 0) && isP f s b
theorem pis_does (f : FormP) (s : Int) (b : Bool) (hin : FormIn f) : DoesF Tryz.prog 90 [.ag (qX5 f), iV s, bV b] [] (.tup [bV (isV f s b), eV (qK6 f s)]) [] := by
 refine DoesF.body _ Tryz.func90 rfl rfl rfl rfl ?_
 obtain ⟨vars, ns, top⟩ := f
 refine KW.goIf qQ0 G6_ok 100 rfl (by simp only [qQ1, qQ5, true_and, and_true, qQ7]; simp [hin]) rfl trivial (fun h => ?_) fun h => ?_
 ·simp only [qQ1] at h
  have h1 : ¬ qK6 ⟨vars, ns, top⟩ s = 0 := by
   have e : (!qY4 (errV 57 (qK6 ⟨vars, ns, top⟩ s))) = true := h
   simpa using e
  have e2 : isV ⟨vars, ns, top⟩ s b = false := by simp [isV, h1]
  refine KW.goRet qQ0 G6_ok 100 rfl rfl ?_ (by simp) trivial
  simp only [qQ1, e2]; rfl
 ·simp only [qQ1] at h
  have h1 : qK6 ⟨vars, ns, top⟩ s = 0 := by
   have e : (!qY4 (errV 57 (qK6 ⟨vars, ns, top⟩ s))) = false := h
   simpa using e
  obtain ⟨h0, hc, hs⟩ := pathSE_ok h1
  have hv := (qY1 h0).vars
  simp only at hv hs
  obtain ⟨n, rfl⟩ := Int.eq_ofNat_of_zero_le hv.1
  have hsn : inN n s := (inN_iff (by omega)).2 ⟨hs.1, by rw [<-qC4]; exact hs.2⟩
  have e3 := cmpl_state (f := ⟨n, ns, top⟩) h0 rfl hsn b
  have e4 : valV ⟨n, ns, top⟩ (cmplF ⟨n, ns, top⟩ s b) = qJ5 ⟨n, ns, top⟩ (cmplF ⟨n, ns, top⟩ s b) := by simp [valV, e3]
  have e2 : isV ⟨n, ns, top⟩ s b = (qJ5 ⟨n, ns, top⟩ (cmplF ⟨n, ns, top⟩ s b) != b) := by simp [isV, isP, h1]
  refine KW.goRet qQ0 G6_ok 100 rfl rfl ?_ (by simp only [qQ1, qQ5, true_and, and_true, qQ7]; simp [hin, h0]) trivial
  simp only [qQ1, e2, e3, e4, h1]
  simp [SV.ren, renL, EV.ren]
end Go.Proofs.YtgoilpfpmbjegaaGreatDoor
namespace Go.Proofs.YtgoilpfpmbjegaaGreatDoor
open Go.Sy Go.Pu
variable [Drw]
def G7 : Fns := (90, fFIB (fun f s b => .tup [bV (isV f s b), eV (qK6 f s)]) fun f s b => FormIn f) ::
 G6
theorem G7_ok : FnsOk Tryz.prog G7 := .cons (G6_ok) Tryz.func90 rfl rfl (fFIB_ok fun f s b h => pis_does f s b h)
def minP (f : FormP) (s : Int) (b : Bool) (n : Nat) : Bool := isP f s b && (List.range n).all fun i => !bit s i || !isP f (qQ4 .i64 s (Go.Pu.one i)) b
def minV (f : FormP) (s : Int) (b : Bool) : Bool := decide (qK6 f s = 0) && minP f s b f.vars.toNat
def G8 : Fns := G7
theorem G8_ok : FnsOk Tryz.prog G8 := G7_ok
def G9 : Fns := G8
theorem G9_ok : FnsOk Tryz.prog G9 := G8_ok
theorem isP_cut (f : FormP) (x : Int) : isP f x false = qJ5 f x := by simp [isP, cmplF]
theorem isP_path {f : FormP} {n : Nat} (hn : f.vars = n) (x : Int) : isP f x true = !qJ5 f (qQ4 .i64 (allN n) x) := by
 have e : qW0 1 (n : Int) - 1 = allN n := by have := Nat.two_pow_pos n; rw [qC4, allN]; omega
 simp only [isP, cmplF, hn, e, if_true]
 cases qJ5 f (qQ4 .i64 (allN n) x) <;> rfl
theorem minP_iff {f : FormP} {T : Int} {b : Bool} {n : Nat} : minP f T b n = true ↔ isP f T b = true /\ ∀ i, i < n -> bit T i = true -> isP f (qQ4 .i64 T (Go.Pu.one i)) b = false := by
 simp only [minP, Bool.and_eq_true, List.all_eq_true, List.mem_range, Bool.or_eq_true, Bool.not_eq_true']
 refine and_congr Iff.rfl ⟨fun h i hi hb => ?_, fun h i hi => ?_⟩
 ·rcases h i hi with h1 | h1
  ·rw [hb] at h1; cases h1
  ·exact h1
 ·cases hb : bit T i with
  | false => exact .inl rfl
  | true => exact .inr (h i hi hb)
end Go.Proofs.YtgoilpfpmbjegaaGreatDoor
end
section
namespace Go.Proofs.YtgoilpfpmbjegaaGreatDoor
open Go.Sy Go.Pu
variable [Drw]
theorem rerror_does (l : List Int) : DoesF Tryz.prog 84 [.c (qZ5 l)] [] (sI (qV0 l)) [] := by
 refine DoesF.body _ Tryz.func84 rfl rfl rfl rfl ?_
 refine KW.len 0 rfl rfl fun hla => ?_
 refine KW.goIf qQ0 qJ4 100 rfl (by simp) rfl trivial (fun h => ?_) fun h => ?_
 ·refine KW.goRet qQ0 qJ4 100 rfl rfl ?_ (by simp) trivial
  have hl : 1024 < l.length := by simp at h; omega
  rw [qV0, if_pos hl]; rfl
 ·have hl : ¬ 1024 < l.length := by simp at h; omega
  refine KW.goLp qQ0 qJ4 100 rfl (I := fun q : Nat => ⟨Tryz.f84.ntmps, [(8, .e (.c (qZ5 l))), (9, sI l.length), (10, sI q)], []⟩) (R := fun q => q ≤ l.length /\ (l.take q).all qQ6 = true) (m := fun q => l.length - q) 0 rfl ⟨rfl, rfl, rfl, trivial⟩ (by simp) ⟨by simp, by simp⟩ trivial ?_
  rintro q ⟨h1, h2⟩
  refine KW.goIf qQ0 qJ4 100 rfl (by simp) rfl trivial (fun h => ?_) fun h => ?_
  ·have hq : q < l.length := by simpa using h
   refine KW.goIf qQ0 qJ4 100 rfl (by simp; omega) rfl trivial (fun h => ?_) fun h => ?_
   ·refine KW.goOutR qQ0 qJ4 100 rfl (by simp) ?_
    refine KW.goRet qQ0 qJ4 100 rfl rfl ?_ (by simp) trivial
    have hv : qQ6 l[q] = false := by simpa [List.getD_eq_getElem?_getD, hq] using h
    have : l.all qQ6 = false := by
     rw [List.all_eq_false]
     exact ⟨l[q], List.getElem_mem hq, by simp [hv]⟩
    rw [qV0, if_neg hl, this]; rfl
   ·refine KW.goTo qQ0 qJ4 100 rfl (q + 1) rfl ⟨rfl, rfl, rfl, trivial⟩ (by simp [inK]; omega) ⟨⟨by omega, ?_⟩, by omega⟩ trivial
    have hv : qQ6 l[q] = true := by simpa [List.getD_eq_getElem?_getD, hq] using h
    rw [List.take_succ_eq_append_getElem hq, List.all_append, h2]
    simp [hv]
  ·have hq : q = l.length := by simp at h; omega
   refine KW.goOut qQ0 qJ4 100 rfl (by simp) ?_
   refine KW.goRet qQ0 qJ4 100 rfl rfl ?_ (by simp) trivial
   rw [hq, List.take_length] at h2
   rw [qV0, if_neg hl, h2]; rfl
theorem lists_does (ls : List (List Int)) : DoesF Tryz.prog 111 [.c (intss ls)] [] (.e (.c (.lit (errV 57 (listsE ls))))) [] := by
 refine DoesF.body _ Tryz.func111 rfl rfl rfl rfl ?_
 refine KW.len 0 rfl rfl fun hla => ?_
 refine KW.goLp qQ0 qJ4 100 rfl (I := fun q : Nat => ⟨Tryz.f111.ntmps, [(7, .e (.c (intss ls))), (8, sI ls.length), (9, sI q)], []⟩) (R := fun q => q ≤ ls.length /\ listsE ls = listsE (ls.drop q)) (m := fun q => ls.length - q) 0 rfl ⟨rfl, rfl, rfl, trivial⟩ (by simp) ⟨by simp, by simp⟩ trivial ?_
 rintro q ⟨h1, h2⟩
 refine KW.goIf qQ0 qJ4 100 rfl (by simp) rfl trivial (fun h => ?_) fun h => ?_
 ·have hq : q < ls.length := by simpa using h
  have hd : ls.drop q = ls[q] :: ls.drop (q + 1) := List.drop_eq_getElem_cons hq
  have hg : ls.getD (Int.toNat (q : Int)) [] = ls[q] := by simp [List.getD_eq_getElem?_getD, hq]
  refine KW.goIf qQ0 qJ4 100 rfl (by simp; omega) rfl trivial (fun h => ?_) fun h => ?_
  ·refine KW.goOutR qQ0 qJ4 100 rfl (by simp) ?_
   refine KW.goRet qQ0 qJ4 100 rfl rfl ?_ (by simp) trivial
   have hl : 1024 < ls[q].length := by rw [hg] at h; simp at h; omega
   have e : qV0 ls[q] = 4 := by rw [qV0, if_pos hl]
   rw [h2, hd, listsE, if_neg (by rw [e]; decide), e]; rfl
  ·have hl : ¬ 1024 < ls[q].length := by rw [hg] at h; simp at h; omega
   refine KW.goLp qQ0 qJ4 100 rfl (I := fun p : Nat => ⟨Tryz.f111.ntmps, [(7, .e (.c (intss ls))), (8, sI ls.length), (9, sI q), (17, .e (.c (qZ5 ls[q]))), (18, sI ls[q].length), (19, sI p)], []⟩) (R := fun p => p ≤ ls[q].length /\ (ls[q].take p).all qQ6 = true) (m := fun p => ls[q].length - p) 0 rfl ⟨rfl, rfl, rfl, by rw [<-hg]; rfl, by rw [<-hg]; rfl, rfl, trivial⟩ (by simp) ⟨by simp, by simp⟩ trivial ?_
   rintro p ⟨g1, g2⟩
   refine KW.goIf qQ0 qJ4 100 rfl (by simp) rfl trivial (fun h => ?_) fun h => ?_
   ·have hp : p < ls[q].length := by simpa using h
    refine KW.goIf qQ0 qJ4 100 rfl (by simp; omega) rfl trivial (fun h => ?_) fun h => ?_
    ·refine KW.goOutR qQ0 qJ4 100 rfl (by simp) ?_
     refine KW.goOutR qQ0 qJ4 100 rfl (by simp) ?_
     refine KW.goRet qQ0 qJ4 100 rfl rfl ?_ (by simp) trivial
     have hv : qQ6 ls[q][p] = false := by simpa [List.getD_eq_getElem?_getD, hp] using h
     have : ls[q].all qQ6 = false := by
      rw [List.all_eq_false]
      exact ⟨ls[q][p], List.getElem_mem hp, by simp [hv]⟩
     have e : qV0 ls[q] = 3 := by rw [qV0, if_neg hl, this]; rfl
     rw [h2, hd, listsE, if_neg (by rw [e]; decide), e]; rfl
    ·refine KW.goTo qQ0 qJ4 100 rfl (p + 1) rfl ⟨rfl, rfl, rfl, rfl, rfl, rfl, trivial⟩ (by simp [inK]; omega) ⟨⟨by omega, ?_⟩, by omega⟩ trivial
     have hv : qQ6 ls[q][p] = true := by simpa [List.getD_eq_getElem?_getD, hp] using h
     rw [List.take_succ_eq_append_getElem hp, List.all_append, g2]
     simp [hv]
   ·have hp : p = ls[q].length := by simp at h; omega
    refine KW.goOut qQ0 qJ4 100 rfl (by simp) ?_
    refine KW.goTo qQ0 qJ4 100 rfl (q + 1) rfl ⟨rfl, rfl, rfl, trivial⟩ (by simp [inK]; omega) ⟨⟨by omega, ?_⟩, by omega⟩ trivial
    rw [hp, List.take_length] at g2
    have e : qV0 ls[q] = 0 := by rw [qV0, if_neg hl, g2]; rfl
    rw [h2, hd, listsE, if_pos e]
 ·have hq : q = ls.length := by simp at h; omega
  refine KW.goOut qQ0 qJ4 100 rfl (by simp) ?_
  refine KW.goRet qQ0 qJ4 100 rfl rfl ?_ (by simp) trivial
  rw [h2, hq, List.drop_length]; rfl
end Go.Proofs.YtgoilpfpmbjegaaGreatDoor
namespace Go.Proofs.YtgoilpfpmbjegaaGreatDoor
open Go.Sy Go.Pu
variable [Drw]
def Clo (P : Program) (g m : Nat) (ks : Nat -> Nat) (caps : Nat -> Nat -> CV) (p : Int -> Bool) (xs : List Int) : Prop :=
 (∀ args w, (callFunc g args).run P w = .ok (.enter g args) w) /\ ∀ x ∈ xs, DoesF P g (iV x :: capE ks caps m 0) [] (sB (p x)) []
theorem indexFunc_does {g m : Nat} {ks : Nat -> Nat} {caps : Nat -> Nat -> CV} {p : Int -> Bool} (xs : List Int) (hc : Clo Tryz.prog g m ks caps p xs) : ∃ z : Int, (0 ≤ z ↔ xs.any p = true) /\
  DoesF Tryz.prog 86 [.c (qZ5 xs), .c (.clo g m ks caps)] [] (sI z) [] := by
 refine ⟨if xs.any p then (xs.findIdx p : Int) else -1, by split <;> simp_all, ?_⟩
 refine DoesF.body _ Tryz.func86 rfl rfl rfl rfl ?_
 refine KW.len 0 rfl rfl fun hla => ?_
 refine KW.goLp qQ0 qJ4 100 rfl (I := fun q : Nat => ⟨Tryz.f86.ntmps, [(0, .e (.c (qZ5 xs))), (1, .e (.c (.clo g m ks caps))), (7, sI xs.length), (8, sI q)], []⟩) (R := fun q => q ≤ xs.length /\ (xs.take q).any p = false) (m := fun q => xs.length - q) 0 rfl ⟨rfl, rfl, rfl, rfl, trivial⟩ (by simp) ⟨by simp, by simp⟩ trivial ?_
 rintro q ⟨h1, h2⟩
 have h2' : ∀ x ∈ xs.take q, p x = false := by simpa [List.any_eq_false] using h2
 refine KW.goIf qQ0 qJ4 100 rfl (by simp) rfl trivial (fun h => ?_) fun h => ?_
 ·have hq : q < xs.length := by simpa using h
  have hg : xs.getD (Int.toNat (q : Int)) 0 = xs[q] := by simp [List.getD_eq_getElem?_getD, hq]
  refine KW.go qQ0 qJ4 100 rfl (by simp; omega) ?_
  refine KW.callC [iV xs[q]] (hc.2 xs[q] (List.getElem_mem hq)) hc.1 [] (.inl rfl) rfl rfl rfl rfl rfl trivial ⟨⟨_, _, rfl, trivial, Mt.conv (show CVEq (.lit (.int .i64 (xs.getD (Int.toNat (q : Int)) 0))) _ by rw [hg]; exact CVEq.refl _)⟩, trivial⟩ rfl (.inl rfl) ?_
  refine KW.goIf qQ0 qJ4 100 rfl (by simp) rfl trivial (fun h => ?_) fun h => ?_
  ·refine KW.goOutR qQ0 qJ4 100 rfl (by simp) ?_
   refine KW.goRet qQ0 qJ4 100 rfl rfl ?_ (by simp) trivial
   have ha : xs.any p = true := by rw [List.any_eq_true]; exact ⟨xs[q], List.getElem_mem hq, h⟩
   have hi : xs.findIdx p = q := by
    rw [List.findIdx_eq hq]
    refine ⟨h, fun j hj => ?_⟩
    exact h2' _ (List.mem_take_iff_getElem.2 ⟨j, by omega, rfl⟩)
   rw [if_pos ha, hi]; rfl
  ·refine KW.goTo qQ0 qJ4 100 rfl (q + 1) rfl ⟨rfl, rfl, rfl, rfl, trivial⟩ (by simp [inK]; omega) ⟨⟨by omega, ?_⟩, by omega⟩ trivial
   rw [List.take_succ_eq_append_getElem hq, List.any_append, h2]
   simp [h]
 ·have hq : q = xs.length := by simp at h; omega
  refine KW.goOut qQ0 qJ4 100 rfl (by simp) ?_
  refine KW.goRet qQ0 qJ4 100 rfl rfl ?_ (by simp) trivial
  rw [hq, List.take_length] at h2
  rw [h2]; rfl
theorem containsFunc_does {g m : Nat} {ks : Nat -> Nat} {caps : Nat -> Nat -> CV} {p : Int -> Bool} (xs : List Int) (hc : Clo Tryz.prog g m ks caps p xs) :
  DoesF Tryz.prog 44 [.c (qZ5 xs), .c (.clo g m ks caps)] [] (sB (xs.any p)) [] := by
 obtain ⟨z, hz, D⟩ := indexFunc_does xs hc
 refine DoesF.body _ Tryz.func44 rfl rfl rfl rfl ?_
 refine KW.go qQ0 qJ4 100 rfl (by simp) ?_
 refine KW.callV0 D (qQ9 Tryz.func86 rfl rfl) [] (.inl rfl) rfl rfl rfl rfl rfl trivial ⟨⟨_, _, rfl, trivial, .conv (CVEq.refl _)⟩, ⟨_, _, rfl, trivial, .conv (CVEq.refl _)⟩, trivial⟩ rfl (.inl rfl) ?_
 refine KW.goRet qQ0 qJ4 100 rfl rfl ?_ (by simp) trivial
 simp only [SV.ren, EV.ren]
 congr 5
 rw [Bool.eq_iff_iff, decide_eq_true_iff, <-hz]
def T10 : Fns := (111, fLs (fun l => .e (.c (.lit (errV 57 (listsE l))))) fun _ => True) ::
 (84, fL (fun l => sI (qV0 l)) fun _ => True) ::
 T9
theorem T10_ok : FnsOk Tryz.prog T10 := .cons (.cons (qJ4) Tryz.func84 rfl rfl (fL_ok fun l _ => rerror_does l)) Tryz.func111 rfl rfl (fLs_ok fun l _ => lists_does l)
end Go.Proofs.YtgoilpfpmbjegaaGreatDoor
namespace Go.Proofs.YtgoilpfpmbjegaaGreatDoor
open Go.Sy Go.Pu
variable [Drw]
theorem rsort_does : ∀ (n : Nat) (l : List Int), l.length ≤ n -> l.length ≤ 1099511627776 -> DoesF Tryz.prog 120 [.c (qZ5 l)] [] (.e (.c (qZ5 (sortS l)))) [] := by
 intro n
 induction n with
 | zero =>
   intro l hn hb
   refine DoesF.body _ Tryz.func120 rfl rfl rfl rfl ?_
   refine KW.len 0 rfl rfl fun hla => ?_
   refine KW.goIf qQ0 T10_ok 100 rfl (by simp) rfl trivial (fun h => ?_) fun h => by simp at h; omega
   refine KW.goRetO qQ0 T10_ok 100 rfl 12 2 rfl rfl rfl ?_ (by simp <;> omega)
   rw [catV_ints, sortS_short (by omega)]; rfl
 | succ n ih =>
   intro l hn hb
   have T_ok : FnsOk Tryz.prog ((120, fL (fun l => .e (.c (qZ5 (sortS l)))) fun l' => l'.length ≤ n /\ l'.length ≤ 1099511627776) :: T10) := .cons T10_ok Tryz.func120 rfl rfl (fL_ok fun l h => ih l h.1 h.2)
   refine DoesF.body _ Tryz.func120 rfl rfl rfl rfl ?_
   refine KW.len 0 rfl rfl fun hla => ?_
   refine KW.goIf qQ0 T_ok 100 rfl (by simp) rfl trivial (fun h => ?_) fun h => ?_
   ·refine KW.goRetO qQ0 T_ok 100 rfl 12 2 rfl rfl rfl ?_ (by simp <;> omega)
    rw [catV_ints, sortS_short (by simp at h; omega)]; rfl
   ·have h2 : 2 ≤ l.length := by simp at h; omega
    have e2 : ((l.length : Int).tdiv 2) = ((l.length / 2 : Nat) : Int) := by rw [Int.tdiv_eq_ediv_of_nonneg (by omega)]; omega
    have A1 := isI_drop l (l.length / 2) 0 (by omega)
    have A2 := isI_drop l (l.length - l.length / 2) (l.length / 2) (by omega)
    have hs := sortS_long h2
    generalize ha : sortS (l.take (l.length / 2)) = a at hs
    generalize hbb : sortS (l.drop (l.length / 2)) = b at hs
    have hlen := sortS_length l
    have hla' := sortS_length (l.take (l.length / 2))
    have hlb' := sortS_length (l.drop (l.length / 2))
    rw [ha] at hla'
    rw [hbb] at hlb'
    simp only [List.length_take, List.length_drop] at hla' hlb'
    refine KW.goD qQ0 T_ok rfl 100 rfl rfl rfl (by simp) ?_ ?_
    ·rw [e2]
     simp only [Int.toNat_natCast, Int.toNat_zero, Nat.sub_zero, Int.ofNat_toNat]
     rw [A1.2, A2.2]
     simp only [Nat.add_zero] at A1 ⊢
     simp [-List.getD_eq_getElem?_getD, A1.1, A2.1, inK]
     omega
    ·have e3 : unI (.sl (((l.length : Int).tdiv 2).toNat - Int.toNat 0) 1 fun e q => .lit (.int .i64 (l.getD (e + Int.toNat 0) 0))) = l.take (l.length / 2) := by
      rw [e2]; simp only [Int.toNat_natCast, Int.toNat_zero, Nat.sub_zero]; rw [A1.2]; rfl
     have e4 : unI (.sl ((l.length : Int).toNat - ((l.length : Int).tdiv 2).toNat) 1 fun e q => .lit (.int .i64 (l.getD (e + ((l.length : Int).tdiv 2).toNat) 0))) = l.drop (l.length / 2) := by
      rw [e2]; simp only [Int.toNat_natCast]; rw [A2.2, List.take_of_length_le (by simp)]
     refine KW.go qQ0 T_ok 100 rfl (by simp) ?_
     refine KW.nilO 5 5 3 (qZ5 []) rfl rfl rfl ?_
     refine KW.lp (I := fun q : List Int × List Int × List Int => ⟨Tryz.f120.ntmps, [(3, .e (.c (qZ5 q.1))), (4, .e (.c (qZ5 q.2.1))), (5, .e (.r 5))], [(5, .own 3 (qZ5 q.2.2))]⟩)
      (R := fun q => q.2.2 ++ qV9 q.1 q.2.1 = qV9 a b /\ q.2.2.length + q.1.length + q.2.1.length ≤ l.length) (m := fun q => q.1.length + q.2.1.length) (a, b, []) ⟨by simp, by simp; omega⟩ [(5, 5)] ⟨rfl, rfl, ⟨?_, ?_, rfl, trivial⟩, ⟨rfl, trivial⟩⟩ ?_
     ·rw [<-ha, <-e3]; rfl
     ·rw [<-hbb, <-e4]; rfl
     ·rintro ⟨xs, ys, out⟩ ⟨g1, g2⟩
      simp only at g1 g2
      have fin : (xs = [] ∨ ys = []) -> out ++ xs ++ ys = qV9 a b := by
       rintro (rfl | rfl)
       ·rw [<-g1]; simp [qV9]
       ·rw [<-g1]; cases xs <;> simp [qV9]
      refine KW.goIf qQ0 T_ok 100 rfl (by simp) rfl trivial (fun h => ?_) fun h => ?_
      ·simp at h
       obtain ⟨x, xs, rfl⟩ := List.exists_cons_of_length_pos (l := xs) (by omega)
       obtain ⟨y, ys, rfl⟩ := List.exists_cons_of_length_pos (l := ys) (by omega)
       simp only [List.length_cons] at g2
       refine KW.goD qQ0 T_ok rfl 100 rfl rfl rfl (by simp) (by simp) ?_
       refine KW.goIf qQ0 T_ok 100 rfl (by simp) rfl trivial (fun h => ?_) fun h => ?_
       ·have h1 : cmpS x y ≤ 0 := of_decide_eq_true h
        refine KW.goIf qQ0 T_ok 100 rfl (by simp <;> omega) rfl trivial (fun h' => ?_) fun h' => ?_
        ·have h3 : 0 ≤ cmpS x y := of_decide_eq_true h'
         refine KW.goToR qQ0 T_ok 100 rfl (xs, ys, out ++ [x]) [(5, 47)] rfl rfl ⟨rfl, rfl, rfl, trivial⟩ (by simp <;> omega) ⟨⟨?_, ?_⟩, ?_⟩ ⟨qC3 _ rfl, trivial⟩
         ·rw [<-g1, qV9, if_pos (by omega)]; simp
         ·simp; omega
         ·simp; omega
        ·have h3 : ¬ 0 ≤ cmpS x y := of_decide_eq_false h'
         refine KW.goToR qQ0 T_ok 100 rfl (xs, y :: ys, out ++ [x]) [(5, 47)] rfl rfl ⟨rfl, rfl, rfl, trivial⟩ (by simp <;> omega) ⟨⟨?_, ?_⟩, ?_⟩ ⟨qC3 _ rfl, trivial⟩
         ·rw [<-g1, qV9, if_neg (by omega), if_pos h1]; simp
         ·simp; omega
         ·simp
       ·have h1 : ¬ cmpS x y ≤ 0 := of_decide_eq_false h
        refine KW.goIf qQ0 T_ok 100 rfl (by simp <;> omega) rfl trivial (fun h' => ?_) fun h' => ?_
        ·have h3 : 0 ≤ cmpS x y := of_decide_eq_true h'
         refine KW.goToR qQ0 T_ok 100 rfl (x :: xs, ys, out ++ [y]) [(5, 55)] rfl rfl ⟨rfl, rfl, rfl, trivial⟩ (by simp <;> omega) ⟨⟨?_, ?_⟩, ?_⟩ ⟨qC3 _ rfl, trivial⟩
         ·rw [<-g1, qV9, if_neg (by omega), if_neg h1]; simp
         ·simp; omega
         ·simp
        ·have h3 : ¬ 0 ≤ cmpS x y := of_decide_eq_false h'
         omega
      ·refine KW.goOut qQ0 T_ok 100 rfl (by simp) ?_
       refine KW.goRetO qQ0 T_ok 100 rfl 65 2 rfl rfl rfl ?_ (by simp <;> omega)
       rw [catV_ints, catV_ints, fin, hs]
       simp at h
       rcases xs with _ | ⟨x, xs⟩
       ·exact .inl rfl
       ·exact .inr (h (by simp))
def T11 : Fns := (120, fL (fun l => .e (.c (qZ5 (sortS l)))) fun l => l.length ≤ 1099511627776) ::
 T10
theorem qD3 : FnsOk Tryz.prog T11 := .cons (T10_ok) Tryz.func120 rfl rfl (fL_ok fun l h => rsort_does l.length l (Nat.le_refl _) h)
end Go.Proofs.YtgoilpfpmbjegaaGreatDoor
namespace Go.Proofs.YtgoilpfpmbjegaaGreatDoor
open Go.Sy Go.Pu
variable [Drw]
theorem part_does (a b : Int) : DoesF Tryz.prog 121 [iV a, iV b] [] (sB (partB a b)) [] := by
 refine DoesF.body _ Tryz.func121 rfl rfl rfl rfl ?_
 refine KW.goRet qQ0 qD3 100 rfl rfl ?_ (by simp) trivial
 simp only [SV.ren, EV.ren, partB]
 congr 5
 rw [Bool.eq_iff_iff]; simp
theorem limited_does (l : List Int) : DoesF Tryz.prog 141 [.c (qZ5 l)] [] (.tup [.c (qZ5 (limL l)), iV (limE l)]) [] := by
 refine DoesF.body _ Tryz.func141 rfl rfl rfl rfl ?_
 refine KW.goIf qQ0 qD3 100 rfl (by simp) rfl trivial (fun h => ?_) fun h => ?_
 ·have hl : 1024 < l.length := by simp at h; omega
  refine KW.go qQ0 qD3 100 rfl (by simp) ?_
  refine KW.conv 2 (qZ5 []) rfl ⟨rfl, rfl⟩ ?_
  refine KW.fin [] rfl rfl ?_ trivial
  simp [SV.ren, renL, EV.ren, limL, limE, hl]
 ·have hl : ¬ 1024 < l.length := by simp at h; omega
  refine KW.goRet qQ0 qD3 100 rfl rfl ?_ (by simp) trivial
  simp [SV.ren, renL, EV.ren, limL, limE, hl]
theorem both_does (a b : List Int) : DoesF Tryz.prog 140 [.c (qZ5 a), .c (qZ5 b)] [] (sI (qY0 a b)) [] := by
 refine DoesF.body _ Tryz.func140 rfl rfl rfl rfl ?_
 refine KW.goIf qQ0 qD3 100 rfl (by simp) rfl trivial (fun h => ?_) fun h => ?_
 ·refine KW.goRet qQ0 qD3 100 rfl rfl ?_ (by simp) trivial
  simp at h
  simp [SV.ren, EV.ren, qY0, h]
 ·refine KW.goRet qQ0 qD3 100 rfl rfl ?_ (by simp) trivial
  simp at h
  simp [SV.ren, EV.ren, qY0, h]
end Go.Proofs.YtgoilpfpmbjegaaGreatDoor
end
section
namespace Go.Proofs.YtgoilpfpmbjegaaGreatDoor
open Go.Shelf
def layLen_ren : Go.Shelf.Ren := ⟨fun | 125 => 158 | 128 => 172 | 129 => 160 | n => n, fun | 46 => 140 | 3 => 3 | 51 => 156 | 53 => 158 | 4 => 4 | 5 => 5 | 9 => 9 | n => n, fun | n => n⟩
theorem layLen : Go.Proofs.Lays.n125 Tryz.prog layLen_ren := {
 mixed := by kernel_rfl
 f125 := Tryz.func158.trans (congrArg some (by kernel_rfl))
 f128 := Tryz.func172.trans (congrArg some (by kernel_rfl))
 f129 := Tryz.func160.trans (congrArg some (by kernel_rfl))
 t3 := Tryz.underlying3
 a3 := Tryz.isAgg3
 z3 := Tryz.sizeOf3
 v3 := Tryz.zeroValue3
 t4 := Tryz.underlying4
 a4 := Tryz.isAgg4
 z4 := Tryz.sizeOf4
 v4 := Tryz.zeroValue4
 t5 := Tryz.underlying5
 a5 := Tryz.isAgg5
 z5 := Tryz.sizeOf5
 v5 := Tryz.zeroValue5
 t9 := Tryz.underlying9
 a9 := Tryz.isAgg9
 z9 := Tryz.sizeOf9
 v9 := Tryz.zeroValue9
 t46 := Tryz.underlying140
 a46 := Tryz.isAgg140
 z46 := Tryz.sizeOf140
 v46 := Tryz.zeroValue140
 t51 := Tryz.underlying156
 a51 := Tryz.isAgg156
 z51 := Tryz.sizeOf156
 v51 := Tryz.zeroValue156
 t53 := Tryz.underlying158
 a53 := Tryz.isAgg158
 z53 := Tryz.sizeOf158
 v53 := Tryz.zeroValue158 }
def laySort_ren : Go.Shelf.Ren := ⟨fun | 6 => 149 | 15 => 158 | 14 => 157 | 28 => 172 | 29 => 160 | 20 => 164 | 21 => 165 | 22 => 166 | 23 => 167 | 24 => 168 | 25 => 169 | 26 => 170 | 27 => 171 | 46 => 173 | 47 => 174 | 48 => 175 | 49 => 176 | 50 => 177 | 57 => 178 | n => n, fun | 22 => 25 | 24 => 3 | 25 => 60 | 3 => 3 | 39 => 140 | 0 => 0 | 53 => 156 | 55 => 158 | 4 => 4 | 46 => 182 | 45 => 181 | 50 => 186 | 5 => 5 | 9 => 9 | 66 => 188 | 70 => 192 | 76 => 194 | 77 => 43 | n => n, fun | n => n⟩
theorem laySort : Go.Proofs.SlLaysF.n6 Tryz.prog laySort_ren := {
 mixed := by kernel_rfl
 f6 := ⟨Tryz.f149.name, by decide, Tryz.func149.trans (congrArg some (by kernel_rfl))⟩
 f14 := ⟨Tryz.f157.name, by decide, Tryz.func157.trans (congrArg some (by kernel_rfl))⟩
 f15 := Tryz.func158.trans (congrArg some (by kernel_rfl))
 f20 := ⟨Tryz.f164.name, by decide, Tryz.func164.trans (congrArg some (by kernel_rfl))⟩
 f21 := ⟨Tryz.f165.name, by decide, Tryz.func165.trans (congrArg some (by kernel_rfl))⟩
 f22 := ⟨Tryz.f166.name, by decide, Tryz.func166.trans (congrArg some (by kernel_rfl))⟩
 f23 := ⟨Tryz.f167.name, by decide, Tryz.func167.trans (congrArg some (by kernel_rfl))⟩
 f24 := ⟨Tryz.f168.name, by decide, Tryz.func168.trans (congrArg some (by kernel_rfl))⟩
 f25 := ⟨Tryz.f169.name, by decide, Tryz.func169.trans (congrArg some (by kernel_rfl))⟩
 f26 := ⟨Tryz.f170.name, by decide, Tryz.func170.trans (congrArg some (by kernel_rfl))⟩
 f27 := ⟨Tryz.f171.name, by decide, Tryz.func171.trans (congrArg some (by kernel_rfl))⟩
 f28 := Tryz.func172.trans (congrArg some (by kernel_rfl))
 f29 := Tryz.func160.trans (congrArg some (by kernel_rfl))
 f46 := ⟨Tryz.f173.name, by decide, Tryz.func173.trans (congrArg some (by kernel_rfl))⟩
 f47 := Tryz.func174.trans (congrArg some (by kernel_rfl))
 f48 := Tryz.func175.trans (congrArg some (by kernel_rfl))
 f49 := ⟨Tryz.f176.name, by decide, Tryz.func176.trans (congrArg some (by kernel_rfl))⟩
 f50 := ⟨Tryz.f177.name, by decide, Tryz.func177.trans (congrArg some (by kernel_rfl))⟩
 f57 := ⟨Tryz.f178.name, by decide, Tryz.func178.trans (congrArg some (by kernel_rfl))⟩
 t0 := Tryz.underlying0
 a0 := Tryz.isAgg0
 z0 := Tryz.sizeOf0
 v0 := Tryz.zeroValue0
 t3 := Tryz.underlying3
 a3 := Tryz.isAgg3
 z3 := Tryz.sizeOf3
 v3 := Tryz.zeroValue3
 t4 := Tryz.underlying4
 a4 := Tryz.isAgg4
 z4 := Tryz.sizeOf4
 v4 := Tryz.zeroValue4
 t5 := Tryz.underlying5
 a5 := Tryz.isAgg5
 z5 := Tryz.sizeOf5
 v5 := Tryz.zeroValue5
 t9 := Tryz.underlying9
 a9 := Tryz.isAgg9
 z9 := Tryz.sizeOf9
 v9 := Tryz.zeroValue9
 t22 := Tryz.underlying25
 a22 := Tryz.isAgg25
 z22 := Tryz.sizeOf25
 v22 := Tryz.zeroValue25
 a24 := Tryz.isAgg3
 z24 := Tryz.sizeOf3
 t25 := Tryz.underlying60
 a25 := Tryz.isAgg60
 z25 := Tryz.sizeOf60
 v25 := Tryz.zeroValue60
 t39 := Tryz.underlying140
 a39 := Tryz.isAgg140
 z39 := Tryz.sizeOf140
 v39 := Tryz.zeroValue140
 t45 := Tryz.underlying181
 a45 := Tryz.isAgg181
 z45 := Tryz.sizeOf181
 v45 := Tryz.zeroValue181
 t46 := Tryz.underlying182
 a46 := Tryz.isAgg182
 z46 := Tryz.sizeOf182
 v46 := Tryz.zeroValue182
 t50 := Tryz.underlying186
 a50 := Tryz.isAgg186
 z50 := Tryz.sizeOf186
 v50 := Tryz.zeroValue186
 t53 := Tryz.underlying156
 a53 := Tryz.isAgg156
 z53 := Tryz.sizeOf156
 v53 := Tryz.zeroValue156
 t55 := Tryz.underlying158
 a55 := Tryz.isAgg158
 z55 := Tryz.sizeOf158
 v55 := Tryz.zeroValue158
 t66 := Tryz.underlying188
 a66 := Tryz.isAgg188
 z66 := Tryz.sizeOf188
 v66 := Tryz.zeroValue188
 t70 := Tryz.underlying192
 a70 := Tryz.isAgg192
 z70 := Tryz.sizeOf192
 v70 := Tryz.zeroValue192
 t76 := Tryz.underlying194
 a76 := Tryz.isAgg194
 z76 := Tryz.sizeOf194
 v76 := Tryz.zeroValue194
 t77 := Tryz.underlying43
 a77 := Tryz.isAgg43
 z77 := Tryz.sizeOf43
 v77 := Tryz.zeroValue43 }
def laySort0_ren : Go.Shelf.Ren := ⟨fun | 6 => 149 | 15 => 158 | 14 => 157 | 28 => 172 | 29 => 160 | 20 => 164 | 21 => 165 | 22 => 166 | 23 => 167 | 24 => 168 | 25 => 169 | 26 => 170 | 27 => 171 | 46 => 173 | 47 => 174 | 48 => 175 | 49 => 176 | 50 => 177 | 57 => 178 | n => n, fun | 22 => 25 | 24 => 3 | 25 => 60 | 3 => 3 | 39 => 140 | 0 => 0 | 53 => 156 | 55 => 158 | 4 => 4 | 46 => 182 | 45 => 181 | 50 => 186 | 5 => 5 | 9 => 9 | 66 => 188 | 70 => 192 | 76 => 194 | 77 => 43 | n => n, fun | n => n⟩
theorem laySort0 : Go.Proofs.SlLaysF0.n6 Tryz.prog laySort0_ren := {
 mixed := by kernel_rfl
 f6 := ⟨Tryz.f149.name, by decide, Tryz.func149.trans (congrArg some (by kernel_rfl))⟩
 f14 := ⟨Tryz.f157.name, by decide, Tryz.func157.trans (congrArg some (by kernel_rfl))⟩
 f15 := Tryz.func158.trans (congrArg some (by kernel_rfl))
 f20 := ⟨Tryz.f164.name, by decide, Tryz.func164.trans (congrArg some (by kernel_rfl))⟩
 f21 := ⟨Tryz.f165.name, by decide, Tryz.func165.trans (congrArg some (by kernel_rfl))⟩
 f22 := ⟨Tryz.f166.name, by decide, Tryz.func166.trans (congrArg some (by kernel_rfl))⟩
 f23 := ⟨Tryz.f167.name, by decide, Tryz.func167.trans (congrArg some (by kernel_rfl))⟩
 f24 := ⟨Tryz.f168.name, by decide, Tryz.func168.trans (congrArg some (by kernel_rfl))⟩
 f25 := ⟨Tryz.f169.name, by decide, Tryz.func169.trans (congrArg some (by kernel_rfl))⟩
 f26 := ⟨Tryz.f170.name, by decide, Tryz.func170.trans (congrArg some (by kernel_rfl))⟩
 f27 := ⟨Tryz.f171.name, by decide, Tryz.func171.trans (congrArg some (by kernel_rfl))⟩
 f28 := Tryz.func172.trans (congrArg some (by kernel_rfl))
 f29 := Tryz.func160.trans (congrArg some (by kernel_rfl))
 f46 := ⟨Tryz.f173.name, by decide, Tryz.func173.trans (congrArg some (by kernel_rfl))⟩
 f47 := Tryz.func174.trans (congrArg some (by kernel_rfl))
 f48 := Tryz.func175.trans (congrArg some (by kernel_rfl))
 f49 := ⟨Tryz.f176.name, by decide, Tryz.func176.trans (congrArg some (by kernel_rfl))⟩
 f50 := ⟨Tryz.f177.name, by decide, Tryz.func177.trans (congrArg some (by kernel_rfl))⟩
 f57 := ⟨Tryz.f178.name, by decide, Tryz.func178.trans (congrArg some (by kernel_rfl))⟩
 t0 := Tryz.underlying0
 a0 := Tryz.isAgg0
 z0 := Tryz.sizeOf0
 v0 := Tryz.zeroValue0
 t3 := Tryz.underlying3
 a3 := Tryz.isAgg3
 z3 := Tryz.sizeOf3
 v3 := Tryz.zeroValue3
 t4 := Tryz.underlying4
 a4 := Tryz.isAgg4
 z4 := Tryz.sizeOf4
 v4 := Tryz.zeroValue4
 t5 := Tryz.underlying5
 a5 := Tryz.isAgg5
 z5 := Tryz.sizeOf5
 v5 := Tryz.zeroValue5
 t9 := Tryz.underlying9
 a9 := Tryz.isAgg9
 z9 := Tryz.sizeOf9
 v9 := Tryz.zeroValue9
 t22 := Tryz.underlying25
 a22 := Tryz.isAgg25
 z22 := Tryz.sizeOf25
 v22 := Tryz.zeroValue25
 t25 := Tryz.underlying60
 a25 := Tryz.isAgg60
 z25 := Tryz.sizeOf60
 v25 := Tryz.zeroValue60
 t39 := Tryz.underlying140
 a39 := Tryz.isAgg140
 z39 := Tryz.sizeOf140
 v39 := Tryz.zeroValue140
 t45 := Tryz.underlying181
 a45 := Tryz.isAgg181
 z45 := Tryz.sizeOf181
 v45 := Tryz.zeroValue181
 t46 := Tryz.underlying182
 a46 := Tryz.isAgg182
 z46 := Tryz.sizeOf182
 v46 := Tryz.zeroValue182
 t50 := Tryz.underlying186
 a50 := Tryz.isAgg186
 z50 := Tryz.sizeOf186
 v50 := Tryz.zeroValue186
 t53 := Tryz.underlying156
 a53 := Tryz.isAgg156
 z53 := Tryz.sizeOf156
 v53 := Tryz.zeroValue156
 t55 := Tryz.underlying158
 a55 := Tryz.isAgg158
 z55 := Tryz.sizeOf158
 v55 := Tryz.zeroValue158
 t66 := Tryz.underlying188
 a66 := Tryz.isAgg188
 z66 := Tryz.sizeOf188
 v66 := Tryz.zeroValue188
 t70 := Tryz.underlying192
 a70 := Tryz.isAgg192
 z70 := Tryz.sizeOf192
 v70 := Tryz.zeroValue192
 t76 := Tryz.underlying194
 a76 := Tryz.isAgg194
 z76 := Tryz.sizeOf194
 v76 := Tryz.zeroValue194
 t77 := Tryz.underlying43
 a77 := Tryz.isAgg43
 z77 := Tryz.sizeOf43
 v77 := Tryz.zeroValue43 }
def layCompact_ren : Go.Shelf.Ren := ⟨fun | 43 => 150 | n => n, fun | 22 => 25 | 23 => 3 | 3 => 3 | 4 => 4 | 0 => 0 | n => n, fun | n => n⟩
theorem layCompact : Go.Proofs.SlLaysN.n43 Tryz.prog layCompact_ren := {
 mixed := by kernel_rfl
 f43 := ⟨Tryz.f150.name, by decide, Tryz.func150.trans (congrArg some (by kernel_rfl))⟩
 t0 := Tryz.underlying0
 a0 := Tryz.isAgg0
 z0 := Tryz.sizeOf0
 v0 := Tryz.zeroValue0
 t3 := Tryz.underlying3
 a3 := Tryz.isAgg3
 z3 := Tryz.sizeOf3
 v3 := Tryz.zeroValue3
 t4 := Tryz.underlying4
 a4 := Tryz.isAgg4
 z4 := Tryz.sizeOf4
 v4 := Tryz.zeroValue4
 t22 := Tryz.underlying25
 a22 := Tryz.isAgg25
 z22 := Tryz.sizeOf25
 v22 := Tryz.zeroValue25
 t23 := Tryz.underlying3
 a23 := Tryz.isAgg3
 z23 := Tryz.sizeOf3
 v23 := Tryz.zeroValue3
 i23 := by kernel_rfl }
end Go.Proofs.YtgoilpfpmbjegaaGreatDoor
end
section
namespace Go.Proofs.YtgoilpfpmbjegaaGreatDoor
open Go.Sy Go.Pu
variable [Drw]
theorem clone_does (xs : List Int) (hb : xs.length ≤ 1099511627776) : DoesF Tryz.prog 109 [.c (qZ5 xs)] [] (.e (.r 0)) [(0, .own 3 (qZ5 xs))] := by
 refine DoesF.body _ Tryz.func109 rfl rfl rfl rfl ?_
 refine KW.go qQ0 qD3 100 rfl (by simp) ?_
 refine KW.eqNil (neg := false) qQ0 rfl rfl rfl rfl rfl rfl rfl rfl trivial fun b hb0 => ?_
 refine KW.goIf qQ0 qD3 100 rfl (by simp) rfl trivial (fun h => ?_) fun h => ?_
 ·have : xs = [] := ints_nil_of (hb0 h)
  subst this
  refine KW.go qQ0 qD3 100 rfl (by simp) ?_
  refine KW.nilO 2 2 3 (qZ5 []) rfl rfl rfl ?_
  exact KW.fin [(0, 2)] rfl rfl rfl ⟨rfl, trivial⟩
 ·refine KW.goRetR qQ0 qD3 100 rfl [(0, 7)] rfl rfl rfl (by simp <;> omega) ⟨?_, trivial⟩
  exact qC3 (a := []) _ rfl
def layGrow_ren : Go.Shelf.Ren := ⟨fun | 4 => 163 | n => n, fun | 22 => 25 | 25 => 3 | 3 => 3 | 4 => 4 | 9 => 9 | 20 => 20 | 0 => 0 | n => n, fun | n => n⟩
theorem layGrow : Go.Proofs.Lays8.n4 Tryz.prog layGrow_ren := {
 mixed := by kernel_rfl
 f4 := ⟨Tryz.f163.name, by decide, Tryz.func163.trans (congrArg some (by kernel_rfl))⟩
 t0 := Tryz.underlying0
 a0 := Tryz.isAgg0
 z0 := Tryz.sizeOf0
 v0 := Tryz.zeroValue0
 t3 := Tryz.underlying3
 a3 := Tryz.isAgg3
 z3 := Tryz.sizeOf3
 v3 := Tryz.zeroValue3
 t4 := Tryz.underlying4
 a4 := Tryz.isAgg4
 z4 := Tryz.sizeOf4
 v4 := Tryz.zeroValue4
 t9 := Tryz.underlying9
 a9 := Tryz.isAgg9
 z9 := Tryz.sizeOf9
 v9 := Tryz.zeroValue9
 t20 := Tryz.underlying20
 a20 := Tryz.isAgg20
 z20 := Tryz.sizeOf20
 v20 := Tryz.zeroValue20
 t22 := Tryz.underlying25
 a22 := Tryz.isAgg25
 z22 := Tryz.sizeOf25
 v22 := Tryz.zeroValue25 }
theorem grow_does (n : Nat) (hn : n ≤ 1099511627776) : DoesF Tryz.prog 163 [.c (.lit (.slice none 0 0)), iV n] [] (.e (.r 0)) [(0, .own 3 (qZ5 []))] := by
 have hrow : (Tryz.prog.info? 3).map (fun i => (i.zero, i.size, i.bytes)) = some (some (.int .i64 0), 1, 8) := by kernel_rfl
 obtain ⟨i0, hi, hz0, hz1, hz2⟩ := info_parts hrow
 exact grow_nil_does layGrow rfl rfl hi hz0 hz1 hz2 rfl n hn
end Go.Proofs.YtgoilpfpmbjegaaGreatDoor
namespace Go.Proofs.YtgoilpfpmbjegaaGreatDoor
open Go.Sy Go.Pu
variable [Drw]
theorem sorted_does (l : List Int) (hv : ∀ x ∈ l, qQ6 x = true) (hb : l.length ≤ 1099511627776) : DoesF Tryz.prog 136 [.c (qZ5 l)] [] (.e (.c (qZ5 (qD1 l)))) [] := by
 refine DoesF.body _ Tryz.func136 rfl rfl rfl rfl ?_
 refine KW.go qQ0 qD3 100 rfl (by simp) ?_
 refine KW.callO0 (clone_does l hb) (qQ9 Tryz.func109 rfl rfl) [] (.inl rfl) rfl rfl rfl rfl rfl trivial ⟨⟨_, _, rfl, trivial, .conv (CVEq.refl _)⟩, trivial⟩ rfl (.inl rfl) ?_
 refine KW.go qQ0 qD3 100 rfl (by simp) ?_
 refine KW.callK0 (sortFunc_does (ks := fun _ => 0) (caps := fun _ _ => .lit undef) laySort laySort0 rfl rfl cmpS_swo (V := fun x => qQ6 x = true) (fun x y => cmpS_eq) cmpS_total (qQ9 Tryz.func25 rfl rfl) (@compare_does drwOn) 3 l hv (by omega))
  (qQ9 Tryz.func149 rfl rfl) [(0, 5)] [(0, 5)] [] (.inl rfl) rfl rfl rfl rfl rfl trivial
  ⟨⟨_, _, rfl, trivial, (show Mt _ _ _ (EV.ren [(0, 5)] (.r 0)) (.r 0) from .same)⟩, ⟨_, _, rfl, trivial, .conv (CVEq.refl _)⟩, trivial⟩ rfl ⟨rfl, trivial⟩ rfl ⟨.inr ⟨rfl, .inl rfl⟩, trivial⟩ rfl rfl (.inl rfl) ?_
 refine KW.go qQ0 qD3 100 rfl (by simp) ?_
 refine KW.call0 (compact_does layCompact rfl 3 (sortL cmpS l)) (qQ9 Tryz.func150 rfl rfl) [(0, 5)] [(0, 9)] [] (.inl rfl) rfl rfl rfl rfl rfl trivial
  ⟨⟨_, _, rfl, trivial, (show Mt _ _ _ (EV.ren [(0, 5)] (.r 0)) (.r 0) from .same)⟩, trivial⟩ rfl ⟨rfl, trivial⟩ rfl ⟨.inl rfl, trivial⟩ rfl rfl (.inl rfl) ?_
 exact KW.goRetO qQ0 qD3 100 rfl 9 2 rfl rfl rfl rfl (by simp)
theorem minimalC_does (t s : Int) : DoesF Tryz.prog 137 [iV t, .pe 1 1 (fun _ q => .lit (.int .i64 s)) 0 0] [] (sB (subS t s)) [] := by
 refine DoesF.body _ Tryz.func137 rfl rfl rfl rfl ?_
 exact KW.goRet qQ0 qD3 100 rfl rfl rfl (by simp) trivial
theorem minimal_does (l : List Int) (hv : ∀ x ∈ l, qQ6 x = true) (hb : l.length ≤ 1099511627776) : DoesF Tryz.prog 112 [.c (qZ5 l)] [] (.e (.c (qZ5 (minS l)))) [] := by
 have T_ok : FnsOk Tryz.prog ((136, fL (fun l => .e (.c (qZ5 (qD1 l)))) fun l => (∀ x ∈ l, qQ6 x = true) /\ l.length ≤ 1099511627776) :: T11) := .cons qD3 Tryz.func136 rfl rfl (fL_ok fun l h => sorted_does l h.1 h.2)
 refine DoesF.body _ Tryz.func112 rfl rfl rfl rfl ?_
 have hSl := sortedL_length l
 have hm := minL_length (qD1 l) []
 refine KW.go qQ0 T_ok 100 rfl (by simpa using ⟨hv, hb⟩) ?_
 simp only [qQ2]
 generalize hS : qD1 l = S at hSl hm
 refine KW.nilO 3 3 3 (qZ5 []) rfl rfl rfl ?_
 refine KW.lp (I := fun q : List Int × Nat => ⟨Tryz.f112.ntmps, [(3, .e (.r 3)), (7, .e (.c (qZ5 S))), (8, sI S.length), (9, sI q.2)], [(3, .own 3 (qZ5 q.1))]⟩)
  (R := fun q => q.2 ≤ S.length /\ minL q.1 (S.drop q.2) = minS l /\ q.1.length ≤ q.2) (m := fun q => S.length - q.2) ([], 0) ⟨by simp, by simp [minS, hS], by simp⟩ [(3, 3)] ⟨rfl, rfl, ⟨rfl, rfl, rfl, rfl, trivial⟩, ⟨rfl, trivial⟩⟩ ?_
 rintro ⟨out, q⟩ ⟨h1, h2, h3⟩
 simp only at h1 h2 h3
 refine KW.goIf qQ0 T_ok 100 rfl (by simp) rfl trivial (fun h => ?_) fun h => ?_
 ·have hq : q < S.length := by simpa using h
  have hg : S.getD (Int.toNat (q : Int)) 0 = S[q] := by simp [List.getD_eq_getElem?_getD, hq]
  have hd : S.drop q = S[q] :: S.drop (q + 1) := List.drop_eq_getElem_cons hq
  rw [hd, minL] at h2
  refine KW.go qQ0 T_ok 100 rfl (by simp; omega) ?_
  refine KW.callV0 (containsFunc_does (m := 1) (ks := fun _ => 1) (caps := fun _ _ => .lit (.int .i64 S[q])) (p := fun t => subS t S[q]) out ⟨qQ9 Tryz.func137 rfl rfl, fun x _ => minimalC_does x S[q]⟩) (qQ9 Tryz.func44 rfl rfl) [3, 5] (.inl rfl) rfl rfl rfl rfl rfl trivial
   ⟨⟨_, _, rfl, trivial, .lend rfl rfl (CVEq.refl _) rfl rfl⟩, ⟨_, _, rfl, trivial, .lfn rfl ?_⟩, trivial⟩ rfl (.inr trivial) ?_
  ·intro j hj
   obtain rfl : j = 0 := by omega
   refine ⟨5, _, _, _, rfl, rfl, rfl, rfl, fun q' hq' => ?_⟩
   obtain rfl : q' = 0 := by omega
   show some (EV.c (.lit (.int .i64 (S.getD (Int.toNat (q : Int)) 0)))) = _
   rw [hg]
  ·refine KW.goIf qQ0 T_ok 100 rfl (by simp) rfl trivial (fun h => ?_) fun h => ?_
   ·have hc : (out.any fun t => subS t S[q]) = false := by simpa using h
    rw [hc] at h2
    refine KW.goToR qQ0 T_ok 100 rfl (out ++ [S[q]], q + 1) [(3, 20)] rfl rfl ⟨rfl, rfl, rfl, rfl, trivial⟩ (by simp [inK] <;> omega) ⟨⟨by simp only; omega, by simpa using h2, by simp; omega⟩, by simp only; omega⟩ ⟨qC3 _ ?_, trivial⟩
    rw [hg]
   ·have hc : (out.any fun t => subS t S[q]) = true := by simpa using h
    rw [hc] at h2
    refine KW.goToR qQ0 T_ok 100 rfl (out, q + 1) [(3, 3)] rfl rfl ⟨rfl, rfl, rfl, rfl, trivial⟩ (by simp [inK] <;> omega) ⟨⟨by simp only; omega, by simpa using h2, by simp only; omega⟩, by simp only; omega⟩ ⟨rfl, trivial⟩
 ·have hq : q = S.length := by simp at h; omega
  refine KW.goOut qQ0 T_ok 100 rfl (by simp) ?_
  refine KW.goRetO qQ0 T_ok 100 rfl 3 2 rfl rfl rfl ?_ (by simp <;> omega)
  rw [hq, List.drop_length, minL] at h2
  rw [h2]
end Go.Proofs.YtgoilpfpmbjegaaGreatDoor
namespace Go.Proofs.YtgoilpfpmbjegaaGreatDoor
open Go.Sy Go.Pu
variable [Drw]
theorem sized_does (l : List Int) : DoesF Tryz.prog 134 [lV l] [] (.tup [lV (limL l), eV (limE l)]) [] := by
 refine DoesF.body _ Tryz.func134 rfl rfl rfl rfl ?_
 refine KW.goIf qQ0 qD3 100 rfl (by simp) rfl trivial (fun h => ?_) fun h => ?_
 ·have hl : 1024 < l.length := by simp at h; omega
  refine KW.go qQ0 qD3 100 rfl (by simp) ?_
  refine KW.conv 2 (qZ5 []) rfl ⟨rfl, rfl⟩ ?_
  refine KW.fin [] rfl rfl ?_ trivial
  simp [SV.ren, renL, EV.ren, limL, limE, hl, errV]
 ·have hl : ¬ 1024 < l.length := by simp at h; omega
  refine KW.goRet qQ0 qD3 100 rfl rfl ?_ (by simp) trivial
  simp [SV.ren, renL, EV.ren, limL, limE, hl, errV]
def T12 : Fns := (112, fL (fun l => .e (lV (minS l))) fun l => (∀ x ∈ l, qQ6 x = true) /\ l.length ≤ 1099511627776) ::
 (134, fL (fun l => .tup [lV (limL l), eV (limE l)]) fun l => True) ::
 (136, fL (fun l => .e (lV (qD1 l))) fun l => (∀ x ∈ l, qQ6 x = true) /\ l.length ≤ 1099511627776) ::
 T11
theorem T12_ok : FnsOk Tryz.prog T12 := .cons (.cons (.cons (qD3) Tryz.func136 rfl rfl (fL_ok fun l h => sorted_does l h.1 h.2)) Tryz.func134 rfl rfl (fL_ok fun l _ => sized_does l)) Tryz.func112 rfl rfl (fL_ok fun l h => minimal_does l h.1 h.2)
theorem minimalX_does (l : List Int) : DoesF Tryz.prog 77 [lV l] [] (.tup [lV (if qV0 l = 0 then minS l else []), eV (qV0 l)]) [] := by
 refine DoesF.body _ Tryz.func77 rfl rfl rfl rfl ?_
 refine KW.goIf qQ0 T12_ok 100 rfl (by simp) rfl trivial (fun h => ?_) fun h => ?_
 ·refine KW.go qQ0 T12_ok 100 rfl (by simp) ?_
  refine KW.conv 2 (qZ5 []) rfl ⟨rfl, rfl⟩ ?_
  refine KW.fin [] rfl rfl ?_ trivial
  simp [listsE_one] at h
  simp [SV.ren, renL, EV.ren, listsE_one, h]
 ·simp [listsE_one] at h
  have h1 := qK0 h
  have h2 := qY9 h
  refine KW.goRet qQ0 T12_ok 100 rfl rfl ?_ (by simpa using ⟨h2, by omega⟩) trivial
  simp [SV.ren, renL, EV.ren, h, errV]
theorem least_does (l : List Int) (hb : l.length ≤ 1099511627776) : DoesF Tryz.prog 85 [lV l] [] (.e (lV (qB6 l))) [] := by
 refine DoesF.body _ Tryz.func85 rfl rfl rfl rfl ?_
 have T_ok : FnsOk Tryz.prog ((121, fII (fun a b => sB (partB a b)) fun _ _ => True) :: T12) := .cons T12_ok Tryz.func121 rfl rfl (fII_ok fun a b _ => part_does a b)
 have hSl := sortS_length l
 refine KW.go qQ0 T_ok 100 rfl (by simpa using hb) ?_
 simp only [qQ2]
 generalize hS : sortS l = S at hSl
 refine KW.nilO 3 3 3 (qZ5 []) rfl rfl rfl ?_
 refine KW.lp (I := fun q : List Int × Nat => ⟨Tryz.f85.ntmps, [(3, .e (.r 3)), (10, .e (.c (qZ5 S))), (11, sI S.length), (12, sI q.2)], [(3, .own 3 (qZ5 q.1))]⟩)
  (R := fun q => q.2 ≤ S.length /\ leastL q.1 (S.drop q.2) = qB6 l /\ q.1.length ≤ q.2) (m := fun q => S.length - q.2) ([], 0) ⟨by simp, by simp [qB6, hS], by simp⟩ [(3, 3)] ⟨rfl, rfl, ⟨rfl, rfl, rfl, rfl, trivial⟩, ⟨rfl, trivial⟩⟩ ?_
 rintro ⟨out, q⟩ ⟨h1, h2, h3⟩
 simp only at h1 h2 h3
 refine KW.goIf qQ0 T_ok 100 rfl (by simp) rfl trivial (fun h => ?_) fun h => ?_
 ·have hq : q < S.length := by simpa using h
  have hg : S.getD (Int.toNat (q : Int)) 0 = S[q] := by simp [List.getD_eq_getElem?_getD, hq]
  have hd : S.drop q = S[q] :: S.drop (q + 1) := List.drop_eq_getElem_cons hq
  rw [hd, leastL] at h2
  refine KW.goLpR qQ0 T_ok 100 rfl (I := fun p : Nat => ⟨Tryz.f85.ntmps, [(3, .e (.r 3)), (5, sI S[q]), (6, sB ((out.take p).all fun x => !partB x S[q])), (10, .e (.c (qZ5 S))), (11, sI S.length), (12, sI q), (16, .e (.r 3)), (17, sI out.length), (18, sI p)], [(3, .own 3 (qZ5 out))]⟩)
   (R := fun p => p ≤ out.length) (m := fun p => out.length - p) 0 [(3, 3)] rfl rfl ⟨rfl, by rw [<-hg]; rfl, rfl, rfl, rfl, rfl, rfl, rfl, rfl, trivial⟩ (by simp; omega) (by simp) ⟨rfl, trivial⟩ ?_
  rintro p hp0
  refine KW.goIf qQ0 T_ok 100 rfl (by simp) rfl trivial (fun h => ?_) fun h => ?_
  ·have hp : p < out.length := by simpa using h
   have hgp : out.getD (Int.toNat (p : Int)) 0 = out[p] := by simp [List.getD_eq_getElem?_getD, hp]
   refine KW.goToR qQ0 T_ok 100 rfl (p + 1) [(3, 3)] rfl rfl ⟨rfl, rfl, ?_, rfl, rfl, rfl, rfl, rfl, rfl, trivial⟩ (by simp [inK] <;> omega) ⟨by omega, by omega⟩ ⟨rfl, trivial⟩
   rw [List.take_succ_eq_append_getElem hp, List.all_append, <-hgp]
   simp only [List.all_cons, List.all_nil, Bool.and_true]
   rfl
  ·have hp : p = out.length := by simp at h; omega
   refine KW.goOut qQ0 T_ok 100 rfl (by simp) ?_
   refine KW.goIf qQ0 T_ok 100 rfl (by simp) rfl trivial (fun h => ?_) fun h => ?_
   ·rw [hp, List.take_length] at h
    rw [h] at h2
    refine KW.goToR qQ0 T_ok 100 rfl (out ++ [S[q]], q + 1) [(3, 34)] rfl rfl ⟨rfl, rfl, rfl, rfl, trivial⟩ (by simp [inK] <;> omega) ⟨⟨by simp only; omega, by simpa using h2, by simp; omega⟩, by simp only; omega⟩ ⟨qC3 _ rfl, trivial⟩
   ·rw [hp, List.take_length] at h
    rw [h] at h2
    refine KW.goToR qQ0 T_ok 100 rfl (out, q + 1) [(3, 3)] rfl rfl ⟨rfl, rfl, rfl, rfl, trivial⟩ (by simp [inK] <;> omega) ⟨⟨by simp only; omega, by simpa using h2, by simp only; omega⟩, by simp only; omega⟩ ⟨rfl, trivial⟩
 ·have hq : q = S.length := by simp at h; omega
  refine KW.goOut qQ0 T_ok 100 rfl (by simp) ?_
  refine KW.goRetO qQ0 T_ok 100 rfl 3 2 rfl rfl rfl ?_ (by simp <;> omega)
  rw [hq, List.drop_length, leastL] at h2
  rw [h2]
end Go.Proofs.YtgoilpfpmbjegaaGreatDoor
namespace Go.Proofs.YtgoilpfpmbjegaaGreatDoor
open Go.Sy Go.Pu
variable [Drw]
def T13 : Fns := (85, fL (fun l => .e (lV (qB6 l))) fun l => l.length ≤ 1099511627776) ::
 (141, fL (fun l => .tup [lV (limL l), iV (limE l)]) fun l => True) ::
 (140, fLL (fun a b => sI (qY0 a b)) fun _ _ => True) ::
 (77, fL (fun l => .tup [lV (if qV0 l = 0 then minS l else []), eV (qV0 l)]) fun _ => True) ::
 T12
theorem qV5 : FnsOk Tryz.prog T13 := .cons (.cons (.cons (.cons (T12_ok) Tryz.func77 rfl rfl (fL_ok fun l _ => minimalX_does l)) Tryz.func140 rfl rfl (fLL_ok fun a b _ => both_does a b)) Tryz.func141 rfl rfl (fL_ok fun l _ => limited_does l)) Tryz.func85 rfl rfl (fL_ok fun l h => least_does l h)
theorem product_does (a b : List Int) : DoesF Tryz.prog 110 [lV a, lV b] [] (.tup [lV (if qY0 a b = 0 then limL (minS (unionsC a b)) else []), eV (if qY0 a b = 0 then limE (minS (unionsC a b)) else qY0 a b)]) [] := by
 refine DoesF.body _ Tryz.func110 rfl rfl rfl rfl ?_
 refine KW.goIf qQ0 qV5 100 rfl (by simp) rfl trivial (fun h => ?_) fun h => ?_
 ·refine KW.go qQ0 qV5 100 rfl (by simp) ?_
  refine KW.conv 4 (qZ5 []) rfl ⟨rfl, rfl⟩ ?_
  refine KW.fin [] rfl rfl ?_ trivial
  simp [listsE_two] at h
  simp [SV.ren, renL, EV.ren, listsE_two, h]
 ·simp [listsE_two] at h
  have h1 : qV0 a = 0 := by unfold qY0 at h; split at h <;> simp_all
  have h2 : qV0 b = 0 := by unfold qY0 at h; split at h <;> simp_all
  have la := qK0 h1
  have lb := qK0 h2
  have va := qY9 h1
  have vb := qY9 h2
  have hma := qB0 a
  have hmb := qB0 b
  refine KW.go qQ0 qV5 100 rfl (by simpa using ⟨⟨va, by omega⟩, vb, by omega⟩) ?_
  simp only [qQ2]
  generalize hA : minS a = MA at hma
  generalize hB : minS b = MB at hmb
  refine KW.makeMap rfl rfl rfl rfl rfl ?_
  refine KW.go qQ0 qV5 100 rfl (by simp) ?_
  refine KW.nilO 8 8 3 (qZ5 []) rfl rfl rfl ?_
  refine KW.lp (I := fun q : Nat => ⟨Tryz.f110.ntmps, [(1, .e (lV MB)), (7, .e (.r 25)), (8, .e (.r 8)), (26, .e (lV MA)), (27, sI MA.length), (28, sI q)], [(8, .own 3 (qZ5 (qJ6 [] (unionsL (MA.take q) MB)))), (25, .mset (qJ6 [] (unionsL (MA.take q) MB)).reverse)]⟩)
   (R := fun q => q ≤ MA.length) (m := fun q => MA.length - q) 0 (by simp) [(8, 8), (25, 25)] ⟨rfl, rfl, ⟨rfl, rfl, rfl, rfl, rfl, rfl, trivial⟩, ⟨rfl, rfl, trivial⟩⟩ ?_
  rintro q hq0
  have hUl : (qJ6 [] (unionsL (MA.take q) MB)).length ≤ 1048576 := by
   have := addAll_length (unionsL (MA.take q) MB) []
   rw [unionsL_length] at this
   have h3 : (MA.take q).length * MB.length ≤ 1024 * 1024 := Nat.mul_le_mul (by simp; omega) (by omega)
   simp only [List.length_nil, Nat.zero_add] at this
   omega
  refine KW.goIf qQ0 qV5 100 rfl (by simp) rfl trivial (fun h3 => ?_) fun h3 => ?_
  ·have hq : q < MA.length := by simpa using h3
   have hg : MA.getD (Int.toNat (q : Int)) 0 = MA[q] := by simp [List.getD_eq_getElem?_getD, hq]
   have hsucc : unionsL (MA.take (q + 1)) MB = unionsL (MA.take q) MB ++ MB.map fun y => ior .i64 MA[q] y := by
    unfold unionsL
    rw [List.take_succ_eq_append_getElem hq, List.flatMap_append, List.flatMap_singleton]
   generalize hU : qJ6 [] (unionsL (MA.take q) MB) = U at hUl
   refine KW.goLpR qQ0 qV5 100 rfl (I := fun p : Nat => ⟨Tryz.f110.ntmps, [(1, .e (lV MB)), (7, .e (.r 25)), (8, .e (.r 8)), (10, sI MA[q]), (26, .e (lV MA)), (27, sI MA.length), (28, sI q), (32, .e (lV MB)), (33, sI MB.length), (34, sI p)], [(8, .own 3 (qZ5 (qJ6 U ((MB.take p).map fun y => ior .i64 MA[q] y)))), (25, .mset (qJ6 U ((MB.take p).map fun y => ior .i64 MA[q] y)).reverse)]⟩)
    (R := fun p => p ≤ MB.length) (m := fun p => MB.length - p) 0 [(8, 8), (25, 25)] rfl rfl ⟨rfl, rfl, rfl, by rw [<-hg]; rfl, rfl, rfl, rfl, rfl, rfl, rfl, trivial⟩ (by simp; omega) (by simp) ⟨rfl, rfl, trivial⟩ ?_
   rintro p hp0
   have hVl : (qJ6 U ((MB.take p).map fun y => ior .i64 MA[q] y)).length ≤ 2097152 := by
    have := addAll_length ((MB.take p).map fun y => ior .i64 MA[q] y) U
    simp only [List.length_map, List.length_take] at this
    omega
   refine KW.goIf qQ0 qV5 100 rfl (by simp) rfl trivial (fun h4 => ?_) fun h4 => ?_
   ·have hp : p < MB.length := by simpa using h4
    have hgp : MB.getD (Int.toNat (p : Int)) 0 = MB[p] := by simp [List.getD_eq_getElem?_getD, hp]
    have hps : qJ6 U ((MB.take (p + 1)).map fun y => ior .i64 MA[q] y) = qJ6 (qJ6 U ((MB.take p).map fun y => ior .i64 MA[q] y)) [ior .i64 MA[q] MB[p]] := by
     rw [List.take_succ_eq_append_getElem hp, List.map_append, addAll_append]; rfl
    generalize qJ6 U ((MB.take p).map fun y => ior .i64 MA[q] y) = V at hVl hps
    refine KW.go qQ0 qV5 100 rfl (by simp; omega) ?_
    refine KW.look qQ0 rfl rfl rfl rfl rfl rfl rfl rfl trivial trivial ?_
    rw [hgp]
    refine KW.goIf qQ0 qV5 100 rfl (by simp) rfl trivial (fun h5 => ?_) fun h5 => ?_
    ·have hnot : ¬ ior .i64 MA[q] MB[p] ∈ V := by simpa using h5
     refine KW.go qQ0 qV5 100 rfl (by simp) ?_
     refine KW.mapPut qQ0 rfl rfl rfl rfl rfl rfl rfl trivial trivial ?_
     refine KW.goToR qQ0 qV5 100 rfl (p + 1) [(8, 50), (25, 25)] rfl rfl ⟨rfl, rfl, rfl, rfl, rfl, rfl, rfl, rfl, rfl, rfl, trivial⟩ (by simp [inK] <;> omega) ⟨by omega, by omega⟩ ⟨qC3 _ ?_, ?_, trivial⟩
     ·rw [hps, qJ6, qJ6, if_neg hnot]
     ·rw [hps, qJ6, qJ6, if_neg hnot, List.reverse_append]; rfl
    ·have hin : ior .i64 MA[q] MB[p] ∈ V := by simpa using h5
     refine KW.goToR qQ0 qV5 100 rfl (p + 1) [(8, 8), (25, 25)] rfl rfl ⟨rfl, rfl, rfl, rfl, rfl, rfl, rfl, rfl, rfl, rfl, trivial⟩ (by simp [inK] <;> omega) ⟨by omega, by omega⟩ ⟨qA3 _ ?_, ?_, trivial⟩
     ·rw [hps, qJ6, qJ6, if_pos hin]
     ·rw [hps, qJ6, qJ6, if_pos hin]; rfl
   ·have hp : p = MB.length := by simp at h4; omega
    have hfin : qJ6 U ((MB.take p).map fun y => ior .i64 MA[q] y) = qJ6 [] (unionsL (MA.take (q + 1)) MB) := by
     rw [hp, List.take_length, <-hU, hsucc, addAll_append]
    refine KW.goOut qQ0 qV5 100 rfl (by simp) ?_
    refine KW.goToR qQ0 qV5 100 rfl (q + 1) [(8, 8), (25, 25)] rfl rfl ⟨rfl, rfl, rfl, rfl, rfl, rfl, trivial⟩ (by simp [inK] <;> omega) ⟨by omega, by omega⟩ ⟨qA3 _ hfin, ?_, trivial⟩
    rw [<-hfin]; rfl
  ·have hq : q = MA.length := by simp at h3; omega
   have hU : qJ6 [] (unionsL (MA.take q) MB) = unionsC a b := by rw [hq, List.take_length]; unfold unionsC; rw [hA, hB]
   refine KW.goOut qQ0 qV5 100 rfl (by simp) ?_
   refine KW.go qQ0 qV5 100 rfl (by simp) ?_
   refine KW.frz 8 [53] rfl rfl rfl ?_
   refine KW.goRet qQ0 qV5 100 rfl rfl ?_ ?_ trivial
   ·simp [SV.ren, renL, EV.ren, hU, h, qQ2]
   ·simp only [qQ2, qQ8, true_and, and_true]
    rw [hU]
    exact ⟨unionsC_valid va vb, by rw [<-hU]; omega⟩
def T14 : Fns := (110, fLL (fun a b => .tup [lV (if qY0 a b = 0 then limL (minS (unionsC a b)) else []), eV (if qY0 a b = 0 then limE (minS (unionsC a b)) else qY0 a b)]) fun _ _ => True) ::
 T13
theorem T14_ok : FnsOk Tryz.prog T14 := .cons (qV5) Tryz.func110 rfl rfl (fLL_ok fun a b _ => product_does a b)
end Go.Proofs.YtgoilpfpmbjegaaGreatDoor
end
section
namespace Go.Proofs.YtgoilpfpmbjegaaGreatDoor
open Go.Sy Go.Pu
variable [Drw]
def T15 : Fns := T14
theorem T15_ok : FnsOk Tryz.prog T15 := T14_ok
end Go.Proofs.YtgoilpfpmbjegaaGreatDoor
namespace Go.Proofs.YtgoilpfpmbjegaaGreatDoor
open Go.Sy Go.Pu
variable [Drw]
theorem concat_does (ls : List (List Int)) (hb : ls.flatten.length ≤ 1099511627776) : DoesF Tryz.prog 156 [.c (intss ls)] [] (.e (lV ls.flatten)) [] := by
 have hsucc : ∀ q (hq : q < ls.length), (ls.take (q + 1)).flatten = (ls.take q).flatten ++ ls[q] := fun q hq => by
  rw [List.take_succ_eq_append_getElem hq, List.flatten_append]; simp
 have hle : ∀ q, (ls.take q).flatten.length ≤ ls.flatten.length := fun q => by
  conv => rhs; rw [<-List.take_append_drop q ls, List.flatten_append, List.length_append]
  omega
 refine DoesF.body _ Tryz.func156 rfl rfl rfl rfl ?_
 refine KW.len 0 rfl rfl fun hla => ?_
 refine KW.goLp qQ0 T15_ok 100 rfl (I := fun q : Nat => ⟨Tryz.f156.ntmps, [(0, .e (.c (intss ls))), (3, sI ((ls.take q).flatten.length : Nat)), (9, .e (.c (intss ls))), (10, sI ls.length), (11, sI q)], []⟩) (R := fun q => q ≤ ls.length) (m := fun q => ls.length - q) 0 rfl ⟨rfl, rfl, rfl, rfl, rfl, trivial⟩ (by simp) (by simp) trivial ?_
 rintro q hq0
 refine KW.goIf qQ0 T15_ok 100 rfl (by simp) rfl trivial (fun h => ?_) fun h => ?_
 ·have hq : q < ls.length := by simpa using h
  have hg : ls.getD (Int.toNat (q : Int)) [] = ls[q] := by simp [List.getD_eq_getElem?_getD, hq]
  have h1 := hle (q + 1)
  have h2 : ((ls.take (q + 1)).flatten.length : Int) = ((ls.take q).flatten.length : Nat) + ((ls.getD (Int.toNat (q : Int)) []).length : Nat) := by rw [hg, hsucc q hq, List.length_append]; omega
  have h3 : ((ls.take q).flatten.length : Int) + ((ls.getD (Int.toNat (q : Int)) []).length : Int) ≤ 1099511627776 := by rw [<-h2]; omega
  refine KW.goIf qQ0 T15_ok 100 rfl (by simp only [inK, true_and, and_true]; omega) rfl trivial (fun h => ?_) fun h => ?_
  ·have := of_decide_eq_true h
   omega
  ·refine KW.goTo qQ0 T15_ok 100 rfl (q + 1) rfl ⟨rfl, ?_, rfl, rfl, rfl, trivial⟩ (by simp [inK] <;> omega) ⟨by omega, by omega⟩ trivial
   rw [h2]; rfl
 ·have hq : q = ls.length := by simp at h; omega
  have hall : (ls.take q).flatten = ls.flatten := by rw [hq, List.take_length]
  rw [hall]
  refine KW.goOut qQ0 T15_ok 100 rfl (by simp) ?_
  refine KW.go qQ0 T15_ok 100 rfl (by simp) ?_
  refine KW.callO0 (grow_does ls.flatten.length hb) (qQ9 Tryz.func163 rfl rfl) [] (.inl rfl) rfl rfl rfl rfl rfl trivial ⟨⟨_, _, rfl, trivial, .conv (CVEq.refl _)⟩, ⟨_, _, rfl, trivial, .conv (CVEq.refl _)⟩, trivial⟩ rfl (.inl rfl) ?_
  refine KW.goLpR qQ0 T15_ok 100 rfl (I := fun q : Nat => ⟨Tryz.f156.ntmps, [(6, .e (.r 24)), (25, .e (.c (intss ls))), (26, sI ls.length), (27, sI q)], [(24, .own 3 (qZ5 (ls.take q).flatten))]⟩) (R := fun q => q ≤ ls.length) (m := fun q => ls.length - q) 0 [(24, 24)] rfl rfl ⟨rfl, rfl, rfl, rfl, trivial⟩ (by simp) (by simp) ⟨rfl, trivial⟩ ?_
  rintro q hq0
  refine KW.goIf qQ0 T15_ok 100 rfl (by simp) rfl trivial (fun h => ?_) fun h => ?_
  ·have hq : q < ls.length := by simpa using h
   have hg : ls.getD (Int.toNat (q : Int)) [] = ls[q] := by simp [List.getD_eq_getElem?_getD, hq]
   have h1 := hle (q + 1)
   have h2 : (ls.take (q + 1)).flatten.length = (ls.take q).flatten.length + (ls.getD (Int.toNat (q : Int)) []).length := by rw [hg, hsucc q hq, List.length_append]
   refine KW.goToR qQ0 T15_ok 100 rfl (q + 1) [(24, 33)] rfl rfl ⟨rfl, rfl, rfl, rfl, trivial⟩ (by simp only [inK, true_and, and_true]; omega) ⟨by omega, by omega⟩ ⟨qC3 _ ?_, trivial⟩
   rw [hg, hsucc q hq]
  ·have hq : q = ls.length := by simp at h; omega
   refine KW.goOut qQ0 T15_ok 100 rfl (by simp) ?_
   refine KW.goRetO qQ0 T15_ok 100 rfl 24 2 rfl rfl rfl ?_ (by simp <;> omega)
   rw [hq, List.take_length]
def T16 : Fns := (156, fLs (fun ls => .e (lV ls.flatten)) fun ls => ls.flatten.length ≤ 1099511627776) ::
 T15
theorem T16_ok : FnsOk Tryz.prog T16 := .cons (T15_ok) Tryz.func156 rfl rfl (fLs_ok fun ls h => concat_does ls h)
theorem plus_does (a b : List Int) : DoesF Tryz.prog 148 [lV a, lV b] [] (.tup [lV (if qY0 a b = 0 then limL (minS (a ++ b)) else []), eV (if qY0 a b = 0 then limE (minS (a ++ b)) else qY0 a b)]) [] := by
 refine DoesF.body _ Tryz.func148 rfl rfl rfl rfl ?_
 refine KW.goIf qQ0 T16_ok 100 rfl (by simp) rfl trivial (fun h => ?_) fun h => ?_
 ·refine KW.go qQ0 T16_ok 100 rfl (by simp) ?_
  refine KW.conv 4 (qZ5 []) rfl ⟨rfl, rfl⟩ ?_
  refine KW.fin [] rfl rfl ?_ trivial
  simp [listsE_two] at h
  simp [SV.ren, renL, EV.ren, listsE_two, h]
 ·simp [listsE_two] at h
  have h1 : qV0 a = 0 := by unfold qY0 at h; split at h <;> simp_all
  have h2 : qV0 b = 0 := by unfold qY0 at h; split at h <;> simp_all
  have la := qK0 h1
  have lb := qK0 h2
  have va := qY9 h1
  have vb := qY9 h2
  refine KW.go qQ0 T16_ok 100 rfl (by simp) ?_
  refine KW.frz1 16 rfl rfl rfl ?_
  refine KW.goRet qQ0 T16_ok 100 rfl rfl ?_ ?_ trivial
  ·simp [SV.ren, renL, EV.ren, h, qQ2]
  ·simp only [List.map_cons, List.map_nil, Nat.zero_mul, Nat.one_mul, fill2, unII_rows2, qQ2, isII_r2, qQ8, true_and, and_true]
   simp only [List.flatten_cons, List.flatten_nil, List.append_nil, List.length_append]
   refine ⟨by omega, fun x hx => ?_, by omega⟩
   rcases List.mem_append.1 hx with hx | hx
   ·exact va x hx
   ·exact vb x hx
theorem rplus_does (a b : List Int) : DoesF Tryz.prog 139 [lV a, lV b] [] (.tup [lV (if qY0 a b = 0 then limL (qB6 (a ++ b)) else []), iV (if qY0 a b = 0 then limE (qB6 (a ++ b)) else qY0 a b)]) [] := by
 refine DoesF.body _ Tryz.func139 rfl rfl rfl rfl ?_
 refine KW.goIf qQ0 T16_ok 100 rfl (by simp) rfl trivial (fun h => ?_) fun h => ?_
 ·refine KW.go qQ0 T16_ok 100 rfl (by simp) ?_
  refine KW.conv 4 (qZ5 []) rfl ⟨rfl, rfl⟩ ?_
  refine KW.fin [] rfl rfl ?_ trivial
  simp at h
  simp [SV.ren, renL, EV.ren, h]
 ·simp at h
  have h1 : qV0 a = 0 := by unfold qY0 at h; split at h <;> simp_all
  have h2 : qV0 b = 0 := by unfold qY0 at h; split at h <;> simp_all
  have la := qK0 h1
  have lb := qK0 h2
  have hcat : catV (catV (qZ5 []) (qZ5 a)) (qZ5 b) = qZ5 (a ++ b) := by rw [catV_ints, catV_ints]; rfl
  refine KW.go qQ0 T16_ok 100 rfl (by simp; omega) ?_
  refine KW.frz1 17 rfl rfl rfl ?_
  refine KW.goRet qQ0 T16_ok 100 rfl rfl ?_ ?_ trivial
  ·rw [hcat]
   simp [SV.ren, renL, EV.ren, h, qQ2]
  ·rw [hcat]
   simp [qQ2]
   omega
theorem rproduct_does (a b : List Int) : DoesF Tryz.prog 117 [lV a, lV b] [] (.tup [lV (if qY0 a b = 0 then limL (qB6 (unionsL a b)) else []), iV (if qY0 a b = 0 then limE (qB6 (unionsL a b)) else qY0 a b)]) [] := by
 refine DoesF.body _ Tryz.func117 rfl rfl rfl rfl ?_
 refine KW.goIf qQ0 T16_ok 100 rfl (by simp) rfl trivial (fun h => ?_) fun h => ?_
 ·refine KW.go qQ0 T16_ok 100 rfl (by simp) ?_
  refine KW.conv 4 (qZ5 []) rfl ⟨rfl, rfl⟩ ?_
  refine KW.fin [] rfl rfl ?_ trivial
  simp at h
  simp [SV.ren, renL, EV.ren, h]
 ·simp at h
  have h1 : qV0 a = 0 := by unfold qY0 at h; split at h <;> simp_all
  have h2 : qV0 b = 0 := by unfold qY0 at h; split at h <;> simp_all
  have la := qK0 h1
  have lb := qK0 h2
  refine KW.go qQ0 T16_ok 100 rfl (by simp) ?_
  refine KW.nilO 7 7 3 (qZ5 []) rfl rfl rfl ?_
  refine KW.lp (I := fun q : Nat => ⟨Tryz.f117.ntmps, [(1, .e (lV b)), (7, .e (.r 7)), (18, .e (lV a)), (19, sI a.length), (20, sI q)], [(7, .own 3 (qZ5 (unionsL (a.take q) b)))]⟩)
   (R := fun q => q ≤ a.length) (m := fun q => a.length - q) 0 (by simp) [(7, 7)] ⟨rfl, rfl, ⟨rfl, rfl, rfl, rfl, rfl, trivial⟩, ⟨rfl, trivial⟩⟩ ?_
  rintro q hq0
  have hUl : (unionsL (a.take q) b).length ≤ 1048576 := by
   rw [unionsL_length]
   have : (a.take q).length * b.length ≤ 1024 * 1024 := Nat.mul_le_mul (by simp; omega) (by omega)
   omega
  refine KW.goIf qQ0 T16_ok 100 rfl (by simp) rfl trivial (fun h3 => ?_) fun h3 => ?_
  ·have hq : q < a.length := by simpa using h3
   have hg : a.getD (Int.toNat (q : Int)) 0 = a[q] := by simp [List.getD_eq_getElem?_getD, hq]
   have hsucc : unionsL (a.take (q + 1)) b = unionsL (a.take q) b ++ b.map fun y => ior .i64 a[q] y := by
    unfold unionsL
    rw [List.take_succ_eq_append_getElem hq, List.flatMap_append, List.flatMap_singleton]
   generalize hU : unionsL (a.take q) b = U at hUl hsucc
   refine KW.goLpR qQ0 T16_ok 100 rfl (I := fun p : Nat => ⟨Tryz.f117.ntmps, [(1, .e (lV b)), (7, .e (.r 7)), (9, sI a[q]), (18, .e (lV a)), (19, sI a.length), (20, sI q), (24, .e (lV b)), (25, sI b.length), (26, sI p)], [(7, .own 3 (qZ5 (U ++ (b.take p).map fun y => ior .i64 a[q] y)))]⟩)
    (R := fun p => p ≤ b.length) (m := fun p => b.length - p) 0 [(7, 7)] rfl rfl ⟨rfl, rfl, by rw [<-hg]; rfl, rfl, rfl, rfl, rfl, rfl, rfl, trivial⟩ (by simp; omega) (by simp) ⟨qA3 _ (by simp), trivial⟩ ?_
   rintro p hp0
   refine KW.goIf qQ0 T16_ok 100 rfl (by simp) rfl trivial (fun h4 => ?_) fun h4 => ?_
   ·have hp : p < b.length := by simpa using h4
    have hgp : b.getD (Int.toNat (p : Int)) 0 = b[p] := by simp [List.getD_eq_getElem?_getD, hp]
    have hps : U ++ (b.take (p + 1)).map (fun y => ior .i64 a[q] y) = (U ++ (b.take p).map fun y => ior .i64 a[q] y) ++ [ior .i64 a[q] b[p]] := by
     rw [List.take_succ_eq_append_getElem hp, List.map_append, List.append_assoc]; rfl
    have hVl : (U ++ (b.take p).map fun y => ior .i64 a[q] y).length ≤ 2097152 := by
     simp only [List.length_append, List.length_map, List.length_take]; omega
    generalize U ++ (b.take p).map (fun y => ior .i64 a[q] y) = V at hVl hps
    refine KW.goToR qQ0 T16_ok 100 rfl (p + 1) [(7, 35)] rfl rfl ⟨rfl, rfl, rfl, rfl, rfl, rfl, rfl, rfl, rfl, trivial⟩ (by simp [inK] <;> omega) ⟨by omega, by omega⟩ ⟨qC3 _ ?_, trivial⟩
    rw [hps, hgp]
   ·have hp : p = b.length := by simp at h4; omega
    refine KW.goOut qQ0 T16_ok 100 rfl (by simp) ?_
    refine KW.goToR qQ0 T16_ok 100 rfl (q + 1) [(7, 7)] rfl rfl ⟨rfl, rfl, rfl, rfl, rfl, trivial⟩ (by simp [inK] <;> omega) ⟨by omega, by omega⟩ ⟨qA3 _ ?_, trivial⟩
    rw [hp, List.take_length, hsucc]
  ·have hq : q = a.length := by simp at h3; omega
   have hU : unionsL (a.take q) b = unionsL a b := by rw [hq, List.take_length]
   refine KW.goOut qQ0 T16_ok 100 rfl (by simp) ?_
   refine KW.go qQ0 T16_ok 100 rfl (by simp) ?_
   refine KW.frz 7 [38] rfl rfl rfl ?_
   refine KW.goRet qQ0 T16_ok 100 rfl rfl ?_ ?_ trivial
   ·simp [SV.ren, renL, EV.ren, hU, h, qQ2]
   ·simp only [qQ2, qQ8, true_and, and_true]
    omega
def T17 : Fns := (148, fLL (fun a b => .tup [lV (if qY0 a b = 0 then limL (minS (a ++ b)) else []), eV (if qY0 a b = 0 then limE (minS (a ++ b)) else qY0 a b)]) fun _ _ => True) ::
 (139, fLL (fun a b => .tup [lV (if qY0 a b = 0 then limL (qB6 (a ++ b)) else []), iV (if qY0 a b = 0 then limE (qB6 (a ++ b)) else qY0 a b)]) fun _ _ => True) ::
 (117, fLL (fun a b => .tup [lV (if qY0 a b = 0 then limL (qB6 (unionsL a b)) else []), iV (if qY0 a b = 0 then limE (qB6 (unionsL a b)) else qY0 a b)]) fun _ _ => True) ::
 T16
theorem T17_ok : FnsOk Tryz.prog T17 := .cons (.cons (.cons (T16_ok) Tryz.func117 rfl rfl (fLL_ok fun a b _ => rproduct_does a b)) Tryz.func139 rfl rfl (fLL_ok fun a b _ => rplus_does a b)) Tryz.func148 rfl rfl (fLL_ok fun a b _ => plus_does a b)
end Go.Proofs.YtgoilpfpmbjegaaGreatDoor
namespace Go.Proofs.YtgoilpfpmbjegaaGreatDoor
open Go.Sy Go.Pu
variable [Drw]
end Go.Proofs.YtgoilpfpmbjegaaGreatDoor
namespace Go.Proofs.YtgoilpfpmbjegaaGreatDoor
open Go.Sy Go.Pu
variable [Drw]
end Go.Proofs.YtgoilpfpmbjegaaGreatDoor
end
section
namespace Go.Proofs.YtgoilpfpmbjegaaGreatDoor
open Go.Sy Go.Pu
variable [Drw]
theorem has_does (s i : Int) : DoesF Tryz.prog 60 [iV s, iV i] [] (sB (hasB s i)) [] := by
 refine DoesF.body _ Tryz.func60 rfl rfl rfl rfl ?_
 refine KW.goRet qQ0 T17_ok 100 rfl rfl rfl ?_ trivial
 simp [qC0]
 intros; omega
theorem rhas_does (s i : Int) : DoesF Tryz.prog 114 [iV s, iV i] [] (sB (hasB s i)) [] := by
 refine DoesF.body _ Tryz.func114 rfl rfl rfl rfl ?_
 refine KW.goRet qQ0 T17_ok 100 rfl rfl rfl ?_ trivial
 simp [qC0]
 intros; omega
theorem len_does (x : Int) (h0 : 0 ≤ x) (h1 : x ≤ 18446744073709551615) : DoesF Tryz.prog 158 [.c (.lit (.int .u64 x))] [] (sI (Lib.bitLen x.toNat : Nat)) [] := by
 refine DoesF.ofSame (args := #[.int .u64 x]) rfl (fun o h args w hs => args1 (by exact hs.size) ?_) fun w => Any.bits_Len layLen x w h0 h1
 exact (show RepV o w (.lit (.int .u64 x)) _ from hs.slot 0 (.e (.c (.lit (.int .u64 x)))) rfl).1
def T20 : Fns := (60, fII (fun s i => sB (hasB s i)) fun _ _ => True) ::
 (114, fII (fun s i => sB (hasB s i)) fun _ _ => True) ::
 (158, fU (fun x => sI (Lib.bitLen x.toNat : Nat)) fun x => 0 ≤ x /\ x ≤ 18446744073709551615) ::
 T17
theorem T20_ok : FnsOk Tryz.prog T20 := .cons (.cons (.cons (T17_ok) Tryz.func158 rfl rfl (fU_ok fun x h => len_does x h.1 h.2)) Tryz.func114 rfl rfl (fII_ok fun s i _ => rhas_does s i)) Tryz.func60 rfl rfl (fII_ok fun s i _ => has_does s i)
theorem elements_does (s : Int) : DoesF Tryz.prog 79 [iV s] [] (.e (lV (qW1 s))) [] := by
 refine DoesF.body _ Tryz.func79 rfl rfl rfl rfl ?_
 refine KW.go qQ0 T20_ok 100 rfl (by simp) ?_
 refine KW.nilO 3 3 3 (qZ5 []) rfl rfl rfl ?_
 refine KW.lp (I := fun q : Nat => ⟨Tryz.f79.ntmps, [(0, sI s), (3, .e (.r 3)), (5, sI q)], [(3, .own 3 (qZ5 (elemsN s q)))]⟩)
  (R := fun q => q ≤ 24) (m := fun q => 24 - q) 0 (by simp) [(3, 3)] ⟨rfl, rfl, ⟨rfl, rfl, rfl, trivial⟩, ⟨rfl, trivial⟩⟩ ?_
 rintro q hq0
 have hlen := elemsN_length s q
 refine KW.goIf qQ0 T20_ok 100 rfl (by simp) rfl trivial (fun h => ?_) fun h => ?_
 ·have hq : q < 24 := by simp at h; omega
  refine KW.goIf qQ0 T20_ok 100 rfl (by simp) rfl trivial (fun h1 => ?_) fun h1 => ?_
  ·have hb : bit s q = true := by rw [<-hasB_nat s hq]; exact h1
   refine KW.goToR qQ0 T20_ok 100 rfl (q + 1) [(3, 14)] rfl rfl ⟨rfl, rfl, rfl, trivial⟩ (by simp [inK] <;> omega) ⟨by omega, by omega⟩ ⟨qC3 _ ?_, trivial⟩
   rw [qD5, hb]; rfl
  ·have hb : bit s q = false := by rw [<-hasB_nat s hq]; exact h1
   refine KW.goToR qQ0 T20_ok 100 rfl (q + 1) [(3, 3)] rfl rfl ⟨rfl, rfl, rfl, trivial⟩ (by simp [inK] <;> omega) ⟨by omega, by omega⟩ ⟨qA3 _ ?_, trivial⟩
   rw [qD5, hb]; simp
 ·have hq : q = 24 := by simp at h; omega
  subst hq
  refine KW.goOut qQ0 T20_ok 100 rfl (by simp) ?_
  exact KW.goRetO qQ0 T20_ok 100 rfl 3 2 rfl rfl rfl rfl (by simp)
def T21 : Fns := (79, fI (fun s => .e (lV (qW1 s))) fun _ => True) ::
 T20
theorem T21_ok : FnsOk Tryz.prog T21 := .cons (T20_ok) Tryz.func79 rfl rfl (fI_ok fun s _ => elements_does s)
def T22 : Fns := (22, fVI (fun v c => sB (decide (numV v ≠ 0) && decide (numV v = c))) fun v c => isErr 57 v) ::
 T21
theorem qY8 : FnsOk Tryz.prog T22 := .cons (T21_ok) Tryz.func22 rfl rfl (fVI_ok fun v c h => is_does v c h)
end Go.Proofs.YtgoilpfpmbjegaaGreatDoor
namespace Go.Proofs.YtgoilpfpmbjegaaGreatDoor
open Go.Sy Go.Pu
variable [Drw]
theorem one_inK {q : Nat} (hq : q < 24) : 0 ≤ qW0 1 (q : Int) /\ qW0 1 (q : Int) ≤ 16777215 := qJ3.1 (one_valid hq)
theorem singles_does (s : Int) : DoesF Tryz.prog 118 [iV s] [] (.e (lV (singS s))) [] := by
 refine DoesF.body _ Tryz.func118 rfl rfl rfl rfl ?_
 have hl24 : (qW1 s).length ≤ 24 := elemsN_length s 24
 refine KW.go qQ0 qY8 100 rfl (by simp) ?_
 refine KW.nilO 3 3 3 (qZ5 []) rfl rfl rfl ?_
 refine KW.lp (I := fun q : Nat => ⟨Tryz.f118.ntmps, [(3, .e (.r 3)), (7, .e (lV (qW1 s))), (8, sI (qW1 s).length), (9, sI q)], [(3, .own 3 (qZ5 (((qW1 s).take q).map fun i => qW0 1 i)))]⟩)
  (R := fun q => q ≤ (qW1 s).length) (m := fun q => (qW1 s).length - q) 0 (by simp) [(3, 3)] ⟨rfl, rfl, ⟨rfl, rfl, rfl, rfl, trivial⟩, ⟨rfl, trivial⟩⟩ ?_
 rintro q hq0
 refine KW.goIf qQ0 qY8 100 rfl (by simp) rfl trivial (fun h => ?_) fun h => ?_
 ·have hq : q < (qW1 s).length := by simpa using h
  have hg : (qW1 s).getD (Int.toNat (q : Int)) 0 = (qW1 s)[q] := by simp [List.getD_eq_getElem?_getD, hq]
  obtain ⟨i, hi, _, hix⟩ := mem_elemsS.1 (List.getElem_mem hq)
  have h1 := one_inK hi
  have h2 : (((qW1 s).take q).map fun i => qW0 1 i).length = q := by simp; omega
  have hge : (qW1 s).getD (Int.toNat (q : Int)) 0 = (i : Int) := hg.trans hix
  refine KW.goToR qQ0 qY8 100 rfl (q + 1) [(3, 17)] rfl rfl ⟨rfl, rfl, rfl, rfl, trivial⟩ (by rw [hge]; simp only [inK, qC0, true_and, and_true, h2]; simp; omega) ⟨by omega, by omega⟩ ⟨qC3 _ ?_, trivial⟩
  rw [List.take_succ_eq_append_getElem hq, List.map_append, hg]; rfl
 ·have hq : q = (qW1 s).length := by simp at h; omega
  refine KW.goOut qQ0 qY8 100 rfl (by simp) ?_
  refine KW.goRetO qQ0 qY8 100 rfl 3 2 rfl rfl rfl ?_ (by simp <;> omega)
  rw [hq, List.take_length, singS_eq]
theorem all_does (l : List Int) : DoesF Tryz.prog 74 [lV l] [] (.tup [lV (if hitE l = 0 then hitL l else []), eV (hitE l)]) [] := by
 refine DoesF.body _ Tryz.func74 rfl rfl rfl rfl ?_
 refine KW.goIf qQ0 qY8 100 rfl (by simp) rfl trivial (fun h => ?_) fun h => ?_
 ·refine KW.go qQ0 qY8 100 rfl (by simp) ?_
  refine KW.conv 2 (qZ5 []) rfl ⟨rfl, rfl⟩ ?_
  refine KW.fin [] rfl rfl ?_ trivial
  simp at h
  simp [SV.ren, renL, EV.ren, hitE, h]
 ·simp at h
  have hv : Val l := qY9 h
  have hml := qB0 l
  have hll := qK0 h
  have hE : hitE l = (allC [0] (minS l)).2 := by simp [hitE, h]
  have hL : hitL l = (allC [0] (minS l)).1 := by simp [hitL, h]
  rw [hE, hL]
  refine KW.go qQ0 qY8 100 rfl (by simp) ?_
  refine KW.frz 19 [6] rfl rfl rfl ?_
  simp only [qQ2, h, if_true]
  generalize minS l = M at hml
  refine KW.lp (I := fun q : List Int × Nat => ⟨Tryz.f74.ntmps, [(6, .e (lV q.1)), (20, .e (lV M)), (21, sI M.length), (22, sI q.2)], []⟩)
   (R := fun q => q.2 ≤ M.length /\ Fam q.1 /\ allC q.1 (M.drop q.2) = allC [0] M) (m := fun q => M.length - q.2) ([0], 0) ⟨by simp, Fam.zero, by simp⟩ [] ⟨rfl, rfl, ⟨rfl, rfl, rfl, rfl, trivial⟩, trivial⟩ ?_
  rintro ⟨out, q⟩ ⟨h1, h2, h3⟩
  simp only at h1 h2 h3
  refine KW.goIf qQ0 qY8 100 rfl (by simp) rfl trivial (fun h4 => ?_) fun h4 => ?_
  ·have hq : q < M.length := by simpa using h4
   have hg : M.getD (Int.toNat (q : Int)) 0 = M[q] := by simp [List.getD_eq_getElem?_getD, hq]
   have hd : M.drop q = M[q] :: M.drop (q + 1) := List.drop_eq_getElem_cons hq
   rw [hd, allC] at h3
   refine KW.go qQ0 qY8 100 rfl (by simp; omega) ?_
   refine KW.nilO 9 9 3 (qZ5 []) rfl rfl rfl ?_
   refine KW.lp (I := fun p : Nat => ⟨Tryz.f74.ntmps, [(6, .e (lV out)), (8, sI M[q]), (9, .e (.r 9)), (20, .e (lV M)), (21, sI M.length), (22, sI q), (26, sI p)], [(9, .own 3 (qZ5 (singN M[q] p)))]⟩)
    (R := fun p => p ≤ 24) (m := fun p => 24 - p) 0 (by simp) [(9, 9)] ⟨rfl, rfl, ⟨rfl, by rw [<-hg]; rfl, rfl, rfl, rfl, rfl, rfl, trivial⟩, ⟨rfl, trivial⟩⟩ ?_
   rintro p hp0
   have hlen := singN_length M[q] p
   refine KW.goIf qQ0 qY8 100 rfl (by simp) rfl trivial (fun h5 => ?_) fun h5 => ?_
   ·have hp : p < 24 := by simp at h5; omega
    have h1 := one_inK hp
    refine KW.goIf qQ0 qY8 100 rfl (by simp) rfl trivial (fun h6 => ?_) fun h6 => ?_
    ·have hb : bit M[q] p = true := by rw [<-hasB_nat _ hp]; exact h6
     refine KW.goToR qQ0 qY8 100 rfl (p + 1) [(9, 36)] rfl rfl ⟨rfl, rfl, rfl, rfl, rfl, rfl, rfl, trivial⟩ (by simp [inK, qC0] <;> omega) ⟨by omega, by omega⟩ ⟨qC3 _ ?_, trivial⟩
     rw [singN_succ, hb]; rfl
    ·have hb : bit M[q] p = false := by rw [<-hasB_nat _ hp]; exact h6
     refine KW.goToR qQ0 qY8 100 rfl (p + 1) [(9, 9)] rfl rfl ⟨rfl, rfl, rfl, rfl, rfl, rfl, rfl, trivial⟩ (by simp [inK] <;> omega) ⟨by omega, by omega⟩ ⟨qA3 _ ?_, trivial⟩
     rw [singN_succ, hb]; simp
   ·have hp : p = 24 := by simp at h5; omega
    subst hp
    refine KW.goOut qQ0 qY8 100 rfl (by simp) ?_
    refine KW.go qQ0 qY8 100 rfl (by simp) ?_
    refine KW.frz 9 [40] rfl rfl rfl ?_
    refine KW.goIf qQ0 qY8 100 rfl (by simp) rfl trivial (fun h7 => ?_) fun h7 => ?_
    ·have h7' : ¬ stepA out M[q] = 0 := by
      have e : (!qY4 (errV 57 (stepA out M[q]))) = true := by simp only [qQ2] at h7; exact h7
      simpa using e
     rw [if_neg h7'] at h3
     refine KW.goOutR qQ0 qY8 100 rfl (by simp) ?_
     refine KW.go qQ0 qY8 100 rfl (by simp) ?_
     refine KW.conv 2 (qZ5 []) rfl ⟨rfl, rfl⟩ ?_
     refine KW.fin [] rfl rfl ?_ trivial
     rw [<-h3]
     simp only [qQ2, SV.ren, renL, EV.ren]
     rw [if_neg h7']
     rfl
    ·have h7' : stepA out M[q] = 0 := by
      have e : (!qY4 (errV 57 (stepA out M[q]))) = false := by simp only [qQ2] at h7; exact h7
      simpa using e
     rw [if_pos h7'] at h3
     refine KW.goTo qQ0 qY8 100 rfl (resA out M[q], q + 1) rfl ⟨by simp only [qQ2]; rfl, rfl, rfl, rfl, trivial⟩ (by simp [inK] <;> omega) ⟨⟨by simp only; omega, (h2.step h7').1, h3⟩, by simp only; omega⟩ trivial
  ·have hq : q = M.length := by simp at h4; omega
   refine KW.goOut qQ0 qY8 100 rfl (by simp) ?_
   refine KW.goRet qQ0 qY8 100 rfl rfl ?_ (by simp) trivial
   rw [hq, List.drop_length, allC] at h3
   rw [<-h3]
   simp [SV.ren, renL, EV.ren, errV]
end Go.Proofs.YtgoilpfpmbjegaaGreatDoor
namespace Go.Proofs.YtgoilpfpmbjegaaGreatDoor
open Go.Sy Go.Pu
variable [Drw]
def T23 : Fns := (118, fI (fun s => .e (lV (singS s))) fun _ => True) ::
 (74, fL (fun l => .tup [lV (if hitE l = 0 then hitL l else []), eV (hitE l)]) fun _ => True) ::
 T22
theorem qA7 : FnsOk Tryz.prog T23 := .cons (.cons (qY8) Tryz.func74 rfl rfl (fL_ok fun l _ => all_does l)) Tryz.func118 rfl rfl (fI_ok fun s _ => singles_does s)
theorem rall_does (l : List Int) : DoesF Tryz.prog 83 [lV l] [] (.tup [lV (if hitE l = 0 then hitL l else []), iV (hitE l)]) [] := by
 refine DoesF.body _ Tryz.func83 rfl rfl rfl rfl ?_
 refine KW.goIf qQ0 qA7 100 rfl (by simp) rfl trivial (fun h => ?_) fun h => ?_
 ·refine KW.go qQ0 qA7 100 rfl (by simp) ?_
  refine KW.conv 2 (qZ5 []) rfl ⟨rfl, rfl⟩ ?_
  refine KW.fin [] rfl rfl ?_ trivial
  simp at h
  simp [SV.ren, renL, EV.ren, hitE, h]
 ·simp at h
  have hv : Val l := qY9 h
  have hll := qK0 h
  have hml := qB0 l
  have hE : hitE l = (Pu.allR [0] (qB6 l)).2 := by rw [<-minS_eq hv, <-all_eq _ Fam.zero]; simp [hitE, h]
  have hL : hitL l = (Pu.allR [0] (qB6 l)).1 := by rw [<-minS_eq hv, <-all_eq _ Fam.zero]; simp [hitL, h]
  rw [hE, hL]
  rw [minS_eq hv] at hml
  refine KW.go qQ0 qA7 100 rfl (by simp; omega) ?_
  refine KW.frz 15 [5] rfl rfl rfl ?_
  simp only [qQ2]
  generalize qB6 l = M at hml
  refine KW.lp (I := fun q : List Int × Nat => ⟨Tryz.f83.ntmps, [(5, .e (lV q.1)), (17, .e (lV M)), (18, sI M.length), (19, sI q.2)], []⟩)
   (R := fun q => q.2 ≤ M.length /\ Pu.allR q.1 (M.drop q.2) = Pu.allR [0] M) (m := fun q => M.length - q.2) ([0], 0) ⟨by simp, by simp⟩ [] ⟨rfl, rfl, ⟨rfl, rfl, rfl, rfl, trivial⟩, trivial⟩ ?_
  rintro ⟨out, q⟩ ⟨h1, h3⟩
  simp only at h1 h3
  refine KW.goIf qQ0 qA7 100 rfl (by simp) rfl trivial (fun h4 => ?_) fun h4 => ?_
  ·have hq : q < M.length := by simpa using h4
   have hg : M.getD (Int.toNat (q : Int)) 0 = M[q] := by simp [List.getD_eq_getElem?_getD, hq]
   have hd : M.drop q = M[q] :: M.drop (q + 1) := List.drop_eq_getElem_cons hq
   rw [hd, Pu.allR] at h3
   refine KW.goIf qQ0 qA7 100 rfl (by simp; omega) rfl trivial (fun h5 => ?_) fun h5 => ?_
   ·simp only [qQ2, hg] at h5
    have h5' : ¬ stepR out M[q] = 0 := by
     have e : (stepR out M[q] != 0) = true := h5
     simpa using e
    rw [if_neg h5'] at h3
    refine KW.goOutR qQ0 qA7 100 rfl (by simp) ?_
    refine KW.go qQ0 qA7 100 rfl (by simp) ?_
    refine KW.conv 2 (qZ5 []) rfl ⟨rfl, rfl⟩ ?_
    refine KW.fin [] rfl rfl ?_ trivial
    rw [<-h3]
    simp only [qQ2, hg, SV.ren, renL, EV.ren]
    rw [if_neg h5']
    rfl
   ·simp only [qQ2, hg] at h5
    have h5' : stepR out M[q] = 0 := by
     have e : (stepR out M[q] != 0) = false := h5
     simpa using e
    rw [if_pos h5'] at h3
    refine KW.goTo qQ0 qA7 100 rfl (resR out M[q], q + 1) rfl ⟨by simp only [qQ2, hg]; rfl, rfl, rfl, rfl, trivial⟩ (by simp [inK] <;> omega) ⟨⟨by simp only; omega, h3⟩, by simp only; omega⟩ trivial
  ·have hq : q = M.length := by simp at h4; omega
   refine KW.goOut qQ0 qA7 100 rfl (by simp) ?_
   refine KW.goRet qQ0 qA7 100 rfl rfl ?_ (by simp) trivial
   rw [hq, List.drop_length, Pu.allR] at h3
   rw [<-h3]
   simp [SV.ren, renL, EV.ren]
def packS (l : List Int) : List Int := packF [] 0 (minS l)
theorem packing_does (l : List Int) : DoesF Tryz.prog 35 [lV l] [] (.tup [lV (if qV0 l = 0 then packS l else []), eV (qV0 l)]) [] := by
 refine DoesF.body _ Tryz.func35 rfl rfl rfl rfl ?_
 refine KW.goIf qQ0 qA7 100 rfl (by simp) rfl trivial (fun h => ?_) fun h => ?_
 ·refine KW.go qQ0 qA7 100 rfl (by simp) ?_
  refine KW.conv 2 (qZ5 []) rfl ⟨rfl, rfl⟩ ?_
  refine KW.fin [] rfl rfl ?_ trivial
  simp at h
  simp [SV.ren, renL, EV.ren, h]
 ·simp at h
  have hml := qB0 l
  have hll := qK0 h
  refine KW.go qQ0 qA7 100 rfl (by simp) ?_
  refine KW.nilO 6 6 3 (qZ5 []) rfl rfl rfl ?_
  simp only [qQ2, h, if_true, packS]
  generalize minS l = M at hml
  refine KW.lp (I := fun q : (List Int × Int) × Nat => ⟨Tryz.f35.ntmps, [(6, .e (.r 6)), (7, sI q.1.2), (18, .e (lV M)), (19, sI M.length), (20, sI q.2)], [(6, .own 3 (qZ5 q.1.1))]⟩)
   (R := fun q => q.2 ≤ M.length /\ q.1.1.length ≤ q.2 /\ packF q.1.1 q.1.2 (M.drop q.2) = packF [] 0 M) (m := fun q => M.length - q.2) (([], 0), 0) ⟨by simp, by simp, by simp⟩ [(6, 6)] ⟨rfl, rfl, ⟨rfl, rfl, rfl, rfl, rfl, trivial⟩, ⟨rfl, trivial⟩⟩ ?_
  rintro ⟨⟨out, u⟩, q⟩ ⟨h1, h2, h3⟩
  simp only at h1 h2 h3
  refine KW.goIf qQ0 qA7 100 rfl (by simp) rfl trivial (fun h4 => ?_) fun h4 => ?_
  ·have hq : q < M.length := by simpa using h4
   have hg : M.getD (Int.toNat (q : Int)) 0 = M[q] := by simp [List.getD_eq_getElem?_getD, hq]
   have hd : M.drop q = M[q] :: M.drop (q + 1) := List.drop_eq_getElem_cons hq
   rw [hd, packF] at h3
   refine KW.goIf qQ0 qA7 100 rfl (by simp; omega) rfl trivial (fun h5 => ?_) fun h5 => ?_
   ·simp only [qQ2, hg] at h5
    have h5' : qK9 .i64 M[q] u = 0 := by simpa using h5
    rw [if_pos h5'] at h3
    refine KW.goToR qQ0 qA7 100 rfl ((out ++ [M[q]], ior .i64 u M[q]), q + 1) [(6, 31)] rfl rfl ⟨rfl, by simp only [qQ2, hg]; rfl, rfl, rfl, rfl, trivial⟩ (by simp only [inK, true_and, and_true]; simp; omega) ⟨⟨by simp only; omega, by simp; omega, h3⟩, by simp only; omega⟩ ⟨qC3 _ ?_, trivial⟩
    rw [hg]
   ·simp only [qQ2, hg] at h5
    have h5' : ¬ qK9 .i64 M[q] u = 0 := by simpa using h5
    rw [if_neg h5'] at h3
    refine KW.goToR qQ0 qA7 100 rfl ((out, u), q + 1) [(6, 6)] rfl rfl ⟨rfl, rfl, rfl, rfl, rfl, trivial⟩ (by simp [inK] <;> omega) ⟨⟨by simp only; omega, by simp only; omega, h3⟩, by simp only; omega⟩ ⟨qA3 _ rfl, trivial⟩
  ·have hq : q = M.length := by simp at h4; omega
   refine KW.goOut qQ0 qA7 100 rfl (by simp) ?_
   rw [hq, List.drop_length, packF] at h3
   refine KW.go qQ0 qA7 100 rfl (by simp) ?_
   refine KW.frz 6 [2] rfl rfl rfl ?_
   refine KW.fin [] rfl rfl ?_ trivial
   rw [<-h3]
   simp [SV.ren, renL, EV.ren, errV]
theorem rpacking_does (l : List Int) : DoesF Tryz.prog 42 [lV l] [] (.tup [lV (if qV0 l = 0 then packS l else []), iV (qV0 l)]) [] := by
 refine DoesF.body _ Tryz.func42 rfl rfl rfl rfl ?_
 refine KW.goIf qQ0 qA7 100 rfl (by simp) rfl trivial (fun h => ?_) fun h => ?_
 ·refine KW.go qQ0 qA7 100 rfl (by simp) ?_
  refine KW.conv 2 (qZ5 []) rfl ⟨rfl, rfl⟩ ?_
  refine KW.fin [] rfl rfl ?_ trivial
  simp at h
  simp [SV.ren, renL, EV.ren, h]
 ·simp at h
  have hv : Val l := qY9 h
  have hml := qB0 l
  have hll := qK0 h
  rw [packS, minS_eq hv]
  rw [minS_eq hv] at hml
  refine KW.go qQ0 qA7 100 rfl (by simp; omega) ?_
  refine KW.nilO 5 5 3 (qZ5 []) rfl rfl rfl ?_
  simp only [qQ2, h, if_true]
  generalize qB6 l = M at hml
  refine KW.lp (I := fun q : (List Int × Int) × Nat => ⟨Tryz.f42.ntmps, [(5, .e (.r 5)), (6, sI q.1.2), (15, .e (lV M)), (16, sI M.length), (17, sI q.2)], [(5, .own 3 (qZ5 q.1.1))]⟩)
   (R := fun q => q.2 ≤ M.length /\ q.1.1.length ≤ q.2 /\ packF q.1.1 q.1.2 (M.drop q.2) = packF [] 0 M) (m := fun q => M.length - q.2) (([], 0), 0) ⟨by simp, by simp, by simp⟩ [(5, 5)] ⟨rfl, rfl, ⟨rfl, rfl, rfl, rfl, rfl, trivial⟩, ⟨rfl, trivial⟩⟩ ?_
  rintro ⟨⟨out, u⟩, q⟩ ⟨h1, h2, h3⟩
  simp only at h1 h2 h3
  refine KW.goIf qQ0 qA7 100 rfl (by simp) rfl trivial (fun h4 => ?_) fun h4 => ?_
  ·have hq : q < M.length := by simpa using h4
   have hg : M.getD (Int.toNat (q : Int)) 0 = M[q] := by simp [List.getD_eq_getElem?_getD, hq]
   have hd : M.drop q = M[q] :: M.drop (q + 1) := List.drop_eq_getElem_cons hq
   rw [hd, packF] at h3
   refine KW.goIf qQ0 qA7 100 rfl (by simp; omega) rfl trivial (fun h5 => ?_) fun h5 => ?_
   ·simp only [qQ2, hg] at h5
    have h5' : qK9 .i64 M[q] u = 0 := by simpa using h5
    rw [if_pos h5'] at h3
    refine KW.goToR qQ0 qA7 100 rfl ((out ++ [M[q]], ior .i64 u M[q]), q + 1) [(5, 28)] rfl rfl ⟨rfl, by simp only [qQ2, hg]; rfl, rfl, rfl, rfl, trivial⟩ (by simp only [inK, true_and, and_true]; simp; omega) ⟨⟨by simp only; omega, by simp; omega, h3⟩, by simp only; omega⟩ ⟨qC3 _ ?_, trivial⟩
    rw [hg]
   ·simp only [qQ2, hg] at h5
    have h5' : ¬ qK9 .i64 M[q] u = 0 := by simpa using h5
    rw [if_neg h5'] at h3
    refine KW.goToR qQ0 qA7 100 rfl ((out, u), q + 1) [(5, 5)] rfl rfl ⟨rfl, rfl, rfl, rfl, rfl, trivial⟩ (by simp [inK] <;> omega) ⟨⟨by simp only; omega, by simp only; omega, h3⟩, by simp only; omega⟩ ⟨qA3 _ rfl, trivial⟩
  ·have hq : q = M.length := by simp at h4; omega
   refine KW.goOut qQ0 qA7 100 rfl (by simp) ?_
   rw [hq, List.drop_length, packF] at h3
   refine KW.go qQ0 qA7 100 rfl (by simp) ?_
   refine KW.frz 5 [2] rfl rfl rfl ?_
   refine KW.fin [] rfl rfl ?_ trivial
   rw [<-h3]
   simp [SV.ren, renL, EV.ren]
def T24 : Fns := (83, fL (fun l => .tup [lV (if hitE l = 0 then hitL l else []), iV (hitE l)]) fun _ => True) ::
 (35, fL (fun l => .tup [lV (if qV0 l = 0 then packS l else []), eV (qV0 l)]) fun _ => True) ::
 (42, fL (fun l => .tup [lV (if qV0 l = 0 then packS l else []), iV (qV0 l)]) fun _ => True) ::
 T23
theorem T24_ok : FnsOk Tryz.prog T24 := .cons (.cons (.cons (qA7) Tryz.func42 rfl rfl (fL_ok fun l _ => rpacking_does l)) Tryz.func35 rfl rfl (fL_ok fun l _ => packing_does l)) Tryz.func83 rfl rfl (fL_ok fun l _ => rall_does l)
end Go.Proofs.YtgoilpfpmbjegaaGreatDoor
end
