/-
  Strings as values; strconv.Atoi (at numerals), strconv.Itoa, out of the shelf's contracts. No program is named here.
-/
import Derived.Test.YtdeoicedbphgoaaGreatDoorSyX
import Derived.Shelf.Strconv.Itoa3
import Derived.Shelf.Strconv.Atoi
import Derived.Lib.SmallJoins
import Derived.Lib.LaidTab
set_option linter.unusedSectionVars false
set_option linter.unusedVariables false
set_option linter.unusedSimpArgs false
namespace Go.Sy
open Go.Sort Go.Lib Go.Shelf Go.Proofs
/-- a list of strings -/
def strs (xs : List ByteArray) : CV := rows 1 (fun x _ => .lit (.string x)) ⟨#[]⟩ xs
abbrev strV (s : ByteArray) : EV := .c (.lit (.string s))
theorem below_ext {o : Nat → Tag} {w w' : World} (h : Go.RowKit.Below w.heap.size w w') : @Ext drwNo o w o w' :=
  letI : Drw := drwNo
  ⟨h.size, h.os, h.tape, h.output, Nat.le_refl _, fun b hb hl => ⟨hb, h.block b hl⟩, fun b hb hl => ⟨hb, h.block b hl⟩⟩
end Go.Sy
attribute [local instance] Go.Sy.drwNo
namespace Go.Sy
open Go.Sort Go.Lib Go.Shelf Go.Proofs
theorem DoesF.ofBelow {P : Program} {f : FuncId} {ys : List EV} {args : Array Value} {u : Value} (h1 : u.oneCell' = true) (ha : ∀ (o : Nat → Tag) (h : Nat → Value) (args' : Array Value) (w : World), Sat o h ⟨ys.length, idx 0 ys, []⟩ args' w → args' = args)
    (hc : ∀ w, Calls P f args w fun e w' => e = .returned u ∧ Go.RowKit.Below w.heap.size w w') : DoesF P f ys [] (.e (.c (.lit u))) [] := by
  intro o h args' w hs
  have := ha o h args' w hs
  subst this
  refine (hc w).mono ?_
  rintro e w' ⟨rfl, hb⟩
  refine ⟨u, o, h, rfl, ⟨rfl, fun b => ⟨fun i hk => Nat.lt_of_lt_of_le ((hs.tags b).1 i hk) hb.size, fun hk => Nat.lt_of_lt_of_le ((hs.tags b).2 hk) hb.size⟩, fun s x hl => ?_, fun i r hl => by simp [lk] at hl⟩, below_ext hb⟩
  rw [lk_cons] at hl
  split at hl
  · rename_i e; subst e; cases hl; exact ⟨rfl, h1⟩
  · simp [lk] at hl
theorem atoi_does {P : Program} {ρ : Ren} (L : Lays.n172 P ρ) {F : Nat} (hF : ρ.f 172 = F) (s : ByteArray) (n : Int) (hl : s.size ≤ 18) (hn : Lib.atoi s.data.toList = some n) : DoesF P F [strV s] [] (.tup [iV n, .c (.lit .nilIface)]) [] := by
  subst hF
  intro o h args w hs
  have h1 : args.getD 0 undef = .string s := (show RepV o w (.lit (.string s)) _ from hs.slot 0 (.e (strV s)) rfl).1
  have hargs := args1 (by exact hs.size) h1
  subst hargs
  refine (Any.strconv_Atoi L s n hl hn w).mono ?_
  rintro e w' ⟨rfl, t, rfl⟩
  have hb := Go.Joins.below_bytesWorld w.heap.size w (ρ.t 5) t (Nat.le_refl _)
  refine ⟨_, o, h, rfl, ⟨rfl, fun b => ⟨fun i hk => Nat.lt_of_lt_of_le ((hs.tags b).1 i hk) hb.size, fun hk => Nat.lt_of_lt_of_le ((hs.tags b).2 hk) hb.size⟩, fun s x hl => ?_, fun i r hl => by simp [lk] at hl⟩, below_ext hb⟩
  rw [lk_cons] at hl
  split at hl
  · rename_i e
    subst e
    cases hl
    refine ⟨_, rfl, rfl, fun q x hq => ?_⟩
    match q, hq with
    | 0, hq => cases hq; exact ⟨_, rfl, rfl, rfl⟩
    | 1, hq => cases hq; exact ⟨_, rfl, rfl, rfl⟩
  · simp [lk] at hl
end Go.Sy
namespace Go.Pu
open Go.Sy
def strL (l : List UInt8) : ByteArray := ⟨l.toArray⟩
@[simp] theorem strL_size (l : List UInt8) : (strL l).size = l.length := by simp [strL, ByteArray.size]
@[simp] theorem strL_data (l : List UInt8) : (strL l).data.toList = l := by simp [strL]
@[simp] theorem strL_getD (l : List UInt8) (i : Nat) : (strL l).data.getD i 0 = l.getD i 0 := by simp [strL, List.getD_eq_getElem?_getD, Array.getD_eq_getD_getElem?]
theorem strL_of (s : ByteArray) : strL s.data.toList = s := by obtain ⟨⟨l⟩⟩ := s; rfl
theorem strL_inj {a b : List UInt8} (h : strL a = strL b) : a = b := by have := congrArg (fun s => s.data.toList) h; simpa using this
theorem strL_extract (l : List UInt8) (i j : Nat) : (strL l).extract i j = strL ((l.take j).drop i) := by
  apply ByteArray.ext
  apply Array.ext'
  rw [ByteArray.data_extract]
  simp [strL, List.drop_take]
theorem strL_drop (l : List UInt8) (i : Nat) : (strL l).extract i l.length = strL (l.drop i) := by rw [strL_extract, List.take_length]
theorem strL_take (l : List UInt8) (j : Nat) : (strL l).extract 0 j = strL (l.take j) := by rw [strL_extract, List.drop_zero]
theorem strL_append (a b : List UInt8) : strL a ++ strL b = strL (a ++ b) := by
  apply ByteArray.ext
  apply Array.ext'
  simp [strL]
theorem u8_eq (a b : UInt8) : ((a.toNat : Int) == (b.toNat : Int)) = (a == b) := by
  rw [Bool.eq_iff_iff, beq_iff_eq, beq_iff_eq]
  constructor
  · intro h
    exact UInt8.toNat_inj.1 (by omega)
  · rintro rfl; rfl
end Go.Pu
namespace Go.Sy
def fB (g : ByteArray → SV) (p : ByteArray → Prop) : List EV → Option (SV × Prop)
  | [.c (.lit (.string s))] => some (g s, p s)
  | _ => none
theorem fB_ok {P : Program} {f : FuncId} {g : ByteArray → SV} {p : ByteArray → Prop} (h : ∀ s, p s → DoesF P f [strV s] [] (g s) []) : ∀ ys y φ, fB g p ys = some (y, φ) → φ → DoesF P f ys [] y [] := by
  intro ys y φ he hφ
  unfold fB at he
  split at he
  · simp only [Option.some.injEq, Prod.mk.injEq] at he
    obtain ⟨rfl, rfl⟩ := he
    exact h _ hφ
  · cases he
def fBB (g : ByteArray → ByteArray → SV) (p : ByteArray → ByteArray → Prop) : List EV → Option (SV × Prop)
  | [.c (.lit (.string s)), .c (.lit (.string t))] => some (g s t, p s t)
  | _ => none
theorem fBB_ok {P : Program} {f : FuncId} {g : ByteArray → ByteArray → SV} {p : ByteArray → ByteArray → Prop} (h : ∀ s t, p s t → DoesF P f [strV s, strV t] [] (g s t) []) : ∀ ys y φ, fBB g p ys = some (y, φ) → φ → DoesF P f ys [] y [] := by
  intro ys y φ he hφ
  unfold fBB at he
  split at he
  · simp only [Option.some.injEq, Prod.mk.injEq] at he
    obtain ⟨rfl, rfl⟩ := he
    exact h _ _ hφ
  · cases he
def fBI (g : ByteArray → Int → SV) (p : ByteArray → Int → Prop) : List EV → Option (SV × Prop)
  | [.c (.lit (.string s)), .c (.lit (.int .i64 a))] => some (g s a, p s a)
  | _ => none
theorem fBI_ok {P : Program} {f : FuncId} {g : ByteArray → Int → SV} {p : ByteArray → Int → Prop} (h : ∀ s a, p s a → DoesF P f [strV s, iV a] [] (g s a) []) : ∀ ys y φ, fBI g p ys = some (y, φ) → φ → DoesF P f ys [] y [] := by
  intro ys y φ he hφ
  unfold fBI at he
  split at he
  · simp only [Option.some.injEq, Prod.mk.injEq] at he
    obtain ⟨rfl, rfl⟩ := he
    exact h _ _ hφ
  · cases he
end Go.Sy
