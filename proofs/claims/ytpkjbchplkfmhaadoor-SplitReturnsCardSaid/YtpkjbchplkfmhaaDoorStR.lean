/-
  Strings as values; strconv.Atoi (at numerals), strconv.Itoa, out of the shelf's contracts. No program is named here.
-/
import Derived.Test.YtpkjbchplkfmhaaDoorSyX
import Derived.Shelf.Strconv.Itoa3
import Derived.Shelf.Strconv.Atoi
import Derived.Lib.SmallJoins
import Derived.Lib.LaidTab
set_option linter.unusedSectionVars false
set_option linter.unusedVariables false
set_option linter.unusedSimpArgs false
namespace Go.Sy
open Go.Sort Go.Lib Go.Shelf Go.Proofs
/-- a list of strings -/
def strs (xs : List ByteArray) : CV := rows 1 (fun x _ => .lit (.string x)) ⟨#[]⟩ xs
abbrev strV (s : ByteArray) : EV := .c (.lit (.string s))
theorem below_ext {o : Nat → Tag} {w w' : World} (h : Go.RowKit.Below w.heap.size w w') : @Ext drwNo o w o w' :=
  letI : Drw := drwNo
  ⟨h.size, h.os, h.tape, h.output, Nat.le_refl _, fun b hb hl => ⟨hb, h.block b hl⟩, fun b hb hl => ⟨hb, h.block b hl⟩⟩
end Go.Sy
attribute [local instance] Go.Sy.drwNo
namespace Go.Sy
open Go.Sort Go.Lib Go.Shelf Go.Proofs
theorem DoesF.ofBelow {P : Program} {f : FuncId} {ys : List EV} {args : Array Value} {u : Value} (h1 : u.oneCell' = true) (ha : ∀ (o : Nat → Tag) (h : Nat → Value) (args' : Array Value) (w : World), Sat o h ⟨ys.length, idx 0 ys, []⟩ args' w → args' = args)
    (hc : ∀ w, Calls P f args w fun e w' => e = .returned u ∧ Go.RowKit.Below w.heap.size w w') : DoesF P f ys [] (.e (.c (.lit u))) [] := by
  intro o h args' w hs
  have := ha o h args' w hs
  subst this
  refine (hc w).mono ?_
  rintro e w' ⟨rfl, hb⟩
  refine ⟨u, o, h, rfl, ⟨rfl, fun b => ⟨fun i hk => Nat.lt_of_lt_of_le ((hs.tags b).1 i hk) hb.size, fun hk => Nat.lt_of_lt_of_le ((hs.tags b).2 hk) hb.size⟩, fun s x hl => ?_, fun i r hl => by simp [lk] at hl⟩, below_ext hb⟩
  rw [lk_cons] at hl
  split at hl
  · rename_i e; subst e; cases hl; exact ⟨rfl, h1⟩
  · simp [lk] at hl
theorem atoi_does {P : Program} {ρ : Ren} (L : Lays.n172 P ρ) {F : Nat} (hF : ρ.f 172 = F) (s : ByteArray) (n : Int) (hl : s.size ≤ 18) (hn : Lib.atoi s.data.toList = some n) : DoesF P F [strV s] [] (.tup [iV n, .c (.lit .nilIface)]) [] := by
  subst hF
  intro o h args w hs
  have h1 : args.getD 0 undef = .string s := (show RepV o w (.lit (.string s)) _ from hs.slot 0 (.e (strV s)) rfl).1
  have hargs := args1 (by exact hs.size) h1
  subst hargs
  refine (Any.strconv_Atoi L s n hl hn w).mono ?_
  rintro e w' ⟨rfl, t, rfl⟩
  have hb := Go.Joins.below_bytesWorld w.heap.size w (ρ.t 5) t (Nat.le_refl _)
  refine ⟨_, o, h, rfl, ⟨rfl, fun b => ⟨fun i hk => Nat.lt_of_lt_of_le ((hs.tags b).1 i hk) hb.size, fun hk => Nat.lt_of_lt_of_le ((hs.tags b).2 hk) hb.size⟩, fun s x hl => ?_, fun i r hl => by simp [lk] at hl⟩, below_ext hb⟩
  rw [lk_cons] at hl
  split at hl
  · rename_i e
    subst e
    cases hl
    refine ⟨_, rfl, rfl, fun q x hq => ?_⟩
    match q, hq with
    | 0, hq => cases hq; exact ⟨_, rfl, rfl, rfl⟩
    | 1, hq => cases hq; exact ⟨_, rfl, rfl, rfl⟩
  · simp [lk] at hl
end Go.Sy
