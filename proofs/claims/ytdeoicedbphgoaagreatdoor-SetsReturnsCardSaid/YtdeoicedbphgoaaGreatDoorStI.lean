/-
  strings.Split, strings.Trim, strconv.Atoi (at numerals), out of the shelf's contracts. No program is named here.
-/
import Derived.Test.YtdeoicedbphgoaaGreatDoorStA
import Derived.Shelf.Strings.Split
import Derived.Shelf.Strings.SlTrimAscii
import Derived.Shelf.Strconv.Atoi
import Derived.Lib.SmallJoins
set_option linter.unusedSectionVars false
set_option linter.unusedVariables false
set_option linter.unusedSimpArgs false
attribute [local instance] Go.Sy.drwNo
namespace Go.Sy
open Go.Sort Go.Lib Go.Shelf Go.Proofs
theorem trim_does {P : Program} {ρ : Ren} (L : Lays.n160 P ρ) (h116 : (P.info? (ρ.t 116)).map (fun i => (i.zero, i.size)) = some (some (.agg (Array.replicate 256 (.bool false))), 256)) {F : Nat} (hF : ρ.f 160 = F) (s cut : ByteArray) (hs : s.size ≤ 9223372036854775807) (hcs : cut.size < 4294967281)
    (hascii : ∀ (j : Nat) b, cut.data.toList[j]? = some b → b.toNat < 128) : DoesF P F [strV s, strV cut] [] (.e (strV ⟨(Lib.trimS s.data.toList cut.data.toList).toArray⟩)) [] := by
  subst hF
  refine DoesF.ofBelow (args := #[.string s, .string cut]) rfl (fun o h args w hs => ?_) fun w => Any.strings_Trim_laid L h116 s cut w hs hcs hascii
  exact args2 (by exact hs.size) (show RepV o w (.lit (.string s)) _ from hs.slot 0 (.e (strV s)) rfl).1 (show RepV o w (.lit (.string cut)) _ from hs.slot 1 (.e (strV cut)) rfl).1
/-- strings.Split: the pieces, in a row of their own that nobody writes; the library's limit is a package variable's cell -/
theorem split_does {P : Program} {ρ : Ren} (L : Lays.n146 P ρ) (hi9 : (P.info? (ρ.t 9)).map (fun i => (i.zero, i.size, i.bytes)) = some (some (.string ByteArray.empty), 1, 16)) {F : Nat} (hF : ρ.f 146 = F) (s sep : ByteArray) (m : Int) (T : Nat)
    (hs : s.size < 4294967281) (h1 : 1 ≤ sep.size) : DoesF P F [strV s, strV sep] [(0, .glo (ρ.g 1) T [.int .i64 m])] (.e (.c (strs (Lib.splitB sep 0 (Lib.countB s sep) s)))) [] := by
  subst hF
  intro o h args w hst
  have a0 : args.getD 0 undef = .string s := (show RepV o w (.lit (.string s)) _ from hst.slot 0 (.e (strV s)) rfl).1
  have a1 : args.getD 1 undef = .string sep := (show RepV o w (.lit (.string sep)) _ from hst.slot 1 (.e (strV sep)) rfl).1
  have hargs := args2 (by exact hst.size) a0 a1
  subst hargs
  have hg : o (ρ.g 1) = .sh ∧ w.heap[ρ.g 1]? = some (.cells #[.int .i64 m] T (0, 0)) := hst.res 0 (.glo (ρ.g 1) T [.int .i64 m]) rfl
  have hm : w.cell? ⟨ρ.g 1, 0, none⟩ = some (.int .i64 m) := by simp [World.cell?, hg.2]
  have hlen := Lib.splitB_all sep h1 0 _ s rfl
  have hle := Lib.countB_le sep h1 s.size s (Nat.le_refl _)
  refine (Any.strings_Split L hi9 s sep m w hs hm h1).mono ?_
  rintro e w' ⟨rfl, rfl⟩
  generalize Lib.countB s sep = c at *
  generalize hxs : Lib.splitB sep 0 c s = xs at *
  have hb := Go.Joins.below_alloc1 w (.cells (xs.map Value.string).toArray (ρ.t 9))
  have hsz : (w.alloc (.cells (xs.map Value.string).toArray (ρ.t 9))).heap.size = w.heap.size + 1 := by simp
  have hnew : ∀ j, (w.alloc (.cells (xs.map Value.string).toArray (ρ.t 9))).cell? ⟨w.heap.size, j, none⟩ = (xs.map Value.string)[j]? := fun j => by
    have hh : (w.alloc (.cells (xs.map Value.string).toArray (ρ.t 9))).heap[w.heap.size]? = some (.cells (xs.map Value.string).toArray (ρ.t 9) (0, 0)) := by
      show (w.heap.push _)[w.heap.size]? = _
      simp
    unfold World.cell?
    simp only [hh]
    simp
  have hold : ∀ b, b < w.heap.size → (if b = w.heap.size then Tag.sh else o b) = o b := fun b hlt => if_neg (by omega)
  refine ⟨_, fun b => if b = w.heap.size then .sh else o b, h, rfl, ⟨rfl, fun b => ⟨fun i hk => ?_, fun hk => ?_⟩, fun sl x hl => ?_, fun i r hl => by simp [lk] at hl⟩,
    ⟨hb.size, hb.os, hb.tape, hb.output, Nat.le_refl _, fun b hb1 hlt => ⟨(hold b hlt).trans hb1, hb.block b hlt⟩, fun b hb1 hlt => ⟨(hold b hlt).trans hb1, hb.block b hlt⟩⟩⟩
  · split at hk
    · cases hk
    · exact Nat.lt_of_lt_of_le ((hst.tags b).1 i hk) hb.size
  · split at hk
    · rename_i e; rw [e, hsz]; omega
    · exact Nat.lt_of_lt_of_le ((hst.tags b).2 hk) hb.size
  · rw [lk_cons] at hl
    split at hl
    · rename_i e
      subst e
      cases hl
      refine ⟨some ⟨w.heap.size, 0, none⟩, c + 1, ?_, Nat.le_of_eq hlen, ?_, .inr ⟨w.heap.size, 0, rfl, if_pos rfl, fun e q he hq => ?_⟩⟩
      · rw [hlen]; rfl
      · simp only [maxLen]; omega
      · obtain rfl : q = 0 := by omega
        refine ⟨.string xs[e], ?_, ?_⟩
        · show World.cell? _ ⟨w.heap.size, 0 + (e * 1 + 0), none⟩ = _
          rw [hnew, Nat.zero_add, Nat.mul_one, Nat.add_zero, List.getElem?_map, List.getElem?_eq_getElem he]; rfl
        · show Value.string xs[e] = Value.string (xs.getD e ⟨#[]⟩) ∧ _
          rw [List.getD_eq_getElem?_getD, List.getElem?_eq_getElem he]
          exact ⟨rfl, rfl⟩
    · simp [lk] at hl
end Go.Sy
