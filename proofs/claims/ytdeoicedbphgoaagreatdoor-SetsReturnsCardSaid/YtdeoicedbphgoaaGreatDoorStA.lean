/-
  strings.Join, strconv.Itoa (small numbers), out of the shelf's contracts. No program is named here.
-/
import Derived.Test.YtdeoicedbphgoaaGreatDoorSyX
import Derived.Test.YtdeoicedbphgoaaGreatDoorStR
import Derived.Shelf.Strings.OnBuilder
import Derived.Shelf.Strconv.Itoa3
set_option linter.unusedSectionVars false
set_option linter.unusedVariables false
set_option linter.unusedSimpArgs false
namespace Go.Sy
open Go.Sort Go.Lib Go.Shelf Go.Proofs
def joinB (xs : List ByteArray) (sep : ByteArray) : ByteArray := ⟨(Lib.join (xs.map (·.data.toList)) sep.data.toList).toArray⟩
section
variable [Drw] {P : Program} {ρ : Ren}
theorem itoa_small_does (L : Lays.n171 P ρ) {F : Nat} (hF : ρ.f 171 = F) (i : Nat) (hi : i < 100) : DoesF P F [iV i] [] (.e (strV ⟨(Lib.decDigits i).toArray⟩)) [] := by
  subst hF
  refine DoesF.ofSame rfl (args := #[.int .i64 i]) (fun o h args' w hs => ?_) (fun w => Any.strconv_Itoa_small L i hi w)
  exact args1 (by exact hs.size) (show RepV o w (.lit (.int .i64 i)) _ from hs.slot 0 (sI i) rfl).1
end
theorem join_does {P : Program} {ρ : Ren} (L : Lays.n156 P ρ) (X : Builder.Extra P ρ) {F : Nat} (hF : ρ.f 156 = F) (xs : List ByteArray) (sep : ByteArray) (hN : xs.length ≤ 140737488355328) (hlen : (joinB xs sep).size ≤ 140737488355328) : @DoesF drwNo P F [.c (strs xs), strV sep] [] (.e (strV (joinB xs sep))) [] := by
  letI : Drw := drwNo
  subst hF
  intro o h args w hs
  have h1 : args.getD 1 undef = .string sep := (show RepV o w (.lit (.string sep)) _ from hs.slot 1 (.e (strV sep)) rfl).1
  obtain ⟨a, cap, h0, g1, g2, g3⟩ := (show RepV o w (strs xs) (args.getD 0 undef) from hs.slot 0 (.e (.c (strs xs))) rfl)
  have hargs := args2 (by exact hs.size) h0 h1
  subst hargs
  have fin : ∀ {e w'}, e = Ending.returned (.string (joinB xs sep)) ∧ Go.RowKit.Below w.heap.size w w' → ∃ v o' h', e = .returned v ∧ Sat o' h' ⟨1, [(0, .e (strV (joinB xs sep)))], []⟩ #[v] w' ∧ @Ext drwNo o w o' w' := by
    rintro e w' ⟨rfl, hb⟩
    refine ⟨_, o, h, rfl, ⟨rfl, fun b => ⟨fun i hk => Nat.lt_of_lt_of_le ((hs.tags b).1 i hk) hb.size, fun hk => Nat.lt_of_lt_of_le ((hs.tags b).2 hk) hb.size⟩, fun s x hl => ?_, fun i r hl => by simp [lk] at hl⟩, below_ext hb⟩
    rw [lk_cons] at hl
    split at hl
    · rename_i e; subst e; cases hl; exact ⟨rfl, rfl⟩
    · simp [lk] at hl
  rcases g3 with hn | ⟨b, off, rfl, hsh, hcells⟩
  · have hnil : xs = [] := List.length_eq_zero_iff.1 hn
    subst hnil
    refine (Any.strings_Join_none L X a cap sep w).mono fun e w' ⟨he, hw⟩ => fin ⟨?_, hw ▸ Go.RowKit.Below.refl _ _⟩
    rw [he]; rfl
  · refine (Any.strings_Join L X b off cap xs sep w (fun j x hj => ?_) ((hs.tags b).2 hsh) hN g1 ?_).mono fun e w' hq => fin hq
    · have hjl : j < xs.length := by
        rcases Nat.lt_or_ge j xs.length with h | h
        · exact h
        · simp [List.getElem?_eq_none h] at hj
      obtain ⟨u, hu, hr⟩ := hcells j 0 hjl (by omega)
      have hu' : w.cell? ⟨b, off + j, none⟩ = some u := by simpa using hu
      rw [hu', hr.1]
      simp [List.getD_eq_getElem?_getD, hj]
    · simpa [joinB, ByteArray.size] using hlen
end Go.Sy
