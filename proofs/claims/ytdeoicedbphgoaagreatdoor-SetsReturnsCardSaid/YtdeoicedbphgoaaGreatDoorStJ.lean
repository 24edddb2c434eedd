/-
  sets.element, sets.Parse, ref05.number, ref05.Parse.
-/
import Derived.Test.YtdeoicedbphgoaaGreatDoorStC
import Derived.Test.YtdeoicedbphgoaaGreatDoorStI
import Derived.Test.YtdeoicedbphgoaaGreatDoorShelf3
set_option linter.unusedSectionVars false
set_option linter.unusedVariables false
set_option linter.unusedSimpArgs false
attribute [local instance] Go.Sy.drwNo
namespace Go.Sy
end Go.Sy
namespace Go.Pu
open Go.Sy
def digs : List UInt8 := [48, 49, 50, 51, 52, 53, 54, 55, 56, 57]
def trimB (s c : ByteArray) : ByteArray := ⟨(Lib.trimS s.data.toList c.data.toList).toArray⟩
def digN (a : UInt8) : Nat := a.toNat - 48
/-- the value of one or two digits without a leading zero -/
def elL : List UInt8 → Option Nat
  | [a] => if digs.contains a then some (digN a) else none
  | [a, b] => if digs.contains a && digs.contains b && !(a == 48) then some (10 * digN a + digN b) else none
  | _ => none
def elP (s : ByteArray) : Int × Bool := match elL s.data.toList with | some n => (n, true) | none => (0, false)
theorem atoi1 : ∀ a ∈ digs, Lib.atoi [a] = some (digN a : Int) := by decide +kernel
theorem atoi2 : ∀ a ∈ digs, ∀ b ∈ digs, Lib.atoi [a, b] = some ((10 * digN a + digN b : Nat) : Int) := by decide +kernel
def elBad (s : ByteArray) : Bool := decide ((s.size : Int) < 1) || decide (2 < (s.size : Int)) || !(trimB s ⟨#[48, 49, 50, 51, 52, 53, 54, 55, 56, 57]⟩).toList == (⟨#[]⟩ : ByteArray).toList || ((s.size : Int) == 2 && ((s.data.getD (Int.toNat 0) 0).toNat : Int) == 48)
theorem u48 (a : UInt8) : (((a.toNat : Nat) : Int) == 48) = (a == 48) := by
  rw [Bool.eq_iff_iff, beq_iff_eq, beq_iff_eq]
  constructor
  · intro h
    have : a.toNat = 48 := by omega
    exact UInt8.toNat_inj.1 this
  · rintro rfl; rfl
theorem tr1 (p : UInt8 → Bool) (a : UInt8) : ((([a].reverse.dropWhile p).reverse.dropWhile p) == []) = p a := by
  cases h : p a <;> simp [h, List.dropWhile_cons]
theorem tr2 (p : UInt8 → Bool) (a b : UInt8) : ((([a, b].reverse.dropWhile p).reverse.dropWhile p) == []) = (p a && p b) := by
  cases h : p a <;> cases h2 : p b <;> simp [h, h2, List.dropWhile_cons]
theorem el_bad (s : ByteArray) : elBad s = (elL s.data.toList).isNone := by
  obtain ⟨⟨l⟩⟩ := s
  have eD : (⟨#[48, 49, 50, 51, 52, 53, 54, 55, 56, 57]⟩ : ByteArray).data.toList = digs := rfl
  unfold elBad trimB
  rw [Go.ByteArray.toList_eq, Go.ByteArray.toList_eq, eD]
  match l with
  | [] => rfl
  | [a] =>
    have e : (Lib.trimS [a] digs == []) = digs.contains a := tr1 (digs.contains ·) a
    have es : ((⟨⟨[a]⟩⟩ : ByteArray).size : Int) = 1 := rfl
    rw [es]
    show (_ || _ || !(Lib.trimS [a] digs == []) || _) = _
    rw [e, elL]
    cases digs.contains a <;> rfl
  | [a, b] =>
    have e : (Lib.trimS [a, b] digs == []) = (digs.contains a && digs.contains b) := tr2 (digs.contains ·) a b
    have es : ((⟨⟨[a, b]⟩⟩ : ByteArray).size : Int) = 2 := rfl
    rw [es]
    show (_ || _ || !(Lib.trimS [a, b] digs == []) || (_ && (((a.toNat : Nat) : Int) == 48))) = _
    rw [e, u48, elL]
    cases digs.contains a <;> cases digs.contains b <;> cases a == 48 <;> rfl
  | a :: b :: c :: r =>
    have : (2 : Int) < (((⟨⟨a :: b :: c :: r⟩⟩ : ByteArray).size : Nat) : Int) := by simp [ByteArray.size]; omega
    rw [decide_eq_true this]
    simp [elL]
end Go.Pu
namespace Go.Proofs.YtdeoicedbphgoaaGreatDoor
open Go.Sy Go.Pu

def P0 : Fns := (190, fBB (fun s t => .e (strV (trimB s t))) fun s t => s.size ≤ 9223372036854775807 ∧ t = ⟨#[48, 49, 50, 51, 52, 53, 54, 55, 56, 57]⟩) ::
  S1
theorem P0_ok : FnsOk Tryz.prog P0 := .cons (S1_ok) Tryz.func190 rfl rfl (fBB_ok fun s t h => trim_does layTrim (by kernel_rfl) rfl s t h.1 (by rw [h.2]; decide) (by rw [h.2]; exact Go.Proofs.ascii_of_all (by decide)))


theorem el_atoi {s : ByteArray} {n : Nat} (h : elL s.data.toList = some n) : s.size ≤ 18 ∧ Lib.atoi s.data.toList = some (n : Int) := by
  obtain ⟨⟨l⟩⟩ := s
  match l, h with
  | [a], h =>
    simp only [elL] at h
    split at h
    · rename_i h1
      cases h
      exact ⟨by show 1 ≤ 18; decide, atoi1 a (by simpa using h1)⟩
    · cases h
  | [a, b], h =>
    simp only [elL] at h
    split at h
    · rename_i h1
      cases h
      simp only [Bool.and_eq_true] at h1
      exact ⟨by show 2 ≤ 18; decide, atoi2 a (by simpa using h1.1.1) b (by simpa using h1.1.2)⟩
    · cases h
def P1 : Fns := (191, fB (fun s => .tup [iV ((Lib.atoi s.data.toList).getD 0), .c (.lit .nilIface)]) fun s => s.size ≤ 18 ∧ Lib.atoi s.data.toList = some ((Lib.atoi s.data.toList).getD 0)) ::
  P0
theorem P1_ok : FnsOk Tryz.prog P1 := .cons (P0_ok) Tryz.func191 rfl rfl (fB_ok fun s h => atoi_does layAtoi rfl s _ h.1 h.2)


theorem element_does (s : ByteArray) (hs : s.size ≤ 1000) : DoesF Tryz.prog 124 [strV s] [] (.tup [iV (elP s).1, bV (elP s).2]) [] := by
  refine DoesF.body _ Tryz.func124 rfl rfl rfl rfl ?_
  refine KW.goIf lay_ok P1_ok 100 rfl ?_ rfl trivial (fun h => ?_) fun h => ?_
  · simp +contextual
    omega
  · have h1 : elBad s = true := h
    rw [el_bad, Option.isNone_iff_eq_none] at h1
    refine KW.goRet lay_ok P1_ok 100 rfl rfl ?_ (by simp) trivial
    simp only [elP, h1]; rfl
  have h1 : elBad s = false := h
  rw [el_bad] at h1
  cases hn : elL s.data.toList with
  | none => rw [hn] at h1; cases h1
  | some n =>
    simp only [elP, hn]
    obtain ⟨a1, a2⟩ := el_atoi hn
    refine KW.goD lay_ok P1_ok rfl 100 rfl (by decide +kernel) rfl ?_ ?_ ?_
    · simp [a1, a2]
    · simp [ifcV]
    refine KW.goRet lay_ok P1_ok 100 rfl rfl ?_ (by simp) trivial
    rw [a2]; rfl

def isD (a : UInt8) : Bool := decide (48 ≤ a.toNat) && decide (a.toNat ≤ 57)
/-- the value of the first k bytes, digits (k ≤ 2) -/
def numK (l : List UInt8) : Nat → Int
  | 0 => 0
  | 1 => digN (l.getD 0 0)
  | _ => 10 * digN (l.getD 0 0) + digN (l.getD 1 0)
def numQ (l : List UInt8) : Nat := if 0 < l.length ∧ isD (l.getD 0 0) = true then if 1 < l.length ∧ isD (l.getD 1 0) = true then 2 else 1 else 0
def numP (s : ByteArray) : Int × Int := if numQ s.data.toList = 2 ∧ s.data.toList.getD 0 0 = 48 then (0, 0) else (numK s.data.toList (numQ s.data.toList), (numQ s.data.toList : Nat))
theorem number_does (s : ByteArray) (hs : s.size ≤ 2000) : DoesF Tryz.prog 128 [strV s] [] (.tup [iV (numP s).1, iV (numP s).2]) [] := by
  refine DoesF.body _ Tryz.func128 rfl rfl rfl rfl ?_
  have hlen : s.data.toList.length = s.size := Array.length_toList
  have hgd : ∀ i : Nat, s.data.getD i 0 = s.data.toList.getD i 0 := fun i => by simp [Array.getD_eq_getD_getElem?, List.getD_eq_getElem?_getD]
  refine KW.goLpR lay_ok P1_ok 100 rfl (I := fun q : Nat => ⟨Tryz.f128.ntmps, [(0, .e (strV s)), (4, sI (numK s.data.toList q)), (5, sI q)], []⟩)
    (R := fun q => q ≤ numQ s.data.toList) (m := fun q => 2 - q) 0 [] rfl rfl ⟨rfl, rfl, rfl, trivial⟩ (by simp) (Nat.zero_le _) trivial ?_
  rintro q hq0
  have hq2 : numQ s.data.toList ≤ 2 := by unfold numQ; split <;> (try split) <;> omega
  have h0 : ∀ i, isD (s.data.toList.getD i 0) = true ↔ 48 ≤ (s.data.toList.getD i 0).toNat ∧ (s.data.toList.getD i 0).toNat ≤ 57 := fun i => by simp [isD]
  refine KW.goIf lay_ok P1_ok 100 rfl ?_ rfl trivial (fun h => ?_) fun h => ?_
  · simp +contextual [-Array.getD_eq_getD_getElem?]
  · rw [Int.toNat_natCast, hgd] at h
    simp only [Bool.and_eq_true, decide_eq_true_eq] at h
    have hc : q < s.data.toList.length ∧ q < 2 ∧ isD (s.data.toList.getD q 0) = true := ⟨by omega, by omega, (h0 q).2 (by omega)⟩
    have hd := (h0 q).1 hc.2.2
    have hn : q + 1 ≤ numQ s.data.toList := by
      have hq1 : q = 0 ∨ q = 1 := by omega
      rcases hq1 with rfl | rfl
      · unfold numQ; rw [if_pos ⟨hc.1, hc.2.2⟩]; split <;> omega
      · have : 0 < s.data.toList.length ∧ isD (s.data.toList.getD 0 0) = true := Classical.byContradiction fun hno => by
          unfold numQ at hq0; rw [if_neg hno] at hq0; omega
        unfold numQ; rw [if_pos this, if_pos ⟨hc.1, hc.2.2⟩]; omega
    have hk : numK s.data.toList (q + 1) = 10 * numK s.data.toList q + ((s.data.toList.getD q 0).toNat - 48 : Int) := by
      have hq1 : q = 0 ∨ q = 1 := by omega
      rcases hq1 with rfl | rfl
      · simp only [numK, digN]; omega
      · simp only [numK, digN]; omega
    have hkb : 0 ≤ numK s.data.toList q ∧ numK s.data.toList q ≤ 256 := by
      have hq1 : q = 0 ∨ q = 1 := by omega
      have := (s.data.toList.getD 0 0).toNat_lt
      rcases hq1 with rfl | rfl
      · simp only [numK]; omega
      · simp only [numK, digN]; omega
    refine KW.goToR lay_ok P1_ok 100 rfl (q + 1) [] rfl rfl ⟨rfl, ?_, rfl, trivial⟩ ?_ ⟨hn, by omega⟩ trivial
    · rw [hk, ← hgd]; rfl
    · simp only [Int.toNat_natCast, hgd, inK, true_and, and_true]
      omega
  · rw [Int.toNat_natCast, hgd] at h
    have hc : ¬ (q < s.data.toList.length ∧ q < 2 ∧ isD (s.data.toList.getD q 0) = true) := fun hc => by
      have hd := (h0 q).1 hc.2.2
      rw [decide_eq_true (by omega), decide_eq_true (by omega), decide_eq_true (by omega), decide_eq_true (by omega)] at h
      cases h
    have hn : numQ s.data.toList = q := by
      have hq1 : q = 0 ∨ q = 1 ∨ q = 2 := by omega
      rcases hq1 with rfl | rfl | rfl
      · unfold numQ; rw [if_neg fun hx => hc ⟨hx.1, by omega, hx.2⟩]
      · unfold numQ at hq0 ⊢
        split at hq0
        · rename_i h1
          rw [if_pos h1, if_neg fun hx => hc ⟨hx.1, by omega, hx.2⟩]
        · omega
      · omega
    have hq1 : q ≤ s.size := by
      rw [← hlen, ← hn]; unfold numQ; split
      · split <;> omega
      · omega
    refine KW.goOut lay_ok P1_ok 100 rfl (by simp) ?_
    have e48 : ((s.data.getD (Int.toNat 0) 0).toNat : Int) = 48 ↔ s.data.toList.getD 0 0 = 48 := by
      have := u48 (s.data.getD 0 0)
      rw [Bool.eq_iff_iff, beq_iff_eq, beq_iff_eq] at this
      rw [← hgd]; exact this
    refine KW.goIf lay_ok P1_ok 100 rfl ?_ rfl trivial (fun h2 => ?_) fun h2 => ?_
    · simp +contextual
      omega
    · have h3 : numQ s.data.toList = 2 ∧ s.data.toList.getD 0 0 = 48 := by
        simp only [Bool.and_eq_true, beq_iff_eq] at h2
        exact ⟨by omega, e48.1 h2.2⟩
      refine KW.goRet lay_ok P1_ok 100 rfl rfl ?_ (by simp) trivial
      rw [numP, if_pos h3]; rfl
    · have h3 : ¬ (numQ s.data.toList = 2 ∧ s.data.toList.getD 0 0 = 48) := fun h3 => by
        rw [beq_iff_eq.2 (show ((q : Int)) = 2 by omega), beq_iff_eq.2 (e48.2 h3.2)] at h2
        cases h2
      refine KW.goRet lay_ok P1_ok 100 rfl rfl ?_ (by simp) trivial
      rw [numP, if_neg h3, hn]; rfl
end Go.Proofs.YtdeoicedbphgoaaGreatDoor
