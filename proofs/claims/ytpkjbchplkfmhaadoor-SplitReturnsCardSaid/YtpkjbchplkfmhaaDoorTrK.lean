/-
  split.Parse: the reader's contracts.
-/
import Derived.Test.YtpkjbchplkfmhaaDoorTrI
import Derived.Test.YtpkjbchplkfmhaaDoorTrL
import Derived.Test.YtpkjbchplkfmhaaDoorStR
import Derived.Test.YtpkjbchplkfmhaaDoorShelf4
set_option linter.unusedSectionVars false
set_option linter.unusedVariables false
set_option linter.unusedSimpArgs false
attribute [local instance] Go.Sy.drwNo
namespace Go.Sy
def fB (g : ByteArray → SV) (p : ByteArray → Prop) : List EV → Option (SV × Prop)
  | [.c (.lit (.string s))] => some (g s, p s)
  | _ => none
theorem fB_ok {P : Program} {f : FuncId} {g : ByteArray → SV} {p : ByteArray → Prop} (h : ∀ s, p s → DoesF P f [strV s] [] (g s) []) : ∀ ys y φ, fB g p ys = some (y, φ) → φ → DoesF P f ys [] y [] := by
  intro ys y φ he hφ
  unfold fB at he
  split at he
  · simp only [Option.some.injEq, Prod.mk.injEq] at he
    obtain ⟨rfl, rfl⟩ := he
    exact h _ hφ
  · cases he
def fBI (g : ByteArray → Int → SV) (p : ByteArray → Int → Prop) : List EV → Option (SV × Prop)
  | [.c (.lit (.string s)), .c (.lit (.int .i64 a))] => some (g s a, p s a)
  | _ => none
theorem fBI_ok {P : Program} {f : FuncId} {g : ByteArray → Int → SV} {p : ByteArray → Int → Prop} (h : ∀ s a, p s a → DoesF P f [strV s, iV a] [] (g s a) []) : ∀ ys y φ, fBI g p ys = some (y, φ) → φ → DoesF P f ys [] y [] := by
  intro ys y φ he hφ
  unfold fBI at he
  split at he
  · simp only [Option.some.injEq, Prod.mk.injEq] at he
    obtain ⟨rfl, rfl⟩ := he
    exact h _ _ hφ
  · cases he
end Go.Sy
namespace Go.Pu
open Go.Sy
def strL (l : List UInt8) : ByteArray := ⟨l.toArray⟩
@[simp] theorem strL_size (l : List UInt8) : (strL l).size = l.length := by simp [strL, ByteArray.size]
@[simp] theorem strL_data (l : List UInt8) : (strL l).data.toList = l := by simp [strL]
@[simp] theorem strL_getD (l : List UInt8) (i : Nat) : (strL l).data.getD i 0 = l.getD i 0 := by simp [strL, List.getD_eq_getElem?_getD, Array.getD_eq_getD_getElem?]
theorem strL_of (s : ByteArray) : strL s.data.toList = s := by obtain ⟨⟨l⟩⟩ := s; rfl
theorem strL_inj {a b : List UInt8} (h : strL a = strL b) : a = b := by have := congrArg (fun s => s.data.toList) h; simpa using this
theorem strL_extract (l : List UInt8) (i j : Nat) : (strL l).extract i j = strL ((l.take j).drop i) := by
  apply ByteArray.ext
  apply Array.ext'
  rw [ByteArray.data_extract]
  simp [strL, List.drop_take]
theorem strL_drop (l : List UInt8) (i : Nat) : (strL l).extract i l.length = strL (l.drop i) := by rw [strL_extract, List.take_length]
theorem strL_take (l : List UInt8) (j : Nat) : (strL l).extract 0 j = strL (l.take j) := by rw [strL_extract, List.drop_zero]
theorem strL_append (a b : List UInt8) : strL a ++ strL b = strL (a ++ b) := by
  apply ByteArray.ext
  apply Array.ext'
  simp [strL]
theorem u8_eq (a b : UInt8) : ((a.toNat : Int) == (b.toNat : Int)) = (a == b) := by
  rw [Bool.eq_iff_iff, beq_iff_eq, beq_iff_eq]
  constructor
  · intro h
    exact UInt8.toNat_inj.1 (by omega)
  · rintro rfl; rfl
theorem signP_len (c : UInt8) (x : PS) : (signP c x).1.length ≤ x.1.length := by unfold signP; split <;> simp
theorem numCP_len (m : Nat) (x : PS) : (numCP m x).2.1.length ≤ x.1.length := by unfold numCP; split <;> simp
theorem nodeCP_len : ∀ (f : Nat) (x : PS), (nodeCP f x).2.1.length ≤ x.1.length
  | 0, x => Nat.le_refl _
  | f + 1, x => by
    rw [nodeCP]
    split
    · exact Nat.le_refl _
    split
    · dsimp only
      have h1 := signP_len 91 x
      generalize signP 91 x = x1 at *
      have h2 := numCP_len 2 x1
      generalize numCP 2 x1 = n at *
      have h3 := signP_len 32 n.2
      generalize signP 32 n.2 = x3 at *
      have h4 := nodeCP_len f x3
      generalize nodeCP f x3 = a at *
      have h5 := signP_len 32 a.2
      generalize signP 32 a.2 = x5 at *
      have h6 := nodeCP_len f x5
      generalize nodeCP f x5 = b at *
      have h7 := signP_len 93 b.2
      omega
    split
    · dsimp only
      have h1 := signP_len 45 x
      generalize signP 45 x = x1 at *
      have h2 := numCP_len 18 x1
      omega
    · exact numCP_len 18 x
theorem numCP_val (m : Nat) (hm : m ≤ 18) (x : PS) : 0 ≤ (numCP m x).1 ∧ (numCP m x).1 < 1000000000000000000 := by
  unfold numCP
  split
  · exact ⟨Int.le_refl 0, by show (0 : Int) < _; decide⟩
  · rename_i h
    have h1 : nDg x.1 ≤ m := by
      refine Nat.le_of_not_lt fun hlt => h ?_
      unfold badN; rw [decide_eq_true hlt]; simp
    have h2 := valD_lt (x.1.take (nDg x.1)) 0 0 (take_dig x.1) (by decide)
    have h3 : 10 ^ (0 + (x.1.take (nDg x.1)).length) ≤ 10 ^ 18 := Nat.pow_le_pow_right (by decide) (by simp; omega)
    simp only
    omega
theorem sign_iff (c : UInt8) (l : List UInt8) (bad : Bool) : (bad || ((strL l).size : Int) == 0 || (((strL l).data.getD (Int.toNat 0) 0).toNat : Int) != (c.toNat : Int)) = true ↔ bad = true ∨ l = [] ∨ l.getD 0 0 ≠ c := by
  rw [strL_size, strL_getD, Int.toNat_zero, bne, u8_eq]
  cases l with
  | nil => simp
  | cons a r =>
    have : ((((a :: r).length : Nat) : Int) == 0) = false := by rw [beq_eq_false_iff_ne]; simp; omega
    rw [this]
    simp
end Go.Pu
namespace Go.Proofs.YtpkjbchplkfmhaaDoor
open Go.Sy Go.Pu
abbrev rdR (x : PS) (b : Nat) : List (Nat × Res) := [(0, .box 76 [strV (strL x.1), bV x.2] (some b))]
def V0 : Fns := (61, fB (fun s => .tup [iV ((Lib.atoi s.data.toList).getD 0), .c (.lit .nilIface)]) fun s => s.size ≤ 18 ∧ Lib.atoi s.data.toList = some ((Lib.atoi s.data.toList).getD 0)) ::
  U7
theorem V0_ok : FnsOk Tryd.prog V0 := .cons (U7_ok) Tryd.func61 rfl rfl (fB_ok fun s h => atoi_does layAtoi rfl s _ h.1 h.2)


theorem sign_does (c : UInt8) (x : PS) (b : Nat) (hx : x.1.length ≤ 70000) : DoesF Tryd.prog 54 [.r 0, .c (.lit (.int .u8 (c.toNat : Int)))] (rdR x b) (.tup []) (rdR (signP c x) b) := by
  obtain ⟨l, bad⟩ := x
  simp only at hx
  refine DoesF.body _ Tryd.func54 rfl rfl rfl rfl ?_
  refine KW.goIf lay_ok V0_ok 100 rfl ?_ rfl trivial (fun h => ?_) fun h => ?_
  · simp +contextual [-Array.getD_eq_getD_getElem?]
    intro _ h; exact List.length_pos_iff.2 h
  · have h1 := (sign_iff c l bad).1 h
    have h2 : signP c (l, bad) = (l, true) := by rw [signP, if_pos h1]
    rw [h2]
    exact KW.goRetR lay_ok V0_ok 100 rfl [(0, 0)] rfl rfl rfl (by simp) (by exact ⟨rfl, trivial⟩)
  · have h1 : ¬ (bad = true ∨ l = [] ∨ l.getD 0 0 ≠ c) := fun h1 => by
      rw [(sign_iff c l bad).2 h1] at h; cases h
    have h2 : signP c (l, bad) = (l.drop 1, false) := by rw [signP, if_neg h1]
    have h3 : bad = false := by cases bad <;> simp at h1 ⊢
    have h4 : 1 ≤ l.length := List.length_pos_iff.2 fun e => h1 (.inr (.inl e))
    rw [h2]
    refine KW.go lay_ok V0_ok 100 rfl (by simp; omega) ?_
    refine KW.convB 0 0 (.lit (.string (strL (l.drop 1)))) rfl rfl ?_ ?_
    · show Value.string _ = Value.string _
      congr 1
      simp only [strL_size]
      exact strL_drop l 1
    · exact KW.finN [(0, 0)] rfl rfl rfl (by exact ⟨by rw [h3]; rfl, trivial⟩)
theorem num_test (l : List UInt8) (q : Nat) : (decide ((q : Int) < ((strL l).size : Int)) && decide ((48 : Int) ≤ ((((strL l).data.getD (Int.toNat (q : Int)) 0).toNat : Nat) : Int)) && decide ((((((strL l).data.getD (Int.toNat (q : Int)) 0).toNat : Nat) : Int)) ≤ 57)) = (decide (q < l.length) && isDg (l.getD q 0)) := by
  rw [strL_size, strL_getD, Int.toNat_natCast, isDg, Bool.and_assoc]
  congr 1
  · simp
  · congr 1 <;> simp <;> omega
theorem num_bad (l : List UInt8) (bad : Bool) (m : Nat) : (bad || ((nDg l : Nat) : Int) == 0 || decide ((m : Int) < ((nDg l : Nat) : Int)) || decide ((1 : Int) < ((nDg l : Nat) : Int)) && ((((strL l).data.getD (Int.toNat 0) 0).toNat : Nat) : Int) == 48) = badN m (l, bad) := by
  have e48 := u8_eq (l.getD 0 0) 48
  rw [strL_getD, Int.toNat_zero, show (48 : Int) = (((48 : UInt8).toNat : Nat) : Int) from rfl, e48]
  unfold badN
  congr 1
  · congr 1
    · congr 1
      rw [Bool.eq_iff_iff, beq_iff_eq, beq_iff_eq]; exact Int.natCast_eq_zero
    · simp
  · congr 1
    rw [decide_eq_decide]; simp only; omega
theorem badN_no {l : List UInt8} {bad : Bool} {m : Nat} (h : badN m (l, bad) = false) : nDg l ≠ 0 ∧ nDg l ≤ m := by
  unfold badN at h
  simp only [Bool.or_eq_false_iff, beq_eq_false_iff_ne, decide_eq_false_iff_not] at h
  exact ⟨h.1.1.2, by omega⟩
theorem number_does (m : Nat) (hm : m ≤ 18) (x : PS) (b : Nat) (hx : x.1.length ≤ 70000) : DoesF Tryd.prog 55 [.r 0, iV m] (rdR x b) (sI (numCP m x).1) (rdR (numCP m x).2 b) := by
  obtain ⟨l, bad⟩ := x
  simp only at hx
  refine DoesF.body _ Tryd.func55 rfl rfl rfl rfl ?_
  have hnl := nDg_le l
  refine KW.goLpR lay_ok V0_ok 100 rfl (I := fun q : Nat => ⟨Tryd.f55.ntmps, [(0, .e (.r 0)), (1, sI m), (5, sI q)], rdR (l, bad) b⟩)
    (R := fun q => q ≤ nDg l) (m := fun q => nDg l - q) 0 [(0, 0)] rfl rfl ⟨rfl, rfl, rfl, trivial⟩ (by simp) (Nat.zero_le _) (by exact ⟨rfl, trivial⟩) ?_
  rintro q hq0
  refine KW.goIf lay_ok V0_ok 100 rfl ?_ rfl trivial (fun h => ?_) fun h => ?_
  · simp +contextual [-Array.getD_eq_getD_getElem?]
    rintro ⟨ha, hb⟩
    rw [List.getElem?_eq_getElem ha] at hb; exact hb
  · have h1 := (num_test l q).symm.trans h
    simp only [Bool.and_eq_true, decide_eq_true_eq] at h1
    have hq : q + 1 ≤ nDg l := by
      refine Classical.byContradiction fun hno => ?_
      have e : q = nDg l := by omega
      rw [e] at h1
      have := nDg_end l h1.1
      rw [this] at h1; cases h1.2
    exact KW.goToR lay_ok V0_ok 100 rfl (q + 1) [(0, 0)] rfl rfl ⟨rfl, rfl, rfl, trivial⟩ (by simp [inK]; omega) ⟨hq, by omega⟩ (by exact ⟨rfl, trivial⟩)
  · have h1 := (num_test l q).symm.trans h
    have hq : q = nDg l := by
      refine Classical.byContradiction fun hno => ?_
      have e : q < nDg l := by omega
      rw [nDg_dig l q e, decide_eq_true (show q < l.length by omega)] at h1
      cases h1
    subst hq
    refine KW.goOut lay_ok V0_ok 100 rfl (by simp) ?_
    refine KW.goIf lay_ok V0_ok 100 rfl ?_ rfl trivial (fun h => ?_) fun h => ?_
    · simp +contextual [-Array.getD_eq_getD_getElem?]
      omega
    · have h1 : badN m (l, bad) = true := (num_bad l bad m).symm.trans h
      have h2 : numCP m (l, bad) = (0, (l, true)) := by rw [numCP, if_pos h1]
      rw [h2]
      exact KW.goRetR lay_ok V0_ok 100 rfl [(0, 0)] rfl rfl rfl (by simp) (by exact ⟨rfl, trivial⟩)
    · have h1 : badN m (l, bad) = false := (num_bad l bad m).symm.trans h
      have h2 : numCP m (l, bad) = (((valD 0 (l.take (nDg l)) : Nat) : Int), (l.drop (nDg l), false)) := by rw [numCP, if_neg (by rw [h1]; decide)]
      rw [h2]
      obtain ⟨k0, k1⟩ := badN_no h1
      have ha := atoi_take k0
      have e0 : (strL l).extract (Int.toNat 0) (Int.toNat ((nDg l : Nat) : Int)) = strL (l.take (nDg l)) := by
        rw [Int.toNat_natCast]; exact strL_take l _
      have e1 : (strL l).extract (Int.toNat ((nDg l : Nat) : Int)) (Int.toNat (((strL l).size : Nat) : Int)) = strL (l.drop (nDg l)) := by
        rw [Int.toNat_natCast, Int.toNat_natCast, strL_size]; exact strL_drop l _
      refine KW.goDV lay_ok V0_ok rfl 100 rfl 13 12 0 rfl (by decide +kernel) (by decide +kernel) rfl rfl rfl ?_ ?_ ?_
      · simp only [e0, strL_data, strL_size, ha, Option.getD_some, List.length_take, true_and, and_true]
        omega
      · simp [ifcV]
        omega
      refine KW.go lay_ok V0_ok 100 rfl (by simp) ?_
      refine KW.convB 0 0 (.lit (.string (strL (l.drop (nDg l))))) rfl rfl (by show Value.string _ = Value.string _; exact congrArg _ e1) ?_
      refine KW.fin [(0, 0)] rfl rfl ?_ (by exact ⟨rfl, trivial⟩)
      simp only [e0, strL_data, ha, Option.getD_some]; rfl
theorem byte_at (l : List UInt8) (c : UInt8) : (((((strL l).data.getD (Int.toNat 0) 0).toNat : Nat) : Int) == ((c.toNat : Nat) : Int)) = (l.getD 0 0 == c) := by
  rw [strL_getD, Int.toNat_zero, u8_eq]
theorem rd_node_does (f : Nat) : ∀ (deep : Int) (x : PS) (b : Nat), deep = 31 - (f : Int) → f ≤ 31 → x.1.length ≤ 70000 → DoesF Tryd.prog 36 [.r 0, iV deep] (rdR x b) (.e (trV (nodeCP f x).1)) (rdR (nodeCP f x).2 b) := by
  induction f with
  | zero =>
    intro deep x b hd hf hx
    obtain ⟨l, bad⟩ := x
    refine DoesF.bodyC lay_ok _ Tryd.func36 rfl rfl rfl rfl ?_
    refine KW.goIf lay_ok V0_ok 100 rfl (by simp) rfl trivial (fun h => ?_) fun h => ?_
    · refine KW.go lay_ok V0_ok 100 rfl (by simp) ?_
      refine KW.convB 4 1 Tr.no.ks rfl rfl ⟨rfl, rfl⟩ ?_
      exact KW.finC [(0, 0)] rfl rfl rfl (by exact ⟨rfl, trivial⟩)
    · exfalso
      simp at h
      omega
  | succ f ih =>
    intro deep x b hd hf hx
    obtain ⟨l, bad⟩ := x
    simp only at hx
    refine DoesF.bodyC lay_ok _ Tryd.func36 rfl rfl rfl rfl ?_
    refine KW.goIf lay_ok V0_ok 100 rfl (by simp) rfl trivial (fun h => ?_) fun h => ?_
    · have h1 : bad = true ∨ l = [] := by
        simp at h
        rcases h with (h | h) | h
        · exact .inl h
        · exact .inr h
        · omega
      rw [nodeCP, if_pos h1]
      refine KW.go lay_ok V0_ok 100 rfl (by simp) ?_
      refine KW.convB 4 1 Tr.no.ks rfl rfl ⟨rfl, rfl⟩ ?_
      exact KW.finC [(0, 0)] rfl rfl rfl (by exact ⟨rfl, trivial⟩)
    have h1 : ¬ (bad = true ∨ l = []) := by
      simp at h
      rintro (h1 | h1)
      · rw [h1] at h; exact absurd h.1.1 (by decide)
      · exact h.1.2 h1
    have hb : bad = false := by cases bad <;> simp at h1 ⊢
    have hl : 0 < l.length := List.length_pos_iff.2 fun e => h1 (.inr e)
    subst hb
    rw [nodeCP, if_neg h1]
    refine KW.goIf lay_ok V0_ok 100 rfl (by simp; omega) rfl trivial (fun h => ?_) fun h => ?_
    · have h2 : l.getD 0 0 = 91 := by
        have := (byte_at l 91).symm.trans h
        simpa using this
      rw [if_pos h2]
      dsimp only
      have k1 := signP_len 91 (l, false)
      refine KW.go lay_ok V0_ok 100 rfl (by simp) ?_
      refine KW.call0 (sign_does 91 (l, false) b hx) (enters Tryd.func54 rfl rfl) [(0, 0)] [(0, 0)] [] (.inl rfl) rfl rfl rfl rfl rfl trivial
          ⟨⟨_, _, rfl, trivial, (show Mt _ _ _ (EV.ren [(0, 0)] (.r 0)) (.r 0) from .same)⟩, ⟨_, _, rfl, trivial, .conv (CVEq.refl _)⟩, trivial⟩ rfl ⟨rfl, trivial⟩ rfl ⟨.inr ⟨rfl, .inr ⟨_, _, _, _, b, rfl, rfl⟩⟩, trivial⟩ rfl rfl (.inl rfl) ?_
      generalize signP 91 (l, false) = x1 at *
      have k2 := numCP_len 2 x1
      have v2 := numCP_val 2 (by decide) x1
      simp only at k1
      refine KW.go lay_ok V0_ok 100 rfl (by simp) ?_
      refine KW.call0 (number_does 2 (by decide) x1 b (by omega)) (enters Tryd.func55 rfl rfl) [(0, 0)] [(0, 0)] [] (.inl rfl) rfl rfl rfl rfl rfl trivial
          ⟨⟨_, _, rfl, trivial, (show Mt _ _ _ (EV.ren [(0, 0)] (.r 0)) (.r 0) from .same)⟩, ⟨_, _, rfl, trivial, .conv (CVEq.refl _)⟩, trivial⟩ rfl ⟨rfl, trivial⟩ rfl ⟨.inr ⟨rfl, .inr ⟨_, _, _, _, b, rfl, rfl⟩⟩, trivial⟩ rfl rfl (.inl rfl) ?_
      generalize numCP 2 x1 = n2 at *
      have k3 := signP_len 32 n2.2
      refine KW.go lay_ok V0_ok 100 rfl (by simp) ?_
      refine KW.call0 (sign_does 32 n2.2 b (by omega)) (enters Tryd.func54 rfl rfl) [(0, 0)] [(0, 0)] [] (.inl rfl) rfl rfl rfl rfl rfl trivial
          ⟨⟨_, _, rfl, trivial, (show Mt _ _ _ (EV.ren [(0, 0)] (.r 0)) (.r 0) from .same)⟩, ⟨_, _, rfl, trivial, .conv (CVEq.refl _)⟩, trivial⟩ rfl ⟨rfl, trivial⟩ rfl ⟨.inr ⟨rfl, .inr ⟨_, _, _, _, b, rfl, rfl⟩⟩, trivial⟩ rfl rfl (.inl rfl) ?_
      generalize signP 32 n2.2 = x3 at *
      have k4 := nodeCP_len f x3
      refine KW.go lay_ok V0_ok 100 rfl (by simp [inK]; omega) ?_
      refine KW.call0 (ih (deep + 1) x3 b (by omega) (by omega) (by omega)) (enters Tryd.func36 rfl rfl) [(0, 0)] [(0, 0)] [] (.inl rfl) rfl rfl rfl rfl rfl trivial
          ⟨⟨_, _, rfl, trivial, (show Mt _ _ _ (EV.ren [(0, 0)] (.r 0)) (.r 0) from .same)⟩, ⟨_, _, rfl, trivial, .conv (CVEq.refl _)⟩, trivial⟩ rfl ⟨rfl, trivial⟩ rfl ⟨.inr ⟨rfl, .inr ⟨_, _, _, _, b, rfl, rfl⟩⟩, trivial⟩ rfl rfl (.inl rfl) ?_
      generalize nodeCP f x3 = ta at *
      have k5 := signP_len 32 ta.2
      refine KW.go lay_ok V0_ok 100 rfl (by simp) ?_
      refine KW.call0 (sign_does 32 ta.2 b (by omega)) (enters Tryd.func54 rfl rfl) [(0, 0)] [(0, 0)] [] (.inl rfl) rfl rfl rfl rfl rfl trivial
          ⟨⟨_, _, rfl, trivial, (show Mt _ _ _ (EV.ren [(0, 0)] (.r 0)) (.r 0) from .same)⟩, ⟨_, _, rfl, trivial, .conv (CVEq.refl _)⟩, trivial⟩ rfl ⟨rfl, trivial⟩ rfl ⟨.inr ⟨rfl, .inr ⟨_, _, _, _, b, rfl, rfl⟩⟩, trivial⟩ rfl rfl (.inl rfl) ?_
      generalize signP 32 ta.2 = x5 at *
      have k6 := nodeCP_len f x5
      refine KW.go lay_ok V0_ok 100 rfl (by simp [inK]; omega) ?_
      refine KW.call0 (ih (deep + 1) x5 b (by omega) (by omega) (by omega)) (enters Tryd.func36 rfl rfl) [(0, 0)] [(0, 0)] [] (.inl rfl) rfl rfl rfl rfl rfl trivial
          ⟨⟨_, _, rfl, trivial, (show Mt _ _ _ (EV.ren [(0, 0)] (.r 0)) (.r 0) from .same)⟩, ⟨_, _, rfl, trivial, .conv (CVEq.refl _)⟩, trivial⟩ rfl ⟨rfl, trivial⟩ rfl ⟨.inr ⟨rfl, .inr ⟨_, _, _, _, b, rfl, rfl⟩⟩, trivial⟩ rfl rfl (.inl rfl) ?_
      generalize nodeCP f x5 = tb at *
      have k7 := signP_len 93 tb.2
      refine KW.go lay_ok V0_ok 100 rfl (by simp) ?_
      refine KW.call0 (sign_does 93 tb.2 b (by omega)) (enters Tryd.func54 rfl rfl) [(0, 0)] [(0, 0)] [] (.inl rfl) rfl rfl rfl rfl rfl trivial
          ⟨⟨_, _, rfl, trivial, (show Mt _ _ _ (EV.ren [(0, 0)] (.r 0)) (.r 0) from .same)⟩, ⟨_, _, rfl, trivial, .conv (CVEq.refl _)⟩, trivial⟩ rfl ⟨rfl, trivial⟩ rfl ⟨.inr ⟨rfl, .inr ⟨_, _, _, _, b, rfl, rfl⟩⟩, trivial⟩ rfl rfl (.inl rfl) ?_
      generalize signP 93 tb.2 = x7 at *
      refine KW.go lay_ok V0_ok 100 rfl (by simp) ?_
      refine KW.frzB 5 1 57 rfl rfl rfl rfl ?_
      refine KW.go lay_ok V0_ok 100 rfl (by simp) ?_
      refine KW.convB 4 1 (Tr.two n2.1 ta.1 tb.1).ks rfl rfl (two_rows n2.1 ta.1 tb.1) ?_
      exact KW.finC [(0, 0)] rfl rfl rfl (by exact ⟨rfl, trivial⟩)
    have h2 : ¬ l.getD 0 0 = 91 := fun e => by
      have := (byte_at l 91).symm.trans h
      rw [e] at this; cases this
    rw [if_neg h2]
    refine KW.goIf lay_ok V0_ok 100 rfl (by simp) rfl trivial (fun h => ?_) fun h => ?_
    · have h3 : l.getD 0 0 = 45 := by
        have := (byte_at l 45).symm.trans h
        simpa using this
      rw [if_pos h3]
      dsimp only
      have k1 := signP_len 45 (l, false)
      refine KW.go lay_ok V0_ok 100 rfl (by simp) ?_
      refine KW.call0 (sign_does 45 (l, false) b hx) (enters Tryd.func54 rfl rfl) [(0, 0)] [(0, 0)] [] (.inl rfl) rfl rfl rfl rfl rfl trivial
          ⟨⟨_, _, rfl, trivial, (show Mt _ _ _ (EV.ren [(0, 0)] (.r 0)) (.r 0) from .same)⟩, ⟨_, _, rfl, trivial, .conv (CVEq.refl _)⟩, trivial⟩ rfl ⟨rfl, trivial⟩ rfl ⟨.inr ⟨rfl, .inr ⟨_, _, _, _, b, rfl, rfl⟩⟩, trivial⟩ rfl rfl (.inl rfl) ?_
      generalize signP 45 (l, false) = x1 at *
      have k2 := numCP_len 18 x1
      have v2 := numCP_val 18 (by decide) x1
      simp only at k1
      refine KW.go lay_ok V0_ok 100 rfl (by simp) ?_
      refine KW.call0 (number_does 18 (by decide) x1 b (by omega)) (enters Tryd.func55 rfl rfl) [(0, 0)] [(0, 0)] [] (.inl rfl) rfl rfl rfl rfl rfl trivial
          ⟨⟨_, _, rfl, trivial, (show Mt _ _ _ (EV.ren [(0, 0)] (.r 0)) (.r 0) from .same)⟩, ⟨_, _, rfl, trivial, .conv (CVEq.refl _)⟩, trivial⟩ rfl ⟨rfl, trivial⟩ rfl ⟨.inr ⟨rfl, .inr ⟨_, _, _, _, b, rfl, rfl⟩⟩, trivial⟩ rfl rfl (.inl rfl) ?_
      generalize numCP 18 x1 = n2 at *
      refine KW.go lay_ok V0_ok 100 rfl (by simp [inK]; omega) ?_
      refine KW.convB 4 1 (Tr.lf (-n2.1)).ks rfl rfl ⟨rfl, rfl⟩ ?_
      exact KW.finC [(0, 0)] rfl rfl rfl (by exact ⟨rfl, trivial⟩)
    have h3 : ¬ l.getD 0 0 = 45 := fun e => by
      have := (byte_at l 45).symm.trans h
      rw [e] at this; cases this
    rw [if_neg h3]
    dsimp only
    refine KW.go lay_ok V0_ok 100 rfl (by simp) ?_
    refine KW.call0 (number_does 18 (by decide) (l, false) b hx) (enters Tryd.func55 rfl rfl) [(0, 0)] [(0, 0)] [] (.inl rfl) rfl rfl rfl rfl rfl trivial
          ⟨⟨_, _, rfl, trivial, (show Mt _ _ _ (EV.ren [(0, 0)] (.r 0)) (.r 0) from .same)⟩, ⟨_, _, rfl, trivial, .conv (CVEq.refl _)⟩, trivial⟩ rfl ⟨rfl, trivial⟩ rfl ⟨.inr ⟨rfl, .inr ⟨_, _, _, _, b, rfl, rfl⟩⟩, trivial⟩ rfl rfl (.inl rfl) ?_
    generalize numCP 18 (l, false) = n2 at *
    refine KW.go lay_ok V0_ok 100 rfl (by simp) ?_
    refine KW.convB 4 1 (Tr.lf n2.1).ks rfl rfl ⟨rfl, rfl⟩ ?_
    exact KW.finC [(0, 0)] rfl rfl rfl (by exact ⟨rfl, trivial⟩)
theorem parse_does (s : ByteArray) : DoesF Tryd.prog 12 [strV s] [] (.tup [trV (parV s.data.toList), eV (parC s.data.toList)]) [] := by
  obtain ⟨l, rfl⟩ : ∃ l, s = strL l := ⟨_, (strL_of s).symm⟩
  rw [strL_data]
  refine DoesF.bodyC lay_ok _ Tryd.func12 rfl rfl rfl rfl ?_
  refine KW.goIf lay_ok V0_ok 100 rfl (by simp) rfl trivial (fun h => ?_) fun h => ?_
  · have h1 : 65536 < l.length := by simp at h; omega
    have e : parC l = 4 := by rw [parC, if_pos h1]
    refine KW.go lay_ok V0_ok 100 rfl (by simp) ?_
    refine KW.convB 2 1 Tr.no.ks rfl rfl ⟨rfl, rfl⟩ ?_
    refine KW.finC [] rfl rfl ?_ trivial
    simp only [parV, e]; rfl
  have h1 : ¬ 65536 < l.length := by simp at h; omega
  have e : parC l = parE (nodeCP 31 (l, false)) := by rw [parC, if_neg h1]
  refine KW.go lay_ok V0_ok 100 rfl (by simp) ?_
  refine KW.name 4 rfl fun b => ?_
  refine KW.call0 (rd_node_does 31 0 (l, false) b (by decide) (by decide) (by simp only; omega)) (enters Tryd.func36 rfl rfl) [(0, 4)] [(0, 4)] [] (.inl rfl) rfl rfl rfl rfl rfl trivial
    ⟨⟨_, _, rfl, trivial, (show Mt _ _ _ (EV.ren [(0, 4)] (.r 0)) (.r 0) from .same)⟩, ⟨_, _, rfl, trivial, .conv (CVEq.refl _)⟩, trivial⟩ rfl ⟨rfl, trivial⟩ rfl ⟨.inr ⟨rfl, .inr ⟨_, _, _, _, b, rfl, rfl⟩⟩, trivial⟩ rfl rfl (.inl rfl) ?_
  have hV : parV l = if parE (nodeCP 31 (l, false)) = 0 then (nodeCP 31 (l, false)).1 else .no := by rw [parV, e]
  rw [hV, e]
  generalize nodeCP 31 (l, false) = X
  obtain ⟨t, l', bad⟩ := X
  refine KW.goIf lay_ok V0_ok 100 rfl (by simp) rfl trivial (fun h => ?_) fun h => ?_
  · have h2 : bad = true ∨ l' ≠ [] := by
      simp at h
      rcases h with h | h
      · exact .inl h
      · exact .inr (List.length_pos_iff.1 h)
    have e2 : parE (t, (l', bad)) = 2 := by rw [parE, if_pos h2]
    refine KW.go lay_ok V0_ok 100 rfl (by simp) ?_
    refine KW.convB 2 1 Tr.no.ks rfl rfl ⟨rfl, rfl⟩ ?_
    refine KW.finC [] rfl rfl ?_ trivial
    simp only [e2]; rfl
  have h2 : ¬ (bad = true ∨ l' ≠ []) := by
    simp at h
    rintro (h2 | h2)
    · rw [h2] at h; exact absurd h.1 (by decide)
    · exact h2 h.2
  have e2 : parE (t, (l', bad)) = splE t 24 := by rw [parE, if_neg h2]
  simp only [e2]
  refine KW.goIf lay_ok V0_ok 100 rfl (by simp [unTr_cells]) rfl trivial (fun h => ?_) fun h => ?_
  · have h0 : splE t 24 ≠ 0 := by simpa [unTr_cells] using h
    refine KW.go lay_ok V0_ok 100 rfl (by simp) ?_
    refine KW.convB 2 1 Tr.no.ks rfl rfl ⟨rfl, rfl⟩ ?_
    refine KW.finC [] rfl rfl ?_ trivial
    simp only [if_neg h0, unTr_cells]; rfl
  · have h0 : splE t 24 = 0 := by simpa [unTr_cells] using h
    refine KW.goRetC lay_ok V0_ok 100 rfl rfl ?_ (by simp) trivial
    simp only [if_pos h0, unTr_cells, h0]; rfl
def V1 : Fns := (12, fB (fun s => .tup [trV (parV s.data.toList), eV (parC s.data.toList)]) fun _ => True) ::
  V0
theorem V1_ok : FnsOk Tryd.prog V1 := .cons (V0_ok) Tryd.func12 rfl rfl (fB_ok fun s _ => parse_does s)


end Go.Proofs.YtpkjbchplkfmhaaDoor
