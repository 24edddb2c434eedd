/-
  SYMBOLIC STATES, PART Y: rows of bools.
-/
import Derived.Test.YtpjhpcclbenfbaaSyX
set_option linter.unusedVariables false
set_option linter.unusedSimpArgs false
namespace Go.Sy
theorem catV_bools (a b : List Bool) : catV (bools a) (bools b) = bools (a ++ b) := by
  simp only [catV, bools, List.length_append]
  congr 1
  funext e q
  by_cases h : e < a.length
  · have : Nat.blt e a.length = true := by simpa [Nat.blt, Nat.succ_le_iff] using h
    simp [this, List.getD_eq_getElem?_getD, List.getElem?_append_left h, h]
  · have : Nat.blt e a.length = false := by
      cases hb : Nat.blt e a.length with
      | false => rfl
      | true => exact absurd (by simpa [Nat.blt, Nat.succ_le_iff] using hb) h
    simp [this, List.getD_eq_getElem?_getD, List.getElem?_append_right (Nat.le_of_not_lt h)]
theorem own_catB (E : Nat) {a b c : List Bool} (h : a ++ b = c) : some (Res.own E (catV (bools a) (bools b))) = some (Res.own E (bools c)) := by rw [catV_bools, h]
theorem own_catB0 (E : Nat) {b c : List Bool} (h : b = c) : some (Res.own E (bools b)) = some (Res.own E (bools c)) := by rw [h]
theorem KW.updB {P : Program} {k : List K} {A : St} {Q : Exit → St → Prop} {ex : Exit} (i : Nat) {E e : Nat} {a : List Bool} {v : Bool} (hl : lk A.rs i = some (.own E (updV (bools a) e 0 [.lit (.bool v)])))
    (hk : KW P k ex ⟨A.n, A.sl, (i, .own E (bools (a.set e v))) :: A.rs⟩ Q) : KW P k ex A Q := by
  refine KW.convR i (bools (a.set e v)) (g := fun e' _ => .lit (.bool ((a.set e v).getD e' false))) hl (by simp only [bools, List.length_set]) (fun e' q he hq => ?_) hk
  have : q = 0 := by omega
  subst this
  by_cases h : e' = e
  · subst h
    simp [Nat.beq_refl, Nat.blt, nthD, List.getD_eq_getElem?_getD, he]
    exact CVEq.refl (.lit (.bool v))
  · have hb : Nat.beq e' e = false := by
      cases hb : Nat.beq e' e with
      | false => rfl
      | true => exact absurd (Nat.eq_of_beq_eq_true hb) h
    simp [hb, CVEq, List.getD_eq_getElem?_getD, List.getElem?_set_ne (Ne.symm h)]

/-! rows of whatever elements -/
def rows {α : Type} (k : Nat) (enc : α → Nat → CV) (d : α) (xs : List α) : CV := .sl xs.length k fun e q => enc (xs.getD e d) q
theorem bools_rows (xs : List Bool) : bools xs = rows 1 (fun b _ => .lit (.bool b)) false xs := rfl
theorem ints_rows (xs : List Int) : ints xs = rows 1 (fun n _ => .lit (.int .i64 n)) 0 xs := rfl
theorem catV_rows {α : Type} {k : Nat} {enc : α → Nat → CV} {d : α} (a b : List α) : catV (rows k enc d a) (rows k enc d b) = rows k enc d (a ++ b) := by
  simp only [catV, rows, List.length_append]
  congr 1
  funext e q
  by_cases h : e < a.length
  · have : Nat.blt e a.length = true := by simpa [Nat.blt, Nat.succ_le_iff] using h
    simp [this, List.getD_eq_getElem?_getD, List.getElem?_append_left h, h]
  · have : Nat.blt e a.length = false := by
      cases hb : Nat.blt e a.length with
      | false => rfl
      | true => exact absurd (by simpa [Nat.blt, Nat.succ_le_iff] using hb) h
    simp [this, List.getD_eq_getElem?_getD, List.getElem?_append_right (Nat.le_of_not_lt h)]
section
variable {P : Program} {K0 : List K} {A : St} {Q : Exit → St → Prop} {ex : Exit} {α : Type}
/-- an element has been appended -/
theorem KW.catG (i : Nat) {E k : Nat} {enc : α → Nat → CV} {d : α} {xs : List α} {cs : List CV} (x : α) (hl : lk A.rs i = some (.own E (catV (rows k enc d xs) (rowsC k 1 cs))))
    (hx : ∀ q, q < k → CVEq (nthD (.lit undef) cs q) (enc x q)) (hk : KW P K0 ex ⟨A.n, A.sl, (i, .own E (rows k enc d (xs ++ [x]))) :: A.rs⟩ Q) : KW P K0 ex A Q := by
  refine KW.convR i (rows k enc d (xs ++ [x])) (g := fun e q => enc ((xs ++ [x]).getD e d) q) hl (by simp [rows]) (fun e q he hq => ?_) hk
  by_cases h : e < xs.length
  · have : Nat.blt e xs.length = true := by simpa [Nat.blt, Nat.succ_le_iff] using h
    simp [this, List.getD_eq_getElem?_getD, List.getElem?_append_left h, h]
    exact CVEq.refl _
  · have h2 : e = xs.length := by omega
    subst h2
    have : Nat.blt xs.length xs.length = false := by
      cases hb : Nat.blt xs.length xs.length with
      | false => rfl
      | true => exact absurd (Nat.le_of_ble_eq_true hb) (Nat.not_succ_le_self _)
    simp [this, List.getD_eq_getElem?_getD]
    exact hx q hq
/-- an element has been set -/
theorem KW.updG (i : Nat) {E k e : Nat} {enc : α → Nat → CV} {d : α} {xs : List α} {cs : List CV} (x : α) (hl : lk A.rs i = some (.own E (updV (rows k enc d xs) e 0 cs))) (hc : cs.length = k)
    (hx : ∀ q, q < k → CVEq (nthD (.lit undef) cs q) (enc x q)) (hk : KW P K0 ex ⟨A.n, A.sl, (i, .own E (rows k enc d (xs.set e x))) :: A.rs⟩ Q) : KW P K0 ex A Q := by
  refine KW.convR i (rows k enc d (xs.set e x)) (g := fun e' q => enc ((xs.set e x).getD e' d) q) hl (by simp [rows]) (fun e' q he hq => ?_) hk
  by_cases h : e' = e
  · subst h
    have hb : Nat.blt q cs.length = true := by simpa [Nat.blt, Nat.succ_le_iff, hc] using hq
    simp [Nat.beq_refl, hb, List.getD_eq_getElem?_getD, he]
    exact hx q hq
  · have hb : Nat.beq e' e = false := by
      cases hb : Nat.beq e' e with
      | false => rfl
      | true => exact absurd (Nat.eq_of_beq_eq_true hb) h
    simp [hb, List.getD_eq_getElem?_getD, List.getElem?_set_ne (Ne.symm h)]
    exact CVEq.refl _
end
theorem KW.catB {P : Program} {K0 : List K} {A : St} {Q : Exit → St → Prop} {ex : Exit} (i : Nat) {E : Nat} {xs : List Bool} {b : Bool} (hl : lk A.rs i = some (.own E (catV (bools xs) (rowsC 1 1 [.lit (.bool b)]))))
    (hk : KW P K0 ex ⟨A.n, A.sl, (i, .own E (bools (xs ++ [b]))) :: A.rs⟩ Q) : KW P K0 ex A Q :=
  KW.catG (k := 1) (enc := fun b _ => .lit (.bool b)) (d := false) i b hl (fun q hq => match q, hq with | 0, _ => CVEq.refl (.lit (.bool b))) hk
end Go.Sy
