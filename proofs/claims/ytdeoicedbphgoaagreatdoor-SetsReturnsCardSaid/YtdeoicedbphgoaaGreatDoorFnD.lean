/-
  FnD, FnE, FnF, FnG, one text.
-/
import Derived.Test.YtdeoicedbphgoaaGreatDoorFnC
set_option linter.unusedSectionVars false
set_option linter.unusedVariables false
set_option linter.unusedSimpArgs false
/-
  The errors of lists compute what their Lean functions say; no condition.
-/
namespace Go.Proofs.YtdeoicedbphgoaaGreatDoor
open Go.Sy Go.Pu
variable [Drw]

/-- the specification's errors of a list -/
theorem rerror_does (l : List Int) : DoesF Tryz.prog 162 [.c (ints l)] [] (sI (listE l)) [] := by
  refine DoesF.body _ Tryz.func162 rfl rfl rfl rfl ?_
  refine KW.len 0 rfl rfl fun hla => ?_
  refine KW.goIf lay_ok T9_ok 100 rfl (by simp) rfl trivial (fun h => ?_) fun h => ?_
  · refine KW.goRet lay_ok T9_ok 100 rfl rfl ?_ (by simp) trivial
    have hl : 1024 < l.length := by simp at h; omega
    rw [listE, if_pos hl]; rfl
  · have hl : ¬ 1024 < l.length := by simp at h; omega
    refine KW.goLp lay_ok T9_ok 100 rfl (I := fun q : Nat => ⟨Tryz.f162.ntmps, [(8, .e (.c (ints l))), (9, sI l.length), (10, sI q)], []⟩) (R := fun q => q ≤ l.length ∧ (l.take q).all validS = true) (m := fun q => l.length - q) 0 rfl ⟨rfl, rfl, rfl, trivial⟩ (by simp) ⟨by simp, by simp⟩ trivial ?_
    rintro q ⟨h1, h2⟩
    refine KW.goIf lay_ok T9_ok 100 rfl (by simp) rfl trivial (fun h => ?_) fun h => ?_
    · have hq : q < l.length := by simpa using h
      refine KW.goIf lay_ok T9_ok 100 rfl (by simp; omega) rfl trivial (fun h => ?_) fun h => ?_
      · refine KW.goOutR lay_ok T9_ok 100 rfl (by simp) ?_
        refine KW.goRet lay_ok T9_ok 100 rfl rfl ?_ (by simp) trivial
        have hv : validS l[q] = false := by simpa [List.getD_eq_getElem?_getD, hq] using h
        have : l.all validS = false := by
          rw [List.all_eq_false]
          exact ⟨l[q], List.getElem_mem hq, by simp [hv]⟩
        rw [listE, if_neg hl, this]; rfl
      · refine KW.goTo lay_ok T9_ok 100 rfl (q + 1) rfl ⟨rfl, rfl, rfl, trivial⟩ (by simp [inK]; omega) ⟨⟨by omega, ?_⟩, by omega⟩ trivial
        have hv : validS l[q] = true := by simpa [List.getD_eq_getElem?_getD, hq] using h
        rw [List.take_succ_eq_append_getElem hq, List.all_append, h2]
        simp [hv]
    · have hq : q = l.length := by simp at h; omega
      refine KW.goOut lay_ok T9_ok 100 rfl (by simp) ?_
      refine KW.goRet lay_ok T9_ok 100 rfl rfl ?_ (by simp) trivial
      rw [hq, List.take_length] at h2
      rw [listE, if_neg hl, h2]; rfl

/-- the code's errors of lists -/
theorem lists_does (ls : List (List Int)) : DoesF Tryz.prog 81 [.c (intss ls)] [] (.e (.c (.lit (errV 47 (listsE ls))))) [] := by
  refine DoesF.body _ Tryz.func81 rfl rfl rfl rfl ?_
  refine KW.len 0 rfl rfl fun hla => ?_
  refine KW.goLp lay_ok T9_ok 100 rfl (I := fun q : Nat => ⟨Tryz.f81.ntmps, [(7, .e (.c (intss ls))), (8, sI ls.length), (9, sI q)], []⟩) (R := fun q => q ≤ ls.length ∧ listsE ls = listsE (ls.drop q)) (m := fun q => ls.length - q) 0 rfl ⟨rfl, rfl, rfl, trivial⟩ (by simp) ⟨by simp, by simp⟩ trivial ?_
  rintro q ⟨h1, h2⟩
  refine KW.goIf lay_ok T9_ok 100 rfl (by simp) rfl trivial (fun h => ?_) fun h => ?_
  · have hq : q < ls.length := by simpa using h
    have hd : ls.drop q = ls[q] :: ls.drop (q + 1) := List.drop_eq_getElem_cons hq
    have hg : ls.getD (Int.toNat (q : Int)) [] = ls[q] := by simp [List.getD_eq_getElem?_getD, hq]
    refine KW.goIf lay_ok T9_ok 100 rfl (by simp; omega) rfl trivial (fun h => ?_) fun h => ?_
    · refine KW.goOutR lay_ok T9_ok 100 rfl (by simp) ?_
      refine KW.goRet lay_ok T9_ok 100 rfl rfl ?_ (by simp) trivial
      have hl : 1024 < ls[q].length := by rw [hg] at h; simp at h; omega
      have e : listE ls[q] = 4 := by rw [listE, if_pos hl]
      rw [h2, hd, listsE, if_neg (by rw [e]; decide), e]; rfl
    · have hl : ¬ 1024 < ls[q].length := by rw [hg] at h; simp at h; omega
      refine KW.goLp lay_ok T9_ok 100 rfl (I := fun p : Nat => ⟨Tryz.f81.ntmps, [(7, .e (.c (intss ls))), (8, sI ls.length), (9, sI q), (17, .e (.c (ints ls[q]))), (18, sI ls[q].length), (19, sI p)], []⟩) (R := fun p => p ≤ ls[q].length ∧ (ls[q].take p).all validS = true) (m := fun p => ls[q].length - p) 0 rfl ⟨rfl, rfl, rfl, by rw [← hg]; rfl, by rw [← hg]; rfl, rfl, trivial⟩ (by simp) ⟨by simp, by simp⟩ trivial ?_
      rintro p ⟨g1, g2⟩
      refine KW.goIf lay_ok T9_ok 100 rfl (by simp) rfl trivial (fun h => ?_) fun h => ?_
      · have hp : p < ls[q].length := by simpa using h
        refine KW.goIf lay_ok T9_ok 100 rfl (by simp; omega) rfl trivial (fun h => ?_) fun h => ?_
        · refine KW.goOutR lay_ok T9_ok 100 rfl (by simp) ?_
          refine KW.goOutR lay_ok T9_ok 100 rfl (by simp) ?_
          refine KW.goRet lay_ok T9_ok 100 rfl rfl ?_ (by simp) trivial
          have hv : validS ls[q][p] = false := by simpa [List.getD_eq_getElem?_getD, hp] using h
          have : ls[q].all validS = false := by
            rw [List.all_eq_false]
            exact ⟨ls[q][p], List.getElem_mem hp, by simp [hv]⟩
          have e : listE ls[q] = 3 := by rw [listE, if_neg hl, this]; rfl
          rw [h2, hd, listsE, if_neg (by rw [e]; decide), e]; rfl
        · refine KW.goTo lay_ok T9_ok 100 rfl (p + 1) rfl ⟨rfl, rfl, rfl, rfl, rfl, rfl, trivial⟩ (by simp [inK]; omega) ⟨⟨by omega, ?_⟩, by omega⟩ trivial
          have hv : validS ls[q][p] = true := by simpa [List.getD_eq_getElem?_getD, hp] using h
          rw [List.take_succ_eq_append_getElem hp, List.all_append, g2]
          simp [hv]
      · have hp : p = ls[q].length := by simp at h; omega
        refine KW.goOut lay_ok T9_ok 100 rfl (by simp) ?_
        refine KW.goTo lay_ok T9_ok 100 rfl (q + 1) rfl ⟨rfl, rfl, rfl, trivial⟩ (by simp [inK]; omega) ⟨⟨by omega, ?_⟩, by omega⟩ trivial
        rw [hp, List.take_length] at g2
        have e : listE ls[q] = 0 := by rw [listE, if_neg hl, g2]; rfl
        rw [h2, hd, listsE, if_pos e]
  · have hq : q = ls.length := by simp at h; omega
    refine KW.goOut lay_ok T9_ok 100 rfl (by simp) ?_
    refine KW.goRet lay_ok T9_ok 100 rfl rfl ?_ (by simp) trivial
    rw [h2, hq, List.drop_length]; rfl
end Go.Proofs.YtdeoicedbphgoaaGreatDoor

/-
  slices.ContainsFunc and family.Covers compute what their Lean functions say; no condition.
-/
namespace Go.Proofs.YtdeoicedbphgoaaGreatDoor
open Go.Sy Go.Pu
variable [Drw]

/-- a function from int to bool, with what it has captured -/
def Clo (P : Program) (g m : Nat) (ks : Nat → Nat) (caps : Nat → Nat → CV) (p : Int → Bool) (xs : List Int) : Prop :=
  (∀ args w, (callFunc g args).run P w = .ok (.enter g args) w) ∧ ∀ x ∈ xs, DoesF P g (iV x :: capE ks caps m 0) [] (sB (p x)) []

theorem indexFunc_does {g m : Nat} {ks : Nat → Nat} {caps : Nat → Nat → CV} {p : Int → Bool} (xs : List Int) (hc : Clo Tryz.prog g m ks caps p xs) : ∃ z : Int, (0 ≤ z ↔ xs.any p = true) ∧
    DoesF Tryz.prog 143 [.c (ints xs), .c (.clo g m ks caps)] [] (sI z) [] := by
  refine ⟨if xs.any p then (xs.findIdx p : Int) else -1, by split <;> simp_all, ?_⟩
  refine DoesF.body _ Tryz.func143 rfl rfl rfl rfl ?_
  refine KW.len 0 rfl rfl fun hla => ?_
  refine KW.goLp lay_ok T9_ok 100 rfl (I := fun q : Nat => ⟨Tryz.f143.ntmps, [(0, .e (.c (ints xs))), (1, .e (.c (.clo g m ks caps))), (7, sI xs.length), (8, sI q)], []⟩) (R := fun q => q ≤ xs.length ∧ (xs.take q).any p = false) (m := fun q => xs.length - q) 0 rfl ⟨rfl, rfl, rfl, rfl, trivial⟩ (by simp) ⟨by simp, by simp⟩ trivial ?_
  rintro q ⟨h1, h2⟩
  have h2' : ∀ x ∈ xs.take q, p x = false := by simpa [List.any_eq_false] using h2
  refine KW.goIf lay_ok T9_ok 100 rfl (by simp) rfl trivial (fun h => ?_) fun h => ?_
  · have hq : q < xs.length := by simpa using h
    have hg : xs.getD (Int.toNat (q : Int)) 0 = xs[q] := by simp [List.getD_eq_getElem?_getD, hq]
    refine KW.go lay_ok T9_ok 100 rfl (by simp; omega) ?_
    refine KW.callC [iV xs[q]] (hc.2 xs[q] (List.getElem_mem hq)) hc.1 [] (.inl rfl) rfl rfl rfl rfl rfl trivial ⟨⟨_, _, rfl, trivial, Mt.conv (show CVEq (.lit (.int .i64 (xs.getD (Int.toNat (q : Int)) 0))) _ by rw [hg]; exact CVEq.refl _)⟩, trivial⟩ rfl (.inl rfl) ?_
    refine KW.goIf lay_ok T9_ok 100 rfl (by simp) rfl trivial (fun h => ?_) fun h => ?_
    · refine KW.goOutR lay_ok T9_ok 100 rfl (by simp) ?_
      refine KW.goRet lay_ok T9_ok 100 rfl rfl ?_ (by simp) trivial
      have ha : xs.any p = true := by rw [List.any_eq_true]; exact ⟨xs[q], List.getElem_mem hq, h⟩
      have hi : xs.findIdx p = q := by
        rw [List.findIdx_eq hq]
        refine ⟨h, fun j hj => ?_⟩
        exact h2' _ (List.mem_take_iff_getElem.2 ⟨j, by omega, rfl⟩)
      rw [if_pos ha, hi]; rfl
    · refine KW.goTo lay_ok T9_ok 100 rfl (q + 1) rfl ⟨rfl, rfl, rfl, rfl, trivial⟩ (by simp [inK]; omega) ⟨⟨by omega, ?_⟩, by omega⟩ trivial
      rw [List.take_succ_eq_append_getElem hq, List.any_append, h2]
      simp [h]
  · have hq : q = xs.length := by simp at h; omega
    refine KW.goOut lay_ok T9_ok 100 rfl (by simp) ?_
    refine KW.goRet lay_ok T9_ok 100 rfl rfl ?_ (by simp) trivial
    rw [hq, List.take_length] at h2
    rw [h2]; rfl

theorem containsFunc_does {g m : Nat} {ks : Nat → Nat} {caps : Nat → Nat → CV} {p : Int → Bool} (xs : List Int) (hc : Clo Tryz.prog g m ks caps p xs) :
    DoesF Tryz.prog 71 [.c (ints xs), .c (.clo g m ks caps)] [] (sB (xs.any p)) [] := by
  obtain ⟨z, hz, D⟩ := indexFunc_does xs hc
  refine DoesF.body _ Tryz.func71 rfl rfl rfl rfl ?_
  refine KW.go lay_ok T9_ok 100 rfl (by simp) ?_
  refine KW.callV0 D (enters Tryz.func143 rfl rfl) [] (.inl rfl) rfl rfl rfl rfl rfl trivial ⟨⟨_, _, rfl, trivial, .conv (CVEq.refl _)⟩, ⟨_, _, rfl, trivial, .conv (CVEq.refl _)⟩, trivial⟩ rfl (.inl rfl) ?_
  refine KW.goRet lay_ok T9_ok 100 rfl rfl ?_ (by simp) trivial
  simp only [SV.ren, EV.ren]
  congr 5
  rw [Bool.eq_iff_iff, decide_eq_true_iff, ← hz]

def T10 : Fns := (81, fLs (fun l => .e (.c (.lit (errV 47 (listsE l))))) fun _ => True) ::
  (162, fL (fun l => sI (listE l)) fun _ => True) ::
  T9
theorem T10_ok : FnsOk Tryz.prog T10 := .cons (.cons (T9_ok) Tryz.func162 rfl rfl (fL_ok fun l _ => rerror_does l)) Tryz.func81 rfl rfl (fLs_ok fun l _ => lists_does l)


theorem coversC_does (t s : Int) : DoesF Tryz.prog 83 [iV t, .pe 1 1 (fun _ q => .lit (.int .i64 s)) 0 0] [] (sB (subS t s)) [] := by
  refine DoesF.body _ Tryz.func83 rfl rfl rfl rfl ?_
  exact KW.goRet lay_ok T10_ok 100 rfl rfl rfl (by simp) trivial

theorem covers_does (l : List Int) (s : Int) : DoesF Tryz.prog 28 [.c (ints l), iV s] [] (.tup [bV (decide (listE l = 0) && validS s && l.any (fun t => subS t s)), .c (.lit (errV 47 (if listE l = 0 then if validS s then 0 else 3 else listE l)))]) [] := by
  refine DoesF.body _ Tryz.func28 rfl rfl rfl rfl ?_
  refine KW.goIf lay_ok T10_ok 100 rfl (by simp) rfl trivial (fun h => ?_) fun h => ?_
  · refine KW.goRet lay_ok T10_ok 100 rfl rfl ?_ (by simp) trivial
    simp [listsE] at h
    simp [SV.ren, renL, EV.ren, h, listsE]
  · simp [listsE] at h
    refine KW.goIf lay_ok T10_ok 100 rfl (by simp) rfl trivial (fun h' => ?_) fun h' => ?_
    · refine KW.goRet lay_ok T10_ok 100 rfl rfl ?_ (by simp) trivial
      simp at h'
      simp [SV.ren, renL, EV.ren, h, h', errV]
    · simp at h'
      refine KW.go lay_ok T10_ok 100 rfl (by simp) ?_
      refine KW.callV0 (containsFunc_does (m := 1) (ks := fun _ => 1) (caps := fun _ _ => .lit (.int .i64 s)) l ⟨enters Tryz.func83 rfl rfl, fun x _ => coversC_does x s⟩) (enters Tryz.func71 rfl rfl) [3] (.inl rfl) rfl rfl rfl rfl rfl trivial
        ⟨⟨_, _, rfl, trivial, .conv (CVEq.refl _)⟩, ⟨_, _, rfl, trivial, .lfn rfl ?_⟩, trivial⟩ rfl (.inr trivial) ?_
      · intro j hj
        obtain rfl : j = 0 := by omega
        refine ⟨3, _, _, _, rfl, rfl, rfl, rfl, fun q hq => ?_⟩
        obtain rfl : q = 0 := by omega
        rfl
      · refine KW.goRet lay_ok T10_ok 100 rfl rfl ?_ (by simp) trivial
        simp [SV.ren, renL, EV.ren, h, h', errV]
end Go.Proofs.YtdeoicedbphgoaaGreatDoor

/-
  The specification of sorting computes its Lean function; lists of at most 2 to the power 40 elements.
-/
namespace Go.Proofs.YtdeoicedbphgoaaGreatDoor
open Go.Sy Go.Pu
variable [Drw]

theorem rsort_does : ∀ (n : Nat) (l : List Int), l.length ≤ n → l.length ≤ 1099511627776 → DoesF Tryz.prog 212 [.c (ints l)] [] (.e (.c (ints (sortS l)))) [] := by
  intro n
  induction n with
  | zero =>
    intro l hn hb
    refine DoesF.body _ Tryz.func212 rfl rfl rfl rfl ?_
    refine KW.len 0 rfl rfl fun hla => ?_
    refine KW.goIf lay_ok T10_ok 100 rfl (by simp) rfl trivial (fun h => ?_) fun h => by simp at h; omega
    refine KW.goRetO lay_ok T10_ok 100 rfl 12 2 rfl rfl rfl ?_ (by simp <;> omega)
    rw [catV_ints, sortS_short (by omega)]; rfl
  | succ n ih =>
    intro l hn hb
    have T_ok : FnsOk Tryz.prog ((212, fL (fun l => .e (.c (ints (sortS l)))) fun l' => l'.length ≤ n ∧ l'.length ≤ 1099511627776) :: T10) := .cons T10_ok Tryz.func212 rfl rfl (fL_ok fun l h => ih l h.1 h.2)
    refine DoesF.body _ Tryz.func212 rfl rfl rfl rfl ?_
    refine KW.len 0 rfl rfl fun hla => ?_
    refine KW.goIf lay_ok T_ok 100 rfl (by simp) rfl trivial (fun h => ?_) fun h => ?_
    · refine KW.goRetO lay_ok T_ok 100 rfl 12 2 rfl rfl rfl ?_ (by simp <;> omega)
      rw [catV_ints, sortS_short (by simp at h; omega)]; rfl
    · have h2 : 2 ≤ l.length := by simp at h; omega
      have e2 : ((l.length : Int).tdiv 2) = ((l.length / 2 : Nat) : Int) := by rw [Int.tdiv_eq_ediv_of_nonneg (by omega)]; omega
      have A1 := isI_drop l (l.length / 2) 0 (by omega)
      have A2 := isI_drop l (l.length - l.length / 2) (l.length / 2) (by omega)
      have hs := sortS_long h2
      generalize ha : sortS (l.take (l.length / 2)) = a at hs
      generalize hbb : sortS (l.drop (l.length / 2)) = b at hs
      have hlen := sortS_length l
      have hla' := sortS_length (l.take (l.length / 2))
      have hlb' := sortS_length (l.drop (l.length / 2))
      rw [ha] at hla'
      rw [hbb] at hlb'
      simp only [List.length_take, List.length_drop] at hla' hlb'
      refine KW.goD lay_ok T_ok rfl 100 rfl rfl rfl (by simp) ?_ ?_
      · rw [e2]
        simp only [Int.toNat_natCast, Int.toNat_zero, Nat.sub_zero, Int.ofNat_toNat] 
        rw [A1.2, A2.2]
        simp only [Nat.add_zero] at A1 ⊢
        simp [-List.getD_eq_getElem?_getD, A1.1, A2.1, inK]
        omega
      · have e3 : unI (.sl (((l.length : Int).tdiv 2).toNat - Int.toNat 0) 1 fun e q => .lit (.int .i64 (l.getD (e + Int.toNat 0) 0))) = l.take (l.length / 2) := by
          rw [e2]; simp only [Int.toNat_natCast, Int.toNat_zero, Nat.sub_zero]; rw [A1.2]; rfl
        have e4 : unI (.sl ((l.length : Int).toNat - ((l.length : Int).tdiv 2).toNat) 1 fun e q => .lit (.int .i64 (l.getD (e + ((l.length : Int).tdiv 2).toNat) 0))) = l.drop (l.length / 2) := by
          rw [e2]; simp only [Int.toNat_natCast]; rw [A2.2, List.take_of_length_le (by simp)]
        refine KW.go lay_ok T_ok 100 rfl (by simp) ?_
        refine KW.nilO 5 5 3 (ints []) rfl rfl rfl ?_
        refine KW.lp (I := fun q : List Int × List Int × List Int => ⟨Tryz.f212.ntmps, [(3, .e (.c (ints q.1))), (4, .e (.c (ints q.2.1))), (5, .e (.r 5))], [(5, .own 3 (ints q.2.2))]⟩)
          (R := fun q => q.2.2 ++ mergeS q.1 q.2.1 = mergeS a b ∧ q.2.2.length + q.1.length + q.2.1.length ≤ l.length) (m := fun q => q.1.length + q.2.1.length) (a, b, []) ⟨by simp, by simp; omega⟩ [(5, 5)] ⟨rfl, rfl, ⟨?_, ?_, rfl, trivial⟩, ⟨rfl, trivial⟩⟩ ?_
        · rw [← ha, ← e3]; rfl
        · rw [← hbb, ← e4]; rfl
        · rintro ⟨xs, ys, out⟩ ⟨g1, g2⟩
          simp only at g1 g2
          have fin : (xs = [] ∨ ys = []) → out ++ xs ++ ys = mergeS a b := by
            rintro (rfl | rfl)
            · rw [← g1]; simp [mergeS]
            · rw [← g1]; cases xs <;> simp [mergeS]
          refine KW.goIf lay_ok T_ok 100 rfl (by simp) rfl trivial (fun h => ?_) fun h => ?_
          · simp at h
            obtain ⟨x, xs, rfl⟩ := List.exists_cons_of_length_pos (l := xs) (by omega)
            obtain ⟨y, ys, rfl⟩ := List.exists_cons_of_length_pos (l := ys) (by omega)
            simp only [List.length_cons] at g2
            refine KW.goD lay_ok T_ok rfl 100 rfl rfl rfl (by simp) (by simp) ?_
            refine KW.goIf lay_ok T_ok 100 rfl (by simp) rfl trivial (fun h => ?_) fun h => ?_
            · have h1 : cmpS x y ≤ 0 := of_decide_eq_true h
              refine KW.goIf lay_ok T_ok 100 rfl (by simp <;> omega) rfl trivial (fun h' => ?_) fun h' => ?_
              · have h3 : 0 ≤ cmpS x y := of_decide_eq_true h'
                refine KW.goToR lay_ok T_ok 100 rfl (xs, ys, out ++ [x]) [(5, 47)] rfl rfl ⟨rfl, rfl, rfl, trivial⟩ (by simp <;> omega) ⟨⟨?_, ?_⟩, ?_⟩ ⟨own_cat _ rfl, trivial⟩
                · rw [← g1, mergeS, if_pos (by omega)]; simp
                · simp; omega
                · simp; omega
              · have h3 : ¬ 0 ≤ cmpS x y := of_decide_eq_false h'
                refine KW.goToR lay_ok T_ok 100 rfl (xs, y :: ys, out ++ [x]) [(5, 47)] rfl rfl ⟨rfl, rfl, rfl, trivial⟩ (by simp <;> omega) ⟨⟨?_, ?_⟩, ?_⟩ ⟨own_cat _ rfl, trivial⟩
                · rw [← g1, mergeS, if_neg (by omega), if_pos h1]; simp
                · simp; omega
                · simp
            · have h1 : ¬ cmpS x y ≤ 0 := of_decide_eq_false h
              refine KW.goIf lay_ok T_ok 100 rfl (by simp <;> omega) rfl trivial (fun h' => ?_) fun h' => ?_
              · have h3 : 0 ≤ cmpS x y := of_decide_eq_true h'
                refine KW.goToR lay_ok T_ok 100 rfl (x :: xs, ys, out ++ [y]) [(5, 55)] rfl rfl ⟨rfl, rfl, rfl, trivial⟩ (by simp <;> omega) ⟨⟨?_, ?_⟩, ?_⟩ ⟨own_cat _ rfl, trivial⟩
                · rw [← g1, mergeS, if_neg (by omega), if_neg h1]; simp
                · simp; omega
                · simp
              · have h3 : ¬ 0 ≤ cmpS x y := of_decide_eq_false h'
                omega
          · refine KW.goOut lay_ok T_ok 100 rfl (by simp) ?_
            refine KW.goRetO lay_ok T_ok 100 rfl 65 2 rfl rfl rfl ?_ (by simp <;> omega)
            rw [catV_ints, catV_ints, fin, hs]
            simp at h
            rcases xs with _ | ⟨x, xs⟩
            · exact .inl rfl
            · exact .inr (h (by simp))

def T11 : Fns := (212, fL (fun l => .e (.c (ints (sortS l)))) fun l => l.length ≤ 1099511627776) ::
  T10
theorem T11_ok : FnsOk Tryz.prog T11 := .cons (T10_ok) Tryz.func212 rfl rfl (fL_ok fun l h => rsort_does l.length l (Nat.le_refl _) h)


end Go.Proofs.YtdeoicedbphgoaaGreatDoor

/-
  Functions of the specification of families compute their Lean functions; no condition.
-/
namespace Go.Proofs.YtdeoicedbphgoaaGreatDoor
open Go.Sy Go.Pu
variable [Drw]

theorem part_does (a b : Int) : DoesF Tryz.prog 213 [iV a, iV b] [] (sB (partB a b)) [] := by
  refine DoesF.body _ Tryz.func213 rfl rfl rfl rfl ?_
  refine KW.goRet lay_ok T11_ok 100 rfl rfl ?_ (by simp) trivial
  simp only [SV.ren, EV.ren, partB]
  congr 5
  rw [Bool.eq_iff_iff]; simp

theorem limited_does (l : List Int) : DoesF Tryz.prog 215 [.c (ints l)] [] (.tup [.c (ints (limL l)), iV (limE l)]) [] := by
  refine DoesF.body _ Tryz.func215 rfl rfl rfl rfl ?_
  refine KW.goIf lay_ok T11_ok 100 rfl (by simp) rfl trivial (fun h => ?_) fun h => ?_
  · have hl : 1024 < l.length := by simp at h; omega
    refine KW.go lay_ok T11_ok 100 rfl (by simp) ?_
    refine KW.conv 2 (ints []) rfl ⟨rfl, rfl⟩ ?_
    refine KW.fin [] rfl rfl ?_ trivial
    simp [SV.ren, renL, EV.ren, limL, limE, hl]
  · have hl : ¬ 1024 < l.length := by simp at h; omega
    refine KW.goRet lay_ok T11_ok 100 rfl rfl ?_ (by simp) trivial
    simp [SV.ren, renL, EV.ren, limL, limE, hl]

theorem both_does (a b : List Int) : DoesF Tryz.prog 214 [.c (ints a), .c (ints b)] [] (sI (bothE a b)) [] := by
  refine DoesF.body _ Tryz.func214 rfl rfl rfl rfl ?_
  refine KW.goIf lay_ok T11_ok 100 rfl (by simp) rfl trivial (fun h => ?_) fun h => ?_
  · refine KW.goRet lay_ok T11_ok 100 rfl rfl ?_ (by simp) trivial
    simp at h
    simp [SV.ren, EV.ren, bothE, h]
  · refine KW.goRet lay_ok T11_ok 100 rfl rfl ?_ (by simp) trivial
    simp at h
    simp [SV.ren, EV.ren, bothE, h]

end Go.Proofs.YtdeoicedbphgoaaGreatDoor
