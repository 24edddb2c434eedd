/-
  Hitting sets: the specification's search, Least and Cheapest.
-/
import Derived.Test.YtinddojpbieejaaFnR
import Derived.Test.YtinddojpbieejaaPuH
set_option linter.unusedVariables false
set_option linter.unusedSimpArgs false
namespace Go.Sy
def fIL (g : Int → List Int → SV) (p : Int → List Int → Prop) : List EV → Option (SV × Prop)
  | [.c (.lit (.int .i64 a)), .c x] => some (g a (unI x), isI x ∧ p a (unI x))
  | _ => none
def fIIL (g : Int → Int → List Int → SV) (p : Int → Int → List Int → Prop) : List EV → Option (SV × Prop)
  | [.c (.lit (.int .i64 a)), .c (.lit (.int .i64 b)), .c x] => some (g a b (unI x), isI x ∧ p a b (unI x))
  | _ => none
def fLIIL (g : List Int → Int → Int → List Int → SV) (p : List Int → Int → Int → List Int → Prop) : List EV → Option (SV × Prop)
  | [.c y, .c (.lit (.int .i64 a)), .c (.lit (.int .i64 b)), .c x] => some (g (unI y) a b (unI x), isI y ∧ isI x ∧ p (unI y) a b (unI x))
  | _ => none
section
variable {P : Program} {f : FuncId}
theorem fIL_ok {g : Int → List Int → SV} {p : Int → List Int → Prop} (h : ∀ a b, p a b → DoesF P f [iV a, .c (ints b)] [] (g a b) []) : ∀ ys y φ, fIL g p ys = some (y, φ) → φ → DoesF P f ys [] y [] := by
  intro ys y φ he hφ
  unfold fIL at he
  split at he
  · simp only [Option.some.injEq, Prod.mk.injEq] at he
    obtain ⟨rfl, rfl⟩ := he
    refine DoesF.conv ?_ (h _ _ hφ.2)
    exact ⟨CVEq.refl _, hφ.1, trivial⟩
  · cases he
theorem fIIL_ok {g : Int → Int → List Int → SV} {p : Int → Int → List Int → Prop} (h : ∀ a b c, p a b c → DoesF P f [iV a, iV b, .c (ints c)] [] (g a b c) []) : ∀ ys y φ, fIIL g p ys = some (y, φ) → φ → DoesF P f ys [] y [] := by
  intro ys y φ he hφ
  unfold fIIL at he
  split at he
  · simp only [Option.some.injEq, Prod.mk.injEq] at he
    obtain ⟨rfl, rfl⟩ := he
    refine DoesF.conv ?_ (h _ _ _ hφ.2)
    exact ⟨CVEq.refl _, CVEq.refl _, hφ.1, trivial⟩
  · cases he
theorem fLIIL_ok {g : List Int → Int → Int → List Int → SV} {p : List Int → Int → Int → List Int → Prop} (h : ∀ d a b c, p d a b c → DoesF P f [.c (ints d), iV a, iV b, .c (ints c)] [] (g d a b c) []) : ∀ ys y φ, fLIIL g p ys = some (y, φ) → φ → DoesF P f ys [] y [] := by
  intro ys y φ he hφ
  unfold fLIIL at he
  split at he
  · simp only [Option.some.injEq, Prod.mk.injEq] at he
    obtain ⟨rfl, rfl⟩ := he
    refine DoesF.conv ?_ (h _ _ _ _ hφ.2.2)
    exact ⟨hφ.1, CVEq.refl _, CVEq.refl _, hφ.2.1, trivial⟩
  · cases he
end
end Go.Sy
namespace Go.Proofs.Ytinddojpbieejaa
open Go.Sy Go.Pu

def cst (cost : List Int) (i : Nat) : Int := cost.getD i 0
def CostOk (cost : List Int) : Prop := ∀ i, i < 24 → 0 ≤ cost.getD i 0 ∧ cost.getD i 0 ≤ 1048576
def InL (s : Int) (n : Nat) : Prop := ∀ i, i < 24 → bit s i = true → i < n
theorem sumS_rng {cost : List Int} (hc : CostOk cost) (s : Int) : 0 ≤ sumS (cst cost) s ∧ sumS (cst cost) s ≤ 25165824 := by
  have := sumN_bound (c := cst cost) (B := 1048576) (by decide) hc s 24 (Nat.le_refl _)
  unfold sumS; omega

theorem sum_does (s : Int) (cost : List Int) (hc : CostOk cost) (hs : InL s cost.length) : DoesF Try.prog 60 [iV s, lV cost] [] (sI (sumS (cst cost) s)) [] := by
  refine DoesF.body _ Try.func60 rfl rfl rfl rfl ?_
  have hl24 : (elemsS s).length ≤ 24 := elemsN_length s 24
  refine KW.goLp lay_ok T24_ok 100 rfl (I := fun q : Nat => ⟨Try.f60.ntmps, [(1, .e (lV cost)), (5, sI (((elemsS s).take q).map fun i => cst cost i.toNat).sum), (9, .e (lV (elemsS s))), (10, sI (elemsS s).length), (11, sI q)], []⟩) (R := fun q => q ≤ (elemsS s).length) (m := fun q => (elemsS s).length - q) 0 rfl ⟨rfl, rfl, rfl, rfl, rfl, trivial⟩ (by simp) (by simp) trivial ?_
  rintro q h1
  refine KW.goIf lay_ok T24_ok 100 rfl (by simp) rfl trivial (fun h => ?_) fun h => ?_
  · have hq : q < (elemsS s).length := by simpa using h
    have hg : (elemsS s).getD (Int.toNat (q : Int)) 0 = (elemsS s)[q] := by simp [List.getD_eq_getElem?_getD, hq]
    obtain ⟨i, hi, hbit, hix⟩ := mem_elemsS.1 (List.getElem_mem hq)
    have hge : (elemsS s).getD (Int.toNat (q : Int)) 0 = (i : Int) := hg.trans hix
    have hb := sum_bound (B := 1048576) (by decide) (((elemsS s).take q).map fun i => cst cost i.toNat) (fun x hx => by
      obtain ⟨j, hj, rfl⟩ := List.mem_map.1 hx
      obtain ⟨k, hk, _, rfl⟩ := mem_elemsS.1 (List.mem_of_mem_take hj)
      exact hc k hk)
    have hlen : ((((elemsS s).take q).map fun i => cst cost i.toNat).length : Int) ≤ 24 := by simp; omega
    have hci := hc i hi
    have hil := hs i hi hbit
    refine KW.goTo lay_ok T24_ok 100 rfl (q + 1) rfl ⟨rfl, ?_, rfl, rfl, rfl, trivial⟩ ?_ ⟨by omega, by omega⟩ trivial
    · rw [List.take_succ_eq_append_getElem hq, List.map_append, List.sum_append, hge, hix]
      simp [cst]; rfl
    · have hge' : (elemsS s).getD q 0 = (i : Int) := hge
      simp only [hge', inK, true_and, and_true, Int.toNat_natCast]
      omega
  · have hq : q = (elemsS s).length := by simp at h; omega
    refine KW.goOut lay_ok T24_ok 100 rfl (by simp) ?_
    refine KW.goRet lay_ok T24_ok 100 rfl rfl ?_ (by simp) trivial
    rw [hq, List.take_length]
    show sI _ = sI _
    rw [show ((elemsS s).map fun i => cst cost i.toNat).sum = sumS (cst cost) s from sumN_elems (cst cost) s 24]

theorem first_does (l : List Int) (s : Int) : DoesF Try.prog 79 [lV l, iV s] [] (sI (firstS l s)) [] := by
  refine DoesF.body _ Try.func79 rfl rfl rfl rfl ?_
  refine KW.len 0 rfl rfl fun hla => ?_
  refine KW.goLp lay_ok T24_ok 100 rfl (I := fun q : Nat => ⟨Try.f79.ntmps, [(1, sI s), (7, .e (lV l)), (8, sI l.length), (9, sI q)], []⟩) (R := fun q => q ≤ l.length ∧ firstS (l.drop q) s = firstS l s) (m := fun q => l.length - q) 0 rfl ⟨rfl, rfl, rfl, rfl, trivial⟩ (by simp) ⟨by simp, by simp⟩ trivial ?_
  rintro q ⟨h1, h2⟩
  refine KW.goIf lay_ok T24_ok 100 rfl (by simp) rfl trivial (fun h => ?_) fun h => ?_
  · have hq : q < l.length := by simpa using h
    have hg : l.getD (Int.toNat (q : Int)) 0 = l[q] := by simp [List.getD_eq_getElem?_getD, hq]
    rw [List.drop_eq_getElem_cons hq, firstS] at h2
    refine KW.goIf lay_ok T24_ok 100 rfl (by simp; omega) rfl trivial (fun h => ?_) fun h => ?_
    · simp only [hg] at h
      have h' : iand .i64 l[q] s = 0 := by simpa using h
      rw [if_pos h'] at h2
      refine KW.goOutR lay_ok T24_ok 100 rfl (by simp) ?_
      refine KW.goRet lay_ok T24_ok 100 rfl rfl ?_ (by simp) trivial
      exact congrArg (fun n => sI n) (hg.trans h2)
    · simp only [hg] at h
      have h' : ¬ iand .i64 l[q] s = 0 := by simpa using h
      rw [if_neg h'] at h2
      exact KW.goTo lay_ok T24_ok 100 rfl (q + 1) rfl ⟨rfl, rfl, rfl, rfl, trivial⟩ (by simp [inK]; omega) ⟨⟨by omega, h2⟩, by omega⟩ trivial
  · have hq : q = l.length := by simp at h; omega
    refine KW.goOut lay_ok T24_ok 100 rfl (by simp) ?_
    refine KW.goRet lay_ok T24_ok 100 rfl rfl ?_ (by simp) trivial
    rw [hq, List.drop_length, firstS] at h2
    rw [← h2]; rfl

def T25 : Fns := (60, fIL (fun s cost => sI (sumS (cst cost) s)) fun s cost => CostOk cost ∧ InL s cost.length) ::
  (79, fLI (fun l s => sI (firstS l s)) fun _ _ => True) ::
  T24
theorem T25_ok : FnsOk Try.prog T25 := .cons (.cons (T24_ok) Try.func79 rfl rfl (fLI_ok fun l s _ => first_does l s)) Try.func60 rfl rfl (fIL_ok fun s cost h => sum_does s cost h.1 h.2)


theorem rbetter_does (a b : Int) (cost : List Int) (hc : CostOk cost) (ha : InL a cost.length) (hb : InL b cost.length) : DoesF Try.prog 78 [iV a, iV b, lV cost] [] (sB (betterS (cst cost) a b)) [] := by
  refine DoesF.body _ Try.func78 rfl rfl rfl rfl ?_
  refine KW.goIf lay_ok T25_ok 100 rfl (by simp [hc, ha, hb]) rfl trivial (fun h => ?_) fun h => ?_
  · have h' : sumS (cst cost) a ≠ sumS (cst cost) b := by simpa using h
    refine KW.goRet lay_ok T25_ok 100 rfl rfl ?_ (by simp) trivial
    unfold betterS; rw [if_pos h']; simp [SV.ren, EV.ren]
  · have h' : ¬ sumS (cst cost) a ≠ sumS (cst cost) b := by simpa using h
    refine KW.goRet lay_ok T25_ok 100 rfl rfl ?_ (by simp) trivial
    unfold betterS; rw [if_neg h']; simp [SV.ren, EV.ren]

def T26 : Fns := (78, fIIL (fun a b cost => sB (betterS (cst cost) a b)) fun a b cost => CostOk cost ∧ InL a cost.length ∧ InL b cost.length) ::
  T25
theorem T26_ok : FnsOk Try.prog T26 := .cons (T25_ok) Try.func78 rfl rfl (fIIL_ok fun a b cost h => rbetter_does a b cost h.1 h.2.1 h.2.2)


theorem InL.ior {a b : Int} {n : Nat} (ha : InL a n) (hb : InL b n) : InL (ior .i64 a b) n := fun i hi h => by
  rw [bit_ior, Bool.or_eq_true] at h
  exact h.elim (ha i hi) (hb i hi)
theorem InL.one {x : Int} {n i : Nat} (hx : InL x n) (hi : i < 24) (hb : bit x i = true) : InL (Pu.one i) n := fun j hj h => by
  rw [one_bit hi] at h
  simp at h; subst h; exact hx i hi hb
def SPre (M cost : List Int) : Prop := Val M ∧ M.length ≤ 1024 ∧ CostOk cost ∧ ∀ t ∈ M, InL t cost.length
theorem search_pres {M cost : List Int} (h : SPre M cost) (n : Nat) {s best : Int} (hs : InL s cost.length) (hb : 0 ≤ best → InL best cost.length) (h0 : 0 ≤ searchF (cst cost) M n s best) : InL (searchF (cst cost) M n s best) cost.length :=
  searchF_pres (P := fun s => InL s cost.length) h.1 (fun s hs x hx _ i hi hb => hs.ior ((h.2.2.2 x hx).one hi hb)) n s best hs hb h0
theorem rsearch_does {M cost : List Int} (hp : SPre M cost) : ∀ (n : Nat) (s best : Int), validS s = true → InL s cost.length → (0 ≤ best → InL best cost.length) → 25 ≤ n + sumS (fun _ => 1) s →
    DoesF Try.prog 57 [lV M, iV s, iV best, lV cost] [] (sI (searchF (cst cost) M n s best)) [] := by
  intro n
  induction n with
  | zero => intro s best hs _ _ hn; have := cnt_le s; omega
  | succ n ih =>
    intro s best hs hsl hbl hn
    obtain ⟨hM, hMl, hc, hMi⟩ := hp
    have T_ok : FnsOk Try.prog ((57, fLIIL (fun M' s' b' c' => sI (searchF (cst c') M' n s' b')) fun M' s' b' c' => M' = M ∧ c' = cost ∧ validS s' = true ∧ InL s' cost.length ∧ (0 ≤ b' → InL b' cost.length) ∧ 25 ≤ n + sumS (fun _ => 1) s') :: T26) :=
      .cons T26_ok Try.func57 rfl rfl (fLIIL_ok fun M' s' b' c' h => by
        obtain ⟨rfl, rfl, h3, h4, h5, h6⟩ := h
        exact ih s' b' h3 h4 h5 h6)
    refine DoesF.body _ Try.func57 rfl rfl rfl rfl ?_
    rw [searchF]
    refine KW.goIf lay_ok T_ok 100 rfl ?_ rfl trivial (fun h => ?_) fun h => ?_
    · simp [hc, hsl]
      intro h; have h' : 0 ≤ best := by simpa using h
      exact ⟨h', hbl h'⟩
    · refine KW.goRet lay_ok T_ok 100 rfl rfl ?_ (by simp) trivial
      rw [if_pos (by simpa using h)]; rfl
    · have h' : ¬ (decide (0 ≤ best) && !betterS (cst cost) s best) = true := by simpa using h
      rw [if_neg h']
      refine KW.goIf lay_ok T_ok 100 rfl (by simp) rfl trivial (fun h => ?_) fun h => ?_
      · have h2 : firstS M s < 0 := by simpa using h
        refine KW.goRet lay_ok T_ok 100 rfl rfl ?_ (by simp) trivial
        rw [if_pos h2]; rfl
      · have h2 : ¬ firstS M s < 0 := by simpa using h
        rw [if_neg h2]
        obtain ⟨hx1, hx2⟩ := (firstS_spec hM s).2 h2
        have hl24 : (elemsS (firstS M s)).length ≤ 24 := elemsN_length _ 24
        have hE : ∀ x ∈ elemsS (firstS M s), ∃ i : Nat, i < 24 ∧ bit (firstS M s) i = true ∧ x = i := fun x hx => mem_elemsS.1 hx
        have hin := hMi _ hx1
        generalize hX : firstS M s = X at *
        generalize hEE : elemsS X = E at *
        refine KW.goLp lay_ok T_ok 100 rfl (I := fun q : Int × Nat => ⟨Try.f57.ntmps, [(0, .e (lV M)), (1, sI s), (2, sI q.1), (3, .e (lV cost)), (29, .e (lV E)), (30, sI E.length), (31, sI q.2)], []⟩)
          (R := fun q => q.2 ≤ E.length ∧ (0 ≤ q.1 → InL q.1 cost.length) ∧ searchL (searchF (cst cost) M n) s (E.drop q.2) q.1 = searchL (searchF (cst cost) M n) s E best) (m := fun q => E.length - q.2) (best, 0) rfl ⟨rfl, rfl, rfl, rfl, ?_, ?_, rfl, trivial⟩ (by simp) ⟨by simp, hbl, by simp⟩ trivial ?_
        · simp only [unI_ints, hX, hEE]; rfl
        · simp only [unI_ints, hX, hEE]; rfl
        rintro ⟨b, q⟩ ⟨g1, g2, g3⟩
        simp only at g1 g2 g3
        refine KW.goIf lay_ok T_ok 100 rfl (by simp) rfl trivial (fun h => ?_) fun h => ?_
        · have hq : q < E.length := by simpa using h
          have hg : E.getD (Int.toNat (q : Int)) 0 = E[q] := by simp [List.getD_eq_getElem?_getD, hq]
          obtain ⟨i, hi, hbit, hix⟩ := hE _ (List.getElem_mem hq)
          have hge : E.getD (Int.toNat (q : Int)) 0 = (i : Int) := hg.trans hix
          have h1k := one_inK hi
          rw [List.drop_eq_getElem_cons hq, searchL, hix] at g3
          have hsi : InL (ior .i64 s (Pu.one i)) cost.length := hsl.ior (hin.one hi hbit)
          have hv : validS (ior .i64 s (Pu.one i)) = true := valid_ior hs (one_valid hi)
          have hcnt : 25 ≤ n + sumS (fun _ => 1) (ior .i64 s (Pu.one i)) := by
            rw [sumS_ior (open_bit hx2 hi hbit) hi]; omega
          refine KW.goTo lay_ok T_ok 100 rfl (searchF (cst cost) M n (ior .i64 s (ishl 1 i)) b, q + 1) rfl ⟨rfl, rfl, ?_, rfl, rfl, rfl, rfl, trivial⟩ ?_ ⟨⟨by simp only; omega, fun h0 => ?_, g3⟩, by simp only; omega⟩ trivial
          · rw [hge]; simp; rfl
          · simp only [hge, unI_ints, isI_ints, inK, bitsI, true_and, and_true]
            exact ⟨⟨⟨⟨⟨by omega, by omega⟩, by simp; omega⟩, by omega, by omega, by omega, by omega⟩, hv, hsi, g2, hcnt⟩, by omega, by omega⟩
          · exact search_pres ⟨hM, hMl, hc, hMi⟩ n hsi g2 h0
        · have hq : q = E.length := by simp at h; omega
          refine KW.goOut lay_ok T_ok 100 rfl (by simp) ?_
          refine KW.goRet lay_ok T_ok 100 rfl rfl ?_ (by simp) trivial
          rw [hq, List.drop_length, searchL] at g3
          rw [← g3]; rfl
end Go.Proofs.Ytinddojpbieejaa
