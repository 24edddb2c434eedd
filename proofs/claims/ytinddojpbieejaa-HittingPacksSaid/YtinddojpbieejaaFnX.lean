/-
  hitting.Least of the code and of the specification; the law HittingLeast returns true.
-/
import Derived.Test.YtinddojpbieejaaFnW
set_option linter.unusedVariables false
set_option linter.unusedSimpArgs false
namespace Go.Proofs.Ytinddojpbieejaa
open Go.Sy Go.Pu

def c1 : Nat → Int := cst (List.replicate 24 1)
def c0 : Nat → Int := cst (List.replicate 24 0)
theorem c1_eq {i : Nat} (hi : i < 24) : c1 i = 1 := by simp [c1, cst, List.getD_eq_getElem?_getD, hi, -List.reduceReplicate]
theorem c0_eq (i : Nat) : c0 i = 0 := by
  unfold c0 cst
  rw [List.getD_eq_getElem?_getD, List.getElem?_replicate]
  split <;> rfl
theorem s1_eq (s : Int) : sumS c1 s = sumS (fun _ => 1) s := sumN_congr s 24 fun i hi _ => c1_eq hi
theorem s0_eq (s : Int) : sumS c0 s = sumS (fun _ => 0) s := sumN_congr s 24 fun i _ _ => c0_eq i
theorem best10 {M : List Int} {s : Int} : Best c1 M s ↔ Best c0 M s := by
  have e1 : Best c1 M s ↔ Best (fun _ => 1) M s :=
    ⟨fun h => ⟨h.val, h.hit, fun t ht hh => by have := h.le t ht hh; unfold Le at *; rwa [s1_eq, s1_eq] at this⟩, fun h => ⟨h.val, h.hit, fun t ht hh => by have := h.le t ht hh; unfold Le at *; rwa [s1_eq, s1_eq]⟩⟩
  have e0 : Best c0 M s ↔ Best (fun _ => 0) M s :=
    ⟨fun h => ⟨h.val, h.hit, fun t ht hh => by have := h.le t ht hh; unfold Le at *; rwa [s0_eq, s0_eq] at this⟩, fun h => ⟨h.val, h.hit, fun t ht hh => by have := h.le t ht hh; unfold Le at *; rwa [s0_eq, s0_eq]⟩⟩
  rw [e1, e0, Best.ones]
theorem c1_nn : ∀ i, i < 24 → 0 ≤ c1 i := fun i hi => by rw [c1_eq hi]; decide
theorem c0_nn : ∀ i, i < 24 → 0 ≤ c0 i := fun i hi => by rw [c0_eq]; decide
theorem srch10 {M : List Int} (hM : Val M) : (0 ≤ srchS c1 M ↔ 0 ≤ srchS c0 M) ∧ (0 ≤ srchS c0 M → srchS c1 M = srchS c0 M) := by
  obtain ⟨a1, a2⟩ := srchS_spec c1_nn hM
  obtain ⟨b1, b2⟩ := srchS_spec c0_nn hM
  have h1 : 0 ≤ srchS c1 M ↔ 0 ≤ srchS c0 M := ⟨fun h => b2 _ (a1 h).val (a1 h).hit, fun h => a2 _ (b1 h).val (b1 h).hit⟩
  exact ⟨h1, fun h => (best10.1 (a1 (h1.2 h))).uniq (b1 h)⟩
theorem ones_ok : CostOk (List.replicate 24 1) := fun i hi => by
  rw [List.getD_eq_getElem?_getD, List.getElem?_replicate, if_pos hi]; decide
theorem zeros_ok : CostOk (List.replicate 24 0) := fun i hi => by
  rw [List.getD_eq_getElem?_getD, List.getElem?_replicate, if_pos hi]; decide

theorem hleast_does (l : List Int) : DoesF Try.prog 22 [lV l] [] (.tup [iV (bR c1 l), eV (bE c1 l)]) [] := by
  refine DoesF.body _ Try.func22 rfl rfl rfl rfl ?_
  refine KW.go lay_ok T32_ok 100 rfl (by simp) ?_
  refine KW.frz1 8 rfl rfl rfl ?_
  refine KW.callO0 repeat_does (enters Try.func44 rfl rfl) [] (.inl rfl) rfl rfl rfl rfl rfl trivial ⟨⟨_, _, rfl, trivial, .conv (CVEq.refl _)⟩, ⟨_, _, rfl, trivial, .conv (CVEq.refl _)⟩, trivial⟩ rfl (.inl rfl) ?_
  refine KW.frz1 9 rfl rfl rfl ?_
  refine KW.goRet lay_ok T32_ok 100 rfl rfl ?_ (by simp [ones_ok, -List.reduceReplicate]) trivial
  simp [SV.ren, renL, EV.ren, c1, -List.reduceReplicate]

theorem rleast_does (l : List Int) : DoesF Try.prog 31 [lV l] [] (.tup [iV (bR c1 l), iV (bE c1 l)]) [] := by
  refine DoesF.body _ Try.func31 rfl rfl rfl rfl ?_
  refine KW.goIf lay_ok T32_ok 100 rfl (by simp) rfl trivial (fun h => ?_) fun h => ?_
  · have h' : ¬ listE l = 0 := by simpa using h
    refine KW.goRet lay_ok T32_ok 100 rfl rfl ?_ (by simp) trivial
    simp [SV.ren, renL, EV.ren, bR, bE, h']
  · have h' : listE l = 0 := by simpa using h
    have hv : Val l := listE_valid h'
    have hll := listE_len h'
    have hml := minS_length l
    have hs10 := srch10 hv.minS
    have hsr : searchF (cst (List.replicate 24 0)) (leastS l) 25 0 (-1) = srchS c0 (minS l) := by rw [← minS_eq hv]; rfl
    have hS : SPre (leastS l) (List.replicate 24 0) := by
      rw [← minS_eq hv]
      exact ⟨hv.minS, by omega, zeros_ok, fun t _ i hi _ => by simpa using hi⟩
    have hcond : SPre (leastS l) (List.replicate 24 0) ∧ validS 0 = true ∧ InL 0 (List.replicate 24 (0 : Int)).length ∧ (0 ≤ (-1 : Int) → InL (-1) (List.replicate 24 (0 : Int)).length) ∧ 25 ≤ ((25 : Nat) : Int) + sumS (fun _ => 1) 0 := ⟨hS, valid0, inL0 _, fun h => absurd h (by decide), cnt0⟩
    refine KW.go lay_ok T32_ok 100 rfl (by simp) ?_
    refine KW.orders rfl ?_
    refine KA.step (rs := [0, 2]) (by decide +kernel) (by simp) fun i hi => ?_
    simp only [List.mem_cons, List.not_mem_nil, or_false] at hi
    rcases hi with rfl | rfl
    · refine ⟨_, rfl, KW.go lay_ok T32_ok 10 rfl (by simp; try omega) (KW.stop ⟨rfl, ?_⟩)⟩
      refine KA.step (rs := [1, 2]) (by decide +kernel) (by simp) fun i hi => ?_
      simp only [List.mem_cons, List.not_mem_nil, or_false] at hi
      rcases hi with rfl | rfl
      · refine ⟨_, rfl, KW.go lay_ok T32_ok 10 rfl (by simp; try omega) (KW.stop ⟨rfl, ?_⟩)⟩
        refine KA.step (rs := [2]) (by decide +kernel) (by simp) fun i hi => ?_
        obtain rfl : i = 2 := by simpa using hi
        refine ⟨_, rfl, KW.go lay_ok T32_ok 10 rfl (by simp) (KW.frz1 13 rfl rfl rfl (KW.stop ⟨rfl, ?_⟩))⟩
        refine KA.step (rs := [3]) (by decide +kernel) (by simp) fun i hi => ?_
        obtain rfl : i = 3 := by simpa using hi
        refine ⟨_, rfl, KW.go lay_ok T32_ok 10 rfl (by simp only [unI_ints, isI_ints, true_and, and_true]; exact hcond) (KW.stop ⟨rfl, ?_⟩)⟩
        refine KA.step (rs := [4]) (by decide +kernel) (by simp) fun i hi => ?_
        obtain rfl : i = 4 := by simpa using hi
        refine ⟨_, rfl, KW.go lay_ok T32_ok 10 rfl (by simp; try omega) (KW.stop ⟨rfl, ?_⟩)⟩
        refine KA.done (by decide +kernel) ?_
        refine KW.goIf lay_ok T32_ok 100 rfl (by simp) rfl trivial (fun h => ?_) fun h => ?_
        · have h6 : srchS c0 (minS l) < 0 := by rw [← hsr]; simpa using h
          have h5 : ¬ 0 ≤ srchS c1 (minS l) := by rw [hs10.1]; omega
          refine KW.goRet lay_ok T32_ok 100 rfl rfl ?_ (by simp) trivial
          simp [SV.ren, renL, EV.ren, bR, bE, h', h5]
        · have h6 : 0 ≤ srchS c0 (minS l) := by rw [← hsr]; simpa using h
          have h5 := hs10.1.2 h6
          refine KW.goRet lay_ok T32_ok 100 rfl rfl ?_ (by simp) trivial
          have e : searchF (cst (unI (ints (List.replicate 24 0)))) (leastS l) 25 0 (-1) = srchS c1 (minS l) := by rw [unI_ints, hsr, hs10.2 h6]
          simp only [unI_ints] at e
          simp [SV.ren, renL, EV.ren, bR, bE, h', h5, e, -List.reduceReplicate]
      · refine ⟨_, rfl, KW.go lay_ok T32_ok 10 rfl (by simp) (KW.frz1 13 rfl rfl rfl (KW.stop ⟨rfl, ?_⟩))⟩
        refine KA.step (rs := [1]) (by decide +kernel) (by simp) fun i hi => ?_
        obtain rfl : i = 1 := by simpa using hi
        refine ⟨_, rfl, KW.go lay_ok T32_ok 10 rfl (by simp; try omega) (KW.stop ⟨rfl, ?_⟩)⟩
        refine KA.step (rs := [3]) (by decide +kernel) (by simp) fun i hi => ?_
        obtain rfl : i = 3 := by simpa using hi
        refine ⟨_, rfl, KW.go lay_ok T32_ok 10 rfl (by simp only [unI_ints, isI_ints, true_and, and_true]; exact hcond) (KW.stop ⟨rfl, ?_⟩)⟩
        refine KA.step (rs := [4]) (by decide +kernel) (by simp) fun i hi => ?_
        obtain rfl : i = 4 := by simpa using hi
        refine ⟨_, rfl, KW.go lay_ok T32_ok 10 rfl (by simp; try omega) (KW.stop ⟨rfl, ?_⟩)⟩
        refine KA.done (by decide +kernel) ?_
        refine KW.goIf lay_ok T32_ok 100 rfl (by simp) rfl trivial (fun h => ?_) fun h => ?_
        · have h6 : srchS c0 (minS l) < 0 := by rw [← hsr]; simpa using h
          have h5 : ¬ 0 ≤ srchS c1 (minS l) := by rw [hs10.1]; omega
          refine KW.goRet lay_ok T32_ok 100 rfl rfl ?_ (by simp) trivial
          simp [SV.ren, renL, EV.ren, bR, bE, h', h5]
        · have h6 : 0 ≤ srchS c0 (minS l) := by rw [← hsr]; simpa using h
          have h5 := hs10.1.2 h6
          refine KW.goRet lay_ok T32_ok 100 rfl rfl ?_ (by simp) trivial
          have e : searchF (cst (unI (ints (List.replicate 24 0)))) (leastS l) 25 0 (-1) = srchS c1 (minS l) := by rw [unI_ints, hsr, hs10.2 h6]
          simp only [unI_ints] at e
          simp [SV.ren, renL, EV.ren, bR, bE, h', h5, e, -List.reduceReplicate]
    · refine ⟨_, rfl, KW.go lay_ok T32_ok 10 rfl (by simp) (KW.frz1 13 rfl rfl rfl (KW.stop ⟨rfl, ?_⟩))⟩
      refine KA.step (rs := [0]) (by decide +kernel) (by simp) fun i hi => ?_
      obtain rfl : i = 0 := by simpa using hi
      refine ⟨_, rfl, KW.go lay_ok T32_ok 10 rfl (by simp; try omega) (KW.stop ⟨rfl, ?_⟩)⟩
      refine KA.step (rs := [1]) (by decide +kernel) (by simp) fun i hi => ?_
      obtain rfl : i = 1 := by simpa using hi
      refine ⟨_, rfl, KW.go lay_ok T32_ok 10 rfl (by simp; try omega) (KW.stop ⟨rfl, ?_⟩)⟩
      refine KA.step (rs := [3]) (by decide +kernel) (by simp) fun i hi => ?_
      obtain rfl : i = 3 := by simpa using hi
      refine ⟨_, rfl, KW.go lay_ok T32_ok 10 rfl (by simp only [unI_ints, isI_ints, true_and, and_true]; exact hcond) (KW.stop ⟨rfl, ?_⟩)⟩
      refine KA.step (rs := [4]) (by decide +kernel) (by simp) fun i hi => ?_
      obtain rfl : i = 4 := by simpa using hi
      refine ⟨_, rfl, KW.go lay_ok T32_ok 10 rfl (by simp; try omega) (KW.stop ⟨rfl, ?_⟩)⟩
      refine KA.done (by decide +kernel) ?_
      refine KW.goIf lay_ok T32_ok 100 rfl (by simp) rfl trivial (fun h => ?_) fun h => ?_
      · have h6 : srchS c0 (minS l) < 0 := by rw [← hsr]; simpa using h
        have h5 : ¬ 0 ≤ srchS c1 (minS l) := by rw [hs10.1]; omega
        refine KW.goRet lay_ok T32_ok 100 rfl rfl ?_ (by simp) trivial
        simp [SV.ren, renL, EV.ren, bR, bE, h', h5]
      · have h6 : 0 ≤ srchS c0 (minS l) := by rw [← hsr]; simpa using h
        have h5 := hs10.1.2 h6
        refine KW.goRet lay_ok T32_ok 100 rfl rfl ?_ (by simp) trivial
        have e : searchF (cst (unI (ints (List.replicate 24 0)))) (leastS l) 25 0 (-1) = srchS c1 (minS l) := by rw [unI_ints, hsr, hs10.2 h6]
        simp only [unI_ints] at e
        simp [SV.ren, renL, EV.ren, bR, bE, h', h5, e, -List.reduceReplicate]

def T33 : Fns := (22, fL (fun l => .tup [iV (bR c1 l), eV (bE c1 l)]) fun _ => True) ::
  (31, fL (fun l => .tup [iV (bR c1 l), iV (bE c1 l)]) fun _ => True) ::
  T32
theorem T33_ok : FnsOk Try.prog T33 := .cons (.cons (T32_ok) Try.func31 rfl rfl (fL_ok fun l _ => rleast_does l)) Try.func22 rfl rfl (fL_ok fun l _ => hleast_does l)


theorem lawHitLeast_does (l cost : List Int) (s : Int) : DoesF Try.prog 8 [lV l, lV cost, iV s] [] (sB true) [] := by
  refine DoesF.body _ Try.func8 rfl rfl rfl rfl ?_
  refine KW.len 0 rfl rfl fun hl0 => ?_
  refine KW.len 1 rfl rfl fun hl1 => ?_
  refine KW.goIf lay_ok T33_ok 200 rfl (by simp +contextual <;> (intros; omega)) rfl trivial (fun h => ?_) fun h => ?_
  · exact KW.goRet lay_ok T33_ok 200 rfl rfl rfl (by simp) trivial
  · have hc : cost.length ≤ 40 := by simp at h; omega
    refine KW.goRet lay_ok T33_ok 300 rfl rfl ?_ (by simp; omega) trivial
    simp [SV.ren, EV.ren, meetE]
end Go.Proofs.Ytinddojpbieejaa
