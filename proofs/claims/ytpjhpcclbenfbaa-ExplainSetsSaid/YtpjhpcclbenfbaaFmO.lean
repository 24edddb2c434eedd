/-
  FmO, FmP, FmQ, one text.
-/
import Derived.Test.YtpjhpcclbenfbaaFmK
set_option linter.unusedVariables false
set_option linter.unusedSimpArgs false
/-
  One and all minimal reasons: the code and the specification.
-/
namespace Go.Sy
theorem own_cub0 (E : Nat) {b c : List (Int × Int)} (h : b = c) : some (Res.own E (Go.Pu.cubes b)) = some (Res.own E (Go.Pu.cubes c)) := by rw [h]
end Go.Sy
namespace Go.Proofs.Ytpjhpcclbenfbaa
open Go.Sy Go.Pu

def F15 : Fns := (55, fFI (fun f s => .tup [blV (if tableE f s = 0 then agreeL f f.vars.toNat s else []), eV (tableE f s)]) fun f s => FormIn f) ::
  (59, fFI (fun f s => sI (tableE f s)) fun f s => FormIn f) ::
  (62, fCs (fun l => .e (clV (sortR l))) fun l => (∀ c ∈ l, CubeOk c) ∧ l.length ≤ 1048576) ::
  F14
theorem F15_ok : FnsOk Try.prog F15 := .cons (.cons (.cons (F14_ok) Try.func62 rfl rfl (fCs_ok fun l h => sort12_does l h.1 h.2)) Try.func59 rfl rfl (fFI_ok fun f s h => errorOf_does f s h)) Try.func55 rfl rfl (fFI_ok fun f s h => agree_does f s h)


/-- what the two functions return -/
def reasonF (f : FormP) (s : Int) : Int × Int := if tableE f s = 0 then cubeV s (reasonN (okV f f.vars.toNat s) f.vars.toNat f.vars.toNat) else (0, 0)
def allF (f : FormP) (s : Int) : List (Int × Int) := if tableE f s = 0 then sortC (reasonsN (okV f f.vars.toNat s) f.vars.toNat s (2 ^ f.vars.toNat)) else []

theorem reason_does (f : FormP) (s : Int) (hin : FormIn f) : DoesF Try.prog 17 [.ag (formC f), iV s] [] (.tup [.ag (cubeL (reasonF f s)), eV (tableE f s)]) [] := by
  refine DoesF.bodyC lay_ok _ Try.func17 rfl rfl rfl rfl ?_
  obtain ⟨vars, ns, top⟩ := f
  refine KW.goIf lay_ok F15_ok 100 rfl (by simp only [unN_nodesC, isN_nodesC, true_and, and_true, ifcV_errV]; exact hin) rfl trivial (fun h => ?_) fun h => ?_
  · simp only [unN_nodesC] at h
    have h1 : ¬ tableE ⟨vars, ns, top⟩ s = 0 := by
      have e : (!isNilB (errV 66 (tableE ⟨vars, ns, top⟩ s))) = true := h
      simpa using e
    refine KW.goRetC lay_ok F15_ok 100 rfl rfl ?_ (by simp) trivial
    simp [SV.ren, renL, EV.ren, reasonF, h1, cubeL]
  · simp only [unN_nodesC] at h
    have h1 : tableE ⟨vars, ns, top⟩ s = 0 := by
      have e : (!isNilB (errV 66 (tableE ⟨vars, ns, top⟩ s))) = false := h
      simpa using e
    have hst := tableE_ok h1
    have ok : FormOk ⟨vars, ns, top⟩ := formE_ok (stateE_ok hst.1).1
    have hs := (stateE_ok hst.1).2
    have hv := ok.vars
    have hv12 := hst.2
    simp only at hv hs hv12
    obtain ⟨n, rfl⟩ := Int.eq_ofNat_of_zero_le hv.1
    have hn24 : n ≤ 24 := by omega
    have hsn : inN n s := (inN_iff hn24).2 ⟨hs.1, by rw [← ishl_one]; exact hs.2⟩
    have hR : reasonF ⟨n, ns, top⟩ s = cubeV s (reasonN (okV ⟨n, ns, top⟩ n s) n n) := by simp [reasonF, h1]
    have hil := agreeL_length ⟨n, ns, top⟩ n s
    have hget := fun (x : Nat) hx => agreeL_get ⟨n, ns, top⟩ (n := n) s (x := x) hx
    have hrin := fun k => (inN_iff hn24).1 (reasonN_in (ok := okV ⟨n, ns, top⟩ n s) hn24 k)
    have hcin := fun k => (inN_iff hn24).1 (inN_iandNot hn24 (y := Go.Pu.one k) (reasonN_in (ok := okV ⟨n, ns, top⟩ n s) hn24 k))
    have hish := ishl_one n
    have hp : 2 ^ n ≤ 2 ^ 12 := Nat.pow_le_pow_right (by decide) (by omega)
    have h12 : (2 : Nat) ^ 12 = 4096 := rfl
    have hall : (ishl 1 (n : Int)) - 1 = reasonN (okV ⟨n, ns, top⟩ n s) n 0 := by
      have := Nat.two_pow_pos n
      rw [hish, reasonN, allN]; omega
    rw [hR]
    have hone := fun (k : Nat) (hk : k < n) => validS_iff.1 (one_valid (show k < 24 by omega))
    refine KW.goLpR lay_ok F15_ok 100 rfl (I := fun q : Nat => ⟨Try.f17.ntmps, [(1, sI s), (4, .e (.r 4)), (6, .e (blV (agreeL ⟨n, ns, top⟩ n s))), (8, sI (reasonN (okV ⟨n, ns, top⟩ n s) n q)), (25, sI n), (26, sI q)],
        [(4, .box 28 [iV 0, iV 0] none)]⟩)
      (R := fun q => q ≤ n) (m := fun q => n - q) 0 [(4, 4)] rfl rfl ⟨rfl, rfl, ?_, ?_, rfl, rfl, trivial⟩ (by simp only [inK, bitsI, hish, true_and, and_true]; omega) (by omega) ⟨rfl, trivial⟩ ?_
    · simp only [unN_nodesC, h1, if_true, Int.toNat_natCast]; rfl
    · rw [← hall]; rfl
    rintro q hq0
    refine KW.goIf lay_ok F15_ok 100 rfl (by simp) rfl trivial (fun h => ?_) fun h => ?_
    · have hq : q < n := by simpa using h
      have ho : 0 ≤ ishl 1 (q : Int) ∧ ishl 1 (q : Int) ≤ 16777215 := hone q hq
      have hc := hcin q
      have hg : (agreeL ⟨n, ns, top⟩ n s).getD (iandNot .i64 (reasonN (okV ⟨n, ns, top⟩ n s) n q) (ishl 1 (q : Int))).toNat false = okV ⟨n, ns, top⟩ n s (iandNot .i64 (reasonN (okV ⟨n, ns, top⟩ n s) n q) (Go.Pu.one q)) := by
        show (agreeL ⟨n, ns, top⟩ n s).getD (iandNot .i64 (reasonN (okV ⟨n, ns, top⟩ n s) n q) (Go.Pu.one q)).toNat false = _
        rw [hget _ (by omega), Int.toNat_of_nonneg hc.1]
      have hsucc : reasonN (okV ⟨n, ns, top⟩ n s) n (q + 1) = if okV ⟨n, ns, top⟩ n s (iandNot .i64 (reasonN (okV ⟨n, ns, top⟩ n s) n q) (Go.Pu.one q)) = true then iandNot .i64 (reasonN (okV ⟨n, ns, top⟩ n s) n q) (Go.Pu.one q) else reasonN (okV ⟨n, ns, top⟩ n s) n q := rfl
      have hidx : 0 ≤ iandNot .i64 (reasonN (okV ⟨n, ns, top⟩ n s) n q) (ishl 1 (q : Int)) ∧ iandNot .i64 (reasonN (okV ⟨n, ns, top⟩ n s) n q) (ishl 1 (q : Int)) < ((agreeL ⟨n, ns, top⟩ n s).length : Int) := by rw [hil]; exact hc
      refine KW.goIf lay_ok F15_ok 100 rfl (by simp only [inK, bitsI, true_and, and_true]; omega) rfl trivial (fun h => ?_) fun h => ?_
      · rw [hg] at h
        rw [if_pos h] at hsucc
        refine KW.goToR lay_ok F15_ok 100 rfl (q + 1) [(4, 4)] rfl rfl ⟨rfl, rfl, rfl, by rw [hsucc]; rfl, rfl, rfl, trivial⟩ (by simp only [inK, bitsI, true_and, and_true]; omega) ⟨by omega, by omega⟩ ⟨rfl, trivial⟩
      · rw [hg] at h
        rw [if_neg (by rw [h]; decide)] at hsucc
        refine KW.goToR lay_ok F15_ok 100 rfl (q + 1) [(4, 4)] rfl rfl ⟨rfl, rfl, rfl, by rw [hsucc]; rfl, rfl, rfl, trivial⟩ (by simp [inK]; omega) ⟨by omega, by omega⟩ ⟨rfl, trivial⟩
    · have hq : q = n := by simp at h; omega
      subst hq
      refine KW.goOut lay_ok F15_ok 100 rfl (by simp) ?_
      exact KW.goRetC lay_ok F15_ok 100 rfl rfl (by simp [SV.ren, renL, EV.ren, cubeL, errV, h1, mapC, setsE, takeC]) (by simp) trivial

theorem rreason_does (f : FormP) (s : Int) (hin : FormIn f) : DoesF Try.prog 19 [.ag (formC f), iV s] [] (.tup [.ag (cubeL (reasonF f s)), iV (tableE f s)]) [] := by
  refine DoesF.bodyC lay_ok _ Try.func19 rfl rfl rfl rfl ?_
  obtain ⟨vars, ns, top⟩ := f
  refine KW.goIf lay_ok F15_ok 100 rfl (by simp only [unN_nodesC, isN_nodesC, true_and, and_true]; exact hin) rfl trivial (fun h => ?_) fun h => ?_
  · simp only [unN_nodesC] at h
    have h1 : ¬ tableE ⟨vars, ns, top⟩ s = 0 := by
      have e : (tableE ⟨vars, ns, top⟩ s != 0) = true := h
      simpa using e
    refine KW.goRetC lay_ok F15_ok 100 rfl rfl ?_ (by simp) trivial
    simp [SV.ren, renL, EV.ren, reasonF, h1, cubeL]
  · simp only [unN_nodesC] at h
    have h1 : tableE ⟨vars, ns, top⟩ s = 0 := by
      have e : (tableE ⟨vars, ns, top⟩ s != 0) = false := h
      simpa using e
    have hst := tableE_ok h1
    have h0 := (stateE_ok hst.1).1
    have ok : FormOk ⟨vars, ns, top⟩ := formE_ok h0
    have hs := (stateE_ok hst.1).2
    have hv := ok.vars
    have hv12 := hst.2
    simp only at hv hs hv12
    obtain ⟨n, rfl⟩ := Int.eq_ofNat_of_zero_le hv.1
    have hn24 : n ≤ 24 := by omega
    have hsn : inN n s := (inN_iff hn24).2 ⟨hs.1, by rw [← ishl_one]; exact hs.2⟩
    have hR : reasonF ⟨n, ns, top⟩ s = cubeV s (reasonN (okV ⟨n, ns, top⟩ n s) n n) := by simp [reasonF, h1]
    have hish := ishl_one n
    have hp : 2 ^ n ≤ 2 ^ 12 := Nat.pow_le_pow_right (by decide) (by omega)
    have h12 : (2 : Nat) ^ 12 = 4096 := rfl
    have hall : (ishl 1 (n : Int)) - 1 = reasonN (okV ⟨n, ns, top⟩ n s) n 0 := by
      have := Nat.two_pow_pos n
      rw [hish, reasonN, allN]; omega
    rw [hR]
    have hone := fun (k : Nat) (hk : k < n) => validS_iff.1 (one_valid (show k < 24 by omega))
    refine KW.goLpR lay_ok F15_ok 100 rfl (I := fun q : Nat => ⟨Try.f19.ntmps, [(1, sI s), (2, .e (.r 2)), (4, .e (.r 4)), (7, sI (reasonN (okV ⟨n, ns, top⟩ n s) n q)), (21, sI n), (22, sI q)],
        [(2, .box 24 [iV n, .c (nodesC ns), iV top] none), (4, .box 28 [iV 0, iV 0] none)]⟩)
      (R := fun q => q ≤ n) (m := fun q => n - q) 0 [(2, 2), (4, 4)] rfl rfl ⟨rfl, rfl, rfl, ?_, rfl, rfl, trivial⟩ (by simp only [inK, bitsI, hish, true_and, and_true]; omega) (by omega) ⟨rfl, rfl, trivial⟩ ?_
    · rw [← hall]; rfl
    rintro q hq0
    refine KW.goIf lay_ok F15_ok 100 rfl (by simp) rfl trivial (fun h => ?_) fun h => ?_
    · have hq : q < n := by simpa using h
      have ho : 0 ≤ ishl 1 (q : Int) ∧ ishl 1 (q : Int) ≤ 16777215 := hone q hq
      have hsucc : reasonN (okV ⟨n, ns, top⟩ n s) n (q + 1) = if okV ⟨n, ns, top⟩ n s (iandNot .i64 (reasonN (okV ⟨n, ns, top⟩ n s) n q) (Go.Pu.one q)) = true then iandNot .i64 (reasonN (okV ⟨n, ns, top⟩ n s) n q) (Go.Pu.one q) else reasonN (okV ⟨n, ns, top⟩ n s) n q := rfl
      have hsn' : inN (Int.toNat (n : Int)) s := hsn
      refine KW.goD lay_ok F15_ok rfl 100 rfl (by decide) rfl (by simp) (by simp only [unN_nodesC, isN_nodesC, inK, bitsI, true_and, and_true, hin, h0, hsn']; omega) ?_
      refine KW.goIf lay_ok F15_ok 100 rfl (by simp) rfl trivial (fun h => ?_) fun h => ?_
      · simp only [unN_nodesC, Int.toNat_natCast] at h
        replace h : okV ⟨n, ns, top⟩ n s (iandNot .i64 (reasonN (okV ⟨n, ns, top⟩ n s) n q) (Go.Pu.one q)) = true := h
        rw [if_pos h] at hsucc
        refine KW.goToR lay_ok F15_ok 100 rfl (q + 1) [(2, 2), (4, 4)] rfl rfl ⟨rfl, rfl, rfl, by rw [hsucc]; rfl, rfl, rfl, trivial⟩ (by simp only [inK, bitsI, true_and, and_true]; omega) ⟨by omega, by omega⟩ ⟨rfl, rfl, trivial⟩
      · simp only [unN_nodesC, Int.toNat_natCast] at h
        replace h : okV ⟨n, ns, top⟩ n s (iandNot .i64 (reasonN (okV ⟨n, ns, top⟩ n s) n q) (Go.Pu.one q)) = false := h
        rw [if_neg (by rw [h]; decide)] at hsucc
        refine KW.goToR lay_ok F15_ok 100 rfl (q + 1) [(2, 2), (4, 4)] rfl rfl ⟨rfl, rfl, rfl, by rw [hsucc]; rfl, rfl, rfl, trivial⟩ (by simp [inK]; omega) ⟨by omega, by omega⟩ ⟨rfl, rfl, trivial⟩
    · have hq : q = n := by simp at h; omega
      subst hq
      refine KW.goOut lay_ok F15_ok 100 rfl (by simp) ?_
      exact KW.goRetC lay_ok F15_ok 100 rfl rfl (by simp [SV.ren, renL, EV.ren, cubeL, errV, h1, mapC, setsE, takeC]) (by simp) trivial
end Go.Proofs.Ytpjhpcclbenfbaa

/-
  All minimal reasons: the code and the specification.
-/
namespace Go.Proofs.Ytpjhpcclbenfbaa
open Go.Sy Go.Pu

theorem bit_zeroB (x : Int) {i : Nat} (hi : i < 64) : (iand .i64 (ishr x i) 1 == 0) = !bit x i := by
  rw [ishr_bit x hi]; cases bit x i <;> rfl
theorem cube_in {n : Nat} (hn : n ≤ 24) {s : Int} (hs : inN n s) {ok : Int → Bool} {m : Nat} (hm : m ≤ 2 ^ n) : ∀ c ∈ reasonsN ok n s m, validS c.1 = true ∧ validS c.2 = true ∧ CubeOk c := by
  intro c hc
  unfold reasonsN at hc
  obtain ⟨x, hx, rfl⟩ := List.mem_map.1 hc
  have hx' : x < m := by simpa using (List.mem_filter.1 hx).1
  have := cubeV_ok hn hs ((inN_iff hn).2 ⟨by omega, by omega⟩ : inN n (x : Int))
  exact ⟨this.yes, this.no, this⟩

theorem all56_does (f : FormP) (s : Int) (hin : FormIn f) : DoesF Try.prog 18 [.ag (formC f), iV s] [] (.tup [clV (allF f s), eV (tableE f s)]) [] := by
  refine DoesF.body _ Try.func18 rfl rfl rfl rfl ?_
  obtain ⟨vars, ns, top⟩ := f
  refine KW.goIf lay_ok F15_ok 100 rfl (by simp only [unN_nodesC, isN_nodesC, true_and, and_true, ifcV_errV]; exact hin) rfl trivial (fun h => ?_) fun h => ?_
  · simp only [unN_nodesC] at h
    have h1 : ¬ tableE ⟨vars, ns, top⟩ s = 0 := by
      have e : (!isNilB (errV 66 (tableE ⟨vars, ns, top⟩ s))) = true := h
      simpa using e
    refine KW.go lay_ok F15_ok 100 rfl (by simp) ?_
    refine KW.conv 4 (cubes []) rfl ⟨rfl, rfl⟩ ?_
    refine KW.fin [] rfl rfl ?_ trivial
    simp [SV.ren, renL, EV.ren, allF, h1]
  · simp only [unN_nodesC] at h
    have h1 : tableE ⟨vars, ns, top⟩ s = 0 := by
      have e : (!isNilB (errV 66 (tableE ⟨vars, ns, top⟩ s))) = false := h
      simpa using e
    have hst := tableE_ok h1
    have h0 := (stateE_ok hst.1).1
    have ok : FormOk ⟨vars, ns, top⟩ := formE_ok h0
    have hs := (stateE_ok hst.1).2
    have hv := ok.vars
    have hv12 := hst.2
    simp only at hv hs hv12
    obtain ⟨n, rfl⟩ := Int.eq_ofNat_of_zero_le hv.1
    have hn24 : n ≤ 24 := by omega
    have hsn : inN n s := (inN_iff hn24).2 ⟨hs.1, by rw [← ishl_one]; exact hs.2⟩
    have hR : allF ⟨n, ns, top⟩ s = sortC (reasonsN (okV ⟨n, ns, top⟩ n s) n s (2 ^ n)) := by simp [allF, h1]
    have hil := agreeL_length ⟨n, ns, top⟩ n s
    have hget := fun (x : Nat) hx => agreeL_get ⟨n, ns, top⟩ (n := n) s (x := x) hx
    have hish := ishl_one n
    have hp : 2 ^ n ≤ 2 ^ 12 := Nat.pow_le_pow_right (by decide) (by omega)
    have h12 : (2 : Nat) ^ 12 = 4096 := rfl
    have hinx : ∀ x : Nat, x < 2 ^ n → inN n (x : Int) := fun x hx => (inN_iff hn24).2 ⟨by omega, by omega⟩
    have hone := fun (k : Nat) (hk : k < n) => validS_iff.1 (one_valid (show k < 24 by omega))
    have hmem := fun (m : Nat) hm => cube_in (ok := okV ⟨n, ns, top⟩ n s) hn24 hsn (m := m) hm
    have hnd := reasonsN_nodup (ok := okV ⟨n, ns, top⟩ n s) hn24 hsn (m := 2 ^ n) (Nat.le_refl _)
    have hidx : ∀ (x k : Nat), x < 2 ^ n → 0 ≤ iandNot .i64 (x : Int) (Go.Pu.one k) ∧ iandNot .i64 (x : Int) (Go.Pu.one k) < ((2 ^ n : Nat) : Int) := fun x k hx => (inN_iff hn24).1 (inN_iandNot hn24 (hinx x hx))
    rw [hR]
    generalize hOK : okV ⟨n, ns, top⟩ n s = OK at hget hmem hnd
    generalize hL : agreeL ⟨n, ns, top⟩ n s = L at hil hget
    have hmlen := fun m => reasonsN_length OK n s m
    generalize hN : 2 ^ n = N at hil hget hish hp hinx hmem hnd hidx
    refine KW.go lay_ok F15_ok 100 rfl (by simp) ?_
    refine KW.nilO 8 8 28 (cubes []) rfl rfl rfl ?_
    refine KW.lp (I := fun q : Nat => ⟨Try.f18.ntmps, [(1, sI s), (2, .e (.r 2)), (6, .e (blV L)), (8, .e (.r 8)), (21, .e (blV L)), (22, sI N), (23, sI q)],
        [(2, .box 24 [iV n, .c (nodesC ns), iV top] none), (8, .own 28 (cubes (reasonsN OK n s q)))]⟩)
      (R := fun q => q ≤ N) (m := fun q => N - q) 0 (by omega) [(2, 2), (8, 8)] ⟨rfl, rfl, ⟨rfl, rfl, ?_, rfl, ?_, ?_, rfl, trivial⟩, ⟨rfl, rfl, trivial⟩⟩ ?_
    · simp only [unN_nodesC, h1, if_true, Int.toNat_natCast, hL]; rfl
    · simp only [unN_nodesC, h1, if_true, Int.toNat_natCast, hL]; rfl
    · simp only [unN_nodesC, h1, if_true, Int.toNat_natCast, hL, hil]; rfl
    rintro q hq0
    have hml := hmlen q
    refine KW.goIf lay_ok F15_ok 100 rfl (by simp) rfl trivial (fun h => ?_) fun h => ?_
    · have hq : q < N := by simp at h; omega
      have hLq : L.getD (Int.toNat (q : Int)) false = OK q := hget q hq
      refine KW.goLpR lay_ok F15_ok 100 rfl (I := fun k : Nat => ⟨Try.f18.ntmps, [(1, sI s), (2, .e (.r 2)), (6, .e (blV L)), (8, .e (.r 8)), (9, sI q), (10, sB (minK OK q k)), (21, .e (blV L)), (22, sI N), (23, sI q), (29, sI n), (30, sI k)],
          [(2, .box 24 [iV n, .c (nodesC ns), iV top] none), (8, .own 28 (cubes (reasonsN OK n s q)))]⟩)
        (R := fun k => k ≤ n) (m := fun k => n - k) 0 [(2, 2), (8, 8)] rfl rfl ⟨rfl, rfl, rfl, rfl, rfl, ?_, rfl, rfl, rfl, rfl, rfl, trivial⟩ (by simp [hil]; omega) (by omega) ⟨rfl, rfl, trivial⟩ ?_
      · show some (sB (L.getD (Int.toNat (q : Int)) false)) = some (sB (minK OK q 0))
        rw [hLq]; simp [minK]
      rintro k hk0
      refine KW.goIf lay_ok F15_ok 100 rfl (by simp) rfl trivial (fun h => ?_) fun h => ?_
      · have hk : k < n := by simpa using h
        have ho : 0 ≤ ishl 1 (k : Int) ∧ ishl 1 (k : Int) ≤ 16777215 := hone k hk
        have hi : 0 ≤ iandNot .i64 (q : Int) (ishl 1 (k : Int)) ∧ iandNot .i64 (q : Int) (ishl 1 (k : Int)) < ((N : Nat) : Int) := hidx q k hq
        have hLk : L.getD (iandNot .i64 (q : Int) (ishl 1 (k : Int))).toNat false = OK (iandNot .i64 (q : Int) (Go.Pu.one k)) := by
          rw [hget _ (by omega), Int.toNat_of_nonneg hi.1]; rfl
        refine KW.goToR lay_ok F15_ok 100 rfl (k + 1) [(2, 2), (8, 8)] rfl rfl ⟨rfl, rfl, rfl, rfl, rfl, ?_, rfl, rfl, rfl, rfl, rfl, trivial⟩ (by simp only [inK, bitsI, hil]; simp +contextual [ho, hi]; omega) ⟨by omega, by omega⟩ ⟨rfl, rfl, trivial⟩
        rw [minK_succ, ← bit_zeroB (q : Int) (show k < 64 by omega), ← hLk]
        rfl
      · have hk : k = n := by simp at h; omega
        subst hk
        refine KW.goOut lay_ok F15_ok 100 rfl (by simp) ?_
        have hsucc := reasonsN_succ OK k s q
        refine KW.goIf lay_ok F15_ok 100 rfl (by simp) rfl trivial (fun h => ?_) fun h => ?_
        · rw [if_pos h] at hsucc
          refine KW.go lay_ok F15_ok 100 rfl (by simp [inK, cubes, rows]; omega) (KW.catG (enc := cubeC) (d := (0, 0)) 58 (cubeV s q) rfl (fun q' hq' => ?_) (KW.to (q + 1) ⟨by omega, by omega⟩ [(2, 2), (8, 58)] ⟨rfl, rfl, ⟨rfl, rfl, rfl, rfl, rfl, rfl, rfl, trivial⟩, ⟨rfl, own_cub0 _ hsucc.symm, trivial⟩⟩))
          rcases (by omega : q' = 0 ∨ q' = 1) with rfl | rfl
          · exact CVEq.refl (.lit _)
          · exact CVEq.refl (.lit _)
        · rw [if_neg (by rw [h]; decide), List.append_nil] at hsucc
          exact KW.goToR lay_ok F15_ok 100 rfl (q + 1) [(2, 2), (8, 8)] rfl rfl ⟨rfl, rfl, rfl, rfl, rfl, rfl, rfl, trivial⟩ (by simp [inK]; omega) ⟨by omega, by omega⟩ ⟨rfl, own_cub0 _ hsucc.symm, trivial⟩
    · have hq : q = N := by simp at h; omega
      replace hq := hq.symm
      subst hq
      have hord : ∀ x y : Int × Int, (validS x.1 = true ∧ validS x.2 = true) → (validS y.1 = true ∧ validS y.2 = true) → DoesF Try.prog 58 [.ag (List.map CV.lit [.int .i64 x.1, .int .i64 x.2]), .ag (List.map CV.lit [.int .i64 y.1, .int .i64 y.2])] [] (sI (ordC x y)) [] := fun x y hx hy => order_does x y hx hy
      refine KW.goOut lay_ok F15_ok 100 rfl (by simp) ?_
      refine KW.go lay_ok F15_ok 100 rfl (by simp) ?_
      refine KW.callK0 (sortFuncK_does (α := Int × Int) (enc := fun c => [.int .i64 c.1, .int .i64 c.2]) (k := 2) (cenc := cubeC) (d0 := (0, 0)) (ks := fun _ => 0) (caps := fun _ _ => .lit undef) (fun _ => rfl) (fun x v hv => by simp at hv; rcases hv with rfl | rfl <;> rfl) (fun x q hq => by
          rcases (by omega : q = 0 ∨ q = 1) with rfl | rfl <;> rfl) laySortC rfl (by intro w; exact Try.isAgg28 w) (by intro w; exact Try.sizeOf28 w)
          (V := fun c => validS c.1 = true ∧ validS c.2 = true) ordC_swo (fun x y _ _ h => ((ordC_zero x y).1 h).2) ordC_total (enters Try.func58 rfl rfl) hord 28 (reasonsN OK n s N) (fun c hc => ⟨(hmem N (by omega) c hc).1, (hmem N (by omega) c hc).2.1⟩) (by omega))
        (enters Try.func57 rfl rfl) [(0, 8)] [(0, 8)] [] (.inl rfl) rfl rfl rfl rfl rfl trivial
        ⟨⟨_, _, rfl, trivial, (show Mt _ _ _ (EV.ren [(0, 8)] (.r 0)) (.r 0) from .same)⟩, ⟨_, _, rfl, trivial, .conv (CVEq.refl _)⟩, trivial⟩ rfl ⟨rfl, trivial⟩ rfl ⟨.inr ⟨rfl, .inl rfl⟩, trivial⟩ rfl rfl (.inl rfl) ?_
      refine KW.go lay_ok F15_ok 100 rfl (by simp) ?_
      refine KW.frz 8 [4] rfl rfl rfl ?_
      refine KW.fin [] rfl rfl ?_ trivial
      simp only [SV.ren, renL, EV.ren, h1]
      rfl
end Go.Proofs.Ytpjhpcclbenfbaa

/-
  All minimal reasons: the specification.
-/
namespace Go.Proofs.Ytpjhpcclbenfbaa
open Go.Sy Go.Pu

theorem rall56_does (f : FormP) (s : Int) (hin : FormIn f) : DoesF Try.prog 20 [.ag (formC f), iV s] [] (.tup [clV (allF f s), iV (tableE f s)]) [] := by
  refine DoesF.body _ Try.func20 rfl rfl rfl rfl ?_
  obtain ⟨vars, ns, top⟩ := f
  refine KW.goIf lay_ok F15_ok 100 rfl (by simp only [unN_nodesC, isN_nodesC, true_and, and_true]; exact hin) rfl trivial (fun h => ?_) fun h => ?_
  · simp only [unN_nodesC] at h
    have h1 : ¬ tableE ⟨vars, ns, top⟩ s = 0 := by
      have e : (tableE ⟨vars, ns, top⟩ s != 0) = true := h
      simpa using e
    refine KW.go lay_ok F15_ok 100 rfl (by simp) ?_
    refine KW.conv 4 (cubes []) rfl ⟨rfl, rfl⟩ ?_
    refine KW.fin [] rfl rfl ?_ trivial
    simp [SV.ren, renL, EV.ren, allF, h1]
  · simp only [unN_nodesC] at h
    have h1 : tableE ⟨vars, ns, top⟩ s = 0 := by
      have e : (tableE ⟨vars, ns, top⟩ s != 0) = false := h
      simpa using e
    have hst := tableE_ok h1
    have h0 := (stateE_ok hst.1).1
    have ok : FormOk ⟨vars, ns, top⟩ := formE_ok h0
    have hs := (stateE_ok hst.1).2
    have hv := ok.vars
    have hv12 := hst.2
    simp only at hv hs hv12
    obtain ⟨n, rfl⟩ := Int.eq_ofNat_of_zero_le hv.1
    have hn24 : n ≤ 24 := by omega
    have hsn : inN n s := (inN_iff hn24).2 ⟨hs.1, by rw [← ishl_one]; exact hs.2⟩
    have hsn' : inN (Int.toNat (n : Int)) s := hsn
    have hR : allF ⟨n, ns, top⟩ s = sortR (reasonsN (okV ⟨n, ns, top⟩ n s) n s (2 ^ n)) := by
      rw [← sort_eq (reasonsN_nodup hn24 hsn (Nat.le_refl _))]
      simp [allF, h1]
    have hish := ishl_one n
    have hp : 2 ^ n ≤ 2 ^ 12 := Nat.pow_le_pow_right (by decide) (by omega)
    have h12 : (2 : Nat) ^ 12 = 4096 := rfl
    have hinx : ∀ x : Nat, x < 2 ^ n → inN n (x : Int) := fun x hx => (inN_iff hn24).2 ⟨by omega, by omega⟩
    have hone := fun (k : Nat) (hk : k < n) => validS_iff.1 (one_valid (show k < 24 by omega))
    have hmem := fun (m : Nat) hm => cube_in (ok := okV ⟨n, ns, top⟩ n s) hn24 hsn (m := m) hm
    have hidx : ∀ (x k : Nat), x < 2 ^ n → 0 ≤ iandNot .i64 (x : Int) (Go.Pu.one k) ∧ iandNot .i64 (x : Int) (Go.Pu.one k) < ((2 ^ n : Nat) : Int) := fun x k hx => (inN_iff hn24).1 (inN_iandNot hn24 (hinx x hx))
    rw [hR]
    have hmlen := fun m => reasonsN_length (okV ⟨n, ns, top⟩ n s) n s m
    have hget : ∀ x : Nat, x < 2 ^ n → ((List.range (2 ^ n)).map fun x : Nat => okV ⟨n, ns, top⟩ n s x).getD x false = okV ⟨n, ns, top⟩ n s x := fun x hx => by rw [List.getD_eq_getElem?_getD]; simp [hx]
    generalize hN : 2 ^ n = N at hish hp hinx hmem hidx hget
    refine KW.goLpR lay_ok F15_ok 100 rfl (I := fun q : Nat => ⟨Try.f20.ntmps, [(1, sI s), (2, .e (.r 2)), (7, .e (.r 7)), (24, sI N), (25, sI q)],
        [(2, .box 24 [iV n, .c (nodesC ns), iV top] none), (7, .own 4 (bools (((List.range q).map fun x : Nat => okV ⟨n, ns, top⟩ n s x) ++ List.replicate (N - q) false)))]⟩)
      (R := fun q => q ≤ N) (m := fun q => N - q) 0 [(2, 2), (7, 22)] rfl rfl ⟨rfl, rfl, rfl, ?_, rfl, trivial⟩ (by simp only [inK, bitsI, hish, List.length_replicate, true_and, and_true]; omega) (by omega) ⟨rfl, own_catB0 _ ?_, trivial⟩ ?_
    · show some (sI ((List.replicate (Int.toNat (ishl 1 (n : Int))) false).length : Nat)) = some (sI N)
      rw [hish]; simp
    · rw [hish]; simp
    rintro q hq0
    have hrl : (((List.range q).map fun x : Nat => okV ⟨n, ns, top⟩ n s x) ++ List.replicate (N - q) false).length = N := by simp; omega
    refine KW.goIf lay_ok F15_ok 100 rfl (by simp) rfl trivial (fun h => ?_) fun h => ?_
    · have hq : q < N := by simp at h; omega
      refine KW.go lay_ok F15_ok 100 rfl (by simp only [unN_nodesC, isN_nodesC, true_and, and_true, hin, h0, hsn', hrl, inK]; omega) (KW.updB 7 rfl (KW.to (q + 1) ⟨by omega, by omega⟩ [(2, 2), (7, 7)] ⟨rfl, rfl, ⟨rfl, rfl, rfl, rfl, rfl, trivial⟩, ⟨rfl, own_catB0 _ ?_, trivial⟩⟩))
      simp only [unN_nodesC, Int.toNat_natCast]
      rw [List.set_append_right _ _ (by simp), List.length_map, List.length_range, Nat.sub_self, show N - q = (N - (q + 1)) + 1 by omega, List.replicate_succ, List.set_cons_zero, List.range_succ, List.map_append]
      simp
    · have hq : q = N := by simp at h; omega
      replace hq := hq.symm
      subst hq
      refine KW.goOut lay_ok F15_ok 100 rfl (by simp) ?_
      have hLL : ((List.range N).map fun x : Nat => okV ⟨n, ns, top⟩ n s x) ++ List.replicate (N - N) false = (List.range N).map fun x : Nat => okV ⟨n, ns, top⟩ n s x := by simp
      have hil : ((List.range N).map fun x : Nat => okV ⟨n, ns, top⟩ n s x).length = N := by simp
      rw [hLL]
      generalize hOK : okV ⟨n, ns, top⟩ n s = OK at hget hmem hmlen hil
      generalize hL : ((List.range N).map fun x : Nat => OK x) = L at hil hget
      refine KW.go lay_ok F15_ok 100 rfl (by simp) ?_
      refine KW.nilO 9 9 28 (cubes []) rfl rfl rfl ?_
      refine KW.lp (I := fun q : Nat => ⟨Try.f20.ntmps, [(1, sI s), (2, .e (.r 2)), (7, .e (.r 7)), (9, .e (.r 9)), (36, .e (.r 7)), (37, sI N), (38, sI q)],
          [(2, .box 24 [iV n, .c (nodesC ns), iV top] none), (7, .own 4 (bools L)), (9, .own 28 (cubes (reasonsN OK n s q)))]⟩)
        (R := fun q => q ≤ N) (m := fun q => N - q) 0 (by omega) [(2, 2), (7, 7), (9, 9)] ⟨rfl, rfl, ⟨rfl, rfl, rfl, rfl, rfl, ?_, rfl, trivial⟩, ⟨rfl, rfl, rfl, trivial⟩⟩ ?_
      · show some (sI (L.length : Nat)) = some (sI N)
        rw [hil]
      rintro q hq0
      have hml := hmlen q
      refine KW.goIf lay_ok F15_ok 100 rfl (by simp) rfl trivial (fun h => ?_) fun h => ?_
      · have hq : q < N := by simp at h; omega
        have hLq : L.getD (Int.toNat (q : Int)) false = OK q := hget q hq
        refine KW.goLpR lay_ok F15_ok 100 rfl (I := fun k : Nat => ⟨Try.f20.ntmps, [(1, sI s), (2, .e (.r 2)), (7, .e (.r 7)), (9, .e (.r 9)), (10, sI q), (11, sB (minK OK q k)), (36, .e (.r 7)), (37, sI N), (38, sI q), (44, sI n), (45, sI k)],
            [(2, .box 24 [iV n, .c (nodesC ns), iV top] none), (7, .own 4 (bools L)), (9, .own 28 (cubes (reasonsN OK n s q)))]⟩)
          (R := fun k => k ≤ n) (m := fun k => n - k) 0 [(2, 2), (7, 7), (9, 9)] rfl rfl ⟨rfl, rfl, rfl, rfl, rfl, ?_, rfl, rfl, rfl, rfl, rfl, trivial⟩ (by simp [hil]; omega) (by omega) ⟨rfl, rfl, rfl, trivial⟩ ?_
        · show some (sB (L.getD (Int.toNat (q : Int)) false)) = some (sB (minK OK q 0))
          rw [hLq]; simp [minK]
        rintro k hk0
        refine KW.goIf lay_ok F15_ok 100 rfl (by simp) rfl trivial (fun h => ?_) fun h => ?_
        · have hk : k < n := by simpa using h
          have ho : 0 ≤ ishl 1 (k : Int) ∧ ishl 1 (k : Int) ≤ 16777215 := hone k hk
          have hi : 0 ≤ iandNot .i64 (q : Int) (ishl 1 (k : Int)) ∧ iandNot .i64 (q : Int) (ishl 1 (k : Int)) < ((N : Nat) : Int) := hidx q k hq
          have hLk : L.getD (iandNot .i64 (q : Int) (ishl 1 (k : Int))).toNat false = OK (iandNot .i64 (q : Int) (Go.Pu.one k)) := by
            rw [hget _ (by omega), Int.toNat_of_nonneg hi.1]; rfl
          refine KW.goToR lay_ok F15_ok 100 rfl (k + 1) [(2, 2), (7, 7), (9, 9)] rfl rfl ⟨rfl, rfl, rfl, rfl, rfl, ?_, rfl, rfl, rfl, rfl, rfl, trivial⟩ (by simp only [inK, bitsI, hil]; simp +contextual [ho, hi]; omega) ⟨by omega, by omega⟩ ⟨rfl, rfl, rfl, trivial⟩
          rw [minK_succ, ← bit_zeroB (q : Int) (show k < 64 by omega), ← hLk]
          rfl
        · have hk : k = n := by simp at h; omega
          subst hk
          refine KW.goOut lay_ok F15_ok 100 rfl (by simp) ?_
          have hsucc := reasonsN_succ OK k s q
          refine KW.goIf lay_ok F15_ok 100 rfl (by simp) rfl trivial (fun h => ?_) fun h => ?_
          · rw [if_pos h] at hsucc
            refine KW.go lay_ok F15_ok 100 rfl (by simp [inK, cubes, rows]; omega) (KW.catG (enc := cubeC) (d := (0, 0)) 73 (cubeV s q) rfl (fun q' hq' => ?_) (KW.to (q + 1) ⟨by omega, by omega⟩ [(2, 2), (7, 7), (9, 73)] ⟨rfl, rfl, ⟨rfl, rfl, rfl, rfl, rfl, rfl, rfl, trivial⟩, ⟨rfl, rfl, own_cub0 _ hsucc.symm, trivial⟩⟩))
            rcases (by omega : q' = 0 ∨ q' = 1) with rfl | rfl
            · exact CVEq.refl (.lit _)
            · exact CVEq.refl (.lit _)
          · rw [if_neg (by rw [h]; decide), List.append_nil] at hsucc
            exact KW.goToR lay_ok F15_ok 100 rfl (q + 1) [(2, 2), (7, 7), (9, 9)] rfl rfl ⟨rfl, rfl, rfl, rfl, rfl, rfl, rfl, trivial⟩ (by simp [inK]; omega) ⟨by omega, by omega⟩ ⟨rfl, rfl, own_cub0 _ hsucc.symm, trivial⟩
      · have hq : q = N := by simp at h; omega
        replace hq := hq.symm
        subst hq
        refine KW.goOut lay_ok F15_ok 100 rfl (by simp) ?_
        refine KW.go lay_ok F15_ok 2 rfl (by simp) ?_
        refine KW.frz1 9 rfl rfl rfl ?_
        refine KW.goRet lay_ok F15_ok 100 rfl rfl ?_ ?_ trivial
        · simp only [SV.ren, renL, EV.ren, h1, unC_cubes]
        · simp only [unC_cubes, isC_cubes, true_and, and_true]
          exact ⟨fun c hc => (hmem N (by omega) c hc).2.2, by omega⟩

def F16 : Fns := (17, fFI (fun f s => .tup [.ag (cubeL (reasonF f s)), eV (tableE f s)]) fun f s => FormIn f) ::
  (19, fFI (fun f s => .tup [.ag (cubeL (reasonF f s)), iV (tableE f s)]) fun f s => FormIn f) ::
  (18, fFI (fun f s => .tup [clV (allF f s), eV (tableE f s)]) fun f s => FormIn f) ::
  (20, fFI (fun f s => .tup [clV (allF f s), iV (tableE f s)]) fun f s => FormIn f) ::
  F15
theorem F16_ok : FnsOk Try.prog F16 := .cons (.cons (.cons (.cons (F15_ok) Try.func20 rfl rfl (fFI_ok fun f s h => rall56_does f s h)) Try.func18 rfl rfl (fFI_ok fun f s h => all56_does f s h)) Try.func19 rfl rfl (fFI_ok fun f s h => rreason_does f s h)) Try.func17 rfl rfl (fFI_ok fun f s h => reason_does f s h)


end Go.Proofs.Ytpjhpcclbenfbaa
