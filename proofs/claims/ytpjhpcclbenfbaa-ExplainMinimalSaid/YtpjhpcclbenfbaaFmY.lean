/-
  The law ExplainMinimal returns true.
-/
import Derived.Test.YtpjhpcclbenfbaaFmX
import Derived.Test.YtpjhpcclbenfbaaSyDa
set_option linter.unusedVariables false
set_option linter.unusedSimpArgs false
namespace Go.Pu
open Go.Sy
def fFC (g : FormP → Int × Int → SV) (p : FormP → Int × Int → Prop) : List EV → Option (SV × Prop)
  | [.ag [.lit (.int .i64 a), x, .lit (.int .i64 b)], .ag [.lit (.int .i64 c), .lit (.int .i64 d)]] => some (g ⟨a, unN x, b⟩ (c, d), isN x ∧ p ⟨a, unN x, b⟩ (c, d))
  | _ => none
section
variable {P : Program} {f : FuncId}
theorem fFC_ok {g : FormP → Int × Int → SV} {p : FormP → Int × Int → Prop} (h : ∀ x c, p x c → DoesF P f [.ag (formC x), .ag (cubeL c)] [] (g x c) []) : ∀ ys y φ, fFC g p ys = some (y, φ) → φ → DoesF P f ys [] y [] := by
  intro ys y φ he hφ
  unfold fFC at he
  split at he
  · simp only [Option.some.injEq, Prod.mk.injEq] at he
    obtain ⟨rfl, rfl⟩ := he
    refine DoesF.conv ?_ (h _ _ hφ.2)
    exact ⟨form_eq hφ.1, ⟨rfl, fun q x y a b => by cases a.symm.trans b; exact CVEq.refl _⟩, trivial⟩
  · cases he
end
/-! a cube as a reason -/
theorem cubeV_in {n : Nat} (hn : n ≤ 24) {s set : Int} (h1 : inN n s) (h2 : inN n set) : inN n (cubeV s set).1 ∧ inN n (cubeV s set).2 ∧ iand .i64 (cubeV s set).1 (cubeV s set).2 = 0 := by
  refine ⟨inN_iand hn h1, inN_iandNot hn h2, ?_⟩
  rw [iand_zero']
  intro i hi
  simp only [cubeV, bit_iand, bit_iandNot']
  cases bit s i <;> simp
theorem cubeV_yes {s set : Int} : iandNot .i64 (cubeV s set).1 s = 0 := by
  rw [eq_zero_iff (by simp)]
  intro i hi
  simp only [cubeV, bit_iand, bit_iandNot']
  cases bit s i <;> simp
theorem cubeV_no {s set : Int} : iand .i64 (cubeV s set).2 s = 0 := by
  rw [iand_zero']
  intro i hi
  simp only [cubeV, bit_iand, bit_iandNot']
  cases bit s i <;> simp
theorem okV_cube {f : FormP} {n : Nat} (hn : n ≤ 24) {s set : Int} (h1 : inN n s) (h2 : inN n set) : okV f n (cubeV s set).1 (ior .i64 (cubeV s set).1 (cubeV s set).2) = okV f n s set := by
  rw [cubeV_set hn h1 h2]
  refine okV_state hn h1 (cubeV_in hn h1 h2).1 ?_
  rw [iand_zero']
  intro i hi
  simp only [cubeV, bit_iand, bit_ixor]
  cases bit s i <;> cases bit set i <;> rfl
theorem cubeV_less {n : Nat} (hn : n ≤ 24) {s set : Int} (h1 : inN n s) (h2 : inN n set) (i : Nat) : (iandNot .i64 (cubeV s set).1 (one i), iandNot .i64 (cubeV s set).2 (one i)) = cubeV s (iandNot .i64 set (one i)) := by
  have a := inN_iandNot (y := one i) hn h2
  refine Prod.ext ?_ ?_
  · refine (inN_iandNot hn (inN_iand hn h1)).ext (inN_iand hn h1) fun j hj => ?_
    simp only [cubeV, bit_iand, bit_iandNot']
    cases bit s j <;> simp
  · refine (inN_iandNot hn (inN_iandNot hn h2)).ext (inN_iandNot hn a) fun j hj => ?_
    simp only [cubeV, bit_iandNot']
    cases bit s j <;> simp
end Go.Pu
namespace Go.Proofs.Ytpjhpcclbenfbaa
open Go.Sy Go.Pu

def F21 : Fns := (29, fFC (fun f c => sB (okV f f.vars.toNat c.1 (ior .i64 c.1 c.2))) fun f c => FormIn f ∧ formE f = 0 ∧ f.vars = f.vars.toNat ∧ inN f.vars.toNat c.1 ∧ inN f.vars.toNat c.2 ∧ iand .i64 c.1 c.2 = 0) ::
  F20
theorem F21_ok : FnsOk Try.prog F21 := .cons (F20_ok) Try.func29 rfl rfl (fFC_ok fun f c h => constant_does f _ c h.1 h.2.1 h.2.2.1 h.2.2.2.1 h.2.2.2.2.1 h.2.2.2.2.2)


theorem lawMinimal_does (f : FormP) (s : Int) (hin : FormIn f) : DoesF Try.prog 5 [.ag (formC f), iV s] [] (sB true) [] := by
  refine DoesF.body _ Try.func5 rfl rfl rfl rfl ?_
  obtain ⟨vars, ns, top⟩ := f
  refine KW.goIf lay_ok F21_ok 100 rfl (by simp [hin]) rfl trivial (fun h => ?_) fun h => ?_
  · exact KW.goRet lay_ok F21_ok 100 rfl rfl rfl (by simp) trivial
  · simp only [unN_nodesC] at h
    have hvd : validF ⟨vars, ns, top⟩ s = true := by
      have e : (!validF ⟨vars, ns, top⟩ s || !true) = false := h
      simpa using e
    simp only [validF, Bool.and_eq_true, decide_eq_true_eq] at hvd
    have h1 := hvd.2
    have hv7 := hvd.1.2
    have h0 := (stateE_ok h1).1
    have ok : FormOk ⟨vars, ns, top⟩ := formE_ok h0
    have hs := (stateE_ok h1).2
    have hv := ok.vars
    simp only at hv hs hv7
    obtain ⟨n, rfl⟩ := Int.eq_ofNat_of_zero_le hv.1
    have hn24 : n ≤ 24 := by omega
    have hsn : inN n s := (inN_iff hn24).2 ⟨hs.1, by rw [← ishl_one]; exact hs.2⟩
    have hte : tableE ⟨n, ns, top⟩ s = 0 := by rw [tableE, if_pos h1, if_neg (by simp only; omega)]
    have hmem := fun c => allF_mem (f := ⟨n, ns, top⟩) (s := s) (n := n) rfl hte hn24 (c := c)
    have hR : reasonF ⟨n, ns, top⟩ s = cubeV s (reasonN (okV ⟨n, ns, top⟩ n s) n n) := by simp [reasonF, hte]
    have hRm : reasonF ⟨n, ns, top⟩ s ∈ allF ⟨n, ns, top⟩ s := by
      rw [hmem, hR, reasonN_down]
      exact ⟨_, (downN_spec (ok := okV ⟨n, ns, top⟩ n s) hn24 (inN_allN hn24) (okV_all hn24 hsn) n).1, downN_min (fun a b hp ha => okV_mono hn24 hsn hp ha) hn24 (inN_allN hn24) (okV_all hn24 hsn), rfl⟩
    have hll : (allF ⟨n, ns, top⟩ s).length ≤ 16777216 := by
      have e := reasonsN_length (okV ⟨n, ns, top⟩ n s) n s (2 ^ n)
      have hp : 2 ^ n ≤ 2 ^ 24 := Nat.pow_le_pow_right (by decide) hn24
      have h24 : (2 : Nat) ^ 24 = 16777216 := rfl
      rw [allF, if_pos hte, sortC_length]
      simp only [Int.toNat_natCast]
      omega
    refine KW.goIf lay_ok F21_ok 100 rfl (by simp [hin]) rfl trivial (fun h => ?_) fun h => ?_
    · simp only [unN_nodesC, hte] at h
      exact absurd h (by decide)
    generalize hL : allF ⟨n, ns, top⟩ s = L at hRm hll hmem
    generalize hC : reasonF ⟨n, ns, top⟩ s = C at hRm
    refine KW.goLpR lay_ok F21_ok 100 rfl (I := fun q : Nat × Bool => ⟨Try.f5.ntmps, [(1, sI s), (2, .e (.r 2)), (5, .e (.r 5)), (9, sB q.2), (41, .e (clV L)), (42, sI L.length), (43, sI q.1)],
        [(5, .box 28 [iV C.1, iV C.2] none), (2, .box 24 [iV n, .c (nodesC ns), iV top] none)]⟩)
      (R := fun q => q.1 ≤ L.length ∧ (q.2 = true ∨ C ∈ L.drop q.1)) (m := fun q => L.length - q.1) (0, false) [(5, 5), (2, 2)] rfl rfl ⟨rfl, rfl, rfl, rfl, ?_, ?_, rfl, trivial⟩ (by simp only [inK, bitsI, true_and, and_true]) ⟨Nat.zero_le _, .inr hRm⟩ ⟨?_, rfl, trivial⟩ ?_
    · simp only [unN_nodesC, hL]; rfl
    · simp only [unN_nodesC, hL]; rfl
    · simp only [unN_nodesC, hC]; rfl
    rintro ⟨q, fo⟩ ⟨g1, g2⟩
    simp only at g1 g2
    refine KW.goIf lay_ok F21_ok 100 rfl (by simp) rfl trivial (fun h => ?_) fun h => ?_
    · have hq : q < L.length := by simpa using h
      have hg : L.getD (Int.toNat (q : Int)) (0, 0) = L[q] := by simp [List.getD_eq_getElem?_getD, hq]
      rw [List.drop_eq_getElem_cons hq] at g2
      obtain ⟨set, k1, k2, k3⟩ := (hmem L[q]).1 (List.getElem_mem hq)
      generalize hX : L[q] = X at g2 k3 hg
      have hok := (minK_iff.1 k2).1
      subst k3
      have c1 := cubeV_in hn24 hsn k1
      have c2 := cubeV_yes (s := s) (set := set)
      have c3 := cubeV_no (s := s) (set := set)
      have c4 := okV_cube (f := ⟨n, ns, top⟩) hn24 hsn k1
      have c5 := cubeV_set hn24 hsn k1
      have c6 := cubeV_less hn24 hsn k1
      have c7 := fun i => okV_cube (f := ⟨n, ns, top⟩) hn24 hsn (inN_iandNot (y := Go.Pu.one i) hn24 k1)
      have c8 := ishr_zero hn24 k1
      have c9 := fun i => cubeV_in hn24 hsn (inN_iandNot (y := Go.Pu.one i) hn24 k1)
      generalize hZ : cubeV s set = Z at g2 hX hg c1 c2 c3 c4 c5 c6
      obtain ⟨zy, zn⟩ := Z
      simp only at c1 c2 c3 c4 c5 c6
      have hg1 : zy = (L.getD (Int.toNat (q : Int)) (0, 0)).1 := by rw [hg]
      have hg2 : zn = (L.getD (Int.toNat (q : Int)) (0, 0)).2 := by rw [hg]
      rw [c5] at c4
      refine KW.goIf lay_ok F21_ok 100 rfl ?_ rfl trivial (fun h => ?_) fun h => ?_
      · simp only [unN_nodesC, isN_nodesC, hin, ifcV_errV, hg, inK, bitsI]
        simp +contextual
        exact ⟨⟨hq, fun _ _ => by omega⟩, fun _ _ _ => ⟨h0, c1⟩⟩
      · simp only [unN_nodesC, hg] at h
        simp only [Int.toNat_natCast, c2, c3, c4, c5, c8, hok] at h
        exact absurd h (by decide)
      · clear h
        refine KW.goLpR lay_ok F21_ok 100 rfl (I := fun i : Nat => ⟨Try.f5.ntmps, [(1, sI s), (2, .e (.r 2)), (5, .e (.r 5)), (9, sB (fo || decide ([zy, zn] = [C.1, C.2]))), (11, .e (.r 11)), (41, .e (clV L)), (42, sI L.length), (43, sI q), (83, sI n), (84, sI i)],
          [(11, .box 28 [iV zy, iV zn] none), (5, .box 28 [iV C.1, iV C.2] none), (2, .box 24 [iV n, .c (nodesC ns), iV top] none)]⟩)
          (R := fun i => i ≤ n) (m := fun i => n - i) 0 [(11, 11), (5, 5), (2, 2)] rfl rfl ⟨rfl, rfl, rfl, ?_, rfl, rfl, rfl, rfl, rfl, rfl, trivial⟩ (by simp) (by omega) ⟨?_, rfl, rfl, trivial⟩ ?_
        · rw [hg1, hg2]; rfl
        · rw [hg1, hg2]; rfl
        rintro i hi0
        refine KW.goIf lay_ok F21_ok 100 rfl (by simp) rfl trivial (fun h => ?_) fun h => ?_
        · have hi : i < n := by simpa using h
          have e6 := c6 i
          have e7 := c7 i
          have e9 := c9 i
          rw [← e6] at e7 e9
          simp only at e7 e9
          have hone : ishl 1 (i : Int) = Go.Pu.one i := rfl
          have hor := validS_iff.1 (one_valid (show i < 24 by omega))
          refine KW.goDX lay_ok F21_ok rfl 100 rfl 12 rfl (by decide +kernel) (by decide +kernel) rfl rfl (by simp) ?_ ?_
          · simp +contextual [inK, bitsI]
            rw [hone]
            omega
          · refine KW.goIf lay_ok F21_ok 100 rfl ?_ rfl trivial (fun h => ?_) fun h => ?_
            · simp only [unN_nodesC, isN_nodesC, hin, ifcV_errV, hg, inK, bitsI]
              simp +contextual
              rw [hone]
              exact fun _ => ⟨h0, e9⟩
            · exfalso
              simp only [unN_nodesC, Int.toNat_natCast, hone, e7] at h
              cases hb : bit set i with
              | true =>
                rw [(minK_iff.1 k2).2 i hi hb, Bool.and_false] at h
                cases h
              | false =>
                have hss : iandNot .i64 set (Go.Pu.one i) = set := (inN_iandNot hn24 k1).ext k1 fun j hj => by
                  rw [bit_iandNot', one_bit (by omega)]
                  by_cases hij : i = j
                  · subst hij; simp [hb]
                  · simp [hij]
                rw [hss, hZ] at e6
                simp only [Prod.mk.injEq] at e6
                rw [e6.1, e6.2] at h
                simp at h
            · exact KW.goToR lay_ok F21_ok 100 rfl (i + 1) [(11, 11), (5, 5), (2, 2)] rfl rfl ⟨rfl, rfl, rfl, rfl, rfl, rfl, rfl, rfl, rfl, rfl, trivial⟩ (by simp [inK]; omega) ⟨by omega, by omega⟩ ⟨rfl, rfl, rfl, trivial⟩
        · refine KW.goOut lay_ok F21_ok 100 rfl (by simp) ?_
          refine KW.goToR lay_ok F21_ok 100 rfl (q + 1, fo || decide ([zy, zn] = [C.1, C.2])) [(5, 5), (2, 2)] rfl rfl ⟨rfl, rfl, rfl, rfl, rfl, rfl, rfl, trivial⟩ (by simp [inK]; omega) ⟨⟨by simp only; omega, ?_⟩, by simp only; omega⟩ ⟨rfl, rfl, trivial⟩
          rcases g2 with g2 | g2
          · exact .inl (by simp [g2])
          · rcases List.mem_cons.1 g2 with e | e
            · exact .inl (by simp [e])
            · exact .inr e
    · have hq : q = L.length := by simp at h; omega
      rw [hq, List.drop_length] at g2
      replace g2 : fo = true := g2.resolve_right (by simp)
      subst g2
      refine KW.goOut lay_ok F21_ok 100 rfl (by simp) ?_
      exact KW.goRet lay_ok F21_ok 100 rfl rfl rfl (by simp) trivial
end Go.Proofs.Ytpjhpcclbenfbaa
