/-
  What the path sets of a formula say; the laws PathsHold and PathsDual.
-/
import Derived.Test.YtpjhpcclbenfbaaFqL
import Derived.Test.YtpjhpcclbenfbaaPuQ
set_option linter.unusedVariables false
set_option linter.unusedSimpArgs false
namespace Go.Proofs.Ytpjhpcclbenfbaa
open Go.Sy Go.Pu
theorem node_kind {f : FormP} (ok : FormOk f) (hc : cohF f = true) {q : Nat} (hq : q < f.nodes.length) (hm : (belowF f).getD (f.vars.toNat + q) false = true) :
    f.nodes[q].kind = 0 ∧ (f.nodes[q].k = 0 ∨ f.nodes[q].k = 1) ∨ f.nodes[q].kind = 2 ∨ f.nodes[q].kind = 3 ∨ f.nodes[q].kind = 4 ∧ 1 ≤ f.nodes[q].k ∧ f.nodes[q].k ≤ f.nodes[q].args.length := by
  obtain ⟨c1, c5⟩ := coh_node hc hq hm
  have hkd := (ok.nodes q hq).kind
  have hkk := (ok.nodes q hq).k
  generalize f.nodes[q] = Y at *
  unfold kE at hkk
  by_cases k0 : Y.kind = 0
  · rw [if_pos k0] at hkk
    split at hkk
    · cases hkk
    · exact .inl ⟨k0, by omega⟩
  · rw [if_neg k0] at hkk
    by_cases k4 : Y.kind = 4
    · rw [if_pos k4] at hkk
      split at hkk
      · cases hkk
      · exact .inr (.inr (.inr ⟨k4, by omega, by omega⟩))
    · omega
/-- what each row of the reference's table says -/
theorem run_good {f : FormP} (ok : FormOk f) (hc : cohF f = true) {n : Nat} (hn : f.vars = n) : ∀ i, i ≤ f.nodes.length → ((runR n f.nodes (belowF f) i).2 = 0 ∨ (runR n f.nodes (belowF f) i).2 = 4) ∧ ((runR n f.nodes (belowF f) i).2 = 0 → (runR n f.nodes (belowF f) i).1.length = f.nodes.length ∧
    ∀ a : Nat, a < n + i → (belowF f).getD a false = true → GoodP n (argR n (runR n f.nodes (belowF f) i).1 a) ∧ ∀ s, inN n s → (Cov (argR n (runR n f.nodes (belowF f) i).1 a) (iandNot .i64 (allN n) s) ↔ (valsF f s).getD a false = false))
  | 0, _ => by
    have hv := ok.vars
    have hn24 : n ≤ 24 := by omega
    refine ⟨.inl rfl, fun _ => ⟨by simp [runR], fun a ha _ => ?_⟩⟩
    have e : argR n (runR n f.nodes (belowF f) 0).1 (a : Int) = [Go.Pu.one a] := by rw [argR, if_pos (by omega), Int.toNat_natCast]
    rw [e]
    refine ⟨GoodP.sgl hn24 (by omega), fun s hs => ?_⟩
    rw [valsF_event f s (by omega)]
    have h1 : Cov [Go.Pu.one a] (iandNot .i64 (allN n) s) ↔ Part (Go.Pu.one a) (iandNot .i64 (allN n) s) := by simp [Cov]
    rw [h1, part_one (by omega), bit_iandNot', bit_allN hn24, decide_eq_true (show a < n by omega)]
    cases bit s a <;> simp
  | i + 1, hi => by
    have hv := ok.vars
    have hn24 : n ≤ 24 := by omega
    have hnn : f.vars.toNat = n := by omega
    have hi' : i < f.nodes.length := by omega
    obtain ⟨ih1, ih2⟩ := run_good ok hc hn i (by omega)
    have e2 := runR_succ n f.nodes (belowF f) i
    have hX : f.nodes.getD i node0 = f.nodes[i] := by simp [List.getD_eq_getElem?_getD, show i < f.nodes.length by omega]
    by_cases h0 : (runR n f.nodes (belowF f) i).2 = 0
    · obtain ⟨hlen, hrel⟩ := ih2 h0
      rw [if_pos h0] at e2
      by_cases hm : (belowF f).getD (n + i) false = true
      · rw [if_pos hm, hX] at e2
        have hk := node_kind ok hc (q := i) hi' (by rw [hnn]; exact hm)
        have hcl := below_closed ok i hi' (by rw [hnn]; exact hm)
        have hval := fun s => valsF_node ok s (q := i) hi'
        rw [hnn] at hcl hval
        clear ih1 ih2
        generalize hRR : runR n f.nodes (belowF f) i = RR at h0 hlen hrel e2
        obtain ⟨tab, er⟩ := RR
        simp only at h0 hlen hrel e2
        generalize f.nodes[i] = X at hk hcl hval e2
        have hga : ∀ a ∈ X.args, GoodP n (argR n tab a) := fun a ha => by
          obtain ⟨c1, c2, c3⟩ := hcl a ha
          have := (hrel a.toNat c3 c1).1
          rwa [Int.toNat_of_nonneg c2] at this
        have herr := node_err hn24 X.kind X.k (rs := X.args.map (argR n tab)) fun r hr => by
          obtain ⟨a, ha, rfl⟩ := List.mem_map.1 hr
          exact hga a ha
        by_cases hp0 : (nodePS X.kind X.k (X.args.map (argR n tab))).2 = 0
        · rw [if_pos hp0] at e2
          rw [e2]
          refine ⟨.inl rfl, fun _ => ⟨by simp [hlen], fun a ha hma => ?_⟩⟩
          by_cases hai : a = n + i
          · subst hai
            have e4 : argR n (tab.set i (nodePS X.kind X.k (X.args.map (argR n tab))).1) ((n + i : Nat) : Int) = (nodePS X.kind X.k (X.args.map (argR n tab))).1 := by
              rw [argR, if_neg (by omega), show Int.toNat (((n + i : Nat) : Int) - (n : Int)) = i by omega, getD_set_at (by omega)]
            rw [e4]
            refine ⟨(node_good (x := 0) (v := []) hn24 hk hga hp0).1, fun s hs => ?_⟩
            rw [hval s]
            refine (node_good (x := iandNot .i64 (allN n) s) (v := valsF f s) hn24 hk hga hp0).2 fun a ha => ?_
            obtain ⟨c1, c2, c3⟩ := hcl a ha
            have := (hrel a.toNat c3 c1).2 s hs
            rwa [Int.toNat_of_nonneg c2] at this
          · have e4 : argR n (tab.set i (nodePS X.kind X.k (X.args.map (argR n tab))).1) (a : Int) = argR n tab a := by
              unfold argR
              by_cases han : (a : Int) < n
              · rw [if_pos han, if_pos han]
              · rw [if_neg han, if_neg han]
                exact getD_set_far (by omega)
            rw [e4]
            exact hrel a (by omega) hma
        · rw [if_neg hp0] at e2
          rw [e2]
          exact ⟨herr, fun h => absurd h hp0⟩
      · rw [if_neg hm] at e2
        rw [e2]
        refine ⟨ih1, fun _ => ⟨hlen, fun a ha hma => ?_⟩⟩
        by_cases hai : a = n + i
        · subst hai; exact absurd hma hm
        · exact hrel a (by omega) hma
    · rw [if_neg h0] at e2
      rw [e2]
      exact ⟨ih1, fun h => absurd h h0⟩
/-- the path sets of a formula -/
theorem path_facts {f : FormP} {n : Nat} (h1 : pathE f = 0) (hn : f.vars = n) : (pathsE f = 0 ∨ pathsE f = 4) ∧ (pathsE f = 0 → GoodP n (pathsL f) ∧ (∀ s, inN n s → (Cov (pathsL f) (iandNot .i64 (allN n) s) ↔ valueF f s = false)) ∧
    ∀ t ∈ pathsL f, minV f t true = true ∧ pathSE f t = 0) := by
  obtain ⟨h0, hc⟩ := pathE_ok h1
  have ok := formE_ok h0
  have hv := ok.vars
  have htop := ok.top
  have hn24 : n ≤ 24 := by omega
  have hnn : f.vars.toNat = n := by omega
  obtain ⟨p1, p2⟩ := paths_run ok hc h0
  obtain ⟨r1, r2⟩ := run_good ok hc hn f.nodes.length (Nat.le_refl _)
  rw [hnn] at p1 p2
  rw [p1]
  refine ⟨r1, fun hz => ?_⟩
  obtain ⟨_, r3⟩ := r2 hz
  obtain ⟨g1, g2⟩ := r3 f.top.toNat (by omega) (marksF_top ok _)
  rw [Int.toNat_of_nonneg htop.1, ← p2 hz] at g1 g2
  refine ⟨g1, g2, fun t ht => ?_⟩
  have htn := g1.2 t ht
  have htn' := (inN_iff hn24).1 htn
  have hE : pathSE f t = 0 := by rw [pathSE, if_pos h1, if_pos ⟨htn'.1, by rw [hn, ishl_one]; exact htn'.2⟩]
  refine ⟨?_, hE⟩
  have hdbl : ∀ x, inN n x → iandNot .i64 (allN n) (iandNot .i64 (allN n) x) = x := fun x hx => inN.ext (inN_iandNot hn24 (inN_allN hn24)) hx fun i hi => by
    rw [bit_iandNot', bit_iandNot', bit_allN hn24, decide_eq_true hi]
    simp
  have hP : ∀ x, inN n x → (isP f x true = true ↔ Cov (pathsL f) x) := fun x hx => by
    have := g2 _ (inN_iandNot (y := x) hn24 (inN_allN hn24))
    rw [hdbl x hx] at this
    rw [isP_path hn, Bool.not_eq_true']
    exact this.symm
  rw [minV, hE, hnn]
  simp only [decide_true, Bool.true_and]
  refine minP_iff.2 ⟨(hP t htn).2 ⟨t, ht, Part.refl t⟩, fun i hi hb => ?_⟩
  cases hpp : isP f (iandNot .i64 t (Go.Pu.one i)) true with
  | false => rfl
  | true =>
    exfalso
    obtain ⟨u, hu, hup⟩ := (hP _ (inN_iandNot hn24 htn)).1 hpp
    have hut : Part u t := hup.trans (part_iandNot _ _)
    have ht' := ht
    rw [← g1.1.min] at ht'
    have e := ((mem_minS g1.1.val t).1 ht').2 u hu hut
    subst e
    have := hup i hb
    rw [bit_iandNot', one_bit (by omega)] at this
    simp at this

theorem iand_part0 {n : Nat} {t s : Int} (ht : inN n t) (hs : inN n s) (hn : n ≤ 24) : iand .i64 t s = 0 ↔ Part t (iandNot .i64 (allN n) s) := by
  rw [iand_zero']
  constructor
  · intro h i hb
    have hi : i < n := Nat.lt_of_not_le fun h' => by rw [ht.2 i h'] at hb; cases hb
    have := h i (by omega)
    rw [hb, Bool.true_and] at this
    rw [bit_iandNot', bit_allN hn, decide_eq_true hi, this]; rfl
  · intro h i hi
    cases hb : bit t i with
    | false => rfl
    | true =>
      have := h i hb
      rw [bit_iandNot', Bool.and_eq_true] at this
      simpa using this.2

def K6 : Fns := (30, fFI (fun f s => .tup [bV (valV f s), eV (stateE f s)]) fun f s => FormIn f) ::
  (51, fL (fun l => .e (eV (checkE l))) fun _ => True) ::
  (53, fLI (fun l s => .tup [bV (decide (listE l = 0) && validS s && l.any (fun t => subS t s)), eV (if listE l = 0 then if validS s then 0 else 3 else listE l)]) fun _ _ => True) ::
  K5
theorem K6_ok : FnsOk Try.prog K6 := .cons (.cons (.cons (K5_ok) Try.func53 rfl rfl (fLI_ok fun l s _ => covers_does l s)) Try.func51 rfl rfl (fL_ok fun l _ => check_does l)) Try.func30 rfl rfl (fFI_ok fun f s h => value_does f s h)


theorem lawPathsHold_does (f : FormP) (s : Int) (hin : FormIn f) : DoesF Try.prog 13 [.ag (formC f), iV s] [] (sB true) [] := by
  refine DoesF.body _ Try.func13 rfl rfl rfl rfl ?_
  obtain ⟨vars, ns, top⟩ := f
  refine KW.goIf lay_ok K6_ok 100 rfl (by simp [hin]) rfl trivial (fun h => ?_) fun h => ?_
  · exact KW.goRet lay_ok K6_ok 100 rfl rfl rfl (by simp) trivial
  have h1 : pathE ⟨vars, ns, top⟩ = 0 := by
    simp at h; exact h.2
  obtain ⟨h0, hc⟩ := pathE_ok h1
  have ok := formE_ok h0
  have hv := ok.vars
  simp only at hv
  obtain ⟨n, rfl⟩ := Int.eq_ofNat_of_zero_le hv.1
  have hn24 : n ≤ 24 := by omega
  have hsr := shl_rng hv
  have eA : ishl 1 (n : Int) - 1 = allN n := by have := Nat.two_pow_pos n; rw [ishl_one, allN]; omega
  have hA : inN n (allN n) := inN_allN hn24
  have hS : inN n (iand .i64 s (allN n)) := by
    have := inN_iand (y := s) hn24 hA
    have e : iand .i64 s (allN n) = iand .i64 (allN n) s := rng_ext (by simp) (by simp) fun i _ => by simp only [bit_iand]; exact Bool.and_comm _ _
    rw [e]; exact this
  have ev : pathsV ⟨n, ns, top⟩ = (pathsL ⟨n, ns, top⟩, pathsE ⟨n, ns, top⟩) := by rw [pathsV, if_pos h1]
  obtain ⟨f1, f2⟩ := path_facts h1 (n := n) rfl
  refine KW.goIf lay_ok K6_ok 100 rfl (by simp [hin]) rfl trivial (fun h => ?_) fun h => ?_
  · simp only [unN_nodesC, ev] at h
    have h2 : ¬ pathsE ⟨n, ns, top⟩ = 0 := by
      have e : (!isNilB (errV 66 (pathsE ⟨n, ns, top⟩))) = true := h
      simpa using e
    have h4 : pathsE ⟨n, ns, top⟩ = 4 := f1.resolve_left h2
    refine KW.goRet lay_ok K6_ok 100 rfl rfl ?_ (by simp) trivial
    simp only [unN_nodesC, ev, h4]
    simp [SV.ren, EV.ren]
  simp only [unN_nodesC, ev] at h
  have h2 : pathsE ⟨n, ns, top⟩ = 0 := by
    have e : (!isNilB (errV 66 (pathsE ⟨n, ns, top⟩))) = false := h
    simpa using e
  obtain ⟨g1, g2, g3⟩ := f2 h2
  have hS' : inN n (iand .i64 s (ishl 1 (n : Int) - 1)) := by rw [eA]; exact hS
  have hcov := g2 _ hS'
  have hst : stateE ⟨n, ns, top⟩ (iand .i64 s (ishl 1 (n : Int) - 1)) = 0 := by
    have := cmpl_state (f := ⟨n, ns, top⟩) h0 rfl hS' false
    exact this
  have hval : valV ⟨n, ns, top⟩ (iand .i64 s (ishl 1 (n : Int) - 1)) = valueF ⟨n, ns, top⟩ (iand .i64 s (ishl 1 (n : Int) - 1)) := by simp [valV, hst]
  have hchk : checkE (pathsL ⟨n, ns, top⟩) = 0 := by
    have hl0 := listE_zero g1.1.len g1.1.val
    obtain ⟨a1, a2, _, _⟩ := anti_min g1.1.val
    rw [g1.1.min] at a1 a2
    rw [checkE, if_pos hl0, if_pos a1.symm, if_pos (by rw [a2])]
  have hfree : ((pathsL ⟨n, ns, top⟩).any fun t => iand .i64 t (iand .i64 s (ishl 1 (n : Int) - 1)) == 0) = !valueF ⟨n, ns, top⟩ (iand .i64 s (ishl 1 (n : Int) - 1)) := by
    rw [Bool.eq_iff_iff, List.any_eq_true, Bool.not_eq_true', ← hcov]
    constructor
    · rintro ⟨t, ht, he⟩
      exact ⟨t, ht, (iand_part0 (g1.2 t ht) hS' hn24).1 (by simpa using he)⟩
    · rintro ⟨t, ht, he⟩
      exact ⟨t, ht, by simpa using (iand_part0 (g1.2 t ht) hS' hn24).2 he⟩
  have hlen := g1.1.len
  have e7 : sB (valV ⟨n, unN (nodesC ns), top⟩ (iand .i64 s (ishl 1 (n : Int) - 1))) = sB (valueF ⟨n, ns, top⟩ (iand .i64 s (ishl 1 (n : Int) - 1))) := by rw [unN_nodesC, hval]
  have e8 : SV.e (eV (stateE ⟨n, unN (nodesC ns), top⟩ (iand .i64 s (ishl 1 (n : Int) - 1)))) = .e (.c (.lit .nilIface)) := by rw [unN_nodesC, hst]; rfl
  simp only [unN_nodesC, ev]
  generalize hL : pathsL ⟨n, ns, top⟩ = L at *
  refine KW.goLpR lay_ok K6_ok 100 rfl (I := fun q : Nat × Bool => ⟨Try.f13.ntmps, [(1, sI (iand .i64 s (ishl 1 (n : Int) - 1))), (2, .e (.r 2)), (5, .e (lV L)), (7, sB (valueF ⟨n, ns, top⟩ (iand .i64 s (ishl 1 (n : Int) - 1)))), (8, .e (.c (.lit .nilIface))), (9, sB q.2), (43, .e (lV L)), (44, sI L.length), (45, sI q.1)],
      [(2, .box 24 [iV n, .c (nodesC ns), iV top] none)]⟩)
    (R := fun q => q.1 ≤ L.length ∧ (q.2 || (L.drop q.1).any fun t => iand .i64 t (iand .i64 s (ishl 1 (n : Int) - 1)) == 0) = L.any fun t => iand .i64 t (iand .i64 s (ishl 1 (n : Int) - 1)) == 0) (m := fun q => L.length - q.1) (0, false) [(2, 2)] rfl rfl ⟨rfl, rfl, rfl, congrArg some e7, congrArg some e8, rfl, rfl, rfl, rfl, trivial⟩ ?_ ⟨Nat.zero_le _, by simp⟩ ⟨rfl, trivial⟩ ?_
  · simp only [unN_nodesC, isN_nodesC, true_and, and_true, inK, bitsI, ifcV_errV]
    simp [hin]
    omega
  rintro ⟨q, fr⟩ ⟨k1, k2⟩
  simp only at k1 k2
  refine KW.goIf lay_ok K6_ok 100 rfl (by simp) rfl trivial (fun h => ?_) fun h => ?_
  · have hq : q < L.length := by simpa using h
    have hg : L.getD (Int.toNat (q : Int)) 0 = L[q] := by simp [List.getD_eq_getElem?_getD, hq]
    obtain ⟨t1, t2⟩ := g3 _ (List.getElem_mem hq)
    rw [List.drop_eq_getElem_cons hq, List.any_cons] at k2
    generalize L[q] = t at hg t1 t2 k2
    refine KW.goIf lay_ok K6_ok 100 rfl (by simp [hq, hin]) rfl trivial (fun h => ?_) fun h => ?_
    · exfalso
      simp only [hg, unN_nodesC, t1, t2] at h
      simp at h
    · refine KW.goToR lay_ok K6_ok 100 rfl (q + 1, fr || (iand .i64 t (iand .i64 s (ishl 1 (n : Int) - 1)) == 0)) [(2, 2)] rfl rfl ⟨rfl, rfl, rfl, rfl, rfl, ?_, rfl, rfl, rfl, trivial⟩ (by simp [inK]; omega) ⟨⟨by simp only; omega, by rw [← k2, Bool.or_assoc]⟩, by simp only; omega⟩ ⟨rfl, trivial⟩
      rw [← hg]; rfl
  · have hq : q = L.length := by simp at h; omega
    rw [hq, List.drop_length, List.any_nil, Bool.or_false, hfree] at k2
    refine KW.goOut lay_ok K6_ok 100 rfl (by simp) ?_
    refine KW.goRet lay_ok K6_ok 100 rfl rfl ?_ (by simp only [unI_ints, isI_ints, ifcV_errV, hchk]; simp [ifcV]) trivial
    have en : isNilB .nilIface = true := rfl
    have e0 : errV 66 0 = .nilIface := rfl
    simp [SV.ren, EV.ren, hchk, k2, en, e0]

theorem hit_facts {f : FormP} {n : Nat} (h1 : pathE f = 0) (hn : f.vars = n) (hz : pathsE f = 0) (hh : hitE (pathsL f) = 0) : (∀ x, inN n x → (Cov (hitL (pathsL f)) x ↔ valueF f x = true)) ∧ Fam (hitL (pathsL f)) ∧ ∀ t ∈ hitL (pathsL f), minV f t false = true ∧ pathSE f t = 0 := by
  obtain ⟨h0, hc⟩ := pathE_ok h1
  have hv := (formE_ok h0).vars
  have hn24 : n ≤ 24 := by omega
  have hnn : f.vars.toNat = n := by omega
  obtain ⟨g1, g2, _⟩ := (path_facts h1 hn).2 hz
  generalize pathsL f = L at *
  have hcut : ∀ x, inN n x → (valueF f x = true ↔ Hit L x) := fun x hx => by
    have h2 := g2 x hx
    constructor
    · intro hv t ht hz
      rw [h2.1 ⟨t, ht, (iand_part0 (g1.2 t ht) hx hn24).1 hz⟩] at hv; cases hv
    · intro hit
      cases hb : valueF f x with
      | true => rfl
      | false =>
        obtain ⟨t, ht, hp⟩ := h2.2 hb
        exact absurd ((iand_part0 (g1.2 t ht) hx hn24).2 hp) (hit t ht)
  refine ⟨fun x hx => by rw [hit_cov hh x, hcut x hx], hit_fam hh, fun t ht => ?_⟩
  have hm := hit_min hh ht
  have hle := (hitE_zero hh).1
  unfold minHit leastHit at hm
  rw [Bool.and_eq_true, List.all_eq_true] at hm
  obtain ⟨m1, m2⟩ := hm
  have hmeet : ∀ s, validS s = true → (meetB L s = true ↔ Hit L s) := fun s hs => by
    simp only [meetB, hle, hs, decide_true, Bool.true_and, Bool.not_eq_true', List.any_eq_false, decide_eq_true_eq]
    rfl
  have htv : validS t = true := (hit_fam hh).val t ht
  have hht : Hit L t := (hmeet t htv).1 m1
  have hleast : ∀ i, i < 24 → bit t i = true → ¬ Hit L (iandNot .i64 t (Go.Pu.one i)) := fun i hi hb hit => by
    have := m2 i (by simpa using hi)
    rw [hb, (hmeet _ (valid_iandNot htv)).2 hit] at this
    exact absurd this (by decide)
  have htn : inN n t := ⟨htv, fun i hi => by
    cases hb : bit t i with
    | false => rfl
    | true =>
      have hi24 : i < 24 := Nat.lt_of_not_le fun h' => by rw [validS_bit htv h'] at hb; cases hb
      refine absurd (fun u hu hz => hht u hu ?_) (hleast i hi24 hb)
      rw [iand_zero'] at hz ⊢
      intro j hj
      have h3 := hz j hj
      rw [bit_iandNot', one_bit hi24] at h3
      by_cases hij : i = j
      · subst hij
        rw [(g1.2 u hu).2 i hi]; rfl
      · simpa [hij] using h3⟩
  have htn' := (inN_iff hn24).1 htn
  have hE : pathSE f t = 0 := by rw [pathSE, if_pos h1, if_pos ⟨htn'.1, by rw [hn, ishl_one]; exact htn'.2⟩]
  refine ⟨?_, hE⟩
  rw [minV, hE, hnn]
  simp only [decide_true, Bool.true_and]
  refine minP_iff.2 ⟨by rw [isP_cut]; exact (hcut t htn).2 hht, fun i hi hb => ?_⟩
  rw [isP_cut]
  cases hpp : valueF f (iandNot .i64 t (Go.Pu.one i)) with
  | false => rfl
  | true => exact absurd ((hcut _ (inN_iandNot hn24 htn)).1 hpp) (hleast i (by omega) hb)
theorem lawPathsDual_does (f : FormP) (s : Int) (hin : FormIn f) : DoesF Try.prog 14 [.ag (formC f), iV s] [] (sB true) [] := by
  refine DoesF.body _ Try.func14 rfl rfl rfl rfl ?_
  obtain ⟨vars, ns, top⟩ := f
  refine KW.goIf lay_ok K6_ok 100 rfl (by simp [hin]) rfl trivial (fun h => ?_) fun h => ?_
  · exact KW.goRet lay_ok K6_ok 100 rfl rfl rfl (by simp) trivial
  have h1 : pathE ⟨vars, ns, top⟩ = 0 := by
    simp at h; exact h.2
  obtain ⟨h0, hc⟩ := pathE_ok h1
  have ok := formE_ok h0
  have hv := ok.vars
  simp only at hv
  obtain ⟨n, rfl⟩ := Int.eq_ofNat_of_zero_le hv.1
  have hn24 : n ≤ 24 := by omega
  have hsr := shl_rng hv
  have eA : ishl 1 (n : Int) - 1 = allN n := by have := Nat.two_pow_pos n; rw [ishl_one, allN]; omega
  have hA : inN n (allN n) := inN_allN hn24
  have hS : inN n (iand .i64 s (ishl 1 (n : Int) - 1)) := by
    rw [eA]
    have := inN_iand (y := s) hn24 hA
    have e : iand .i64 s (allN n) = iand .i64 (allN n) s := rng_ext (by simp) (by simp) fun i _ => by simp only [bit_iand]; exact Bool.and_comm _ _
    rw [e]; exact this
  have ev : pathsV ⟨n, ns, top⟩ = (pathsL ⟨n, ns, top⟩, pathsE ⟨n, ns, top⟩) := by rw [pathsV, if_pos h1]
  obtain ⟨f1, f2⟩ := path_facts h1 (n := n) rfl
  refine KW.goIf lay_ok K6_ok 100 rfl (by simp [hin]) rfl trivial (fun h => ?_) fun h => ?_
  · simp only [unN_nodesC, ev] at h
    have h2 : ¬ pathsE ⟨n, ns, top⟩ = 0 := by
      have e : (!isNilB (errV 66 (pathsE ⟨n, ns, top⟩))) = true := h
      simpa using e
    have h4 : pathsE ⟨n, ns, top⟩ = 4 := f1.resolve_left h2
    refine KW.goRet lay_ok K6_ok 100 rfl rfl ?_ (by simp) trivial
    simp only [unN_nodesC, ev, h4]
    simp [SV.ren, EV.ren]
  simp only [unN_nodesC, ev] at h
  have h2 : pathsE ⟨n, ns, top⟩ = 0 := by
    have e : (!isNilB (errV 66 (pathsE ⟨n, ns, top⟩))) = false := h
    simpa using e
  have hfa := hit_facts h1 (n := n) rfl h2
  obtain ⟨g1, _, _⟩ := f2 h2
  simp only [unN_nodesC, ev]
  generalize hL : pathsL ⟨n, ns, top⟩ = L at *
  refine KW.goIf lay_ok K6_ok 100 rfl (by simp) rfl trivial (fun h => ?_) fun h => ?_
  · exact KW.goRet lay_ok K6_ok 100 rfl rfl rfl (by simp) trivial
  refine KW.goIf lay_ok K6_ok 100 rfl (by simp [ifcV_errV]) rfl trivial (fun h => ?_) fun h => ?_
  · simp only [unI_ints] at h
    have h3 : ¬ hitE L = 0 := by
      have e : (!isNilB (errV 66 (hitE L))) = true := h
      simpa using e
    have h4 : hitE L = 4 := (hit_err (listE_zero g1.1.len g1.1.val)).resolve_left h3
    refine KW.goRet lay_ok K6_ok 100 rfl rfl ?_ (by simp) trivial
    simp only [unI_ints, h4]
    simp [SV.ren, EV.ren]
  simp only [unI_ints] at h
  have h3 : hitE L = 0 := by
    have e : (!isNilB (errV 66 (hitE L))) = false := h
    simpa using e
  obtain ⟨f3, f4, f5⟩ := hfa h3
  simp only [unI_ints, h3, if_true]
  generalize hitL L = C at *
  have hcv := f3 _ hS
  have hst : stateE ⟨n, ns, top⟩ (iand .i64 s (ishl 1 (n : Int) - 1)) = 0 := by
    have := cmpl_state (f := ⟨n, ns, top⟩) h0 rfl hS false
    exact this
  have hval : valV ⟨n, ns, top⟩ (iand .i64 s (ishl 1 (n : Int) - 1)) = valueF ⟨n, ns, top⟩ (iand .i64 s (ishl 1 (n : Int) - 1)) := by simp [valV, hst]
  have hlC := listE_zero f4.len f4.val
  have hcov : (decide (listE C = 0) && validS (iand .i64 s (ishl 1 (n : Int) - 1)) && C.any fun t => subS t (iand .i64 s (ishl 1 (n : Int) - 1))) = valueF ⟨n, ns, top⟩ (iand .i64 s (ishl 1 (n : Int) - 1)) := by
    rw [hlC, hS.1]
    simp only [decide_true, Bool.true_and]
    rw [Bool.eq_iff_iff, any_cov f4.val, hcv]
  refine KW.goIf lay_ok K6_ok 100 rfl (by simp only [unN_nodesC, isN_nodesC, true_and, and_true, inK, bitsI, ifcV_errV]; simp [hin]; omega) rfl trivial (fun h => ?_) fun h => ?_
  · exfalso
    simp only [unN_nodesC, unI_ints, hst, hval, hcov, hlC, hS.1] at h
    have en : isNilB .nilIface = true := rfl
    have e0 : errV 66 0 = .nilIface := rfl
    simp [en, e0] at h
    exact h (by rw [Bool.eq_iff_iff, any_cov f4.val, hcv])
  have hlen := f4.len
  refine KW.goLpR lay_ok K6_ok 100 rfl (I := fun q : Nat => ⟨Try.f14.ntmps, [(2, .e (.r 2)), (75, .e (lV C)), (76, sI C.length), (77, sI q)], [(2, .box 24 [iV n, .c (nodesC ns), iV top] none)]⟩)
    (R := fun q => q ≤ C.length) (m := fun q => C.length - q) 0 [(2, 2)] rfl rfl ⟨rfl, rfl, rfl, rfl, trivial⟩ (by simp) (Nat.zero_le _) ⟨rfl, trivial⟩ ?_
  rintro q k1
  refine KW.goIf lay_ok K6_ok 100 rfl (by simp) rfl trivial (fun h => ?_) fun h => ?_
  · have hq : q < C.length := by simpa using h
    have hg : C.getD (Int.toNat (q : Int)) 0 = C[q] := by simp [List.getD_eq_getElem?_getD, hq]
    obtain ⟨t1, t2⟩ := f5 _ (List.getElem_mem hq)
    generalize C[q] = t at hg t1 t2
    refine KW.goIf lay_ok K6_ok 100 rfl (by simp [hq, hin]) rfl trivial (fun h => ?_) fun h => ?_
    · exfalso
      simp only [hg, unN_nodesC, t1, t2] at h
      simp at h
    · exact KW.goToR lay_ok K6_ok 100 rfl (q + 1) [(2, 2)] rfl rfl ⟨rfl, rfl, rfl, rfl, trivial⟩ (by simp [inK]; omega) ⟨by omega, by omega⟩ ⟨rfl, trivial⟩
  · refine KW.goOut lay_ok K6_ok 100 rfl (by simp) ?_
    exact KW.goRet lay_ok K6_ok 100 rfl rfl rfl (by simp) trivial
end Go.Proofs.Ytpjhpcclbenfbaa
