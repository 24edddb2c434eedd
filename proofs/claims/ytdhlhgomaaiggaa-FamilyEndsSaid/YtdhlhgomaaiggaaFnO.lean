/-
  family.Maximal, Check and Sizes compute their Lean functions; the law FamilyEnds returns true; no condition.
-/
import Derived.Test.YtdhlhgomaaiggaaFnN
import Derived.Test.YtdhlhgomaaiggaaPuI
set_option linter.unusedVariables false
set_option linter.unusedSimpArgs false
namespace Go.Proofs.Ytdhlhgomaaiggaa
open Go.Sy Go.Pu

theorem maximalC_does (t x : Int) : DoesF Try.prog 50 [iV t, .pe 1 1 (fun _ q => .lit (.int .i64 x)) 0 0] [] (sB (subS x t)) [] := by
  refine DoesF.body _ Try.func50 rfl rfl rfl rfl ?_
  exact KW.goRet lay_ok T18_ok 100 rfl rfl rfl (by simp) trivial

theorem maximal_does (l : List Int) : DoesF Try.prog 30 [lV l] [] (.tup [lV (if listE l = 0 then maxS l else []), eV (listE l)]) [] := by
  refine DoesF.body _ Try.func30 rfl rfl rfl rfl ?_
  refine KW.goIf lay_ok T18_ok 100 rfl (by simp) rfl trivial (fun h => ?_) fun h => ?_
  · refine KW.go lay_ok T18_ok 100 rfl (by simp) ?_
    refine KW.conv 2 (ints []) rfl ⟨rfl, rfl⟩ ?_
    refine KW.fin [] rfl rfl ?_ trivial
    simp [listsE_one] at h
    simp [SV.ren, renL, EV.ren, listsE_one, h]
  · simp [listsE_one] at h
    have hlen := listE_len h
    have hv : Val l := listE_valid h
    have hSl := sortedL_length l
    refine KW.go lay_ok T18_ok 100 rfl (by simpa using ⟨hv, by omega⟩) ?_
    simp only [unI_ints]
    have hmx : maxS l = maxL (sortedL l) := rfl
    generalize hS : sortedL l = S at hSl hmx
    refine KW.nilO 5 5 3 (ints []) rfl rfl rfl ?_
    refine KW.lp (I := fun q : List Int × Nat => ⟨Try.f30.ntmps, [(5, .e (.r 5)), (6, .e (lV S)), (17, .e (lV S)), (18, sI S.length), (19, sI q.2)], [(5, .own 3 (ints q.1))]⟩)
      (R := fun q => q.2 ≤ S.length ∧ q.1 ++ maxL (S.drop q.2) = maxL S ∧ q.1.length ≤ q.2) (m := fun q => S.length - q.2) ([], 0) ⟨by simp, by simp, by simp⟩ [(5, 5)] ⟨rfl, rfl, ⟨rfl, rfl, rfl, rfl, rfl, trivial⟩, ⟨rfl, trivial⟩⟩ ?_
    rintro ⟨out, q⟩ ⟨h1, h2, h3⟩
    simp only at h1 h2 h3
    refine KW.goIf lay_ok T18_ok 100 rfl (by simp) rfl trivial (fun h4 => ?_) fun h4 => ?_
    · have hq : q < S.length := by simpa using h4
      have hg : S.getD (Int.toNat (q : Int)) 0 = S[q] := by simp [List.getD_eq_getElem?_getD, hq]
      have hd : S.drop q = S[q] :: S.drop (q + 1) := List.drop_eq_getElem_cons hq
      have e1 : ((q : Int) + 1).toNat = q + 1 := by omega
      have hdr := isI_drop S (S.length - (q + 1)) (q + 1) (by omega)
      have hdr2 : unI (.sl (S.length - (q + 1)) 1 fun e _ => .lit (.int .i64 (S.getD (e + (q + 1)) 0))) = S.drop (q + 1) := by rw [hdr.2, List.take_of_length_le (by simp)]
      rw [hd, maxL] at h2
      refine KW.go lay_ok T18_ok 100 rfl (by simp [inK]; omega) ?_
      refine KW.callV0 (containsFunc_does (m := 1) (ks := fun _ => 1) (caps := fun _ _ => .lit (.int .i64 S[q])) (p := fun t => subS S[q] t) (S.drop (q + 1)) ⟨enters Try.func50 rfl rfl, fun x _ => maximalC_does x S[q]⟩) (enters Try.func36 rfl rfl) [8] (.inl rfl) rfl rfl rfl rfl rfl trivial
        ⟨⟨_, _, rfl, trivial, .conv ?_⟩, ⟨_, _, rfl, trivial, .lfn rfl ?_⟩, trivial⟩ rfl (.inr trivial) ?_
      · show CVEq (.sl ((S.length : Int).toNat - ((q : Int) + 1).toNat) 1 fun e _ => .lit (.int .i64 (S.getD (e + ((q : Int) + 1).toNat) 0))) _
        rw [e1, Int.toNat_natCast, ← hdr2]
        exact hdr.1
      · intro j hj
        obtain rfl : j = 0 := by omega
        refine ⟨8, _, _, _, rfl, rfl, rfl, rfl, fun q' hq' => ?_⟩
        obtain rfl : q' = 0 := by omega
        show some (EV.c (.lit (.int .i64 (S.getD (Int.toNat (q : Int)) 0)))) = _
        rw [hg]
      · refine KW.goIf lay_ok T18_ok 100 rfl (by simp) rfl trivial (fun h5 => ?_) fun h5 => ?_
        · have hc : ((S.drop (q + 1)).any fun t => subS S[q] t) = false := by simpa using h5
          rw [hc] at h2
          refine KW.goToR lay_ok T18_ok 100 rfl (out ++ [S[q]], q + 1) [(5, 34)] rfl rfl ⟨rfl, rfl, rfl, rfl, rfl, trivial⟩ (by simp [inK] <;> omega) ⟨⟨by simp only; omega, by simpa using h2, by simp; omega⟩, by simp only; omega⟩ ⟨own_cat _ ?_, trivial⟩
          rw [hg]
        · have hc : ((S.drop (q + 1)).any fun t => subS S[q] t) = true := by simpa using h5
          rw [hc] at h2
          refine KW.goToR lay_ok T18_ok 100 rfl (out, q + 1) [(5, 5)] rfl rfl ⟨rfl, rfl, rfl, rfl, rfl, trivial⟩ (by simp [inK] <;> omega) ⟨⟨by simp only; omega, by simpa using h2, by simp only; omega⟩, by simp only; omega⟩ ⟨rfl, trivial⟩
    · have hq : q = S.length := by simp at h4; omega
      refine KW.goOut lay_ok T18_ok 100 rfl (by simp) ?_
      refine KW.go lay_ok T18_ok 100 rfl (by simp) ?_
      refine KW.frz 5 [2] rfl rfl rfl ?_
      refine KW.fin [] rfl rfl ?_ trivial
      rw [hq, List.drop_length, maxL, List.append_nil] at h2
      simp [SV.ren, renL, EV.ren, h, h2, hmx, errV]

theorem check_does (l : List Int) : DoesF Try.prog 31 [lV l] [] (.e (eV (checkE l))) [] := by
  refine DoesF.body _ Try.func31 rfl rfl rfl rfl ?_
  refine KW.goIf lay_ok T18_ok 100 rfl (by simp) rfl trivial (fun h => ?_) fun h => ?_
  · refine KW.goRet lay_ok T18_ok 100 rfl rfl ?_ (by simp) trivial
    simp [listsE_one] at h
    simp [SV.ren, EV.ren, listsE_one, checkE, h]
  · simp [listsE_one] at h
    have hlen := listE_len h
    have hv : Val l := listE_valid h
    refine KW.goIf lay_ok T18_ok 100 rfl (by simpa using ⟨hv, by omega⟩) rfl trivial (fun h1 => ?_) fun h1 => ?_
    · refine KW.goRet lay_ok T18_ok 100 rfl rfl ?_ (by simp) trivial
      have : ¬ l = sortedL l := by simpa using h1
      simp [SV.ren, EV.ren, checkE, h, this, errV]
    · have hs : l = sortedL l := by simpa using h1
      refine KW.goIf lay_ok T18_ok 100 rfl (by simpa using ⟨hv, by omega⟩) rfl trivial (fun h2 => ?_) fun h2 => ?_
      · refine KW.goRet lay_ok T18_ok 100 rfl rfl ?_ (by simp) trivial
        have : ¬ (minS l).length = l.length := by simp at h2; omega
        simp [SV.ren, EV.ren, checkE, h, ← hs, this, errV]
      · refine KW.goRet lay_ok T18_ok 100 rfl rfl ?_ (by simp) trivial
        have : (minS l).length = l.length := by simp at h2; omega
        simp [SV.ren, EV.ren, checkE, h, ← hs, this, errV]

theorem sizes_does (l : List Int) : DoesF Try.prog 32 [lV l] [] (.tup [lV (if listE l = 0 then sizeL [] (sortedL l) else []), eV (listE l)]) [] := by
  refine DoesF.body _ Try.func32 rfl rfl rfl rfl ?_
  refine KW.goIf lay_ok T18_ok 100 rfl (by simp) rfl trivial (fun h => ?_) fun h => ?_
  · refine KW.go lay_ok T18_ok 100 rfl (by simp) ?_
    refine KW.conv 2 (ints []) rfl ⟨rfl, rfl⟩ ?_
    refine KW.fin [] rfl rfl ?_ trivial
    simp [listsE_one] at h
    simp [SV.ren, renL, EV.ren, listsE_one, h]
  · simp [listsE_one] at h
    have hlen := listE_len h
    have hv : Val l := listE_valid h
    have hSl := sortedL_length l
    refine KW.go lay_ok T18_ok 100 rfl (by simpa using ⟨hv, by omega⟩) ?_
    simp only [unI_ints]
    generalize hS : sortedL l = S at hSl
    refine KW.nilO 5 5 3 (ints []) rfl rfl rfl ?_
    refine KW.lp (I := fun q : List Int × Nat => ⟨Try.f32.ntmps, [(5, .e (.r 5)), (16, .e (lV S)), (17, sI S.length), (18, sI q.2)], [(5, .own 3 (ints q.1))]⟩)
      (R := fun q => q.2 ≤ S.length ∧ sizeL q.1 (S.drop q.2) = sizeL [] S ∧ SzOk q.1 q.2) (m := fun q => S.length - q.2) ([], 0) ⟨by simp, by simp, by simp [SzOk]⟩ [(5, 5)] ⟨rfl, rfl, ⟨rfl, rfl, rfl, rfl, trivial⟩, ⟨rfl, trivial⟩⟩ ?_
    rintro ⟨out, q⟩ ⟨h1, h2, h3⟩
    simp only at h1 h2 h3
    refine KW.goIf lay_ok T18_ok 100 rfl (by simp) rfl trivial (fun h4 => ?_) fun h4 => ?_
    · have hq : q < S.length := by simpa using h4
      have hg : S.getD (Int.toNat (q : Int)) 0 = S[q] := by simp [List.getD_eq_getElem?_getD, hq]
      have hd : S.drop q = S[q] :: S.drop (q + 1) := List.drop_eq_getElem_cons hq
      have hc := cntS_le S[q]
      have hpl := padL_length (cntS S[q]).toNat out
      have hol := h3.1
      rw [hd, sizeL] at h2
      have hstep := h3.step (n := (cntS S[q]).toNat) (by omega)
      refine KW.goLpR lay_ok T18_ok 100 rfl (I := fun j : Nat => ⟨Try.f32.ntmps, [(5, .e (.r 5)), (8, sI (cntS S[q])), (16, .e (lV S)), (17, sI S.length), (18, sI q)], [(5, .own 3 (ints (out ++ List.replicate j 0)))]⟩)
        (R := fun j => j ≤ (cntS S[q]).toNat + 1 - out.length) (m := fun j => (cntS S[q]).toNat + 1 - out.length - j) 0 [(5, 5)] rfl rfl ⟨rfl, by rw [← hg]; rfl, rfl, rfl, rfl, trivial⟩ (by simp; omega) (by omega) ⟨own_cat1 _ (by simp), trivial⟩ ?_
      rintro j hj
      have hjl : (out ++ List.replicate j (0 : Int)).length = out.length + j := by simp
      refine KW.goIf lay_ok T18_ok 100 rfl (by simp) rfl trivial (fun h5 => ?_) fun h5 => ?_
      · have h5' : ((out ++ List.replicate j (0 : Int)).length : Int) ≤ cntS S[q] := of_decide_eq_true h5
        refine KW.goToR lay_ok T18_ok 100 rfl (j + 1) [(5, 30)] rfl rfl ⟨rfl, rfl, rfl, rfl, rfl, trivial⟩ (by simp [inK] <;> omega) ⟨by omega, by omega⟩ ⟨own_cat _ ?_, trivial⟩
        rw [List.append_assoc, List.replicate_succ']
      · have h5' : ¬ ((out ++ List.replicate j (0 : Int)).length : Int) ≤ cntS S[q] := of_decide_eq_false h5
        have hj' : j = (cntS S[q]).toNat + 1 - out.length := by omega
        have hpad : out ++ List.replicate j 0 = padL (cntS S[q]).toNat out := by rw [hj']; rfl
        rw [hpad]
        have hget : ∀ x ∈ padL (cntS S[q]).toNat out, 0 ≤ x ∧ x ≤ (q : Int) := by
          intro x hx
          unfold padL at hx
          rcases List.mem_append.1 hx with hx | hx
          · exact h3.2 x hx
          · have := List.eq_of_mem_replicate hx
            omega
        have hgv : 0 ≤ (padL (cntS S[q]).toNat out).getD (cntS S[q]).toNat 0 ∧ (padL (cntS S[q]).toNat out).getD (cntS S[q]).toNat 0 ≤ (q : Int) := by
          refine hget _ ?_
          rw [List.getD_eq_getElem?_getD, List.getElem?_eq_getElem hpl.1]; exact List.getElem_mem _
        refine KW.goOut lay_ok T18_ok 100 rfl (by simp) ?_
        refine KW.go lay_ok T18_ok 100 rfl (by simp only [inK, true_and, and_true]; omega) ?_
        refine KW.updI 5 rfl ?_
        exact KW.to (bumpL (cntS S[q]).toNat (padL (cntS S[q]).toNat out), q + 1) ⟨⟨by simp only; omega, h2, hstep⟩, by simp only; omega⟩ [(5, 5)] ⟨rfl, rfl, ⟨rfl, rfl, rfl, rfl, trivial⟩, ⟨rfl, trivial⟩⟩
    · have hq : q = S.length := by simp at h4; omega
      refine KW.goOut lay_ok T18_ok 100 rfl (by simp) ?_
      refine KW.go lay_ok T18_ok 100 rfl (by simp) ?_
      refine KW.frz 5 [2] rfl rfl rfl ?_
      refine KW.fin [] rfl rfl ?_ trivial
      rw [hq, List.drop_length, sizeL] at h2
      simp [SV.ren, renL, EV.ren, h, h2, errV]

def T19 : Fns := (30, fL (fun l => .tup [lV (if listE l = 0 then maxS l else []), eV (listE l)]) fun _ => True) :: (31, fL (fun l => .e (eV (checkE l))) fun _ => True) ::
  (32, fL (fun l => .tup [lV (if listE l = 0 then sizeL [] (sortedL l) else []), eV (listE l)]) fun _ => True) :: T18
theorem T19_ok : FnsOk Try.prog T19 := .cons (.cons (.cons T18_ok Try.func32 rfl rfl (fL_ok fun l _ => sizes_does l)) Try.func31 rfl rfl (fL_ok fun l _ => check_does l)) Try.func30 rfl rfl (fL_ok fun l _ => maximal_does l)

theorem lawEnds_does (l : List Int) : DoesF Try.prog 8 [lV l] [] (sB true) [] := by
  refine DoesF.body _ Try.func8 rfl rfl rfl rfl ?_
  refine KW.len 0 rfl rfl fun hla => ?_
  refine KW.goIf lay_ok T19_ok 200 rfl (by simp) rfl trivial (fun h => ?_) fun h => ?_
  · exact KW.goRet lay_ok T19_ok 200 rfl rfl rfl (by simp) trivial
  · have hok : okB l = true := by simpa using h
    obtain ⟨la, ea⟩ := okB_iff.1 hok
    have hv : Val l := listE_valid ea
    have hl1 := minS_length l
    have hl2 := maxS_length l
    have e1 : listE (minS l) = 0 := listE_zero (by omega) hv.minS
    have e2 : listE (maxS l) = 0 := listE_zero (by omega) hv.maxS
    obtain ⟨a1, a2, a3, a4⟩ := anti_min hv
    obtain ⟨b1, b2, b3, b4⟩ := anti_max hv
    have c1 : checkE (minS l) = 0 := by simp [checkE, e1, a1, a2]
    have c2 : checkE (maxS l) = 0 := by simp [checkE, e2, b1, b2]
    have lo_ok : ∀ s ∈ l, ((minS l).any fun x => iand .i64 x s == x) = true := fun s hs => by
      obtain ⟨u, hu, hp⟩ := below hv hs
      rw [List.any_eq_true]
      exact ⟨u, hu, by rw [beq_iff_eq]; exact (iand_part (hv.minS u hu)).2 hp⟩
    have hi_ok : ∀ s ∈ l, ((maxS l).any fun x => iand .i64 x s == s) = true := fun s hs => by
      obtain ⟨u, hu, hp⟩ := above hv hs
      rw [List.any_eq_true]
      refine ⟨u, hu, ?_⟩
      rw [beq_iff_eq]
      refine valid_ext (valid_iand (hv.maxS u hu)) (hv s hs) fun i _ => ?_
      rw [bit_iand]
      cases hb : bit s i with
      | false => simp
      | true => rw [hp i hb]; rfl
    have hsz : SzOk (sizeL [] (minS l)) (minS l).length := by simpa using SzOk.sizeL (minS l) (out := []) (q := 0) (by simp [SzOk])
    have hsum : (sizeL [] (minS l)).sum = (minS l).length := by rw [sum_sizeL]; simp
    have a4l : (sortS (minS l)).length = (minS l).length := by rw [a4]
    refine KW.goIf lay_ok T19_ok 300 rfl (by simp) rfl trivial (fun h => ?_) fun h => ?_
    · simp [ea, e1, e2, a2, b3, c1, c2] at h
    · clear h
      simp only [unI_ints, ea, e1, e2, if_true]
      generalize hlo : minS l = lo at *
      generalize hhi : maxS l = hi at *
      refine KW.goLp lay_ok T19_ok 100 rfl (I := fun q : Nat => ⟨Try.f8.ntmps, [(3, .e (lV lo)), (5, .e (lV hi)), (89, .e (lV l)), (90, sI l.length), (91, sI q)], []⟩) (R := fun q => q ≤ l.length) (m := fun q => l.length - q) 0 rfl ⟨rfl, rfl, rfl, rfl, rfl, trivial⟩ (by simp) (by simp) trivial ?_
      rintro q hq0
      refine KW.goIf lay_ok T19_ok 100 rfl (by simp) rfl trivial (fun h1 => ?_) fun h1 => ?_
      · have hq : q < l.length := by simpa using h1
        have hg : l.getD (Int.toNat (q : Int)) 0 = l[q] := by simp [List.getD_eq_getElem?_getD, hq]
        have hmem : l[q] ∈ l := List.getElem_mem hq
        have k1 := lo_ok _ hmem
        have k2 := hi_ok _ hmem
        refine KW.goLp lay_ok T19_ok 100 rfl (I := fun p : Nat => ⟨Try.f8.ntmps, [(3, .e (lV lo)), (5, .e (lV hi)), (12, sI l[q]), (13, sB ((lo.take p).any fun x => iand .i64 x l[q] == x)), (14, sB false), (89, .e (lV l)), (90, sI l.length), (91, sI q), (95, .e (lV lo)), (96, sI lo.length), (97, sI p)], []⟩) (R := fun p => p ≤ lo.length) (m := fun p => lo.length - p) 0 rfl ⟨rfl, rfl, by rw [← hg]; rfl, rfl, rfl, rfl, rfl, rfl, rfl, rfl, rfl, trivial⟩ (by simp; omega) (by simp) trivial ?_
        rintro p hp0
        refine KW.goIf lay_ok T19_ok 100 rfl (by simp) rfl trivial (fun h2 => ?_) fun h2 => ?_
        · have hp : p < lo.length := by simpa using h2
          have hgp : lo.getD (Int.toNat (p : Int)) 0 = lo[p] := by simp [List.getD_eq_getElem?_getD, hp]
          refine KW.goTo lay_ok T19_ok 100 rfl (p + 1) rfl ⟨rfl, rfl, rfl, ?_, rfl, rfl, rfl, rfl, rfl, rfl, rfl, trivial⟩ (by simp [inK] <;> omega) ⟨by omega, by omega⟩ trivial
          rw [List.take_succ_eq_append_getElem hp, List.any_append, ← hgp]
          simp only [List.any_cons, List.any_nil, Bool.or_false]
          rfl
        · have hp : p = lo.length := by simp at h2; omega
          refine KW.goOut lay_ok T19_ok 100 rfl (by simp) ?_
          rw [hp, List.take_length, k1]
          refine KW.goLp lay_ok T19_ok 100 rfl (I := fun p : Nat => ⟨Try.f8.ntmps, [(3, .e (lV lo)), (5, .e (lV hi)), (12, sI l[q]), (13, sB true), (14, sB ((hi.take p).any fun x => iand .i64 x l[q] == l[q])), (89, .e (lV l)), (90, sI l.length), (91, sI q), (110, .e (lV hi)), (111, sI hi.length), (112, sI p)], []⟩) (R := fun p => p ≤ hi.length) (m := fun p => hi.length - p) 0 rfl ⟨rfl, rfl, rfl, rfl, rfl, rfl, rfl, rfl, rfl, rfl, rfl, trivial⟩ (by simp) (by simp) trivial ?_
          rintro p hp0
          refine KW.goIf lay_ok T19_ok 100 rfl (by simp) rfl trivial (fun h3 => ?_) fun h3 => ?_
          · have hp : p < hi.length := by simpa using h3
            have hgp : hi.getD (Int.toNat (p : Int)) 0 = hi[p] := by simp [List.getD_eq_getElem?_getD, hp]
            refine KW.goTo lay_ok T19_ok 100 rfl (p + 1) rfl ⟨rfl, rfl, rfl, rfl, ?_, rfl, rfl, rfl, rfl, rfl, rfl, trivial⟩ (by simp [inK] <;> omega) ⟨by omega, by omega⟩ trivial
            rw [List.take_succ_eq_append_getElem hp, List.any_append, ← hgp]
            simp only [List.any_cons, List.any_nil, Bool.or_false]
            rfl
          · have hp : p = hi.length := by simp at h3; omega
            refine KW.goOut lay_ok T19_ok 100 rfl (by simp) ?_
            rw [hp, List.take_length, k2]
            refine KW.goIf lay_ok T19_ok 100 rfl (by simp) rfl trivial (fun h4 => by simp at h4) fun h4 => ?_
            exact KW.goTo lay_ok T19_ok 100 rfl (q + 1) rfl ⟨rfl, rfl, rfl, rfl, rfl, trivial⟩ (by simp [inK] <;> omega) ⟨by omega, by omega⟩ trivial
      · have hq : q = l.length := by simp at h1; omega
        refine KW.goOut lay_ok T19_ok 100 rfl (by simp) ?_
        refine KW.go lay_ok T19_ok 100 rfl (by simp) ?_
        simp only [unI_ints, e1, a1, if_true]
        generalize hZ : sizeL [] lo = Z at hsz hsum
        refine KW.lp (I := fun q : Nat => ⟨Try.f8.ntmps, [(3, .e (lV lo)), (20, .e (eV 0)), (21, sI (Z.take q).sum), (137, .e (lV Z)), (138, sI Z.length), (139, sI q)], []⟩) (R := fun q => q ≤ Z.length) (m := fun q => Z.length - q) 0 (by simp) [] ⟨rfl, rfl, ⟨rfl, rfl, rfl, rfl, rfl, rfl, trivial⟩, trivial⟩ ?_
        rintro q hq0
        have hz := hsz.1
        refine KW.goIf lay_ok T19_ok 100 rfl (by simp) rfl trivial (fun h2 => ?_) fun h2 => ?_
        · have hq : q < Z.length := by simpa using h2
          have hgz : Z.getD (Int.toNat (q : Int)) 0 = Z[q] := by simp [List.getD_eq_getElem?_getD, hq]
          have hs1 : (Z.take (q + 1)).sum = (Z.take q).sum + Z.getD (Int.toNat (q : Int)) 0 := by
            rw [List.take_succ_eq_append_getElem hq, List.sum_append, hgz]; simp
          have hb := sum_bound (B := lo.length) (by omega) (Z.take (q + 1)) fun x hx => hsz.2 x (List.mem_of_mem_take hx)
          have hbl : ((Z.take (q + 1)).length : Int) * lo.length ≤ 25 * 30 := by
            have h1 := hsz.1
            have : (Z.take (q + 1)).length * lo.length ≤ 25 * 30 := Nat.mul_le_mul (by simp; omega) (by omega)
            exact_mod_cast this
          have hin : 0 ≤ (Z.take q).sum + Z.getD (Int.toNat (q : Int)) 0 ∧ (Z.take q).sum + Z.getD (Int.toNat (q : Int)) 0 ≤ 750 := by rw [← hs1]; omega
          refine KW.goTo lay_ok T19_ok 100 rfl (q + 1) rfl ⟨rfl, rfl, ?_, rfl, rfl, rfl, trivial⟩ (by simp only [inK, true_and, and_true]; omega) ⟨by omega, by omega⟩ trivial
          rw [hs1]; rfl
        · have hq : q = Z.length := by simp at h2; omega
          refine KW.goOut lay_ok T19_ok 100 rfl (by simp) ?_
          refine KW.goRet lay_ok T19_ok 100 rfl rfl ?_ (by simp; omega) trivial
          rw [hq, List.take_length, hsum]
          simp [SV.ren, EV.ren, a4l]
end Go.Proofs.Ytdhlhgomaaiggaa
