/-
  The laws FamilyJoins, FamilyCovers, FamilyRestricts and FamilyLattice return true; no condition.
-/
import Derived.Test.YtdhlhgomaaiggaaFnM
set_option linter.unusedVariables false
set_option linter.unusedSimpArgs false
namespace Go.Proofs.Ytdhlhgomaaiggaa
open Go.Sy Go.Pu

def okB (l : List Int) : Bool := decide (l.length ≤ 30) && decide (listE l = 0)
theorem okB_iff {l : List Int} : okB l = true ↔ l.length ≤ 30 ∧ listE l = 0 := by simp [okB]
theorem valid06_does (ls : List (List Int)) : DoesF Try.prog 19 [.c (intss ls)] [] (sB (ls.all okB)) [] := by
  refine DoesF.body _ Try.func19 rfl rfl rfl rfl ?_
  refine KW.len 0 rfl rfl fun hla => ?_
  refine KW.goLp lay_ok T17_ok 100 rfl (I := fun q : Nat => ⟨Try.f19.ntmps, [(5, .e (.c (intss ls))), (6, sI ls.length), (7, sI q)], []⟩) (R := fun q => q ≤ ls.length ∧ (ls.take q).all okB = true) (m := fun q => ls.length - q) 0 rfl ⟨rfl, rfl, rfl, trivial⟩ (by simp) ⟨by simp, by simp⟩ trivial ?_
  rintro q ⟨h1, h2⟩
  refine KW.goIf lay_ok T17_ok 100 rfl (by simp) rfl trivial (fun h => ?_) fun h => ?_
  · have hq : q < ls.length := by simpa using h
    have hg : ls.getD (Int.toNat (q : Int)) [] = ls[q] := by simp [List.getD_eq_getElem?_getD, hq]
    have hb : ∀ a : List Int, (decide ((30 : Int) < a.length) || listE a != 0) = !okB a := by
      intro a
      rw [Bool.eq_iff_iff]
      simp [okB]
      omega
    refine KW.goIf lay_ok T17_ok 100 rfl (by simp; omega) rfl trivial (fun h => ?_) fun h => ?_
    · refine KW.goOutR lay_ok T17_ok 100 rfl (by simp) ?_
      refine KW.goRet lay_ok T17_ok 100 rfl rfl ?_ (by simp) trivial
      have hf : okB ls[q] = false := by
        rw [unI_ints, hg] at h
        have := (hb ls[q]).symm.trans h
        simpa using this
      have : ls.all okB = false := by
        rw [List.all_eq_false]
        exact ⟨ls[q], List.getElem_mem hq, by simp [hf]⟩
      rw [this]; rfl
    · refine KW.goTo lay_ok T17_ok 100 rfl (q + 1) rfl ⟨rfl, rfl, rfl, trivial⟩ (by simp [inK]; omega) ⟨⟨by omega, ?_⟩, by omega⟩ trivial
      have hf : okB ls[q] = true := by
        rw [unI_ints, hg] at h
        have := (hb ls[q]).symm.trans h
        simpa using this
      rw [List.take_succ_eq_append_getElem hq, List.all_append, h2]
      simp [hf]
  · have hq : q = ls.length := by simp at h; omega
    refine KW.goOut lay_ok T17_ok 100 rfl (by simp) ?_
    refine KW.goRet lay_ok T17_ok 100 rfl rfl ?_ (by simp) trivial
    rw [hq, List.take_length] at h2
    rw [h2]; rfl

theorem lawJoins_does (a b : List Int) : DoesF Try.prog 7 [lV a, lV b] [] (sB true) [] := by
  refine DoesF.body _ Try.func7 rfl rfl rfl rfl ?_
  refine KW.goIf lay_ok T17_ok 200 rfl (by simp) rfl trivial (fun h => ?_) fun h => ?_
  · exact KW.goRet lay_ok T17_ok 200 rfl rfl rfl (by simp) trivial
  · refine KW.goRet lay_ok T17_ok 300 rfl rfl ?_ (by simp) trivial
    by_cases h0 : bothE a b = 0
    · have h1 : listE a = 0 := by unfold bothE at h0; split at h0 <;> simp_all
      have h2 : listE b = 0 := by unfold bothE at h0; split at h0 <;> simp_all
      have va : Val a := listE_valid h1
      have vb : Val b := listE_valid h2
      simp [SV.ren, EV.ren, h0, minS_eq va, minS_eq vb, minS_eq (va.append vb), minS_unionsC va vb, minS_eq (va.unionsL vb)]
    · simp [SV.ren, EV.ren, h0]

def T18 : Fns := (19, fLs (fun ls => sB (ls.all okB)) fun _ => True) :: (25, fVI (fun v c => sB (decide (numV v ≠ 0) && decide (numV v = c))) fun v c => isErr 47 v) :: T17
theorem T18_ok : FnsOk Try.prog T18 := .cons (.cons T17_ok Try.func25 rfl rfl (fVI_ok fun v c h => is_does v c h)) Try.func19 rfl rfl (fLs_ok fun ls _ => valid06_does ls)

theorem lim_small {l : List Int} (h : l.length ≤ 1024) : limL l = l ∧ limE l = 0 := by
  have : ¬ 1024 < l.length := by omega
  simp [limL, limE, this]
theorem prod_small {a b : List Int} (h : a.length * b.length ≤ 1024) : limL (minS (unionsC a b)) = minS (unionsC a b) ∧ limE (minS (unionsC a b)) = 0 :=
  lim_small (Nat.le_trans (minS_length _) (Nat.le_trans (unionsC_length a b) h))
theorem plus_small {a b : List Int} (h : a.length + b.length ≤ 1024) : limL (minS (a ++ b)) = minS (a ++ b) ∧ limE (minS (a ++ b)) = 0 :=
  lim_small (Nat.le_trans (minS_length _) (by simpa using h))

theorem lawCovers_does (a b : List Int) (s : Int) : DoesF Try.prog 6 [lV a, lV b, iV s] [] (sB true) [] := by
  refine DoesF.body _ Try.func6 rfl rfl rfl rfl ?_
  refine KW.goIf lay_ok T18_ok 200 rfl (by simp) rfl trivial (fun h => ?_) fun h => ?_
  · exact KW.goRet lay_ok T18_ok 200 rfl rfl rfl (by simp) trivial
  · have hok : okB a = true ∧ okB b = true := by simpa using h
    obtain ⟨la, ea⟩ := okB_iff.1 hok.1
    obtain ⟨lb, eb⟩ := okB_iff.1 hok.2
    have va : Val a := listE_valid ea
    have vb : Val b := listE_valid eb
    have e0 : bothE a b = 0 := bothE_zero (by omega) (by omega) va vb
    have hmul : a.length * b.length ≤ 900 := Nat.mul_le_mul la lb
    obtain ⟨p1, p2⟩ := prod_small (a := a) (b := b) (by omega)
    obtain ⟨q1, q2⟩ := plus_small (a := a) (b := b) (by omega)
    have ha := minS_length a
    have hp := minS_length (a ++ b)
    have hu := minS_length (unionsC a b)
    have hul := unionsC_length a b
    simp only [List.length_append] at hp
    have m1 : listE (minS a) = 0 := listE_zero (by omega) va.minS
    have m2 : listE (minS (a ++ b)) = 0 := listE_zero (by omega) (va.append vb).minS
    have m3 : listE (minS (unionsC a b)) = 0 := listE_zero (by omega) (va.unionsC vb).minS
    refine KW.goIf lay_ok T18_ok 200 rfl (by simp) rfl trivial (fun h => ?_) fun h => ?_
    · simp [ea, e0, q2, p2] at h
    · have vs : validS (cutS s) = true := valid_cutS s
      have k1 : ((minS a).any fun t => subS t (cutS s)) = a.any fun t => subS t (cutS s) := by
        rw [Bool.eq_iff_iff, any_cov va.minS, any_cov va, cov_minS va]
      have k2 : ((minS (a ++ b)).any fun t => subS t (cutS s)) = ((a.any fun t => subS t (cutS s)) || b.any fun t => subS t (cutS s)) := by
        rw [Bool.eq_iff_iff, Bool.or_eq_true, any_cov (va.append vb).minS, any_cov va, any_cov vb, cov_minS (va.append vb), cov_append]
      have k3 : ((minS (unionsC a b)).any fun t => subS t (cutS s)) = ((a.any fun t => subS t (cutS s)) && b.any fun t => subS t (cutS s)) := by
        rw [Bool.eq_iff_iff, Bool.and_eq_true, any_cov (va.unionsC vb).minS, any_cov va, any_cov vb, cov_minS (va.unionsC vb), cov_unionsC va vb]
      refine KW.goRet lay_ok T18_ok 300 rfl rfl ?_ ?_ trivial
      · simp [SV.ren, EV.ren, ea, eb, e0, p1, p2, q1, q2, m1, m2, m3, vs, k1, k2, k3]
      · simp [ea, eb, e0, p1, p2, q1, q2, m1, m2, m3, vs, k1, k2, k3]

theorem lawRestricts_does (l : List Int) (x y s : Int) : DoesF Try.prog 4 [lV l, .ag [.lit (.int .i64 x), .lit (.int .i64 y)], iV s] [] (sB true) [] := by
  refine DoesF.body _ Try.func4 rfl rfl rfl rfl ?_
  refine KW.goIf lay_ok T18_ok 200 rfl (by simp) rfl trivial (fun h => ?_) fun h => ?_
  · exact KW.goRet lay_ok T18_ok 200 rfl rfl rfl (by simp) trivial
  · have hok : okB l = true := by simpa using h
    obtain ⟨la, ea⟩ := okB_iff.1 hok
    have va : Val l := listE_valid ea
    have vf : validS (cutS x) = true := valid_cutS x
    have vw : validS (iandNot .i64 (cutS y) (cutS x)) = true := valid_iandNot (valid_cutS y)
    have vs : validS (iandNot .i64 (cutS s) (iandNot .i64 (cutS y) (cutS x))) = true := valid_iandNot (valid_cutS s)
    have vsf := valid_ior vs vf
    have hfw : ∀ i, bit (cutS x) i = true → bit (iandNot .i64 (cutS y) (cutS x)) i = false := fun i hi => by rw [bit_iandNot', hi]; simp
    have hsw : ∀ i, bit (iandNot .i64 (cutS s) (iandNot .i64 (cutS y) (cutS x))) i = true → bit (iandNot .i64 (cutS y) (cutS x)) i = false := fun i hi => by
      rw [bit_iandNot', Bool.and_eq_true] at hi
      have h2 := hi.2
      cases hb : bit (iandNot .i64 (cutS y) (cutS x)) i with
      | false => rfl
      | true => rw [hb] at h2; cases h2
    have h0 : iand .i64 (cutS x) (iandNot .i64 (cutS y) (cutS x)) = 0 := iand_zero.2 fun i _ hi => hfw i hi
    have hE : restrE l (cutS x) (iandNot .i64 (cutS y) (cutS x)) = 0 := by simp [restrE, ea, vf, vw, h0]
    have hr := va.restrL (cutS x) (iandNot .i64 (cutS y) (cutS x))
    have hl := restrL_length l (cutS x) (iandNot .i64 (cutS y) (cutS x))
    have hm := minS_length (restrL l (cutS x) (iandNot .i64 (cutS y) (cutS x)))
    have m1 : listE (minS (restrL l (cutS x) (iandNot .i64 (cutS y) (cutS x)))) = 0 := listE_zero (by omega) hr.minS
    have k1 : ((minS (restrL l (cutS x) (iandNot .i64 (cutS y) (cutS x)))).any fun t => subS t (iandNot .i64 (cutS s) (iandNot .i64 (cutS y) (cutS x)))) = l.any fun t => subS t (ior .i64 (iandNot .i64 (cutS s) (iandNot .i64 (cutS y) (cutS x))) (cutS x)) := by
      rw [Bool.eq_iff_iff, any_cov hr.minS, any_cov va, cov_minS hr, cov_restrL hfw hsw]
    have k2 := support_restrL va (f := cutS x) (w := iandNot .i64 (cutS y) (cutS x))
    refine KW.goIf lay_ok T18_ok 200 rfl (by simp) rfl trivial (fun h => ?_) fun h => ?_
    · simp [hE] at h
    · refine KW.goRet lay_ok T18_ok 300 rfl rfl ?_ ?_ trivial
      · simp [SV.ren, EV.ren, ea, hE, m1, vs, vsf, k1, k2]
      · simp [ea, hE, m1, vs, vsf, k1, k2]

set_option maxRecDepth 100000 in
theorem lawLattice_does (a b c : List Int) : DoesF Try.prog 5 [lV a, lV b, lV c] [] (sB true) [] := by
  refine DoesF.body _ Try.func5 rfl rfl rfl rfl ?_
  refine KW.goIf lay_ok T18_ok 200 rfl (by simp) rfl trivial (fun h => ?_) fun h => ?_
  · exact KW.goRet lay_ok T18_ok 200 rfl rfl rfl (by simp) trivial
  · have hok : (okB a = true ∧ okB b = true ∧ okB c = true) ∧ a.length ≤ 8 ∧ b.length ≤ 8 ∧ c.length ≤ 8 := by
      simp at h
      refine ⟨⟨h.1.1.1.1, h.1.1.1.2⟩, ?_, ?_, ?_⟩ <;> omega
    obtain ⟨⟨ha, hb, hc⟩, la, lb, lc⟩ := hok
    have ea := (okB_iff.1 ha).2
    have eb := (okB_iff.1 hb).2
    have ec := (okB_iff.1 hc).2
    have va : Val a := listE_valid ea
    have vb : Val b := listE_valid eb
    have vc : Val c := listE_valid ec
    have lab := Nat.le_trans (minS_length (a ++ b)) (Nat.le_of_eq (List.length_append ..))
    have lba := Nat.le_trans (minS_length (b ++ a)) (Nat.le_of_eq (List.length_append ..))
    have lbc := Nat.le_trans (minS_length (b ++ c)) (Nat.le_of_eq (List.length_append ..))
    have lac := Nat.le_trans (minS_length (a ++ c)) (Nat.le_of_eq (List.length_append ..))
    have lpq : (minS (unionsC a b)).length ≤ 64 := Nat.le_trans (minS_length _) (Nat.le_trans (unionsC_length a b) (Nat.mul_le_mul la lb))
    have lqp : (minS (unionsC b a)).length ≤ 64 := Nat.le_trans (minS_length _) (Nat.le_trans (unionsC_length b a) (Nat.mul_le_mul lb la))
    have lqr : (minS (unionsC b c)).length ≤ 64 := Nat.le_trans (minS_length _) (Nat.le_trans (unionsC_length b c) (Nat.mul_le_mul lb lc))
    have lpr : (minS (unionsC a c)).length ≤ 64 := Nat.le_trans (minS_length _) (Nat.le_trans (unionsC_length a c) (Nat.mul_le_mul la lc))
    have vab := (va.append vb).minS
    have vba := (vb.append va).minS
    have vbc := (vb.append vc).minS
    have vac := (va.append vc).minS
    have vpq := (va.unionsC vb).minS
    have vqp := (vb.unionsC va).minS
    have vqr := (vb.unionsC vc).minS
    have vpr := (va.unionsC vc).minS
    have cab : ∀ s, Cov (minS (a ++ b)) s ↔ Cov a s ∨ Cov b s := fun s => by rw [cov_minS (va.append vb), cov_append]
    have cbc : ∀ s, Cov (minS (b ++ c)) s ↔ Cov b s ∨ Cov c s := fun s => by rw [cov_minS (vb.append vc), cov_append]
    have cac : ∀ s, Cov (minS (a ++ c)) s ↔ Cov a s ∨ Cov c s := fun s => by rw [cov_minS (va.append vc), cov_append]
    have cpq : ∀ s, Cov (minS (unionsC a b)) s ↔ Cov a s ∧ Cov b s := fun s => by rw [cov_minS (va.unionsC vb), cov_unionsC va vb]
    have cqr : ∀ s, Cov (minS (unionsC b c)) s ↔ Cov b s ∧ Cov c s := fun s => by rw [cov_minS (vb.unionsC vc), cov_unionsC vb vc]
    have cpr : ∀ s, Cov (minS (unionsC a c)) s ↔ Cov a s ∧ Cov c s := fun s => by rw [cov_minS (va.unionsC vc), cov_unionsC va vc]
    have q1 := eq_true (show minS (a ++ b) = minS (b ++ a) from minS_congr (va.append vb) (vb.append va) fun s _ => by rw [cov_append, cov_append, or_comm])
    have q2 := eq_true (show minS (minS (a ++ b) ++ c) = minS (a ++ minS (b ++ c)) from minS_congr (vab.append vc) (va.append vbc) fun s _ => by rw [cov_append, cov_append, cab, cbc, or_assoc])
    have q3 := eq_true (show minS (unionsC a b) = minS (unionsC b a) from minS_congr (va.unionsC vb) (vb.unionsC va) fun s _ => by rw [cov_unionsC va vb, cov_unionsC vb va, and_comm])
    have q4 := eq_true (show minS (unionsC (minS (unionsC a b)) c) = minS (unionsC a (minS (unionsC b c))) from minS_congr (vpq.unionsC vc) (va.unionsC vqr) fun s _ => by rw [cov_unionsC vpq vc, cov_unionsC va vqr, cpq, cqr, and_assoc])
    have q5 := eq_true (show minS (unionsC a (minS (b ++ c))) = minS (minS (unionsC a b) ++ minS (unionsC a c)) from minS_congr (va.unionsC vbc) (vpq.append vpr) fun s _ => by rw [cov_unionsC va vbc, cov_append, cbc, cpq, cpr, and_or_left])
    have q6 := eq_true (show minS (a ++ minS (unionsC b c)) = minS (unionsC (minS (a ++ b)) (minS (a ++ c))) from minS_congr (va.append vqr) (vab.unionsC vac) fun s _ => by rw [cov_unionsC vab vac, cov_append, cab, cac, cqr, or_and_left])
    have b1 : bothE a b = 0 := bothE_zero (by omega) (by omega) va vb
    have b2 : bothE b a = 0 := bothE_zero (by omega) (by omega) vb va
    have b3 : bothE b c = 0 := bothE_zero (by omega) (by omega) vb vc
    have b4 : bothE (minS (a ++ b)) c = 0 := bothE_zero (by omega) (by omega) vab vc
    have b5 : bothE a (minS (b ++ c)) = 0 := bothE_zero (by omega) (by omega) va vbc
    have b6 : bothE (minS (unionsC a b)) c = 0 := bothE_zero (by omega) (by omega) vpq vc
    have b7 : bothE a (minS (unionsC b c)) = 0 := bothE_zero (by omega) (by omega) va vqr
    have b8 : bothE a c = 0 := bothE_zero (by omega) (by omega) va vc
    have b9 : bothE (minS (unionsC a b)) (minS (unionsC a c)) = 0 := bothE_zero (by omega) (by omega) vpq vpr
    have b10 : bothE (minS (a ++ b)) (minS (a ++ c)) = 0 := bothE_zero (by omega) (by omega) vab vac
    have s1 := plus_small (a := a) (b := b) (by omega)
    have s2 := plus_small (a := b) (b := a) (by omega)
    have s3 := plus_small (a := b) (b := c) (by omega)
    have s4 := plus_small (a := minS (a ++ b)) (b := c) (by omega)
    have s5 := plus_small (a := a) (b := minS (b ++ c)) (by omega)
    have s6 := plus_small (a := minS (unionsC a b)) (b := minS (unionsC a c)) (by omega)
    have s7 := plus_small (a := a) (b := minS (unionsC b c)) (by omega)
    have s8 := plus_small (a := a) (b := c) (by omega)
    have t1 := prod_small (a := a) (b := b) (Nat.le_trans (Nat.mul_le_mul la lb) (by decide))
    have t2 := prod_small (a := b) (b := a) (Nat.le_trans (Nat.mul_le_mul lb la) (by decide))
    have t3 := prod_small (a := b) (b := c) (Nat.le_trans (Nat.mul_le_mul lb lc) (by decide))
    have t4 := prod_small (a := minS (unionsC a b)) (b := c) (Nat.le_trans (Nat.mul_le_mul lpq lc) (by decide))
    have t5 := prod_small (a := a) (b := minS (unionsC b c)) (Nat.le_trans (Nat.mul_le_mul la lqr) (by decide))
    have t6 := prod_small (a := a) (b := minS (b ++ c)) (Nat.le_trans (Nat.mul_le_mul la (Nat.le_trans lbc (by omega : b.length + c.length ≤ 16))) (by decide))
    have t7 := prod_small (a := a) (b := c) (Nat.le_trans (Nat.mul_le_mul la lc) (by decide))
    have t8 := prod_small (a := minS (a ++ b)) (b := minS (a ++ c)) (Nat.le_trans (Nat.mul_le_mul (Nat.le_trans lab (by omega : a.length + b.length ≤ 16)) (Nat.le_trans lac (by omega : a.length + c.length ≤ 16))) (by decide))
    clear lab lba lbc lac lpq lqp lqr lpr vab vba vbc vac vpq vqp vqr vpr cab cbc cac cpq cqr cpr
    refine KW.goIf lay_ok T18_ok 300 rfl (by simp) rfl trivial (fun h => ?_) fun h => ?_
    · simp [b1, b2, b3, b4, b5, s1, s2, s3, s4, s5, q1, q2] at h
    · clear h
      refine KW.goIf lay_ok T18_ok 300 rfl (by simp) rfl trivial (fun h => ?_) fun h => ?_
      · simp [b1, b2, b3, b6, b7, t1, t2, t3, t4, t5, q3, q4] at h
      · clear h
        refine KW.goRet lay_ok T18_ok 300 rfl rfl ?_ ?_ trivial
        · simp [SV.ren, EV.ren, b1, b3, b5, b7, b8, b9, b10, s1, s3, s6, s7, s8, t1, t3, t6, t7, t8, q5, q6]
        · simp [b1, b3, b5, b7, b8, b9, b10, s1, s3, s6, s7, s8, t1, t3, t6, t7, t8, q5, q6]
end Go.Proofs.Ytdhlhgomaaiggaa
