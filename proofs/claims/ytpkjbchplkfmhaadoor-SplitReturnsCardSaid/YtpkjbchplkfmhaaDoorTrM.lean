/-
  The reference's Parse, Number, show: contracts.
-/
import Derived.Test.YtpkjbchplkfmhaaDoorTrK
import Derived.Test.YtpkjbchplkfmhaaDoorStQ
set_option linter.unusedSectionVars false
set_option linter.unusedVariables false
set_option linter.unusedSimpArgs false
attribute [local instance] Go.Sy.drwNo
namespace Go.Sy
theorem KW.mulW {P : Program} {A : St} {k : List K} {Q : Exit → St → Prop} {all : Array Oper} {op : Oper} {rest : List Oper} {T T2 d : Nat} {x y : Operand} {a b : Int} {p q : Prop} (ho : op.op = .binOp .mul T x y T2) (hg : op.guard = none) (hd : op.dst = some d) (hlt : Nat.blt d A.n = true)
    (hx : litOf A x = some (.int .i64 a, p)) (hy : litOf A y = some (.int .i64 b, q)) (hp : p) (hq : q) (hn : KW P (.ops all rest :: k) .normal ⟨A.n, (d, sI (IntKind.wrap .i64 (a * b))) :: A.sl, A.rs⟩ Q) : KW P (.ops all (op :: rest) :: k) .normal A Q := by
  refine KW.runV (sI (IntKind.wrap .i64 (a * b))) hg hd hlt (fun o h tm w hs => ⟨_, ?_, rfl, rfl⟩) hn
  simp only [execOp, ho]
  refine value_of ?_
  rw [(litOf_ok hs hx hp).1, (litOf_ok hs hy hq).1]
  have hgd : (eqGuard .mul T x y (.int .i64 a) (.int .i64 b)).run P w = .ok () w := by
    unfold eqGuard; split <;> first | rfl | simp_all
  simp only [Sem.run_bind, hgd, Result.andThen_ok]
  simp [binOp, Op.intArith]
theorem KW.addW {P : Program} {A : St} {k : List K} {Q : Exit → St → Prop} {all : Array Oper} {op : Oper} {rest : List Oper} {T T2 d : Nat} {x y : Operand} {a b : Int} {p q : Prop} (ho : op.op = .binOp .add T x y T2) (hg : op.guard = none) (hd : op.dst = some d) (hlt : Nat.blt d A.n = true)
    (hx : litOf A x = some (.int .i64 a, p)) (hy : litOf A y = some (.int .i64 b, q)) (hp : p) (hq : q) (hn : KW P (.ops all rest :: k) .normal ⟨A.n, (d, sI (IntKind.wrap .i64 (a + b))) :: A.sl, A.rs⟩ Q) : KW P (.ops all (op :: rest) :: k) .normal A Q := by
  refine KW.runV (sI (IntKind.wrap .i64 (a + b))) hg hd hlt (fun o h tm w hs => ⟨_, ?_, rfl, rfl⟩) hn
  simp only [execOp, ho]
  refine value_of ?_
  rw [(litOf_ok hs hx hp).1, (litOf_ok hs hy hq).1]
  have hgd : (eqGuard .add T x y (.int .i64 a) (.int .i64 b)).run P w = .ok () w := by
    unfold eqGuard; split <;> first | rfl | simp_all
  simp only [Sem.run_bind, hgd, Result.andThen_ok]
  simp [binOp, Op.intArith]
end Go.Sy
namespace Go.Pu
open Go.Sy
/-- the first digits' value -/
def preV (l : List UInt8) (from_ k : Nat) : Nat := valD 0 ((l.drop from_).take k)
theorem preV_0 (l : List UInt8) (f : Nat) : preV l f 0 = 0 := by simp [preV, valD_nil]
theorem preV_succ {l : List UInt8} {f k : Nat} (h : f + k < l.length) : preV l f (k + 1) = 10 * preV l f k + ((l.getD (f + k) 0).toNat - 48) := by
  unfold preV
  have h1 : k < (l.drop f).length := by simp; omega
  rw [List.take_add_one, List.getElem?_eq_getElem h1, Option.toList_some, valD_append, valD_cons, valD_nil]
  simp [List.getD_eq_getElem?_getD, h]
theorem preV_lt {l : List UInt8} {f k : Nat} (h : k ≤ nDg (l.drop f)) : preV l f k < 10 ^ k := by
  unfold preV
  have h1 := nDg_le (l.drop f)
  have := valD_lt ((l.drop f).take k) 0 0 (fun a ha => take_dig (l.drop f) a (by
    have : (l.drop f).take k = ((l.drop f).take (nDg (l.drop f))).take k := by rw [List.take_take]; congr 1; omega
    rw [this] at ha
    exact List.mem_of_mem_take ha)) (by decide)
  simp only [List.length_take, Nat.zero_add] at this
  rwa [Nat.min_eq_left (by omega)] at this
end Go.Pu
namespace Go.Proofs.YtpkjbchplkfmhaaDoor
open Go.Sy Go.Pu
theorem rnum_test (l : List UInt8) (m at_ from_ : Nat) (h : from_ ≤ at_) : (decide ((at_ : Int) < ((strL l).size : Int)) && decide ((48 : Int) ≤ ((((strL l).data.getD (Int.toNat (at_ : Int)) 0).toNat : Nat) : Int)) && decide ((((((strL l).data.getD (Int.toNat (at_ : Int)) 0).toNat : Nat) : Int)) ≤ 57) && decide ((at_ : Int) - (from_ : Int) ≤ (m : Int))) = (decide (at_ < l.length) && isDg (l.getD at_ 0) && decide (at_ - from_ ≤ m)) := by
  rw [num_test]
  congr 1
  rw [decide_eq_decide]; omega
theorem neg_test (l : List UInt8) : (decide ((0 : Int) < ((strL l).size : Int)) && ((((strL l).data.getD (Int.toNat 0) 0).toNat : Nat) : Int) == 45) = negB l := by
  have := byte_at l 45
  rw [show (45 : Int) = (((45 : UInt8).toNat : Nat) : Int) from rfl, this, strL_size, negB]
  congr 1
  rw [decide_eq_decide]; omega
theorem negK_le (l : List UInt8) : negK l ≤ l.length ∧ negK l ≤ 1 := by
  unfold negK negB
  split
  · rename_i h
    rw [Bool.and_eq_true, decide_eq_true_iff] at h
    exact ⟨h.1, Nat.le_refl _⟩
  · exact ⟨Nat.zero_le _, Nat.zero_le _⟩
theorem getD_drop (l : List UInt8) (i j : Nat) : (l.drop i).getD j 0 = l.getD (i + j) 0 := by
  rw [List.getD_eq_getElem?_getD, List.getD_eq_getElem?_getD, List.getElem?_drop]
theorem rnumber19_does (m : Nat) (hm : m ≤ 18) (l : List UInt8) (hx : l.length ≤ 70000) : DoesF Tryd.prog 56 [strV (strL l), iV m] [] (.tup [iV (numRP m l).1, iV ((numRP m l).2 : Nat)]) [] := by
  refine DoesF.body _ Tryd.func56 rfl rfl rfl rfl ?_
  obtain ⟨hk0, hk1⟩ := negK_le l
  refine KW.go lay_ok V1_ok 100 rfl (by simp +contextual [-Array.getD_eq_getD_getElem?]) ?_
  refine KW.join (I := fun _ : Unit => ⟨Tryd.f56.ntmps, [(0, .e (strV (strL l))), (1, sI m), (6, sI (if negB l = true then -1 else 1)), (7, sI (negK l : Nat))], []⟩) (R := fun _ => True) ?_ ?_
  · refine KW.goIf lay_ok V1_ok 100 rfl trivial rfl trivial (fun h => ?_) fun h => ?_
    · have h1 : negB l = true := (neg_test l).symm.trans h
      have h2 : negK l = 1 := by rw [negK, if_pos h1]
      exact KW.goToR lay_ok V1_ok 100 rfl () [] rfl rfl ⟨rfl, rfl, by simp only [h1, if_true]; rfl, by simp only [h2]; rfl, trivial⟩ (by simp) trivial trivial
    · have h1 : negB l = false := (neg_test l).symm.trans h
      have h2 : negK l = 0 := by rw [negK, if_neg (by rw [h1]; decide)]
      exact KW.goToR lay_ok V1_ok 100 rfl () [] rfl rfl ⟨rfl, rfl, by simp only [h1]; rfl, by simp only [h2]; rfl, trivial⟩ (by simp) trivial trivial
  rintro _ _
  have hnl := nDg_le (l.drop (negK l))
  simp only [List.length_drop] at hnl
  refine KW.goLpR lay_ok V1_ok 100 rfl (I := fun q : Nat × Int => ⟨Tryd.f56.ntmps, [(0, .e (strV (strL l))), (1, sI m), (6, sI (if negB l = true then -1 else 1)), (7, sI ((negK l + q.1 : Nat) : Int)), (8, sI (negK l : Nat)), (9, sI q.2)], []⟩)
    (R := fun q => q.1 ≤ nDg (l.drop (negK l)) ∧ q.1 ≤ m + 1 ∧ (q.1 ≤ m → q.2 = (preV l (negK l) q.1 : Nat))) (m := fun q => m + 1 - q.1) (0, 0) [] rfl rfl ⟨rfl, rfl, rfl, rfl, rfl, rfl, trivial⟩ (by simp) ⟨Nat.zero_le _, Nat.zero_le _, fun _ => by rw [preV_0]; rfl⟩ trivial ?_
  rintro ⟨q, v⟩ ⟨hq1, hq2, hq3⟩
  simp only at hq1 hq2 hq3
  refine KW.goIf lay_ok V1_ok 100 rfl ?_ rfl trivial (fun h => ?_) fun h => ?_
  · simp +contextual [-Array.getD_eq_getD_getElem?]
    simp only [inK]
    refine ⟨?_, ?_⟩ <;> (intros; omega)
  · have h1 := (rnum_test l m (negK l + q) (negK l) (by omega)).symm.trans h
    simp only [Bool.and_eq_true, decide_eq_true_eq] at h1
    obtain ⟨⟨h2, h3⟩, h4⟩ := h1
    have hq : q + 1 ≤ nDg (l.drop (negK l)) := by
      refine Classical.byContradiction fun hno => ?_
      have e : q = nDg (l.drop (negK l)) := by omega
      have h5 := nDg_end (l.drop (negK l)) (by simp only [List.length_drop]; omega)
      rw [← e, getD_drop] at h5
      rw [h5] at h3; cases h3
    have hv := hq3 (by omega)
    have hd : 48 ≤ (l.getD (negK l + q) 0).toNat ∧ (l.getD (negK l + q) 0).toNat ≤ 57 := by simpa [isDg] using h3
    have hp := preV_succ (l := l) (f := negK l) (k := q) h2
    refine KW.go lay_ok V1_ok 5 rfl (by simp) ?_
    refine KW.mulW rfl rfl rfl rfl rfl rfl trivial trivial ?_
    refine KW.go lay_ok V1_ok 5 rfl ?_ ?_
    · simp only [strL_size, strL_getD, Int.toNat_natCast, inK, bitsI, true_and, and_true]
      omega
    refine KW.addW rfl rfl rfl rfl rfl rfl trivial trivial ?_
    refine KW.goToR lay_ok V1_ok 100 rfl (q + 1, IntKind.wrap .i64 (IntKind.wrap .i64 (10 * v) + (((((strL l).data.getD (Int.toNat ((negK l + q : Nat) : Int)) 0).toNat : Nat) : Int) - 48))) [] rfl rfl ⟨rfl, rfl, rfl, rfl, rfl, rfl, trivial⟩ (by simp [inK]; omega) ⟨⟨hq, by simp only; omega, fun hm1 => ?_⟩, by simp only; omega⟩ trivial
    simp only at hm1 ⊢
    have hlt := preV_lt hq
    have hpow : 10 ^ (q + 1) ≤ 10 ^ 18 := Nat.pow_le_pow_right (by decide) (by omega)
    rw [strL_getD, Int.toNat_natCast, hv]
    rw [wrap_inK (z := 10 * ((preV l (negK l) q : Nat) : Int)) (by simp only [inK]; omega), wrap_inK (by simp only [inK]; omega)]
    omega
  · have h1 := (rnum_test l m (negK l + q) (negK l) (by omega)).symm.trans h
    have hcase : q = nDg (l.drop (negK l)) ∨ (q = m + 1 ∧ m < nDg (l.drop (negK l))) := by
      by_cases e : q ≤ m
      · refine .inl (Classical.byContradiction fun hno => ?_)
        have h5 := nDg_dig (l.drop (negK l)) q (by omega)
        rw [getD_drop] at h5
        rw [h5, decide_eq_true (show negK l + q < l.length by omega), decide_eq_true (show negK l + q - negK l ≤ m by omega)] at h1
        cases h1
      · exact .inr ⟨by omega, by omega⟩
    have hbad : ((((negK l + q : Nat) : Int) == ((negK l : Nat) : Int)) || decide ((m : Int) < ((negK l + q : Nat) : Int) - ((negK l : Nat) : Int)) || ((((((strL l).data.getD (Int.toNat ((negK l : Nat) : Int)) 0).toNat : Nat) : Int) == 48) && (decide ((1 : Int) < ((negK l + q : Nat) : Int) - ((negK l : Nat) : Int)) || decide ((if negB l = true then -1 else 1 : Int) < 0)))) = badR m l := by
      have e48 := u8_eq (l.getD (negK l) 0) 48
      rw [strL_getD, Int.toNat_natCast, show (48 : Int) = (((48 : UInt8).toNat : Nat) : Int) from rfl, e48]
      unfold badR
      rw [getD_drop, Nat.add_zero]
      have f1 : decide ((if negB l = true then -1 else 1 : Int) < 0) = negB l := by cases negB l <;> rfl
      rw [f1]
      rcases hcase with e | ⟨e, e'⟩
      · subst e
        congr 1
        · congr 1
          · rw [Bool.eq_iff_iff, beq_iff_eq, beq_iff_eq]; omega
          · rw [decide_eq_decide]; omega
        · congr 2
          rw [decide_eq_decide]; omega
      · rw [decide_eq_true (show (m : Int) < ((negK l + q : Nat) : Int) - ((negK l : Nat) : Int) by omega), decide_eq_true e']
        simp
    refine KW.goOut lay_ok V1_ok 100 rfl (by simp) ?_
    refine KW.goIf lay_ok V1_ok 100 rfl ?_ rfl trivial (fun h => ?_) fun h => ?_
    · simp +contextual [-Array.getD_eq_getD_getElem?, inK]
      refine ⟨⟨?_, ?_⟩, ?_⟩ <;> (intros; omega)
    · have h2 : badR m l = true := hbad.symm.trans h
      refine KW.goRet lay_ok V1_ok 100 rfl rfl ?_ (by simp) trivial
      rw [numRP, if_pos h2]; rfl
    · have h2 : badR m l = false := hbad.symm.trans h
      have h3 : nDg (l.drop (negK l)) ≤ m := by
        unfold badR at h2
        simp only [Bool.or_eq_false_iff, decide_eq_false_iff_not] at h2
        omega
      have e : q = nDg (l.drop (negK l)) := by omega
      have hv := hq3 (by omega)
      have hlt := preV_lt hq1
      have hpow : 10 ^ q ≤ 10 ^ 18 := Nat.pow_le_pow_right (by decide) (by omega)
      refine KW.goRet lay_ok V1_ok 100 rfl rfl ?_ ?_ trivial
      · have hR : numRP m l = ((if negB l = true then -1 else 1) * ((preV l (negK l) (nDg (l.drop (negK l))) : Nat) : Int), negK l + nDg (l.drop (negK l))) := by
          rw [numRP, if_neg (c := badR m l = true) (by rw [h2]; decide)]; rfl
        rw [hR, hv, e]; rfl
      · simp only [true_and, and_true, inK, hv]
        split <;> omega
end Go.Proofs.YtpkjbchplkfmhaaDoor
