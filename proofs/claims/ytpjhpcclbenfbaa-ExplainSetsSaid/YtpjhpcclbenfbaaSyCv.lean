/-
  SYMBOLIC STATES: functions whose results lie in variables of their own.
-/
import Derived.Test.YtpjhpcclbenfbaaSyZ
set_option linter.unusedVariables false
set_option linter.unusedSimpArgs false
namespace Go.Sy
def rvE (lay : Lay) (A : St) : ResultVar → Option EV
  | .tmp t => match lk A.sl t with
    | some (.e x) => some x
    | _ => none
  | .cell a t => match lk lay t, lk A.sl a with
    | some ⟨s, agg, _, _⟩, some (.e (.r i)) => match lk A.rs i with
      | some (.box _ cs _) => match ldBox agg s cs 0 True with
        | some (.e x, _) => some x
        | _ => none
      | _ => none
    | _, _ => none
def rvEs (lay : Lay) (A : St) : List ResultVar → Option (List EV)
  | [] => some []
  | x :: l => match rvE lay A x, rvEs lay A l with
    | some e, some es => some (e :: es)
    | _, _ => none
def retC (lay : Lay) (A : St) (rv : List ResultVar) : Option SV :=
  match rv with
  | [x] => match rvE lay A x with
    | some e => some (.e e)
    | none => none
  | rv => match rvEs lay A rv with
    | some es => some (.tup es)
    | none => none
section
variable {P : Program} {lay : Lay} {A A' : St} {Q : Exit → St → Prop} {k k' : List K} {e : Exit} {o : Nat → Tag} {h : Nat → Value} {tm : Array Value} {w : World}
theorem rvE_ok (hl : LayOk P lay) (hs : Sat o h A tm w) {x : ResultVar} {y : EV} (hr : rvE lay A x = some y) : ∃ v, (rvS tm x).run P w = .ok v w ∧ EvOk o h w y v := by
  unfold rvE at hr
  split at hr
  · rename_i t
    split at hr
    · rename_i z hz
      simp only [Option.some.injEq] at hr
      subst hr
      exact ⟨_, rfl, hs.slot t _ hz⟩
    · cases hr
  · rename_i a t
    split at hr
    · rename_i s agg td z i hT ha
      split at hr
      · rename_i T cs bk hb
        split at hr
        · rename_i z0 p0 hld
          simp only [Option.some.injEq] at hr
          subst hr
          obtain ⟨b, vs, hbk, h1, h2, h3, h4, h5⟩ := hs.res i _ hb
          obtain ⟨v, hv, hx⟩ := ldBox_ok hl hT h2 h4 h5 hld
          have h0 : tm.getD a undef = h i := hs.slot a _ ha
          refine ⟨v, ?_, hx⟩
          rw [← hv]
          simp [rvS, h0, h1, asAddr, Instr.loadAt, Instr.sureAddr]
        · cases hr
      · cases hr
    · cases hr
theorem rvEs_ok (hl : LayOk P lay) (hs : Sat o h A tm w) : ∀ {l : List ResultVar} {ys : List EV}, rvEs lay A l = some ys → ∃ vs : List Value, (l.mapM (rvS tm)).run P w = .ok vs w ∧ vs.length = ys.length ∧ ∀ (q : Nat) y, ys[q]? = some y → ∃ v, vs[q]? = some v ∧ EvOk o h w y v
  | [], ys, hr => by
    simp only [rvEs, Option.some.injEq] at hr
    subst hr
    exact ⟨[], rfl, rfl, by simp⟩
  | x :: l, ys, hr => by
    simp only [rvEs] at hr
    split at hr
    · rename_i e es h1 h2
      simp only [Option.some.injEq] at hr
      subst hr
      obtain ⟨v, g1, g2⟩ := rvE_ok hl hs h1
      obtain ⟨vs, g3, g4, g5⟩ := rvEs_ok hl hs h2
      refine ⟨v :: vs, by simp only [List.mapM_cons, Sem.run_bind, g1, g3, Result.andThen_ok, Sem.run_pure], by simp [g4], fun q y hq => ?_⟩
      cases q with
      | zero => simp at hq; subst hq; exact ⟨v, rfl, g2⟩
      | succ q => simp at hq; simpa using g5 q y hq
    · cases hr
theorem resultsC_ok (hl : LayOk P lay) (hs : Sat o h A tm w) {fn : Func} {y : SV} (hr : retC lay A fn.results.toList = some y) : ∃ v, (results fn tm).run P w = .ok v w ∧ SvOk o h w y v := by
  have hM : ∀ vs : List Value, (fn.results.toList.mapM (rvS tm)).run P w = .ok vs w → (results fn tm).run P w = .ok (if h : vs.toArray.size = 1 then vs.toArray[0] else .tuple vs.toArray) w := fun vs hv => by
    have : (fn.results.mapM (rvS tm)).run P w = .ok vs.toArray w := by
      rw [Array.mapM_eq_mapM_toList]
      simp only [Sem.run_map]
      rw [hv]; rfl
    rw [results_eq]
    simp only [Sem.run_bind, this, Result.andThen_ok, Sem.run_pure]
  unfold retC at hr
  split at hr
  · rename_i x hx
    split at hr
    · rename_i e he
      simp only [Option.some.injEq] at hr
      subst hr
      obtain ⟨v, g1, g2⟩ := rvE_ok hl hs he
      exact ⟨_, hM [v] (by rw [hx]; simp [g1]), g2⟩
    · cases hr
  · rename_i rv hne
    split at hr
    · rename_i es he
      simp only [Option.some.injEq] at hr
      subst hr
      obtain ⟨vs, g3, g4, g5⟩ := rvEs_ok hl hs he
      refine ⟨_, hM vs g3, ?_⟩
      have hlen : vs.toArray.size ≠ 1 := by
        intro h1
        have hl2 : es.length = 1 := by rw [← g4]; simpa using h1
        match hres : fn.results.toList, he with
        | [], he => simp only [rvEs, Option.some.injEq] at he; subst he; simp at hl2
        | [x], _ => exact hne x hres
        | x :: x' :: l, he =>
          simp only [rvEs] at he
          split at he
          · rename_i e es' _ h2
            split at h2
            · simp only [Option.some.injEq] at he h2
              subst h2; subst he; simp at hl2
            · cases h2
          · cases he
      rw [dif_neg hlen]
      exact ⟨_, rfl, by simp [g4], fun q x hq => by simpa using g5 q x hq⟩
    · cases hr
/-- a function's contract, out of its body -/
theorem DoesF.ofC (hlay : LayOk P lay) {f : FuncId} {fn : Func} {c : Code} {ys : List EV} {rs rs' : List (Nat × Res)} {y : SV} (n : Nat) (hf : P.funcs[f]? = some fn) (hb : fn.body = some c) (hnt : fn.ntmps = n) (hn : Nat.ble ys.length n = true)
    (hk : KW P [.code c] .normal ⟨n, idx 0 ys, rs⟩ fun e A' => (e = .ret ∨ e = .normal) ∧ ∃ y0 ρ, retC lay A' fn.results.toList = some y0 ∧ oneB ρ = true ∧ y0 = y.ren ρ ∧ subR ρ A' rs') :
    DoesF P f ys rs y rs' := by
  subst hnt
  have hn : ys.length ≤ fn.ntmps := by simpa using hn
  intro o h args w hs
  refine calls_of_wp hf hb ?_
  have hsz : args.size = ys.length := hs.size
  have hs' : Sat o h ⟨fn.ntmps, idx 0 ys, rs⟩ (args ++ Array.replicate (fn.ntmps - args.size) undef) w := by
    refine ⟨by simp [hsz]; omega, hs.tags, fun s x hl => ?_, hs.res⟩
    have := hs.slot s x hl
    obtain ⟨_, hlt, _⟩ := idx_lt ys 0 s x hl
    have e1 : (args ++ Array.replicate (fn.ntmps - args.size) undef).getD s undef = args.getD s undef := by
      rw [Array.getD_eq_getD_getElem?, Array.getD_eq_getD_getElem?, Array.getElem?_append_left (by omega)]
    rw [e1]; exact this
  refine wp_mono (hk o h _ w hs') ?_
  rintro e ⟨tm', ds⟩ w' hl
  obtain ⟨hd, o', h', A', ⟨he, y0, ρ, hr, h1, rfl, hR⟩, hs2, hx⟩ : lift _ o w e ⟨tm', ds⟩ w' := by
    cases e <;> exact hl
  simp only at hd
  subst hd
  obtain ⟨v, hv, hy⟩ := resultsC_ok (P := P) hlay hs2 hr
  have hfin : ∃ v o' h', Ending.returned v = .returned v ∧ Sat o' h' ⟨1, [(0, y)], rs'⟩ #[v] w' ∧ Ext o w o' w' ∧ (results fn tm').run P w' = .ok v w' := by
    refine ⟨v, viewO ρ (fun _ => false) o', viewH ρ h', rfl, ⟨rfl, tags_view hs2 ρ _, fun s x hl => ?_, fun j r hl => ?_⟩, hx.trans ⟨Nat.le_refl _, rfl, rfl, rfl, Nat.le_refl _, fun b hb _ => ⟨viewO_sh hb, rfl⟩, fun b hb _ => ⟨viewO_no hb, rfl⟩⟩, hv⟩
    · rw [lk_cons] at hl
      split at hl
      · rename_i e; subst e; cases hl; exact hy.view (keep_view ρ _)
      · simp [lk] at hl
    · obtain ⟨i, hi, hr⟩ := subR_ok hR j r hl
      exact (hs2.res i _ hr).view h1 hi
  obtain ⟨v, o2, h2, _, g1, g2, g3⟩ := hfin
  rcases he with rfl | rfl
  · exact ⟨rfl, v, g3, v, o2, h2, rfl, g1, g2⟩
  · exact ⟨rfl, v, g3, v, o2, h2, rfl, g1, g2⟩
/-- what a function comes to -/
def RetQC (lay : Lay) (rv : List ResultVar) (y : SV) (rs' : List (Nat × Res)) : Exit → St → Prop := fun e A' =>
  (e = .ret ∨ e = .normal) ∧ ∃ y0 ρ, retC lay A' rv = some y0 ∧ oneB ρ = true ∧ y0 = y.ren ρ ∧ subR ρ A' rs'
theorem DoesF.bodyC {f : FuncId} {fn : Func} {c : Code} {ys : List EV} {rs rs' : List (Nat × Res)} {y : SV} {rv : List ResultVar} (hl : LayOk P lay) (n : Nat) (hf : P.funcs[f]? = some fn) (hb : fn.body = some c) (hnt : fn.ntmps = n) (hn : Nat.ble ys.length n = true)
    (hrv : fn.results.toList = rv) (hk : KW P [.code c] .normal ⟨n, idx 0 ys, rs⟩ (RetQC lay rv y rs')) : DoesF P f ys rs y rs' := by
  subst hrv
  exact DoesF.ofC hl n hf hb hnt hn hk
theorem KW.finC {rv : List ResultVar} {y y0 : SV} {rs' : List (Nat × Res)} (ρ : List (Nat × Nat)) (h1 : retC lay A rv = some y0) (h2 : oneB ρ = true) (h3 : y0 = y.ren ρ) (h4 : subR ρ A rs') : KW P [] .ret A (RetQC lay rv y rs') :=
  KW.done ⟨.inl rfl, y0, ρ, h1, h2, h3, h4⟩
theorem KW.goRetC {fns : Fns} (hl : LayOk P lay) (hT : FnsOk P fns) (f : Nat) {φ : Prop} (h : run2 lay fns f k e A True = ([], .ret, A', φ)) {rv : List ResultVar} {y y0 : SV} {rs' : List (Nat × Res)} (h1 : retC lay A' rv = some y0) (h3 : y0 = y.ren []) (hφ : φ) (h4 : subR [] A' rs') : KW P k e A (RetQC lay rv y rs') :=
  KW.go hl hT f h hφ (KW.finC [] h1 rfl h3 h4)
theorem fdiv_far {a : Int} (ha : inK .i64 a) {n : Nat} (hn : 64 ≤ n) : a.fdiv (2 ^ n) = a.fdiv (2 ^ 64) := by
  have key : ∀ m : Nat, 64 ≤ m → a.fdiv (2 ^ m) = if a < 0 then -1 else 0 := fun m hm => by
    have h1 : (2 : Nat) ^ 64 ≤ 2 ^ m := Nat.pow_le_pow_right (by decide) hm
    have h2 : (2 : Nat) ^ 64 = 18446744073709551616 := rfl
    have h3 : ((2 ^ m : Nat) : Int) = (2 : Int) ^ m := by simp
    have h4 : (18446744073709551616 : Int) ≤ (2 : Int) ^ m := by rw [← h3]; omega
    generalize (2 : Int) ^ m = M at h4
    simp only [inK] at ha
    rw [Int.fdiv_eq_ediv_of_nonneg _ (by omega)]
    split
    · refine Int.le_antisymm ?_ ?_
      · have := Int.ediv_lt_of_lt_mul (a := a) (b := 0) (c := M) (by omega) (by omega); omega
      · exact Int.le_ediv_of_mul_le (by omega) (by omega)
    · exact Int.ediv_eq_zero_of_lt (by omega) (by omega)
  rw [key n hn, key 64 (Nat.le_refl _)]
/-- a shift to the right, by however much -/
theorem KW.shrI {all : Array Oper} {op : Oper} {rest : List Oper} {T T2 d : Nat} {x y : Operand} {a b : Int} {k1 : IntKind} {p q : Prop} (ho : op.op = .binOp .shr T x y T2) (hg : op.guard = none) (hd : op.dst = some d) (hlt : Nat.blt d A.n = true)
    (hx : litOf A x = some (.int .i64 a, p)) (hy : litOf A y = some (.int k1 b, q)) (hp : p) (hq : q) (ha : inK .i64 a) (hb : 0 ≤ b)
    (hn : KW P (.ops all rest :: k) .normal ⟨A.n, (d, sI (ishr a b)) :: A.sl, A.rs⟩ Q) : KW P (.ops all (op :: rest) :: k) .normal A Q := by
  intro o h tm w hs
  have hlt : d < A.n := by simpa [Nat.blt, Nat.succ_le_iff] using hlt
  show wpList P all (kq P (lift Q o w) k) (op :: rest) ⟨tm, []⟩ w
  unfold wpList
  rw [if_pos (by simp [Region.wanted, hg])]
  left
  unfold Oper.wp
  show op.upon P ⟨tm, []⟩ _ _ ((execOp (evl tm) op).run P w)
  have hx' := (litOf_ok hs hx hp).1
  have hy' := (litOf_ok hs hy hq).1
  have hbit : IntKind.bits .i64 = 64 := rfl
  have hf : a.fdiv (2 ^ min b.toNat 64) = ishr a b := by
    unfold ishr
    rcases Nat.lt_or_ge b.toNat 64 with h | h
    · rw [Nat.min_eq_left (by omega)]
    · rw [Nat.min_eq_right h, fdiv_far ha h]
  have hrun : (execOp (evl tm) op).run P w = .ok (.value (.int .i64 (ishr a b))) w := by
    simp only [execOp, ho]
    refine value_of ?_
    rw [hx', hy']
    have hgd : (eqGuard .shr T x y (.int .i64 a) (.int k1 b)).run P w = .ok () w := by
      unfold eqGuard; split <;> first | rfl | simp_all
    simp only [Sem.run_bind, hgd, Result.andThen_ok]
    simp [binOp, Op.shift, show ¬ b < 0 by omega, hbit, hf]
  rw [hrun]
  show wpList P all (kq P (lift Q o w) k) rest ((⟨tm, []⟩ : Act).put op.dst _) w
  have hput : (⟨tm, []⟩ : Act).put op.dst (.int .i64 (ishr a b)) = ⟨tm.setIfInBounds d (.int .i64 (ishr a b)), []⟩ := by simp [Act.put, hd]
  rw [hput]
  exact hn o h _ w (hs.put hlt (show SvOk o h w (sI (ishr a b)) _ from ⟨rfl, rfl⟩))
/-- one operation that only computes a value -/
theorem KW.one (hl : LayOk P lay) {all : Array Oper} {op : Oper} {rest : List Oper} {d : Nat} {x : SV} {φ : Prop} (hg : op.guard = none) (hd : op.dst = some d) (hlt : Nat.blt d A.n = true) (he : evP lay A op = some (x, φ)) (hφ : φ)
    (hn : KW P (.ops all rest :: k) .normal ⟨A.n, (d, x) :: A.sl, A.rs⟩ Q) : KW P (.ops all (op :: rest) :: k) .normal A Q := by
  intro o h tm w hs
  have hlt : d < A.n := by simpa [Nat.blt, Nat.succ_le_iff] using hlt
  show wpList P all (kq P (lift Q o w) k) (op :: rest) ⟨tm, []⟩ w
  unfold wpList
  rw [if_pos (by simp [Region.wanted, hg])]
  left
  unfold Oper.wp
  show op.upon P ⟨tm, []⟩ _ _ ((execOp (evl tm) op).run P w)
  obtain ⟨v, hr, hv⟩ := evP_ok hl hs he hφ
  rw [hr]
  show wpList P all (kq P (lift Q o w) k) rest ((⟨tm, []⟩ : Act).put op.dst _) w
  have hput : (⟨tm, []⟩ : Act).put op.dst v = ⟨tm.setIfInBounds d v, []⟩ := by simp [Act.put, hd]
  rw [hput]
  exact hn o h _ w (hs.put hlt hv)
end
end Go.Sy
