/-
  SYMBOLIC STATES, PART R: regions that draw their order, where each operation only reads, or is a call of a function of the table: whatever the order, it comes to the same.
-/
import Derived.Test.YtpjhpcclbenfbaaSyP
set_option linter.unusedVariables false
set_option linter.unusedSimpArgs false
namespace Go.Sy

section
variable {P : Program} {lay : Lay} {A A' B : St} {Q : Exit → St → Prop} {fns : Fns} {o : Nat → Tag} {h : Nat → Value} {tm : Array Value} {w : World}

/-- 'B' is a part of 'A' -/
structure St.le (B A : St) : Prop where
  n : B.n = A.n
  rs : B.rs = A.rs
  sl : ∀ t x, lk B.sl t = some x → lk A.sl t = some x

theorem Sat.le (hle : St.le B A) (hs : Sat o h A tm w) : Sat o h B tm w := ⟨hle.n ▸ hs.size, hs.tags, fun s x hl => hs.slot s x (hle.sl s x hl), fun i r hl => hs.res i r (hle.rs ▸ hl)⟩
theorem rd_up (hle : St.le B A) {x : Operand} {r : EV × Prop} (hr : rd B x = some r) : rd A x = some r := by
  cases x with
  | tmp t =>
    simp only [rd] at hr ⊢
    split at hr
    · rename_i e; rw [hle.sl _ _ e]; exact hr
    · rename_i x hne e
      rw [hle.sl _ _ e]
      cases x with
      | gd b y => exact (hne b y rfl).elim
      | _ => exact hr
    · cases hr
  | _ => exact hr
theorem argsE_up (hle : St.le B A) : ∀ {xs : List Operand} {r}, argsE B xs = some r → argsE A xs = some r
  | [], r, hr => hr
  | x :: xs, r, hr => by
    simp only [argsE] at hr ⊢
    split at hr
    · rename_i z p e
      rw [rd_up hle e]
      split at hr
      · rename_i y L e2
        have e2' : argE A z = some (y, L) := by
          unfold argE at e2 ⊢
          rw [← hle.rs]; exact e2
        simp only [e2']
        split at hr
        · rename_i e3
          rw [argsE_up hle e3]; exact hr
        · cases hr
      · cases hr
    · cases hr
theorem stepC_up (hle : St.le B A) {op : Oper} {r : SV × Prop} (hr : stepC fns B op = some r) : stepC fns A op = some r := by
  unfold stepC at hr ⊢
  split at hr
  · split at hr
    · split at hr
      · split at hr
        · rename_i e2
          simp only [argsE_up hle e2]
          exact hr
        · cases hr
      · cases hr
    · cases hr
  · cases hr

/-- what an operation leaves in its slot, out of a part of the state -/
def stepD (lay : Lay) (fns : Fns) (B : St) (ops : Array Oper) (op : Oper) : Option (SV × Prop) :=
  match op.guard with
  | none => match evP lay B op with
    | some r => some r
    | none => stepC fns B op
  | some (j, want) => match gdOf B ops j want with
    | some b => match evP lay B op with
      | some (.e x, φ) => some (.e (.gd b x), b = true → φ)
      | _ => match stepC fns B op with
        | some (.e x, φ) => some (.e (.gd b x), b = true → φ)
        | _ => none
    | none => none

theorem stepC_wp (hT : FnsOk P fns) {op : Oper} {y : SV} {φ : Prop} {d : Nat} (hs : Sat o h A tm w) (hd : op.dst = some d) (hlt : Nat.blt d A.n = true) (hc : stepC fns A op = some (y, φ)) (hφ : φ) {K : Act → World → Prop} {QQ : Exit → Act → World → Prop}
    (hn : ∀ o2 h2 v w1, Sat o2 h2 ⟨A.n, (d, y) :: A.sl, A.rs⟩ (tm.setIfInBounds d v) w1 → Ext o w o2 w1 → K ⟨tm.setIfInBounds d v, []⟩ w1) : op.wp P ⟨tm, []⟩ w K QQ := by
  unfold stepC at hc
  split at hc
  · rename_i c ho
    split at hc
    · rename_i g hcc
      split at hc
      · rename_i F hF
        split at hc
        · rename_i ys L q ha
          split at hc
          · rename_i y' φ' hy
            split at hc
            · rename_i hin hfl
              simp only [Option.some.injEq, Prod.mk.injEq] at hc
              obtain ⟨rfl, rfl⟩ := hc
              obtain ⟨he, hD⟩ := hT g F hF
              have hfl' : L = [] ∨ (SvFlat y' ∧ ∀ (j : Nat) (r : Res), (j, r) ∈ ([] : List (Nat × Res)) → ResFlat r) := by
                simp only [Bool.or_eq_true] at hfl
                refine hfl.imp (fun h => ?_) fun h => ⟨svFlatB_ok h, fun j r hm => by cases hm⟩
                cases L with
                | nil => rfl
                | cons _ _ => simp [emptyN] at h
              refine call_wp (ρ' := []) (rs := []) (rs' := []) (m := 0) (hD ys y' φ' hy hφ.2) he [] L hs ho hd hlt hcc rfl trivial (by simp [capE]) (argsE_ok ha hφ.1 L fun _ h => h) rfl trivial rfl trivial hin rfl hfl' ?_
              intro o2 h2 v w1 hs2 hext
              rw [SV.ren_nil hin] at hs2
              exact hn o2 h2 v w1 hs2 hext
            · cases hc
          · cases hc
        · cases hc
      · cases hc
    · cases hc
  · cases hc

theorem stepD_wp (hl : LayOk P lay) (hT : FnsOk P fns) {ops : Array Oper} {i : Nat} {op : Oper} (hi : ops[i]? = some op) {y : SV} {φ : Prop} {d : Nat} (hle : St.le B A) (hs : Sat o h A tm w) (hd : op.dst = some d) (hlt : Nat.blt d A.n = true)
    (hc : stepD lay fns B ops op = some (y, φ)) (hφ : φ) {K : Act → World → Prop} {QQ : Exit → Act → World → Prop}
    (hn : ∀ o2 h2 v w1, Sat o2 h2 ⟨A.n, (d, y) :: A.sl, A.rs⟩ (tm.setIfInBounds d v) w1 → Ext o w o2 w1 → K ⟨tm.setIfInBounds d v, []⟩ w1) : wpOp P ops QQ i K ⟨tm, []⟩ w := by
  have hsB := hs.le hle
  have hlt' : d < A.n := by simpa [Nat.blt, Nat.succ_le_iff] using hlt
  have hput : ∀ v, (⟨tm, []⟩ : Act).put op.dst v = ⟨tm.setIfInBounds d v, []⟩ := fun v => by simp [Act.put, hd]
  have pure_wp : ∀ {x φ'}, evP lay B op = some (x, φ') → φ' → ∀ y', (∀ v, SvOk o h w x v → SvOk o h w y' v) → (∀ o2 h2 v w1, Sat o2 h2 ⟨A.n, (d, y') :: A.sl, A.rs⟩ (tm.setIfInBounds d v) w1 → Ext o w o2 w1 → K ⟨tm.setIfInBounds d v, []⟩ w1) → op.wp P ⟨tm, []⟩ w K QQ := by
    intro x φ' he hφ' y' hy' hn'
    obtain ⟨v, hr, hv⟩ := evP_ok hl hsB he hφ'
    unfold Oper.wp
    show op.upon P ⟨tm, []⟩ _ _ ((execOp (evl tm) op).run P w)
    rw [hr]
    show K ((⟨tm, []⟩ : Act).put op.dst v) w
    rw [hput]
    exact hn' o h v w (hs.put hlt' (hy' v hv)) (Ext.refl o w)
  have skip_ok : ∀ {x}, SvOk o h w (.e (.gd false x)) undef := fun {x} => ⟨fun e => Bool.noConfusion e, fun _ => rfl⟩
  unfold wpOp
  simp only [hi]
  unfold stepD at hc
  split at hc
  · rename_i hg
    rw [if_pos (by simp [Region.wanted, hg])]
    left
    split at hc
    · rename_i r he
      simp only [Option.some.injEq] at hc
      subst hc
      exact pure_wp he hφ y (fun v hv => hv) hn
    · exact stepC_wp hT hs hd hlt (stepC_up hle hc) hφ hn
  · rename_i j want hg
    split at hc
    · rename_i b hb
      have hskip : ∀ x, y = .e (.gd b x) → b = false → K (Act.put ⟨tm, []⟩ op.dst undef) w := by
        intro x hy hbf
        subst hy
        rw [hput]
        exact hn o h undef w (hs.put hlt' (by rw [hbf]; exact skip_ok)) (Ext.refl o w)
      have hwant : b = true → Region.wanted op (yielded ops (⟨tm, []⟩ : Act).tmps) = true := fun hbt => by simp [Region.wanted, hg, gdOf_true hsB hb hbt]
      have hwant' : b = false → ¬ Region.wanted op (yielded ops (⟨tm, []⟩ : Act).tmps) = true := fun hbf => by simp [Region.wanted, hg, gdOf_false hsB hb hbf]
      split at hc
      · rename_i x φ' he
        simp only [Option.some.injEq, Prod.mk.injEq] at hc
        obtain ⟨rfl, rfl⟩ := hc
        cases hbb : b with
        | true =>
          rw [if_pos (hwant hbb)]
          left
          exact pure_wp he (hφ hbb) (.e (.gd b x)) (fun v hv => (show SvOk o h w (.e (.gd b x)) v from ⟨fun _ => hv, fun e => by rw [hbb] at e; cases e⟩)) hn
        | false => rw [if_neg (hwant' hbb)]; exact hskip x rfl hbb
      · split at hc
        · rename_i x φ' he
          simp only [Option.some.injEq, Prod.mk.injEq] at hc
          obtain ⟨rfl, rfl⟩ := hc
          cases hbb : b with
          | true =>
            rw [if_pos (hwant hbb)]
            left
            refine stepC_wp hT hs hd hlt (stepC_up hle he) (hφ hbb) fun o2 h2 v w1 hs2 hext => hn o2 h2 v w1 ?_ hext
            refine ⟨hs2.size, hs2.tags, fun s z hl => ?_, hs2.res⟩
            rw [lk_cons] at hl
            split at hl
            · rename_i e; cases hl; exact (show SvOk o2 h2 w1 (.e (.gd b x)) _ from ⟨fun _ => hs2.slot s (.e x) (by rw [lk_cons, if_pos e]), fun e => by rw [hbb] at e; cases e⟩)
            · rename_i hne; exact hs2.slot s z (by rw [lk_cons, if_neg hne]; exact hl)
          | false => rw [if_neg (hwant' hbb)]; exact hskip x rfl hbb
        · cases hc
    · cases hc
end

end Go.Sy
