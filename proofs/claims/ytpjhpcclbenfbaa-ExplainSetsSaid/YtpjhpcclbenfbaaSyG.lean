/-
  SYMBOLIC STATES, PART G: steps that only compute; steps that make, write or grow memory of the call's own.
-/
import Derived.Test.YtpjhpcclbenfbaaSyF
import Derived.Laws.AppendOwnNone
import Derived.MapKept
set_option linter.unusedVariables false
set_option linter.unusedSimpArgs false
namespace Go.Sy

section
variable {P : Program} {lay : Lay} {o : Nat → Tag} {h : Nat → Value} {A : St} {tm : Array Value} {w : World}

def evCall (lay : Lay) (A : St) (c : Call) : Option (SV × Prop) :=
  match c.callee, c.args.toList, c.argTypes.toList with
  | .builtin .len, [x], [T] => evLen lay A T x
  | .builtin .min, [x, y], _ => evMin A x y
  | .builtin .max, [x, y], _ => evMax A x y
  | _, _, _ => none

def evLook (lay : Lay) (A : St) (m k : Operand) : Option (SV × Prop) :=
  match rd A m, litOf A k with
  | some (.r i, p), some (.int .i64 n, q) => match lk A.rs i with
    | some (.mset xs) => some (.e (.c (.lit (.bool (decide (n ∈ xs))))), p ∧ q)
    | _ => none
  | _, _ => none

def isSetT (lay : Lay) (P : Program) (T : TypeId) : Bool := false

/-- what an operation that only computes comes to, and what it takes -/
def evP (lay : Lay) (A : St) (o : Oper) : Option (SV × Prop) :=
  match o.op with
  | .move x => evMove A x
  | .assign x => evMove A x
  | .pick c a b => evPick A c a b
  | .binOp op T x y _ => evBin lay A op T x y
  | .unOp op _ x => evUn A op x
  | .convert S D x => evConv lay A S D x
  | .makeInterface T x => evMkI lay A T x
  | .makeFunc fn f c => evFn A fn f c
  | .nilCheck x => evNil A x
  | .fieldAddr T x j => evFieldAddr lay A T x j
  | .indexAddr T x i => evIndexAddr lay A T x i
  | .load T x => evLoad lay A T x
  | .field T x j => evField lay A T x j
  | .index T x i => evIndex lay A T x i
  | .extract x j => evExtract A x j
  | .slice T x lo hi mx => evSlice lay A T x lo hi mx
  | .build T ps => evBuild lay A T ps
  | .typeAssert x _ T ok => match ok with
    | true => evAssert lay A x T
    | false => none
  | .call c => evCall lay A c
  | _ => none

theorem value_of {s : Sem Value} {v : Value} {w' : World} (hs : s.run P w = .ok v w') : (do pure (.value (← s)) : Sem Next).run P w = .ok (.value v) w' := by
  simp [hs]

theorem evP_ok (hl : LayOk P lay) (hs : Sat o h A tm w) {op : Oper} {sv : SV} {φ : Prop} (he : evP lay A op = some (sv, φ)) (hφ : φ) :
    ∃ v, (execOp (evl tm) op).run P w = .ok (.value v) w ∧ SvOk o h w sv v := by
  have fin : ∀ {s : Sem Value}, Gives P o h tm w s sv → (execOp (evl tm) op = do pure (.value (← s))) → ∃ v, (execOp (evl tm) op).run P w = .ok (.value v) w ∧ SvOk o h w sv v := by
    rintro s ⟨v, h1, h2⟩ e
    exact ⟨v, by rw [e]; exact value_of h1, h2⟩
  unfold evP at he
  split at he
  · rename_i x ho
    exact ⟨_, by simp only [execOp, ho]; rfl, evMove_ok hs he hφ⟩
  · rename_i x ho
    exact ⟨_, by simp only [execOp, ho]; rfl, evMove_ok hs he hφ⟩
  · rename_i c a b ho
    obtain ⟨t, u, v, h1, h2, h3, rfl⟩ := evPick_ok hs he hφ
    refine ⟨_, by simp [execOp, ho, h1, asBool]; rfl, ?_⟩
    cases t
    · exact ⟨by simpa using h3 rfl, rfl⟩
    · exact ⟨by simpa using h2 rfl, rfl⟩
  · rename_i b T x y _ ho; exact fin (evBin_ok hl hs he hφ) (by simp only [execOp, ho])
  · rename_i u _ x ho; exact fin (evUn_ok hs he hφ) (by simp only [execOp, ho])
  · rename_i S D x ho; exact fin (evConv_ok hl hs he hφ) (by simp only [execOp, ho])
  · rename_i T x ho; exact fin (evMkI_ok hl hs he hφ) (by simp only [execOp, ho])
  · rename_i fn f c ho; exact fin (evFn_ok hs he) (by simp only [execOp, ho])
  · rename_i x ho
    obtain ⟨⟨a, ha⟩, h2⟩ := evNil_ok hs he hφ
    refine ⟨evl tm x, ?_, h2⟩
    simp only [execOp, ho, ha]
    rfl
  · rename_i T x j ho; exact fin (evFieldAddr_ok hl hs he hφ) (by simp only [execOp, ho])
  · rename_i T x i ho; exact fin (evIndexAddr_ok hl hs he hφ) (by simp only [execOp, ho])
  · rename_i T x ho; exact fin (evLoad_ok hl hs he hφ) (by simp only [execOp, ho])
  · rename_i T x j ho; exact fin (evField_ok hl hs he hφ) (by simp only [execOp, ho])
  · rename_i T x i ho; exact fin (evIndex_ok hl hs he hφ) (by simp only [execOp, ho])
  · rename_i x j ho; exact fin (evExtract_ok hs he) (by simp only [execOp, ho])
  · rename_i T x lo hi mx ho; exact fin (evSlice_ok hl hs he hφ) (by simp only [execOp, ho])
  · rename_i T ps ho; exact fin (evBuild_ok hl hs he hφ) (by simp only [execOp, ho])
  · rename_i x X T ok ho
    split at he
    · exact fin (evAssert_ok (X := X) hl hs he hφ) (by simp only [execOp, ho])
    · cases he
  · rename_i c ho
    unfold evCall at he
    split at he
    · rename_i x T hc ha ht
      have ha' : c.args = #[x] := by cases hcc : c.args; simp_all
      have ht' : c.argTypes = #[T] := by cases hcc : c.argTypes; simp_all
      exact fin (evLen_ok (ty := op.type) hl hs he hφ) (by simp only [execOp, ho, resolve, hc, invoke, builtin, ha', ht']; simp)
    · rename_i x y hc ha
      have ha' : c.args = #[x, y] := by cases hcc : c.args; simp_all
      exact fin (evMin_ok (ty := op.type) (ts := c.argTypes) hs he hφ) (by simp only [execOp, ho, resolve, hc, invoke, builtin, ha']; simp)
    · rename_i x y hc ha
      have ha' : c.args = #[x, y] := by cases hcc : c.args; simp_all
      exact fin (evMax_ok (ty := op.type) (ts := c.argTypes) hs he hφ) (by simp only [execOp, ho, resolve, hc, invoke, builtin, ha']; simp)
    · cases he
  · cases he

/-! a value goes into a slot -/
theorem Sat.put (hs : Sat o h A tm w) {d : Nat} (hd : d < A.n) {sv : SV} {v : Value} (hv : SvOk o h w sv v) : Sat o h ⟨A.n, (d, sv) :: A.sl, A.rs⟩ (tm.setIfInBounds d v) w := by
  refine ⟨by simp [hs.size], hs.tags, fun s x hl => ?_, hs.res⟩
  rw [lk_cons] at hl
  have hsz := hs.size
  split at hl
  · rename_i e
    subst e
    cases hl
    have : (tm.setIfInBounds d v).getD d undef = v := by
      rw [Array.getD_eq_getD_getElem?, Array.getElem?_setIfInBounds_self]; simp [hsz, hd]
    rw [this]; exact hv
  · rename_i hne
    have : (tm.setIfInBounds d v).getD s undef = tm.getD s undef := by
      rw [Array.getD_eq_getD_getElem?, Array.getElem?_setIfInBounds_ne hne, ← Array.getD_eq_getD_getElem?]
    rw [this]; exact hs.slot s x hl

/-! the rules of one operation -/
def OpStep (P : Program) (op : Oper) (A A' : St) : Prop := ∀ o h tm w, Sat o h A tm w → ∃ x v w' o' h',
  (execOp (evl tm) op).run P w = .ok x w' ∧ (x = .value v ∨ (x = .skip ∧ v = undef)) ∧ Sat o' h' A' ((⟨tm, []⟩ : Act).put op.dst v).tmps w' ∧ Ext o w o' w'

theorem KW.op {k : List K} {A' : St} {Q : Exit → St → Prop} {all : Array Oper} {op : Oper} {rest : List Oper} (hg : op.guard = none) (hst : OpStep P op A A')
    (hn : KW P (.ops all rest :: k) .normal A' Q) : KW P (.ops all (op :: rest) :: k) .normal A Q := by
  intro o h tm w hs
  obtain ⟨x, v, w', o', h', hr, hx, hs', hext⟩ := hst o h tm w hs
  show wpList P all (kq P (lift Q o w) k) (op :: rest) ⟨tm, []⟩ w
  unfold wpList
  rw [if_pos (by simp [Region.wanted, hg])]
  left
  unfold Oper.wp
  show op.upon P ⟨tm, []⟩ _ _ ((execOp (evl tm) op).run P w)
  rw [hr]
  have hnext : wpList P all (kq P (lift Q o w) k) rest ((⟨tm, []⟩ : Act).put op.dst v) w' := by
    have := hn o' h' _ w' hs'
    have hput : (⟨tm, []⟩ : Act).put op.dst v = ⟨((⟨tm, []⟩ : Act).put op.dst v).tmps, []⟩ := by cases op.dst <;> rfl
    rw [hput]
    exact wpList_mono (fun e a w'' hq => kq_mono (lift_trans hext) k e a w'' hq) rest _ w' this
  rcases hx with rfl | ⟨rfl, rfl⟩
  · exact hnext
  · exact hnext

theorem OpStep.pure (hl : LayOk P lay) {op : Oper} {d : Nat} {sv : SV} {φ : Prop} (he : evP lay A op = some (sv, φ)) (hd : op.dst = some d) (hlt : d < A.n) (hφ : φ) :
    OpStep P op A ⟨A.n, (d, sv) :: A.sl, A.rs⟩ := by
  intro o h tm w hs
  obtain ⟨v, hr, hv⟩ := evP_ok hl hs he hφ
  refine ⟨_, v, w, o, h, hr, .inl rfl, ?_, Ext.refl o w⟩
  simp only [Act.put, hd]
  exact hs.put hlt hv

/-! a guarded operation that only computes -/
def gdOf (A : St) (all : Array Oper) (j : Nat) (want : Bool) : Option Bool :=
  match nth all.toList j with
  | some x => match x.dst with
    | some d => match lk A.sl d with
      | some (.e (.c (.lit (.bool b)))) => (match want with | true => some b | false => some (!b))
      | some (.e (.gd b0 (.c (.lit (.bool b))))) => (match want with | true => some (b0 && b) | false => some (b0 && !b))
      | _ => none
    | none => none
  | none => none

theorem gdOf_true (hs : Sat o h A tm w) {all : Array Oper} {j : Nat} {want b : Bool} (hb : gdOf A all j want = some b) (ht : b = true) : yielded all tm j = some want := by
  unfold gdOf at hb
  split at hb
  · rename_i x hx
    rw [nth_eq] at hx
    have hx' : all[j]? = some x := by simpa using hx
    split at hb
    · rename_i d hd
      have key : ∀ b', tm.getD d undef = .bool b' → yielded all tm j = some b' := by
        intro b' hv
        have : tm[d]? = some (.bool b') := by
          rw [Array.getD_eq_getD_getElem?] at hv
          cases hq : tm[d]? with
          | none => rw [hq] at hv; cases hv
          | some u => rw [hq] at hv; exact congrArg some hv
        simp [yielded, hx', hd, this]
      split at hb
      · rename_i b' hl
        have hv := key b' (hs.slot d _ hl).1
        rw [hv]
        cases want <;> cases b' <;> simp_all
      · rename_i b0 b' hl
        have hb0 : b0 = true := by cases want <;> cases b0 <;> simp_all
        have hv := key b' ((hs.slot d _ hl).1 hb0).1
        rw [hv]
        cases want <;> cases b' <;> simp_all
      · cases hb
    · cases hb
  · cases hb

theorem gdOf_false (hs : Sat o h A tm w) {all : Array Oper} {j : Nat} {want b : Bool} (hb : gdOf A all j want = some b) (ht : b = false) : yielded all tm j ≠ some want := by
  unfold gdOf at hb
  split at hb
  · rename_i x hx
    rw [nth_eq] at hx
    have hx' : all[j]? = some x := by simpa using hx
    split at hb
    · rename_i d hd
      have key : ∀ v, tm.getD d undef = v → yielded all tm j = (match v with | .bool b => some b | _ => none) := by
        intro v hv
        cases hq : tm[d]? with
        | none =>
          rw [Array.getD_eq_getD_getElem?, hq] at hv
          subst hv
          simp [yielded, hx', hd, hq, undef]
        | some u =>
          rw [Array.getD_eq_getD_getElem?, hq] at hv
          simp only [Option.getD_some] at hv
          subst hv
          simp only [yielded, hx', Option.bind_some, hd, hq]
          cases u <;> rfl
      split at hb
      · rename_i b' hl
        have hv := key _ (hs.slot d _ hl).1
        rw [hv]
        clear hv key
        cases want <;> cases b' <;> simp at hb ⊢ <;> simp_all
      · rename_i b0 b' hl
        have hsl := hs.slot d _ hl
        cases b0 with
        | false =>
          have hv := key _ (hsl.2 rfl)
          rw [hv]
          simp [undef]
        | true =>
          have hv := key _ (hsl.1 rfl).1
          rw [hv]
          clear hv key
          cases want <;> cases b' <;> simp at hb ⊢ <;> simp_all
      · cases hb
    · cases hb
  · cases hb

theorem KW.gd (hl : LayOk P lay) {k : List K} {Q : Exit → St → Prop} {all : Array Oper} {op : Oper} {rest : List Oper} {j : Nat} {want b : Bool} {d : Nat} {x : EV} {φ : Prop}
    (hg : op.guard = some (j, want)) (hb : gdOf A all j want = some b) (he : evP lay A op = some (.e x, φ)) (hd : op.dst = some d) (hlt : d < A.n) (hφ : b = true → φ)
    (hn : KW P (.ops all rest :: k) .normal ⟨A.n, (d, .e (.gd b x)) :: A.sl, A.rs⟩ Q) : KW P (.ops all (op :: rest) :: k) .normal A Q := by
  intro o h tm w hs
  show wpList P all (kq P (lift Q o w) k) (op :: rest) ⟨tm, []⟩ w
  unfold wpList
  have hput : ∀ v, (⟨tm, []⟩ : Act).put op.dst v = ⟨tm.setIfInBounds d v, []⟩ := fun v => by simp [Act.put, hd]
  have hnext : ∀ v, ((b = true → EvOk o h w x v) ∧ (b = false → v = undef)) → wpList P all (kq P (lift Q o w) k) rest ((⟨tm, []⟩ : Act).put op.dst v) w := by
    intro v hv
    rw [hput]
    exact hn o h _ w (hs.put hlt (v := v) hv)
  by_cases hbt : b = true
  · have hy := gdOf_true hs hb hbt
    rw [if_pos (by simp [Region.wanted, hg, hy])]
    left
    obtain ⟨v, hr, hv⟩ := evP_ok hl hs he (hφ hbt)
    unfold Oper.wp
    show op.upon P ⟨tm, []⟩ _ _ ((execOp (evl tm) op).run P w)
    rw [hr]
    exact hnext v ⟨fun _ => hv, fun e => by simp [hbt] at e⟩
  · have hbf : b = false := by simpa using hbt
    have hy := gdOf_false hs hb hbf
    rw [if_neg (by simp [Region.wanted, hg, hy])]
    exact hnext undef ⟨fun e => absurd e hbt, fun _ => rfl⟩
end

end Go.Sy
