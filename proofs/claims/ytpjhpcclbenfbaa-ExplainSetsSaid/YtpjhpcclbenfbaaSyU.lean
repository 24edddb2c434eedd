/-
  A SLICE HELD AGAINST nil; slices.Grow at nil, out of the shelf's contract. No program is named here.
-/
import Derived.Test.YtpjhpcclbenfbaaSyT
import Derived.Shelf.Spec.SlicesGrow
import Derived.Lib.SliceRun
import Derived.WalkSpells
set_option linter.unusedVariables false
set_option linter.unusedSimpArgs false
namespace Go.Sy
open Go.Sort Go.Lib Go.Shelf Go.Proofs

section
variable {P : Program} {lay : Lay} {k : List K} {A : St} {Q : Exit → St → Prop}

/-- 's == nil' or 's != nil': where it says nil the slice has no element; of more nothing is known -/
theorem KW.eqNil (hl : LayOk P lay) {all : Array Oper} {op : Oper} {rest : List Oper} {T T2 d n k' : Nat} {neg : Bool} {x : Operand} {f : Nat → Nat → CV} {p : Prop} {r : TRow} {E es by' : Nat} {X : CV}
    (ho : op.op = .binOp (bif neg then .neq else .eql) T x (.const (.slice none 0 0)) T2) (hg : op.guard = none) (hd : op.dst = some d) (hlt : Nat.blt d A.n = true) (hx : rd A x = some (.c X, p)) (hX : X = .sl n k' f) (hT : lk lay T = some r) (hr : r.td = .sl E es by')
    (hp : p) (hn : ∀ b : Bool, (b = true → n = 0) → KW P (.ops all rest :: k) .normal ⟨A.n, (d, sB (bif neg then !b else b)) :: A.sl, A.rs⟩ Q) : KW P (.ops all (op :: rest) :: k) .normal A Q := by
  subst hX
  intro o h tm w hs
  have hlt : d < A.n := by simpa [Nat.blt, Nat.succ_le_iff] using hlt
  obtain ⟨a, cap, hv, h1, h2, h3⟩ := rd_ok hs hx hp
  obtain ⟨dd, hdd, ht⟩ := (hl _ _ hT).td
  rw [hr] at ht
  simp only [tdB, Bool.and_eq_true] at ht
  have hu : ∃ e, P.underlying T = some (.slice e) := by
    cases dd <;> simp at ht
    exact ⟨_, hdd⟩
  obtain ⟨e, hu⟩ := hu
  show wpList P all (kq P (lift Q o w) k) (op :: rest) ⟨tm, []⟩ w
  unfold wpList
  rw [if_pos (by simp [Region.wanted, hg])]
  left
  unfold Oper.wp
  show op.upon P ⟨tm, []⟩ _ _ ((execOp (evl tm) op).run P w)
  have hv' : evl tm x = .slice a n cap := hv
  have hrun : (execOp (evl tm) op).run P w = .ok (.value (.bool (bif neg then !a.isNone else a.isNone))) w := by
    simp only [execOp, ho, hv']
    refine value_of ?_
    have hc : evl tm (.const (.slice none 0 0)) = .slice none 0 0 := rfl
    cases neg with
    | true =>
      simp only [cond_true]
      have hgd : (eqGuard .neq T x (.const (.slice none 0 0)) (.slice a n cap) (.slice none 0 0)).run P w = .ok () w := by
        unfold eqGuard; split <;> first | rfl | simp_all
      simp only [hc, Sem.run_bind, hgd, Result.andThen_ok]
      exact run_neq_slice_nil_any w T e a n cap 0 0 hu
    | false =>
      simp only [cond_false]
      have hgd : (eqGuard .eql T x (.const (.slice none 0 0)) (.slice a n cap) (.slice none 0 0)).run P w = .ok () w := by
        unfold eqGuard; split <;> first | rfl | simp_all
      simp only [hc, Sem.run_bind, hgd, Result.andThen_ok]
      exact Lib.run_eql_slice_nil w T e a n cap 0 0 hu
  rw [hrun]
  show wpList P all (kq P (lift Q o w) k) rest ((⟨tm, []⟩ : Act).put op.dst _) w
  have hput : (⟨tm, []⟩ : Act).put op.dst (.bool (bif neg then !a.isNone else a.isNone)) = ⟨tm.setIfInBounds d (.bool (bif neg then !a.isNone else a.isNone)), []⟩ := by simp [Act.put, hd]
  rw [hput]
  refine hn a.isNone (fun hb => ?_) o h _ w (hs.put hlt ⟨rfl, rfl⟩)
  rcases h3 with h3 | ⟨b, off, h3, _⟩
  · exact h3
  · rw [h3] at hb; simp at hb

/-- as far as the end, rows handed back -/
theorem KW.goRetR {fns : Fns} {A' : St} {e : Exit} (hl : LayOk P lay) (hT : FnsOk P fns) (f : Nat) {φ : Prop} (h : run2 lay fns f k e A True = ([], .ret, A', φ)) {rv : List ResultVar} {y y0 : SV} {rs' : List (Nat × Res)} (ρ : List (Nat × Nat)) (h1 : retB A' rv = some y0) (h2 : oneB ρ = true) (h3 : y0 = y.ren ρ) (hφ : φ) (h4 : subR ρ A' rs') : KW P k e A (RetQ rv y rs') :=
  KW.go hl hT f h hφ (KW.fin ρ h1 h2 h3 h4)


/-! an operation whose guard is decided -/
theorem KW.guardT {all : Array Oper} {op : Oper} {rest : List Oper} {j : Nat} {want b : Bool} (hg : op.guard = some (j, want)) (hb : gdOf A all j want = some b) (ht : b = true)
    (hn : KW P (.ops all (⟨op.dst, op.op, op.type, op.pos, op.after, none⟩ :: rest) :: k) .normal A Q) : KW P (.ops all (op :: rest) :: k) .normal A Q := by
  intro o h tm w hs
  have h1 := hn o h tm w hs
  show wpList P all (kq P (lift Q o w) k) (op :: rest) ⟨tm, []⟩ w
  replace h1 : wpList P all (kq P (lift Q o w) k) (⟨op.dst, op.op, op.type, op.pos, op.after, none⟩ :: rest) ⟨tm, []⟩ w := h1
  unfold wpList at h1 ⊢
  rw [if_pos (by simp [Region.wanted])] at h1
  rw [if_pos (by simp [Region.wanted, hg, gdOf_true hs hb ht])]
  exact h1
theorem KW.guardF {all : Array Oper} {op : Oper} {rest : List Oper} {j d : Nat} {want b : Bool} (hg : op.guard = some (j, want)) (hb : gdOf A all j want = some b) (ht : b = false) (hd : op.dst = some d) (hlt : Nat.blt d A.n = true)
    (hn : KW P (.ops all rest :: k) .normal ⟨A.n, (d, .e (.gd false .dead)) :: A.sl, A.rs⟩ Q) : KW P (.ops all (op :: rest) :: k) .normal A Q := KW.pass hg hb ht hd hlt hn
/-- the row 'i' is from now on read by anybody, written by nobody -/
theorem KW.frz1 (i : Nat) {E n k' : Nat} {f : Nat → Nat → CV} {x : CV} {e : Exit} (hl : lk A.rs i = some (.own E x)) (hx : x = .sl n k' f) (ha : allR A i [i] = true)
    (hk : KW P k e ⟨A.n, (i, .e (.c x)) :: A.sl, (i, .gone) :: A.rs⟩ Q) : KW P k e A Q := KW.frz i [i] hl hx ha hk

/-! calls of functions that capture nothing -/
theorem KW.callO0 {all : Array Oper} {op : Oper} {rest : List Oper} {c : Call} {d g : Nat} {ks : Nat → Nat} {caps : Nat → Nat → CV} {p : Prop} {f : Operand} {ys : List EV} {E : Nat} {x : CV}
    (D : DoesF P g ys [] (.e (.r 0)) [(0, .own E x)]) (eg : ∀ args w, (callFunc g args).run P w = .ok (.enter g args) w) (L : List Nat)
    (hw : Wanted A all op) (ho : op.op = .call c) (hd : op.dst = some d) (hlt : Nat.blt d A.n = true) (hc : c.callee = .value f) (hf : rd A f = some (.c (.clo g 0 ks caps), p)) (hp : p)
    (hargs : argsP A [] L c.args.toList ys) (hfr : freshB A d = true) (hflat : L = [] ∨ ResFlat (.own E x))
    (hn : KW P (.ops all rest :: k) .normal ⟨A.n, (d, .e (.r d)) :: A.sl, (d, .own E x) :: A.rs⟩ Q) : KW P (.ops all (op :: rest) :: k) .normal A Q :=
  KW.callO D eg L hw ho hd hlt hc hf hp (by simp [capE]) hargs hfr hflat hn
theorem KW.call0 {all : Array Oper} {op : Oper} {rest : List Oper} {c : Call} {d g : Nat} {ks : Nat → Nat} {caps : Nat → Nat → CV} {p : Prop} {f : Operand} {ys : List EV} {rs rs' : List (Nat × Res)} {y : SV}
    (D : DoesF P g ys rs y rs') (eg : ∀ args w, (callFunc g args).run P w = .ok (.enter g args) w) (ρ ρ' : List (Nat × Nat)) (L : List Nat)
    (hw : Wanted A all op) (ho : op.op = .call c) (hd : op.dst = some d) (hlt : Nat.blt d A.n = true) (hc : c.callee = .value f) (hf : rd A f = some (.c (.clo g 0 ks caps), p)) (hp : p)
    (hargs : argsP A ρ L c.args.toList ys) (h1 : oneB ρ = true) (hR : subR ρ A rs)
    (h1' : oneB ρ' = true) (hnew : newB A ρ rs rs' [] ρ') (hy : y.inB ρ' = true) (hrs : resIn ρ' rs' = true) (hflat : L = [] ∨ (SvFlat y ∧ ∀ j r, (j, r) ∈ rs' → ResFlat r))
    (hn : KW P (.ops all rest :: k) .normal ⟨A.n, (d, y.ren ρ') :: A.sl, renR ρ' rs' (gones ρ A.rs)⟩ Q) :
    KW P (.ops all (op :: rest) :: k) .normal A Q :=
  KW.call D eg ρ ρ' L hw ho hd hlt hc hf hp (by simp [capE]) hargs h1 hR h1' hnew hy hrs hflat hn
theorem KW.callK0 {all : Array Oper} {op : Oper} {rest : List Oper} {c : Call} {d g : Nat} {kp : List Nat} {ks : Nat → Nat} {caps : Nat → Nat → CV} {p : Prop} {f : Operand} {ys : List EV} {rs rs' : List (Nat × Res)} {y : SV}
    (D : DoesK P g ys rs y rs' kp) (eg : ∀ args w, (callFunc g args).run P w = .ok (.enter g args) w) (ρ ρ' : List (Nat × Nat)) (L : List Nat)
    (hw : Wanted A all op) (ho : op.op = .call c) (hd : op.dst = some d) (hlt : Nat.blt d A.n = true) (hc : c.callee = .value f) (hf : rd A f = some (.c (.clo g 0 ks caps), p)) (hp : p)
    (hargs : argsP A ρ L c.args.toList ys) (h1 : oneB ρ = true) (hR : subR ρ A rs)
    (h1' : oneB ρ' = true) (hnew : newB A ρ rs rs' kp ρ') (hy : y.inB ρ' = true) (hrs : resIn ρ' rs' = true) (hflat : L = [] ∨ (SvFlat y ∧ ∀ j r, (j, r) ∈ rs' → ResFlat r))
    (hn : KW P (.ops all rest :: k) .normal ⟨A.n, (d, y.ren ρ') :: A.sl, renR ρ' rs' (gones ρ A.rs)⟩ Q) :
    KW P (.ops all (op :: rest) :: k) .normal A Q :=
  KW.callK D eg ρ ρ' L hw ho hd hlt hc hf hp (by simp [capE]) hargs h1 hR h1' hnew hy hrs hflat hn
/-- as far as a loop, rows under other names -/
theorem KW.goLpR {σ : Type} {fns : Fns} {A' : St} {e : Exit} {k' : List K} (hl : LayOk P lay) (hT : FnsOk P fns) (f : Nat) {φ : Prop} {c : Code} (h : run2 lay fns f k e A True = (.code (.loop c) :: k', .normal, A', φ)) (I : σ → St) (R : σ → Prop) (m : σ → Nat) (s : σ) (ρ : List (Nat × Nat)) (h1 : oneB ρ = true) (hn : (I s).n = A'.n) (hS : subS ρ A' (I s).sl) (hφ : φ) (hR : R s) (hr : subR ρ A' (I s).rs)
    (round : ∀ s, R s → KW P [.code c] .normal (I s) (ToQ P k' Q I fun s' => R s' ∧ m s' < m s)) : KW P k e A Q :=
  KW.go hl hT f h hφ (KW.lp I R m s hR ρ ⟨h1, hn, hS, hr⟩ round)
/-- a list of integers without its first elements, and its first elements alone -/
theorem ints_nil_of {xs : List Int} (h : xs.length = 0) : xs = [] := List.length_eq_zero_iff.1 h

theorem grow_nil_does {ρ : Ren} (L : Lays8.n4 P ρ) {F E : Nat} (hF : ρ.f 4 = F) (hE : ρ.t 25 = E) {i0 : TypeInfo} {z : Value} (hi : P.info? E = some i0) (hz : i0.zero = some z) (hs1 : i0.size = 1) (hb8 : i0.bytes = 8) (hzc : z.cells.size = 1) (n : Nat) (hn : n ≤ 1099511627776) :
    DoesF P F [.c (.lit (.slice none 0 0)), iV n] [] (.e (.r 0)) [(0, .own E (ints []))] := by
  intro o h args w hs
  have h0 : args.getD 0 undef = .slice none 0 0 := (show RepV o w (.lit (.slice none 0 0)) _ from hs.slot 0 (.e (.c (.lit (.slice none 0 0)))) rfl).1
  have h1 : args.getD 1 undef = .int .i64 n := (show RepV o w (.lit (.int .i64 n)) _ from hs.slot 1 (sI n) rfl).1
  have hargs := args2 (by exact hs.size) h0 h1
  subst hargs
  subst hF hE
  by_cases hn0 : n = 0
  · subst hn0
    refine (Any8.slices_Grow_room L none 0 0 0 w (Nat.le_refl _) (Nat.zero_le _) (Nat.zero_le _) (Nat.le_refl _)).mono ?_
    rintro e w' ⟨rfl, rfl⟩
    refine ⟨_, o, updH h 0 (.slice none 0 0), rfl, ⟨rfl, hs.tags, fun s x hl => ?_, fun i r hl => ?_⟩, Ext.refl _ _⟩
    · rw [lk_cons] at hl
      split at hl
      · rename_i e; subst e; cases hl; simp [SvOk, EvOk, updH]
      · simp [lk] at hl
    · rw [lk_cons] at hl
      split at hl
      · rename_i e; subst e; cases hl
        exact ⟨[], by simpa [updH] using World.ownsRow_nil _ 0 _ 1, fun b hb => by simp [updH, Value.ownBlock] at hb, fun e q he => by simp at he⟩
      · simp [lk] at hl
  · refine (Any8.slices_Grow_grow L i0 z hi hz (by omega) none 0 0 n [] w (Nat.le_refl _) (by omega) (by rw [hb8]; omega) (by omega) (by simp) (fun _ => rfl) (fun a ha => by cases ha)).mono ?_
    rintro e w' ⟨rfl, rfl⟩
    have hge := grownCap_ge w (0 + n) 0 (ρ.t 25)
    have hmx := grownCap_le_maxLen w (0 + n) 0 (ρ.t 25) (by simp only [maxLen]; omega)
    generalize grownCap w (0 + n) 0 (ρ.t 25) = cap at hge hmx
    generalize hcur : ([].toArray ++ Builtin.zeroCells z.cells (0 + n - 0) ++ Builtin.zeroCells z.cells (cap - (0 + n))) = cur
    have hcs : cur.size = cap := by
      rw [← hcur]
      simp only [Array.size_append, size_zeroCells, hzc, List.size_toArray, List.length_nil]
      omega
    have hnew : (w.drew.alloc (.cells cur (ρ.t 25))).heap[w.heap.size]? = some (.cells cur (ρ.t 25) (0, 0)) := by
      show (w.heap.push _)[w.heap.size]? = _
      simp
    have hold : ∀ b, b < w.heap.size → (w.drew.alloc (.cells cur (ρ.t 25))).heap[b]? = w.heap[b]? := fun b hb => by
      show (w.heap.push _)[b]? = _
      rw [Array.getElem?_push, if_neg (by omega)]
    have hsz : (w.drew.alloc (.cells cur (ρ.t 25))).heap.size = w.heap.size + 1 := by
      show (w.heap.push _).size = _
      simp
    refine ⟨_, updO o w.heap.size (.hd 0), updH h 0 (.slice (some ⟨w.heap.size, 0, none⟩) 0 cap), rfl, ⟨rfl, fun b => ?_, fun s x hl => ?_, fun i r hl => ?_⟩, ⟨by omega, rfl, rfl, rfl, Nat.le_succ _, fun b hb hlt => ⟨?_, hold b hlt⟩, fun b hb hlt => ⟨?_, hold b hlt⟩⟩⟩
    · rw [hsz]
      by_cases hb : b = w.heap.size
      · subst hb; exact ⟨fun _ _ => Nat.lt_succ_self _, fun _ => Nat.lt_succ_self _⟩
      · simp only [updO, if_neg hb]
        exact ⟨fun i hi => Nat.lt_succ_of_lt ((hs.tags b).1 i hi), fun hi => Nat.lt_succ_of_lt ((hs.tags b).2 hi)⟩
    · rw [lk_cons] at hl
      split at hl
      · rename_i e; subst e; cases hl; simp [SvOk, EvOk, updH]
      · simp [lk] at hl
    · rw [lk_cons] at hl
      split at hl
      · rename_i e; subst e; cases hl
        refine ⟨[], ⟨by simp, .inr ⟨w.heap.size, cap, cur, by simp [updH], Nat.zero_le _, hnew, Nat.zero_le _, hmx, by omega, by simp⟩⟩, fun b hb => ?_, fun e q he => by simp at he⟩
        simp [updH, Value.ownBlock] at hb
        simp [updO, hb]
      · simp [lk] at hl
    · simp only [updO]; rw [if_neg (by omega)]; exact hb
    · simp only [updO]; rw [if_neg (by omega)]; exact hb
end
end Go.Sy
