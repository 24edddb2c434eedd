/-
  SYMBOLIC STATES, PART O: how loops, joins and returns are written; the contract's own form.
-/
import Derived.Test.YtpjhpcclbenfbaaSyN
set_option linter.unusedVariables false
set_option linter.unusedSimpArgs false
namespace Go.Sy

/-- a part of 'A', under the names of ρ, is 'B' -/
structure Sub (ρ : List (Nat × Nat)) (A B : St) : Prop where
  one : oneB ρ = true
  n : B.n = A.n
  s : subS ρ A B.sl
  r : subR ρ A B.rs

/-- where a piece of code comes to: a state out of 'I', or, by another exit, what is left to do behind it -/
def ToQ (P : Program) (k : List K) (Q : Exit → St → Prop) {σ : Type} (I : σ → St) (R : σ → Prop) : Exit → St → Prop
  | .normal, A' => ∃ s, R s ∧ ∃ ρ, Sub ρ A' (I s)
  | e, A' => KW P k e A' Q

/-- what a function comes to -/
def RetQ (rv : List ResultVar) (y : SV) (rs' : List (Nat × Res)) : Exit → St → Prop := fun e A' =>
  (e = .ret ∨ e = .normal) ∧ ∃ y0 ρ, retB A' rv = some y0 ∧ oneB ρ = true ∧ y0 = y.ren ρ ∧ subR ρ A' rs'

section
variable {P : Program} {lay : Lay} {A A' : St} {Q : Exit → St → Prop} {k : List K} {e : Exit} {σ : Type} {I : σ → St} {R : σ → Prop}

theorem KW.to (s : σ) (hR : R s) (ρ : List (Nat × Nat)) (h : Sub ρ A (I s)) : KW P [] .normal A (ToQ P k Q I R) := KW.done ⟨s, hR, ρ, h⟩
theorem KW.out (h : KW P k e A Q) (he : e ≠ .normal) : KW P [] e A (ToQ P k Q I R) := KW.done (by cases e <;> first | exact h | exact absurd rfl he)
theorem KW.outX {id : Nat} (h : KW P k (.exit id) A Q) : KW P [] (.exit id) A (ToQ P k Q I R) := KW.done h
theorem KW.outR (h : KW P k .ret A Q) : KW P [] .ret A (ToQ P k Q I R) := KW.done h

/-- a loop -/
theorem KW.lp {c : Code} (I : σ → St) (R : σ → Prop) (m : σ → Nat) (s : σ) (hR : R s) (ρ : List (Nat × Nat)) (h : Sub ρ A (I s))
    (round : ∀ s, R s → KW P [.code c] .normal (I s) (ToQ P k Q I fun s' => R s' ∧ m s' < m s)) : KW P (.code (.loop c) :: k) .normal A Q := by
  refine KW.loop (σ := {s : σ // R s}) (fun s => I s.1) (fun s => m s.1) ⟨s, hR⟩ (fun o h' tm w hs => ⟨_, _, hs.sub ρ h.one h.n h.s h.r⟩) (fun s => KW.mono ?_ (round s.1 s.2))
  intro e A' hq
  cases e with
  | normal =>
    obtain ⟨s', ⟨hR', hlt⟩, ρ, h⟩ := hq
    exact ⟨⟨s', hR'⟩, hlt, fun o h' tm w hs => ⟨_, _, hs.sub ρ h.one h.n h.s h.r⟩⟩
  | _ => exact hq

/-- ways meet again: the first thing that is left to do comes to a state out of 'I' -/
theorem KW.join {x : K} (I : σ → St) (R : σ → Prop) (h1 : KW P [x] .normal A (ToQ P k Q I R)) (h2 : ∀ s, R s → KW P k .normal (I s) Q) : KW P (x :: k) .normal A Q := by
  refine KW.cut (k := k) (ToQ P k Q I R) [x] h1 ?_
  intro e A' hq
  cases e with
  | normal =>
    obtain ⟨s, hR, ρ, h⟩ := hq
    exact KW.sub ρ h.one h.n h.s h.r (h2 s hR)
  | _ => exact hq
/-- the first two -/
theorem KW.join2 {x x' : K} (I : σ → St) (R : σ → Prop) (h1 : KW P [x, x'] .normal A (ToQ P k Q I R)) (h2 : ∀ s, R s → KW P k .normal (I s) Q) : KW P (x :: x' :: k) .normal A Q := by
  refine KW.cut (k := k) (ToQ P k Q I R) [x, x'] h1 ?_
  intro e A' hq
  cases e with
  | normal =>
    obtain ⟨s, hR, ρ, h⟩ := hq
    exact KW.sub ρ h.one h.n h.s h.r (h2 s hR)
  | _ => exact hq

theorem KW.fin {rv : List ResultVar} {y y0 : SV} {rs' : List (Nat × Res)} (ρ : List (Nat × Nat)) (h1 : retB A rv = some y0) (h2 : oneB ρ = true) (h3 : y0 = y.ren ρ) (h4 : subR ρ A rs') : KW P [] .ret A (RetQ rv y rs') :=
  KW.done ⟨.inl rfl, y0, ρ, h1, h2, h3, h4⟩
theorem KW.finN {rv : List ResultVar} {y y0 : SV} {rs' : List (Nat × Res)} (ρ : List (Nat × Nat)) (h1 : retB A rv = some y0) (h2 : oneB ρ = true) (h3 : y0 = y.ren ρ) (h4 : subR ρ A rs') : KW P [] .normal A (RetQ rv y rs') :=
  KW.done ⟨.inr rfl, y0, ρ, h1, h2, h3, h4⟩

theorem DoesF.body {f : FuncId} {fn : Func} {c : Code} {ys : List EV} {rs rs' : List (Nat × Res)} {y : SV} {rv : List ResultVar} (n : Nat) (hf : P.funcs[f]? = some fn) (hb : fn.body = some c) (hnt : fn.ntmps = n) (hn : Nat.ble ys.length n = true)
    (hrv : fn.results.toList = rv) (hk : KW P [.code c] .normal ⟨n, idx 0 ys, rs⟩ (RetQ rv y rs')) : DoesF P f ys rs y rs' := by
  subst hrv
  exact DoesF.of n hf hb hnt hn hk

theorem SV.ren_nil {y : SV} (hy : y.inB [] = true) : y.ren [] = y := by
  have hren : ∀ x : EV, x.inB [] = true → x.ren [] = x := by
    intro x
    have hk : ∀ hs : List Nat, keysB [] hs = true → rnL [] hs = hs := by
      intro hs
      induction hs with
      | nil => intro _; rfl
      | cons j l ih => intro hb; simp [keysB, keyB, lk] at hb
    induction x with
    | gd b x ih => intro hb; simp only [EV.ren]; rw [ih hb]
    | r i => intro hb; simp [EV.inB, keyB, lk] at hb
    | pt i k e q => intro hb; simp [EV.inB, keyB, lk] at hb
    | fn g hs => intro hb; simp only [EV.ren]; rw [hk hs hb]
    | _ => intro _; rfl
  cases y with
  | e x => simp only [SV.ren]; rw [hren x hy]
  | tup xs =>
    simp only [SV.ren]
    rw [renL_eq]
    congr 1
    have : ∀ x ∈ xs, EV.ren [] x = x := fun x hx => hren x (inBs_ok hy x hx)
    conv => rhs; rw [← List.map_id xs]
    exact List.map_congr_left this

/-- a call that hands over values and hands back a value -/
theorem KW.callV {all : Array Oper} {op : Oper} {rest : List Oper} {c : Call} {d g m : Nat} {ks : Nat → Nat} {caps : Nat → Nat → CV} {p : Prop} {f : Operand} {ys1 ys : List EV} {y : SV}
    (D : DoesF P g ys [] y []) (eg : ∀ args w, (callFunc g args).run P w = .ok (.enter g args) w) (L : List Nat)
    (hw : Wanted A all op) (ho : op.op = .call c) (hd : op.dst = some d) (hlt : Nat.blt d A.n = true) (hc : c.callee = .value f) (hf : rd A f = some (.c (.clo g m ks caps), p)) (hp : p)
    (hys : ys = ys1 ++ capE ks caps m 0) (hargs : argsP A [] L c.args.toList ys1) (hy : y.inB [] = true) (hflat : L = [] ∨ SvFlat y)
    (hn : KW P (.ops all rest :: k) .normal ⟨A.n, (d, y) :: A.sl, A.rs⟩ Q) : KW P (.ops all (op :: rest) :: k) .normal A Q := by
  refine KW.call D eg [] [] L hw ho hd hlt hc hf hp hys hargs rfl trivial rfl trivial hy rfl (hflat.imp id fun hf => ⟨hf, by simp⟩) ?_
  rw [SV.ren_nil hy]
  exact hn

/-- the same for a function that captures nothing -/
theorem KW.callV0 {all : Array Oper} {op : Oper} {rest : List Oper} {c : Call} {d g : Nat} {ks : Nat → Nat} {caps : Nat → Nat → CV} {p : Prop} {f : Operand} {ys : List EV} {y : SV}
    (D : DoesF P g ys [] y []) (eg : ∀ args w, (callFunc g args).run P w = .ok (.enter g args) w) (L : List Nat)
    (hw : Wanted A all op) (ho : op.op = .call c) (hd : op.dst = some d) (hlt : Nat.blt d A.n = true) (hc : c.callee = .value f) (hf : rd A f = some (.c (.clo g 0 ks caps), p)) (hp : p)
    (hargs : argsP A [] L c.args.toList ys) (hy : y.inB [] = true) (hflat : L = [] ∨ SvFlat y)
    (hn : KW P (.ops all rest :: k) .normal ⟨A.n, (d, y) :: A.sl, A.rs⟩ Q) : KW P (.ops all (op :: rest) :: k) .normal A Q :=
  KW.callV D eg L hw ho hd hlt hc hf hp (by simp [capE]) hargs hy hflat hn
/-- the same for a function that captures -/
theorem KW.callC {all : Array Oper} {op : Oper} {rest : List Oper} {c : Call} {d g m : Nat} {ks : Nat → Nat} {caps : Nat → Nat → CV} {p : Prop} {f : Operand} (ys1 : List EV) {y : SV}
    (D : DoesF P g (ys1 ++ capE ks caps m 0) [] y []) (eg : ∀ args w, (callFunc g args).run P w = .ok (.enter g args) w) (L : List Nat)
    (hw : Wanted A all op) (ho : op.op = .call c) (hd : op.dst = some d) (hlt : Nat.blt d A.n = true) (hc : c.callee = .value f) (hf : rd A f = some (.c (.clo g m ks caps), p)) (hp : p)
    (hargs : argsP A [] L c.args.toList ys1) (hy : y.inB [] = true) (hflat : L = [] ∨ SvFlat y)
    (hn : KW P (.ops all rest :: k) .normal ⟨A.n, (d, y) :: A.sl, A.rs⟩ Q) : KW P (.ops all (op :: rest) :: k) .normal A Q :=
  KW.callV D eg L hw ho hd hlt hc hf hp rfl hargs hy hflat hn

/-- a call that hands back a row of the callee's own: it gets the name of the slot -/
theorem KW.callO {all : Array Oper} {op : Oper} {rest : List Oper} {c : Call} {d g m : Nat} {ks : Nat → Nat} {caps : Nat → Nat → CV} {p : Prop} {f : Operand} {ys1 ys : List EV} {E : Nat} {x : CV}
    (D : DoesF P g ys [] (.e (.r 0)) [(0, .own E x)]) (eg : ∀ args w, (callFunc g args).run P w = .ok (.enter g args) w) (L : List Nat)
    (hw : Wanted A all op) (ho : op.op = .call c) (hd : op.dst = some d) (hlt : Nat.blt d A.n = true) (hc : c.callee = .value f) (hf : rd A f = some (.c (.clo g m ks caps), p)) (hp : p)
    (hys : ys = ys1 ++ capE ks caps m 0) (hargs : argsP A [] L c.args.toList ys1) (hfr : freshB A d = true) (hflat : L = [] ∨ ResFlat (.own E x))
    (hn : KW P (.ops all rest :: k) .normal ⟨A.n, (d, .e (.r d)) :: A.sl, (d, .own E x) :: A.rs⟩ Q) : KW P (.ops all (op :: rest) :: k) .normal A Q := by
  have hfl : L = [] ∨ (SvFlat (.e (.r 0)) ∧ ∀ (j : Nat) (r : Res), (j, r) ∈ [(0, Res.own E x)] → ResFlat r) := by
    rcases hflat with h | h
    · exact .inl h
    · refine .inr ⟨trivial, ?_⟩
      intro j r hm
      cases hm with
      | head => exact h
      | tail _ hm => cases hm
  exact KW.call D eg [] [(0, d)] L hw ho hd hlt hc hf hp hys hargs rfl trivial rfl ⟨.inl hfr, trivial⟩ rfl rfl hfl hn

/-- an operation that is passed over -/
theorem KW.pass {all : Array Oper} {op : Oper} {rest : List Oper} {j d : Nat} {want b : Bool} (hg : op.guard = some (j, want)) (hb : gdOf A all j want = some b) (ht : b = false) (hd : op.dst = some d) (hlt : Nat.blt d A.n = true)
    (hn : KW P (.ops all rest :: k) .normal ⟨A.n, (d, .e (.gd false .dead)) :: A.sl, A.rs⟩ Q) : KW P (.ops all (op :: rest) :: k) .normal A Q := by
  intro o h tm w hs
  have hlt : d < A.n := by simpa [Nat.blt, Nat.succ_le_iff] using hlt
  show wpList P all (kq P (lift Q o w) k) (op :: rest) ⟨tm, []⟩ w
  unfold wpList
  have hy := gdOf_false hs hb ht
  rw [if_neg (by simp [Region.wanted, hg, hy])]
  have hput : (⟨tm, []⟩ : Act).put op.dst undef = ⟨tm.setIfInBounds d undef, []⟩ := by simp [Act.put, hd]
  rw [hput]
  exact hn o h _ w (hs.put hlt (v := undef) (sv := .e (.gd false .dead)) ⟨fun e => Bool.noConfusion e, fun _ => rfl⟩)
end

theorem enters {P : Program} {g : FuncId} {fn : Func} {c : Code} (hf : P.funcs[g]? = some fn) (hn : (fn.name == "runtime.NumGoroutine") = false) (hb : fn.body = some c) : ∀ args w, (callFunc g args).run P w = .ok (.enter g args) w := by
  intro args w
  have h1 : fn.name ≠ "runtime.NumGoroutine" := by simpa using hn
  simp [callFunc, hf, h1, hb]

end Go.Sy
