/-
  SyO, SyP, SyR, SyS, SyQ, one text.
-/
import Derived.Test.YtdeoicedbphgoaaGreatDoorSyK
set_option linter.unusedSectionVars false
set_option linter.unusedVariables false
set_option linter.unusedSimpArgs false
/-
  SYMBOLIC STATES, PART O: how loops, joins and returns are written; the contract's own form.
-/
namespace Go.Sy
variable [Drw]

/-- a part of 'A', under the names of ρ, is 'B' -/
structure Sub (ρ : List (Nat × Nat)) (A B : St) : Prop where
  one : oneB ρ = true
  n : B.n = A.n
  s : subS ρ A B.sl
  r : subR ρ A B.rs

/-- where a piece of code comes to: a state out of 'I', or, by another exit, what is left to do behind it -/
def ToQ (P : Program) (k : List K) (Q : Exit → St → Prop) {σ : Type} (I : σ → St) (R : σ → Prop) : Exit → St → Prop
  | .normal, A' => ∃ s, R s ∧ ∃ ρ, Sub ρ A' (I s)
  | e, A' => KW P k e A' Q

/-- what a function comes to -/
def RetQ (rv : List ResultVar) (y : SV) (rs' : List (Nat × Res)) : Exit → St → Prop := fun e A' =>
  (e = .ret ∨ e = .normal) ∧ ∃ y0 ρ, retB A' rv = some y0 ∧ oneB ρ = true ∧ y0 = y.ren ρ ∧ subR ρ A' rs'

section
variable {P : Program} {lay : Lay} {A A' : St} {Q : Exit → St → Prop} {k : List K} {e : Exit} {σ : Type} {I : σ → St} {R : σ → Prop}

theorem KW.to (s : σ) (hR : R s) (ρ : List (Nat × Nat)) (h : Sub ρ A (I s)) : KW P [] .normal A (ToQ P k Q I R) := KW.done ⟨s, hR, ρ, h⟩
theorem KW.out (h : KW P k e A Q) (he : e ≠ .normal) : KW P [] e A (ToQ P k Q I R) := KW.done (by cases e <;> first | exact h | exact absurd rfl he)
theorem KW.outX {id : Nat} (h : KW P k (.exit id) A Q) : KW P [] (.exit id) A (ToQ P k Q I R) := KW.done h
theorem KW.outR (h : KW P k .ret A Q) : KW P [] .ret A (ToQ P k Q I R) := KW.done h

/-- a loop -/
theorem KW.lp {c : Code} (I : σ → St) (R : σ → Prop) (m : σ → Nat) (s : σ) (hR : R s) (ρ : List (Nat × Nat)) (h : Sub ρ A (I s))
    (round : ∀ s, R s → KW P [.code c] .normal (I s) (ToQ P k Q I fun s' => R s' ∧ m s' < m s)) : KW P (.code (.loop c) :: k) .normal A Q := by
  refine KW.loop (σ := {s : σ // R s}) (fun s => I s.1) (fun s => m s.1) ⟨s, hR⟩ (fun o h' tm w hs => ⟨_, _, hs.sub ρ h.one h.n h.s h.r⟩) (fun s => KW.mono ?_ (round s.1 s.2))
  intro e A' hq
  cases e with
  | normal =>
    obtain ⟨s', ⟨hR', hlt⟩, ρ, h⟩ := hq
    exact ⟨⟨s', hR'⟩, hlt, fun o h' tm w hs => ⟨_, _, hs.sub ρ h.one h.n h.s h.r⟩⟩
  | _ => exact hq

/-- ways meet again: the first thing that is left to do comes to a state out of 'I' -/
theorem KW.join {x : K} (I : σ → St) (R : σ → Prop) (h1 : KW P [x] .normal A (ToQ P k Q I R)) (h2 : ∀ s, R s → KW P k .normal (I s) Q) : KW P (x :: k) .normal A Q := by
  refine KW.cut (k := k) (ToQ P k Q I R) [x] h1 ?_
  intro e A' hq
  cases e with
  | normal =>
    obtain ⟨s, hR, ρ, h⟩ := hq
    exact KW.sub ρ h.one h.n h.s h.r (h2 s hR)
  | _ => exact hq
/-- the first two -/
theorem KW.join2 {x x' : K} (I : σ → St) (R : σ → Prop) (h1 : KW P [x, x'] .normal A (ToQ P k Q I R)) (h2 : ∀ s, R s → KW P k .normal (I s) Q) : KW P (x :: x' :: k) .normal A Q := by
  refine KW.cut (k := k) (ToQ P k Q I R) [x, x'] h1 ?_
  intro e A' hq
  cases e with
  | normal =>
    obtain ⟨s, hR, ρ, h⟩ := hq
    exact KW.sub ρ h.one h.n h.s h.r (h2 s hR)
  | _ => exact hq

theorem KW.fin {rv : List ResultVar} {y y0 : SV} {rs' : List (Nat × Res)} (ρ : List (Nat × Nat)) (h1 : retB A rv = some y0) (h2 : oneB ρ = true) (h3 : y0 = y.ren ρ) (h4 : subR ρ A rs') : KW P [] .ret A (RetQ rv y rs') :=
  KW.done ⟨.inl rfl, y0, ρ, h1, h2, h3, h4⟩
theorem KW.finN {rv : List ResultVar} {y y0 : SV} {rs' : List (Nat × Res)} (ρ : List (Nat × Nat)) (h1 : retB A rv = some y0) (h2 : oneB ρ = true) (h3 : y0 = y.ren ρ) (h4 : subR ρ A rs') : KW P [] .normal A (RetQ rv y rs') :=
  KW.done ⟨.inr rfl, y0, ρ, h1, h2, h3, h4⟩

theorem DoesF.body {f : FuncId} {fn : Func} {c : Code} {ys : List EV} {rs rs' : List (Nat × Res)} {y : SV} {rv : List ResultVar} (n : Nat) (hf : P.funcs[f]? = some fn) (hb : fn.body = some c) (hnt : fn.ntmps = n) (hn : Nat.ble ys.length n = true)
    (hrv : fn.results.toList = rv) (hk : KW P [.code c] .normal ⟨n, idx 0 ys, rs⟩ (RetQ rv y rs')) : DoesF P f ys rs y rs' := by
  subst hrv
  exact DoesF.of n hf hb hnt hn hk

/-- the slots of parameters that still hold the rows they held -/
def keptR (ρ : List (Nat × Nat)) (A : St) : List (Nat × Nat) → Prop
  | [] => True
  | (j, t) :: l => lk A.sl t = some (.e (.r (rn ρ j))) ∧ keptR ρ A l
def keptIn (c : Code) (ys : List EV) : List (Nat × Nat) → Prop
  | [] => True
  | (j, t) :: l => stays t c = true ∧ lk (idx 0 ys) t = some (.e (.r j)) ∧ keptIn c ys l
/-- what a function comes to whose rows stay in place: 'kp' holds row and parameter -/
def RetQK (rv : List ResultVar) (y : SV) (rs' : List (Nat × Res)) (kp : List (Nat × Nat)) : Exit → St → Prop := fun e A' =>
  (e = .ret ∨ e = .normal) ∧ ∃ y0 ρ, retB A' rv = some y0 ∧ oneB ρ = true ∧ y0 = y.ren ρ ∧ subR ρ A' rs' ∧ keptR ρ A' kp
theorem KW.finK {rv : List ResultVar} {y y0 : SV} {rs' : List (Nat × Res)} {kp : List (Nat × Nat)} (ρ : List (Nat × Nat)) (h1 : retB A rv = some y0) (h2 : oneB ρ = true) (h3 : y0 = y.ren ρ) (h4 : subR ρ A rs') (h5 : keptR ρ A kp) : KW P [] .ret A (RetQK rv y rs' kp) :=
  KW.done ⟨.inl rfl, y0, ρ, h1, h2, h3, h4, h5⟩
theorem KW.finKN {rv : List ResultVar} {y y0 : SV} {rs' : List (Nat × Res)} {kp : List (Nat × Nat)} (ρ : List (Nat × Nat)) (h1 : retB A rv = some y0) (h2 : oneB ρ = true) (h3 : y0 = y.ren ρ) (h4 : subR ρ A rs') (h5 : keptR ρ A kp) : KW P [] .normal A (RetQK rv y rs' kp) :=
  KW.done ⟨.inr rfl, y0, ρ, h1, h2, h3, h4, h5⟩
theorem codeQ_staysL {c : Code} {ys : List EV} {Q : Exit → Act → World → Prop} {a : Act} {w : World} : ∀ (kp : List (Nat × Nat)), keptIn c ys kp → codeQ P c Q a w →
    codeQ P c (fun e a' w' => Q e a' w' ∧ (e ≠ .outgrown → ∀ jt ∈ kp, a'.tmps.getD jt.2 undef = a.tmps.getD jt.2 undef)) a w
  | [], _, h => codeQ_mono h fun e a w h => ⟨h, fun _ jt hj => by cases hj⟩
  | (j, t) :: l, hk, h => by
    refine codeQ_mono (codeQ_stays hk.1 rfl (codeQ_staysL l hk.2.2 h)) ?_
    rintro e a' w' ⟨⟨h1, h2⟩, h3⟩
    refine ⟨h1, fun he jt hj => ?_⟩
    rcases List.mem_cons.1 hj with rfl | hj
    · exact h3 he
    · exact h2 he jt hj
theorem keptIn_mem {c : Code} {ys : List EV} : ∀ {kp : List (Nat × Nat)}, keptIn c ys kp → ∀ jt ∈ kp, lk (idx 0 ys) jt.2 = some (.e (.r jt.1))
  | (j, t) :: l, hk, jt, hj => by
    rcases List.mem_cons.1 hj with rfl | hj
    · exact hk.2.1
    · exact keptIn_mem hk.2.2 jt hj
theorem keptR_mem {ρ : List (Nat × Nat)} {A : St} : ∀ {kp : List (Nat × Nat)}, keptR ρ A kp → ∀ jt ∈ kp, lk A.sl jt.2 = some (.e (.r (rn ρ jt.1)))
  | (j, t) :: l, hk, jt, hj => by
    rcases List.mem_cons.1 hj with rfl | hj
    · exact hk.1
    · exact keptR_mem hk.2 jt hj
/-- a function's contract, out of its body, where rows stay in place -/
theorem DoesK.body {f : FuncId} {fn : Func} {c : Code} {ys : List EV} {rs rs' : List (Nat × Res)} {y : SV} {rv : List ResultVar} {kl : List Nat} (n : Nat) (kp : List (Nat × Nat)) (hf : P.funcs[f]? = some fn) (hb : fn.body = some c) (hnt : fn.ntmps = n) (hn : Nat.ble ys.length n = true)
    (hrv : fn.results.toList = rv) (hkp : keptIn c ys kp) (hkl : kp.map (·.1) = kl) (hk : KW P [.code c] .normal ⟨n, idx 0 ys, rs⟩ (RetQK rv y rs' kp)) : DoesK P f ys rs y rs' kl := by
  subst hrv
  subst hkl
  subst hnt
  have hn : ys.length ≤ fn.ntmps := by simpa using hn
  intro o h args w hs
  refine calls_of_wp hf hb ?_
  have hsz : args.size = ys.length := hs.size
  have hgd : ∀ s x, lk (idx 0 ys) s = some x → (args ++ Array.replicate (fn.ntmps - args.size) undef).getD s undef = args.getD s undef := fun s x hl => by
    obtain ⟨_, hlt, _⟩ := idx_lt ys 0 s x hl
    rw [Array.getD_eq_getD_getElem?, Array.getD_eq_getD_getElem?, Array.getElem?_append_left (by omega)]
  have hs' : Sat o h ⟨fn.ntmps, idx 0 ys, rs⟩ (args ++ Array.replicate (fn.ntmps - args.size) undef) w := by
    refine ⟨by simp [hsz]; omega, hs.tags, fun s x hl => ?_, hs.res⟩
    rw [hgd s x hl]; exact hs.slot s x hl
  have hq := codeQ_staysL kp hkp (show codeQ P c _ _ _ from hk o h _ w hs')
  refine wp_mono (codeQ_wp hq) ?_
  rintro e ⟨tm', ds⟩ w' ⟨hl, hst⟩
  obtain ⟨hd, o', h', A', ⟨he, y0, ρ, hr, h1, rfl, hR, hK⟩, hs2, hx⟩ : lift _ o w e ⟨tm', ds⟩ w' := by
    cases e <;> exact hl
  simp only at hd
  subst hd
  obtain ⟨v, hv, hy⟩ := results_ok (P := P) hs2 hr
  have hst' := hst (by rcases he with rfl | rfl <;> simp)
  have hfin : ∃ v o' h', Ending.returned v = .returned v ∧ Sat o' h' ⟨1, [(0, y)], rs'⟩ #[v] w' ∧ Ext o w o' w' ∧ (∀ j ∈ kp.map (·.1), h' j = h j) ∧ (results fn tm').run P w' = .ok v w' := by
    refine ⟨v, viewO ρ (fun _ => false) o', viewH ρ h', rfl, ⟨rfl, tags_view hs2 ρ _, fun s x hl => ?_, fun j r hl => ?_⟩, hx.trans ⟨Nat.le_refl _, rfl, rfl, rfl, Nat.le_refl _, fun b hb _ => ⟨viewO_sh hb, rfl⟩, fun b hb _ => ⟨viewO_no hb, rfl⟩⟩, fun j hj => ?_, hv⟩
    · rw [lk_cons] at hl
      split at hl
      · rename_i e; subst e; cases hl; exact hy.view (keep_view ρ _)
      · simp [lk] at hl
    · obtain ⟨i, hi, hr⟩ := subR_ok hR j r hl
      exact (hs2.res i _ hr).view h1 hi
    · obtain ⟨jt, hjt, rfl⟩ := List.mem_map.1 hj
      have e1 : tm'.getD jt.2 undef = h' (rn ρ jt.1) := hs2.slot _ _ (keptR_mem hK jt hjt)
      have hl0 := keptIn_mem hkp jt hjt
      have e2 : args.getD jt.2 undef = h jt.1 := hs.slot _ _ hl0
      have e3 := hst' jt hjt
      simp only at e3
      rw [hgd _ _ hl0, e1, e2] at e3
      exact e3
  obtain ⟨v, o2, h2, _, g1, g2, g4, g3⟩ := hfin
  rcases he with rfl | rfl
  · exact ⟨rfl, v, g3, v, o2, h2, rfl, g1, g2, g4⟩
  · exact ⟨rfl, v, g3, v, o2, h2, rfl, g1, g2, g4⟩

theorem SV.ren_nil {y : SV} (hy : y.inB [] = true) : y.ren [] = y := by
  have hren : ∀ x : EV, x.inB [] = true → x.ren [] = x := by
    intro x
    have hk : ∀ hs : List Nat, keysB [] hs = true → rnL [] hs = hs := by
      intro hs
      induction hs with
      | nil => intro _; rfl
      | cons j l ih => intro hb; simp [keysB, keyB, lk] at hb
    induction x with
    | gd b x ih => intro hb; simp only [EV.ren]; rw [ih hb]
    | r i => intro hb; simp [EV.inB, keyB, lk] at hb
    | pt i k e q => intro hb; simp [EV.inB, keyB, lk] at hb
    | fn g hs => intro hb; simp only [EV.ren]; rw [hk hs hb]
    | _ => intro _; rfl
  cases y with
  | e x => simp only [SV.ren]; rw [hren x hy]
  | tup xs =>
    simp only [SV.ren]
    rw [renL_eq]
    congr 1
    have : ∀ x ∈ xs, EV.ren [] x = x := fun x hx => hren x (inBs_ok hy x hx)
    conv => rhs; rw [← List.map_id xs]
    exact List.map_congr_left this

/-- a call that hands over values and hands back a value -/
theorem KW.callV {all : Array Oper} {op : Oper} {rest : List Oper} {c : Call} {d g m : Nat} {ks : Nat → Nat} {caps : Nat → Nat → CV} {p : Prop} {f : Operand} {ys1 ys : List EV} {y : SV}
    (D : DoesF P g ys [] y []) (eg : ∀ args w, (callFunc g args).run P w = .ok (.enter g args) w) (L : List Nat)
    (hw : Wanted A all op) (ho : op.op = .call c) (hd : op.dst = some d) (hlt : Nat.blt d A.n = true) (hc : c.callee = .value f) (hf : rd A f = some (.c (.clo g m ks caps), p)) (hp : p)
    (hys : ys = ys1 ++ capE ks caps m 0) (hargs : argsP A [] L c.args.toList ys1) (hy : y.inB [] = true) (hflat : L = [] ∨ SvFlat y)
    (hn : KW P (.ops all rest :: k) .normal ⟨A.n, (d, y) :: A.sl, A.rs⟩ Q) : KW P (.ops all (op :: rest) :: k) .normal A Q := by
  refine KW.call D eg [] [] L hw ho hd hlt hc hf hp hys hargs rfl trivial rfl trivial hy rfl (hflat.imp id fun hf => ⟨hf, by simp⟩) ?_
  rw [SV.ren_nil hy]
  exact hn

/-- the same for a function that captures nothing -/
theorem KW.callV0 {all : Array Oper} {op : Oper} {rest : List Oper} {c : Call} {d g : Nat} {ks : Nat → Nat} {caps : Nat → Nat → CV} {p : Prop} {f : Operand} {ys : List EV} {y : SV}
    (D : DoesF P g ys [] y []) (eg : ∀ args w, (callFunc g args).run P w = .ok (.enter g args) w) (L : List Nat)
    (hw : Wanted A all op) (ho : op.op = .call c) (hd : op.dst = some d) (hlt : Nat.blt d A.n = true) (hc : c.callee = .value f) (hf : rd A f = some (.c (.clo g 0 ks caps), p)) (hp : p)
    (hargs : argsP A [] L c.args.toList ys) (hy : y.inB [] = true) (hflat : L = [] ∨ SvFlat y)
    (hn : KW P (.ops all rest :: k) .normal ⟨A.n, (d, y) :: A.sl, A.rs⟩ Q) : KW P (.ops all (op :: rest) :: k) .normal A Q :=
  KW.callV D eg L hw ho hd hlt hc hf hp (by simp [capE]) hargs hy hflat hn
/-- the same for a function that captures -/
theorem KW.callC {all : Array Oper} {op : Oper} {rest : List Oper} {c : Call} {d g m : Nat} {ks : Nat → Nat} {caps : Nat → Nat → CV} {p : Prop} {f : Operand} (ys1 : List EV) {y : SV}
    (D : DoesF P g (ys1 ++ capE ks caps m 0) [] y []) (eg : ∀ args w, (callFunc g args).run P w = .ok (.enter g args) w) (L : List Nat)
    (hw : Wanted A all op) (ho : op.op = .call c) (hd : op.dst = some d) (hlt : Nat.blt d A.n = true) (hc : c.callee = .value f) (hf : rd A f = some (.c (.clo g m ks caps), p)) (hp : p)
    (hargs : argsP A [] L c.args.toList ys1) (hy : y.inB [] = true) (hflat : L = [] ∨ SvFlat y)
    (hn : KW P (.ops all rest :: k) .normal ⟨A.n, (d, y) :: A.sl, A.rs⟩ Q) : KW P (.ops all (op :: rest) :: k) .normal A Q :=
  KW.callV D eg L hw ho hd hlt hc hf hp rfl hargs hy hflat hn

/-- a call that hands back a row of the callee's own: it gets the name of the slot -/
theorem KW.callO {all : Array Oper} {op : Oper} {rest : List Oper} {c : Call} {d g m : Nat} {ks : Nat → Nat} {caps : Nat → Nat → CV} {p : Prop} {f : Operand} {ys1 ys : List EV} {E : Nat} {x : CV}
    (D : DoesF P g ys [] (.e (.r 0)) [(0, .own E x)]) (eg : ∀ args w, (callFunc g args).run P w = .ok (.enter g args) w) (L : List Nat)
    (hw : Wanted A all op) (ho : op.op = .call c) (hd : op.dst = some d) (hlt : Nat.blt d A.n = true) (hc : c.callee = .value f) (hf : rd A f = some (.c (.clo g m ks caps), p)) (hp : p)
    (hys : ys = ys1 ++ capE ks caps m 0) (hargs : argsP A [] L c.args.toList ys1) (hfr : freshB A d = true) (hflat : L = [] ∨ ResFlat (.own E x))
    (hn : KW P (.ops all rest :: k) .normal ⟨A.n, (d, .e (.r d)) :: A.sl, (d, .own E x) :: A.rs⟩ Q) : KW P (.ops all (op :: rest) :: k) .normal A Q := by
  have hfl : L = [] ∨ (SvFlat (.e (.r 0)) ∧ ∀ (j : Nat) (r : Res), (j, r) ∈ [(0, Res.own E x)] → ResFlat r) := by
    rcases hflat with h | h
    · exact .inl h
    · refine .inr ⟨trivial, ?_⟩
      intro j r hm
      cases hm with
      | head => exact h
      | tail _ hm => cases hm
  exact KW.call D eg [] [(0, d)] L hw ho hd hlt hc hf hp hys hargs rfl trivial rfl ⟨.inl hfr, trivial⟩ rfl rfl hfl hn

/-- an operation that is passed over -/
theorem KW.pass {all : Array Oper} {op : Oper} {rest : List Oper} {j d : Nat} {want b : Bool} (hg : op.guard = some (j, want)) (hb : gdOf A all j want = some b) (ht : b = false) (hd : op.dst = some d) (hlt : Nat.blt d A.n = true)
    (hn : KW P (.ops all rest :: k) .normal ⟨A.n, (d, .e (.gd false .dead)) :: A.sl, A.rs⟩ Q) : KW P (.ops all (op :: rest) :: k) .normal A Q := by
  intro o h tm w hs
  have hlt : d < A.n := by simpa [Nat.blt, Nat.succ_le_iff] using hlt
  show wpList P all (kq P (lift Q o w) k) (op :: rest) ⟨tm, []⟩ w
  unfold wpList
  have hy := gdOf_false hs hb ht
  rw [if_neg (by simp [Region.wanted, hg, hy])]
  have hput : (⟨tm, []⟩ : Act).put op.dst undef = ⟨tm.setIfInBounds d undef, []⟩ := by simp [Act.put, hd]
  rw [hput]
  exact hn o h _ w (hs.put hlt (v := undef) (sv := .e (.gd false .dead)) ⟨fun e => Bool.noConfusion e, fun _ => rfl⟩)
end

theorem enters {P : Program} {g : FuncId} {fn : Func} {c : Code} (hf : P.funcs[g]? = some fn) (hn : (fn.name == "runtime.NumGoroutine") = false) (hb : fn.body = some c) : ∀ args w, (callFunc g args).run P w = .ok (.enter g args) w := by
  intro args w
  have h1 : fn.name ≠ "runtime.NumGoroutine" := by simpa using hn
  simp [callFunc, hf, h1, hb]

end Go.Sy

/-
  SYMBOLIC STATES, PART P: the engine with a table of contracts: 'run2' goes through the calls of the table's functions by itself.
-/
namespace Go.Sy
variable [Drw]

/-- a table of contracts: what a function answers to values, and what it takes -/
abbrev Fns := List (Nat × (List EV → Option (SV × Prop)))
def FnsOk (P : Program) (fns : Fns) : Prop := ∀ f F, lk fns f = some F → (∀ args w, (callFunc f args).run P w = .ok (.enter f args) w) ∧ ∀ ys y φ, F ys = some (y, φ) → φ → DoesF P f ys [] y []

theorem FnsOk.nil (P : Program) : FnsOk P [] := fun f F h => by simp [lk] at h
theorem FnsOk.cons {P : Program} {fns : Fns} {f : FuncId} {fn : Func} {c : Code} {F : List EV → Option (SV × Prop)} (h : FnsOk P fns) (hf : P.funcs[f]? = some fn) (hn : (fn.name == "runtime.NumGoroutine") = false) (hb : fn.body = some c)
    (hF : ∀ ys y φ, F ys = some (y, φ) → φ → DoesF P f ys [] y []) : FnsOk P ((f, F) :: fns) := by
  intro g G hl
  rw [lk_cons] at hl
  split at hl
  · rename_i e; subst e; cases hl; exact ⟨enters hf hn hb, hF⟩
  · exact h g G hl

/-- parameters in other words -/
def EvEq : EV → EV → Prop
  | .c x, .c y => CVEq x y
  | .ag xs, .ag ys => xs.length = ys.length ∧ ∀ (q : Nat) x y, xs[q]? = some x → ys[q]? = some y → CVEq x y
  | x, y => x = y
def EvEqs : List EV → List EV → Prop
  | [], [] => True
  | x :: xs, y :: ys => EvEq x y ∧ EvEqs xs ys
  | _, _ => False

theorem EvEqs.len : ∀ {xs ys : List EV}, EvEqs xs ys → xs.length = ys.length
  | [], [], _ => rfl
  | _ :: xs, _ :: ys, h => by simp [EvEqs.len h.2]
  | [], _ :: _, h => h.elim
  | _ :: _, [], h => h.elim
theorem EvEqs.get : ∀ {xs ys : List EV}, EvEqs xs ys → ∀ {q : Nat} {y : EV}, ys[q]? = some y → ∃ x, xs[q]? = some x ∧ EvEq x y
  | [], [], _, q, y, h => by simp at h
  | x :: xs, y :: ys, h, 0, y', hy => by simp at hy; subst hy; exact ⟨x, by simp, h.1⟩
  | x :: xs, y :: ys, h, q + 1, y', hy => by simp at hy; obtain ⟨x', h1, h2⟩ := EvEqs.get h.2 hy; exact ⟨x', by simpa using h1, h2⟩
  | [], _ :: _, h, _, _, _ => h.elim
  | _ :: _, [], h, _, _, _ => h.elim

theorem EvOk.conv {o : Nat → Tag} {h : Nat → Value} {w : World} {x y : EV} {v : Value} (he : EvEq x y) (hx : EvOk o h w x v) : EvOk o h w y v := by
  cases x with
  | c x => cases y with
    | c y => exact RepV.conv he hx
    | _ => exact absurd he (by simp [EvEq])
  | ag xs => cases y with
    | ag ys =>
      obtain ⟨vs, rfl, h1, h2⟩ := hx
      refine ⟨vs, rfl, h1.trans he.1, fun q y hq => ?_⟩
      have hlt : q < xs.length := by rw [he.1]; exact (List.getElem?_eq_some_iff.1 hq).1
      obtain ⟨u, hu, hr⟩ := h2 q _ (List.getElem?_eq_getElem hlt)
      exact ⟨u, hu, RepV.conv (he.2 q _ y (List.getElem?_eq_getElem hlt) hq) hr⟩
    | _ => exact absurd he (by simp [EvEq])
  | _ => simp only [EvEq] at he; subst he; exact hx

theorem DoesF.conv {P : Program} {f : FuncId} {ys ys' : List EV} {rs rs' : List (Nat × Res)} {y : SV} (he : EvEqs ys ys') (D : DoesF P f ys' rs y rs') : DoesF P f ys rs y rs' := by
  intro o h args w hs
  refine D o h args w ⟨by simpa [he.len] using hs.size, hs.tags, fun s x hl => ?_, hs.res⟩
  obtain ⟨_, hlt, y, hy, rfl⟩ := idx_lt ys' 0 s x hl
  obtain ⟨x, hx, hxy⟩ := he.get hy
  have := hs.slot (0 + (s - 0)) _ (idx_get ys 0 _ x hx)
  simp only [Nat.sub_zero, Nat.zero_add] at this
  exact EvOk.conv hxy this

/-! what a slice's cells say -/
def cvInt : CV → Int
  | .lit (.int _ z) => z
  | _ => 0
def unI : CV → List Int
  | .sl n _ f => (List.range n).map fun e => cvInt (f e 0)
  | _ => []
def isI (x : CV) : Prop := CVEq x (ints (unI x))
@[simp] theorem unI_ints (xs : List Int) : unI (ints xs) = xs := by
  unfold unI ints
  refine List.ext_getElem (by simp) fun j h1 h2 => ?_
  simp [cvInt, List.getD_eq_getElem?_getD, h2]
@[simp] theorem isI_ints (xs : List Int) : isI (ints xs) := by unfold isI; rw [unI_ints]; exact CVEq.refl _
def nilV : CV := .lit (.slice none 0 0)
@[simp] theorem unI_nil : unI (.lit (.slice none 0 0)) = [] := rfl
@[simp] theorem isI_nil : isI (.lit (.slice none 0 0)) := ⟨rfl, rfl⟩
theorem isI_drop (xs : List Int) (n lo : Nat) (h : lo + n ≤ xs.length) : isI (.sl n 1 fun e _ => .lit (.int .i64 (xs.getD (e + lo) 0))) ∧ unI (.sl n 1 fun e _ => .lit (.int .i64 (xs.getD (e + lo) 0))) = (xs.drop lo).take n := by
  have h2 : unI (.sl n 1 fun e _ => .lit (.int .i64 (xs.getD (e + lo) 0))) = (xs.drop lo).take n := by
    refine List.ext_getElem (by simp [unI]; omega) fun j h1 h2 => ?_
    simp only [unI, List.length_map, List.length_range] at h1
    have : lo + j < xs.length := by omega
    simp [unI, cvInt, List.getD_eq_getElem?_getD, Nat.add_comm j lo, this]
  refine ⟨?_, h2⟩
  unfold isI
  rw [h2]
  refine ⟨by simp; omega, .inr ⟨rfl, fun e q he hq => ?_⟩⟩
  have : lo + e < xs.length := by omega
  simp [CVEq, List.getD_eq_getElem?_getD, he, Nat.add_comm e lo, this]

/-! calls of the table's functions -/
def isLit : CV → Bool
  | .lit _ => true
  | _ => false
def evFlatB : EV → Bool
  | .c x => isLit x
  | _ => false
def evsFlatB : List EV → Bool
  | [] => true
  | x :: l => evFlatB x && evsFlatB l
def svFlatB : SV → Bool
  | .e x => evFlatB x
  | .tup xs => evsFlatB xs
theorem evFlatB_ok {x : EV} (h : evFlatB x = true) : EvFlat x := by
  cases x with
  | c x => cases x with
    | lit _ => trivial
    | _ => simp [evFlatB, isLit] at h
  | _ => simp [evFlatB] at h
theorem svFlatB_ok {x : SV} (h : svFlatB x = true) : SvFlat x := by
  cases x with
  | e x => exact evFlatB_ok h
  | tup xs =>
    have : ∀ xs : List EV, evsFlatB xs = true → ∀ x ∈ xs, EvFlat x := by
      intro xs
      induction xs with
      | nil => intro _ x hx; cases hx
      | cons a l ih =>
        intro h x hx
        simp only [evsFlatB, Bool.and_eq_true] at h
        rcases List.mem_cons.1 hx with e | hx
        · subst e; exact evFlatB_ok h.1
        · exact ih h.2 x hx
    exact this xs h

def isSl : CV → Bool
  | .sl _ _ _ => true
  | _ => false
theorem isSl_ok {x : CV} (h : isSl x = true) : ∃ n k f, x = .sl n k f := by
  cases x with
  | sl n k f => exact ⟨n, k, f, rfl⟩
  | _ => simp [isSl] at h
def argE (A : St) : EV → Option (EV × List Nat)
  | .c x => some (.c x, [])
  | .ag cs => some (.ag cs, [])
  | .r i => match lk A.rs i with
    | some (.own _ x) => match isSl x with
      | true => some (.c x, [i])
      | false => none
    | _ => none
  | _ => none
def argsE (A : St) : List Operand → Option (List EV × List Nat × Prop)
  | [] => some ([], [], True)
  | x :: xs => match rd A x with
    | some (z, p) => match argE A z with
      | some (y, L) => match argsE A xs with
        | some (ys, L', q) => some (y :: ys, appN L L', p ∧ q)
        | none => none
      | none => none
    | none => none

theorem memN_of {d : Nat} : ∀ {l : List Nat}, d ∈ l → memN d l = true
  | [], h => by cases h
  | x :: l, h => by
    simp only [memN, Bool.or_eq_true]
    rcases List.mem_cons.1 h with e | h
    · subst e; left; simp
    · exact .inr (memN_of h)

theorem argsE_ok {A : St} : ∀ {xs : List Operand} {ys : List EV} {L : List Nat} {p : Prop}, argsE A xs = some (ys, L, p) → p → ∀ L0, (∀ i ∈ L, i ∈ L0) → argsP A [] L0 xs ys
  | [], ys, L, p, h, hp, L0, hL => by
    simp only [argsE, Option.some.injEq, Prod.mk.injEq] at h
    obtain ⟨rfl, rfl, rfl⟩ := h
    trivial
  | x :: xs, ys, L, p, h, hp, L0, hL => by
    simp only [argsE] at h
    split at h
    · rename_i z p1 hr
      split at h
      · rename_i y L1 ha
        split at h
        · rename_i ys' L' q hxs
          simp only [Option.some.injEq, Prod.mk.injEq] at h
          obtain ⟨rfl, rfl, rfl⟩ := h
          rw [appN_eq] at hL
          refine ⟨⟨z, p1, hr, hp.1, ?_⟩, argsE_ok hxs hp.2 L0 fun i hi => hL i (List.mem_append.2 (.inr hi))⟩
          unfold argE at ha
          split at ha
          · simp only [Option.some.injEq, Prod.mk.injEq] at ha
            obtain ⟨rfl, rfl⟩ := ha
            exact .conv (CVEq.refl _)
          · simp only [Option.some.injEq, Prod.mk.injEq] at ha
            obtain ⟨rfl, rfl⟩ := ha
            exact .agc rfl fun q x y h1 h2 => by rw [h1] at h2; cases h2; exact CVEq.refl _
          · split at ha
            · rename_i i _ E x hl
              split at ha
              · rename_i hx
                obtain ⟨n, k, f, e⟩ := isSl_ok hx
                simp only [Option.some.injEq, Prod.mk.injEq] at ha
                obtain ⟨rfl, rfl⟩ := ha
                exact .lend hl e (CVEq.refl _) (memN_of (hL _ (List.mem_append.2 (.inl (.head _))))) rfl
              · cases ha
            · cases ha
          · cases ha
        · cases h
      · cases h
    · cases h

def emptyN : List Nat → Bool
  | [] => true
  | _ => false
def stepC (fns : Fns) (A : St) (op : Oper) : Option (SV × Prop) :=
  match op.op with
  | .call c => match c.callee with
    | .value (.func g) => match lk fns g with
      | some F => match argsE A c.args.toList with
        | some (ys, L, q) => match F ys with
          | some (y, φ) => match y.inB [], emptyN L || svFlatB y with
            | true, true => some (y, q ∧ φ)
            | _, _ => none
          | none => none
        | none => none
      | none => none
    | _ => none
  | _ => none

section
variable {P : Program} {lay : Lay} {A A' : St} {Q : Exit → St → Prop} {fns : Fns}

theorem KW.slotW {k : List K} {e : Exit} {d n : Nat} {x x' : SV} {sl : List (Nat × SV)} {rs : List (Nat × Res)} (h : ∀ o h w v, SvOk o h w x v → SvOk o h w x' v) (hn : KW P k e ⟨n, (d, x') :: sl, rs⟩ Q) : KW P k e ⟨n, (d, x) :: sl, rs⟩ Q := by
  refine KW.weaken (A' := ⟨n, (d, x') :: sl, rs⟩) (fun o h' tm w hs => ⟨o, h', ⟨hs.size, hs.tags, fun s y hl => ?_, hs.res⟩, Ext.refl o w⟩) hn
  rw [lk_cons] at hl
  split at hl
  · rename_i e; subst e; cases hl; exact h _ _ _ _ (hs.slot d x (by rw [lk_cons, if_pos rfl]))
  · rename_i hne; exact hs.slot s y (by rw [lk_cons, if_neg hne]; exact hl)

theorem stepC_ok (hT : FnsOk P fns) {all : Array Oper} {op : Oper} {rest : List Oper} {k : List K} {y : SV} {φ : Prop} {d : Nat} (hg : Wanted A all op) (hd : op.dst = some d) (hlt : Nat.blt d A.n = true) (h : stepC fns A op = some (y, φ)) (hφ : φ)
    (hn : KW P (.ops all rest :: k) .normal ⟨A.n, (d, y) :: A.sl, A.rs⟩ Q) : KW P (.ops all (op :: rest) :: k) .normal A Q := by
  unfold stepC at h
  split at h
  · rename_i c ho
    split at h
    · rename_i g hc
      split at h
      · rename_i F hF
        split at h
        · rename_i ys L q ha
          split at h
          · rename_i y' φ' hy
            split at h
            · rename_i hin hfl
              simp only [Option.some.injEq, Prod.mk.injEq] at h
              obtain ⟨rfl, rfl⟩ := h
              obtain ⟨he, hD⟩ := hT g F hF
              refine KW.callV0 (hD ys y' φ' hy hφ.2) he L hg ho hd hlt hc rfl trivial (argsE_ok ha hφ.1 L fun _ h => h) hin ?_ hn
              simp only [Bool.or_eq_true] at hfl
              refine hfl.imp (fun h => ?_) svFlatB_ok
              cases L with
              | nil => rfl
              | cons _ _ => simp [emptyN] at h
            · cases h
          · cases h
        · cases h
      · cases h
    · cases h
  · cases h

def stepO (fns : Fns) : List K → Exit → St → Option (List K × Exit × St × Prop)
  | .ops all (o :: rest) :: k, .normal, ⟨n, sl, rs⟩ => match o.guard with
    | none => match o.dst, stepC fns ⟨n, sl, rs⟩ o with
      | some d, some (y, ψ) => match Nat.blt d n with
        | true => some (.ops all rest :: k, .normal, ⟨n, (d, y) :: sl, rs⟩, ψ)
        | false => none
      | _, _ => none
    | some (j, want) => match gdOf ⟨n, sl, rs⟩ all j want, stepC fns ⟨n, sl, rs⟩ o, o.dst with
      | some b, some (.e x, ψ), some d => match Nat.blt d n with
        | true => some (.ops all rest :: k, .normal, ⟨n, (d, .e (.gd b x)) :: sl, rs⟩, b = true → ψ)
        | false => none
      | _, _, _ => none
  | _, _, _ => none

def run2 (lay : Lay) (fns : Fns) : Nat → List K → Exit → St → Prop → List K × Exit × St × Prop
  | 0, k, e, A, φ => (k, e, A, φ)
  | f + 1, k, e, A, φ => match step1 lay k e A with
    | some (k', e', A', ψ) => run2 lay fns f k' e' A' (φ ∧ ψ)
    | none => match stepO fns k e A with
      | some (k', e', A', ψ) => run2 lay fns f k' e' A' (φ ∧ ψ)
      | none => (k, e, A, φ)

theorem stepO_ok (hT : FnsOk P fns) {k k' : List K} {e e' : Exit} {φ : Prop} (h : stepO fns k e A = some (k', e', A', φ)) (hφ : φ) (hn : KW P k' e' A' Q) : KW P k e A Q := by
  unfold stepO at h
  split at h
  · split at h
    · rename_i hg
      split at h
      · rename_i hd hc
        split at h
        · rename_i hlt
          simp only [Option.some.injEq, Prod.mk.injEq] at h
          obtain ⟨rfl, rfl, rfl, rfl⟩ := h
          exact stepC_ok hT (.inl hg) hd hlt hc hφ hn
        · cases h
      · cases h
    · rename_i j want hg
      split at h
      · rename_i b x ψ d hb hc hd
        split at h
        · rename_i hlt
          simp only [Option.some.injEq, Prod.mk.injEq] at h
          obtain ⟨rfl, rfl, rfl, rfl⟩ := h
          by_cases hbt : b = true
          · refine stepC_ok hT (.inr ⟨j, want, b, hg, hb, hbt⟩) hd hlt hc (hφ hbt) (KW.slotW (fun o h w v hv => ?_) hn)
            exact ⟨fun _ => hv, fun e => by rw [hbt] at e; cases e⟩
          · have hbf : b = false := by simpa using hbt
            refine KW.pass hg hb hbf hd hlt (KW.slotW (fun o h w v hv => ?_) hn)
            exact ⟨fun e => absurd e hbt, fun _ => hv.2 rfl⟩
        · cases h
      · cases h
  · cases h

theorem run2_ok (hl : LayOk P lay) (hT : FnsOk P fns) : ∀ (f : Nat) {k k' : List K} {e e' : Exit} {A A' : St} {φ φ' : Prop}, run2 lay fns f k e A φ = (k', e', A', φ') → φ' → KW P k' e' A' Q → φ ∧ KW P k e A Q
  | 0, k, k', e, e', A, A', φ, φ', h, hφ, hn => by
    simp only [run2, Prod.mk.injEq] at h
    obtain ⟨rfl, rfl, rfl, rfl⟩ := h
    exact ⟨hφ, hn⟩
  | f + 1, k, k', e, e', A, A', φ, φ', h, hφ, hn => by
    simp only [run2] at h
    split at h
    · rename_i k1 e1 A1 ψ hs
      obtain ⟨⟨h1, h2⟩, h3⟩ := run2_ok hl hT f h hφ hn
      exact ⟨h1, step1_ok hl hs h2 h3⟩
    · split at h
      · rename_i k1 e1 A1 ψ hs
        obtain ⟨⟨h1, h2⟩, h3⟩ := run2_ok hl hT f h hφ hn
        exact ⟨h1, stepO_ok hT hs h2 h3⟩
      · simp only [Prod.mk.injEq] at h
        obtain ⟨rfl, rfl, rfl, rfl⟩ := h
        exact ⟨hφ, hn⟩

theorem KW.go (hl : LayOk P lay) (hT : FnsOk P fns) (f : Nat) {k k' : List K} {e e' : Exit} {φ : Prop} (h : run2 lay fns f k e A True = (k', e', A', φ)) (hφ : φ) (hn : KW P k' e' A' Q) : KW P k e A Q :=
  (run2_ok hl hT f h hφ hn).2
end

end Go.Sy

/-
  SYMBOLIC STATES, PART R: regions that draw their order, where each operation only reads, or is a call of a function of the table: whatever the order, it comes to the same.
-/
namespace Go.Sy
variable [Drw]

section
variable {P : Program} {lay : Lay} {A A' B : St} {Q : Exit → St → Prop} {fns : Fns} {o : Nat → Tag} {h : Nat → Value} {tm : Array Value} {w : World}

/-- 'B' is a part of 'A' -/
structure St.le (B A : St) : Prop where
  n : B.n = A.n
  rs : B.rs = A.rs
  sl : ∀ t x, lk B.sl t = some x → lk A.sl t = some x

theorem Sat.le (hle : St.le B A) (hs : Sat o h A tm w) : Sat o h B tm w := ⟨hle.n ▸ hs.size, hs.tags, fun s x hl => hs.slot s x (hle.sl s x hl), fun i r hl => hs.res i r (hle.rs ▸ hl)⟩
theorem rd_up (hle : St.le B A) {x : Operand} {r : EV × Prop} (hr : rd B x = some r) : rd A x = some r := by
  cases x with
  | tmp t =>
    simp only [rd] at hr ⊢
    split at hr
    · rename_i e; rw [hle.sl _ _ e]; exact hr
    · rename_i x hne e
      rw [hle.sl _ _ e]
      cases x with
      | gd b y => exact (hne b y rfl).elim
      | _ => exact hr
    · cases hr
  | _ => exact hr
theorem argsE_up (hle : St.le B A) : ∀ {xs : List Operand} {r}, argsE B xs = some r → argsE A xs = some r
  | [], r, hr => hr
  | x :: xs, r, hr => by
    simp only [argsE] at hr ⊢
    split at hr
    · rename_i z p e
      rw [rd_up hle e]
      split at hr
      · rename_i y L e2
        have e2' : argE A z = some (y, L) := by
          unfold argE at e2 ⊢
          rw [← hle.rs]; exact e2
        simp only [e2']
        split at hr
        · rename_i e3
          rw [argsE_up hle e3]; exact hr
        · cases hr
      · cases hr
    · cases hr
theorem stepC_up (hle : St.le B A) {op : Oper} {r : SV × Prop} (hr : stepC fns B op = some r) : stepC fns A op = some r := by
  unfold stepC at hr ⊢
  split at hr
  · split at hr
    · split at hr
      · split at hr
        · rename_i e2
          simp only [argsE_up hle e2]
          exact hr
        · cases hr
      · cases hr
    · cases hr
  · cases hr

/-- what an operation leaves in its slot, out of a part of the state -/
def stepD (lay : Lay) (fns : Fns) (B : St) (ops : Array Oper) (op : Oper) : Option (SV × Prop) :=
  match op.guard with
  | none => match evP lay B op with
    | some r => some r
    | none => stepC fns B op
  | some (j, want) => match gdOf B ops j want with
    | some b => match evP lay B op with
      | some (.e x, φ) => some (.e (.gd b x), b = true → φ)
      | _ => match stepC fns B op with
        | some (.e x, φ) => some (.e (.gd b x), b = true → φ)
        | _ => none
    | none => none

theorem stepC_wp (hT : FnsOk P fns) {op : Oper} {y : SV} {φ : Prop} {d : Nat} (hs : Sat o h A tm w) (hd : op.dst = some d) (hlt : Nat.blt d A.n = true) (hc : stepC fns A op = some (y, φ)) (hφ : φ) {K : Act → World → Prop} {QQ : Exit → Act → World → Prop}
    (hn : ∀ o2 h2 v w1, Sat o2 h2 ⟨A.n, (d, y) :: A.sl, A.rs⟩ (tm.setIfInBounds d v) w1 → Ext o w o2 w1 → K ⟨tm.setIfInBounds d v, []⟩ w1) : op.wp P ⟨tm, []⟩ w K QQ := by
  unfold stepC at hc
  split at hc
  · rename_i c ho
    split at hc
    · rename_i g hcc
      split at hc
      · rename_i F hF
        split at hc
        · rename_i ys L q ha
          split at hc
          · rename_i y' φ' hy
            split at hc
            · rename_i hin hfl
              simp only [Option.some.injEq, Prod.mk.injEq] at hc
              obtain ⟨rfl, rfl⟩ := hc
              obtain ⟨he, hD⟩ := hT g F hF
              have hfl' : L = [] ∨ (SvFlat y' ∧ ∀ (j : Nat) (r : Res), (j, r) ∈ ([] : List (Nat × Res)) → ResFlat r) := by
                simp only [Bool.or_eq_true] at hfl
                refine hfl.imp (fun h => ?_) fun h => ⟨svFlatB_ok h, fun j r hm => by cases hm⟩
                cases L with
                | nil => rfl
                | cons _ _ => simp [emptyN] at h
              refine call_wp (ρ' := []) (rs := []) (rs' := []) (m := 0) (hD ys y' φ' hy hφ.2) he [] L hs ho hd hlt hcc rfl trivial (by simp [capE]) (argsE_ok ha hφ.1 L fun _ h => h) rfl trivial rfl trivial hin rfl hfl' ?_
              intro o2 h2 v w1 hs2 hext
              rw [SV.ren_nil hin] at hs2
              exact hn o2 h2 v w1 hs2 hext
            · cases hc
          · cases hc
        · cases hc
      · cases hc
    · cases hc
  · cases hc

theorem stepD_wp (hl : LayOk P lay) (hT : FnsOk P fns) {ops : Array Oper} {i : Nat} {op : Oper} (hi : ops[i]? = some op) {y : SV} {φ : Prop} {d : Nat} (hle : St.le B A) (hs : Sat o h A tm w) (hd : op.dst = some d) (hlt : Nat.blt d A.n = true)
    (hc : stepD lay fns B ops op = some (y, φ)) (hφ : φ) {K : Act → World → Prop} {QQ : Exit → Act → World → Prop}
    (hn : ∀ o2 h2 v w1, Sat o2 h2 ⟨A.n, (d, y) :: A.sl, A.rs⟩ (tm.setIfInBounds d v) w1 → Ext o w o2 w1 → K ⟨tm.setIfInBounds d v, []⟩ w1) : wpOp P ops QQ i K ⟨tm, []⟩ w := by
  have hsB := hs.le hle
  have hlt' : d < A.n := by simpa [Nat.blt, Nat.succ_le_iff] using hlt
  have hput : ∀ v, (⟨tm, []⟩ : Act).put op.dst v = ⟨tm.setIfInBounds d v, []⟩ := fun v => by simp [Act.put, hd]
  have pure_wp : ∀ {x φ'}, evP lay B op = some (x, φ') → φ' → ∀ y', (∀ v, SvOk o h w x v → SvOk o h w y' v) → (∀ o2 h2 v w1, Sat o2 h2 ⟨A.n, (d, y') :: A.sl, A.rs⟩ (tm.setIfInBounds d v) w1 → Ext o w o2 w1 → K ⟨tm.setIfInBounds d v, []⟩ w1) → op.wp P ⟨tm, []⟩ w K QQ := by
    intro x φ' he hφ' y' hy' hn'
    obtain ⟨v, hr, hv⟩ := evP_ok hl hsB he hφ'
    unfold Oper.wp
    show op.upon P ⟨tm, []⟩ _ _ ((execOp (evl tm) op).run P w)
    rw [hr]
    show K ((⟨tm, []⟩ : Act).put op.dst v) w
    rw [hput]
    exact hn' o h v w (hs.put hlt' (hy' v hv)) (Ext.refl o w)
  have skip_ok : ∀ {x}, SvOk o h w (.e (.gd false x)) undef := fun {x} => ⟨fun e => Bool.noConfusion e, fun _ => rfl⟩
  unfold wpOp
  simp only [hi]
  unfold stepD at hc
  split at hc
  · rename_i hg
    rw [if_pos (by simp [Region.wanted, hg])]
    left
    split at hc
    · rename_i r he
      simp only [Option.some.injEq] at hc
      subst hc
      exact pure_wp he hφ y (fun v hv => hv) hn
    · exact stepC_wp hT hs hd hlt (stepC_up hle hc) hφ hn
  · rename_i j want hg
    split at hc
    · rename_i b hb
      have hskip : ∀ x, y = .e (.gd b x) → b = false → K (Act.put ⟨tm, []⟩ op.dst undef) w := by
        intro x hy hbf
        subst hy
        rw [hput]
        exact hn o h undef w (hs.put hlt' (by rw [hbf]; exact skip_ok)) (Ext.refl o w)
      have hwant : b = true → Region.wanted op (yielded ops (⟨tm, []⟩ : Act).tmps) = true := fun hbt => by simp [Region.wanted, hg, gdOf_true hsB hb hbt]
      have hwant' : b = false → ¬ Region.wanted op (yielded ops (⟨tm, []⟩ : Act).tmps) = true := fun hbf => by simp [Region.wanted, hg, gdOf_false hsB hb hbf]
      split at hc
      · rename_i x φ' he
        simp only [Option.some.injEq, Prod.mk.injEq] at hc
        obtain ⟨rfl, rfl⟩ := hc
        cases hbb : b with
        | true =>
          rw [if_pos (hwant hbb)]
          left
          exact pure_wp he (hφ hbb) (.e (.gd b x)) (fun v hv => (show SvOk o h w (.e (.gd b x)) v from ⟨fun _ => hv, fun e => by rw [hbb] at e; cases e⟩)) hn
        | false => rw [if_neg (hwant' hbb)]; exact hskip x rfl hbb
      · split at hc
        · rename_i x φ' he
          simp only [Option.some.injEq, Prod.mk.injEq] at hc
          obtain ⟨rfl, rfl⟩ := hc
          cases hbb : b with
          | true =>
            rw [if_pos (hwant hbb)]
            left
            refine stepC_wp hT hs hd hlt (stepC_up hle he) (hφ hbb) fun o2 h2 v w1 hs2 hext => hn o2 h2 v w1 ?_ hext
            refine ⟨hs2.size, hs2.tags, fun s z hl => ?_, hs2.res⟩
            rw [lk_cons] at hl
            split at hl
            · rename_i e; cases hl; exact (show SvOk o2 h2 w1 (.e (.gd b x)) _ from ⟨fun _ => hs2.slot s (.e x) (by rw [lk_cons, if_pos e]), fun e => by rw [hbb] at e; cases e⟩)
            · rename_i hne; exact hs2.slot s z (by rw [lk_cons, if_neg hne]; exact hl)
          | false => rw [if_neg (hwant' hbb)]; exact hskip x rfl hbb
        · cases hc
    · cases hc
end

end Go.Sy

/-
  SYMBOLIC STATES, PART S: the rule for a region that draws its order.
-/
namespace Go.Sy
variable [Drw]

def pickS (sl : List (Nat × SV)) : List Nat → List (Nat × SV)
  | [] => []
  | t :: ts => match lk sl t with
    | some x => (t, x) :: pickS sl ts
    | none => pickS sl ts
theorem pickS_lk {sl : List (Nat × SV)} : ∀ {ts : List Nat} {t : Nat} {x : SV}, lk (pickS sl ts) t = some x → lk sl t = some x ∧ t ∈ ts
  | [], t, x, h => by simp [pickS, lk] at h
  | s :: ts, t, x, h => by
    simp only [pickS] at h
    split at h
    · rename_i y e
      rw [lk_cons] at h
      split at h
      · rename_i e2; subst e2; cases h; exact ⟨e, .head _⟩
      · exact ⟨(pickS_lk h).1, .tail _ (pickS_lk h).2⟩
    · exact ⟨(pickS_lk h).1, .tail _ (pickS_lk h).2⟩

def tmpsO : List Operand → List Nat
  | [] => []
  | .tmp t :: l => t :: tmpsO l
  | _ :: l => tmpsO l
def looks (ops : Array Oper) (o : Oper) : List Nat := appN (match o.guard with
  | some (j, _) => match nth ops.toList j with
    | some x => match x.dst with
      | some d => [d]
      | none => []
    | none => []
  | none => []) (tmpsO o.op.operands.toList)

def drawGo (lay : Lay) (fns : Fns) (ops : Array Oper) : List Oper → St → Prop → Option (St × Prop)
  | [], A, φ => some (A, φ)
  | op :: l, ⟨n, sl, rs⟩, φ => match op.dst with
    | some d => match Nat.blt d n, stepD lay fns ⟨n, pickS sl (looks ops op), rs⟩ ops op with
      | true, some (y, ψ) => drawGo lay fns ops l ⟨n, (d, y) :: sl, rs⟩ (φ ∧ ψ)
      | _, _ => none
    | none => none

theorem drawGo_spec {lay : Lay} {fns : Fns} {ops : Array Oper} : ∀ {l : List Oper} {A A' : St} {φ φ' : Prop}, drawGo lay fns ops l A φ = some (A', φ') → φ' → φ ∧ ∃ prs : List (Nat × SV), prs.length = l.length ∧ A' = ⟨A.n, prs.reverse ++ A.sl, A.rs⟩ ∧
    ∀ (i : Nat) op, l[i]? = some op → ∃ d y ψ, prs[i]? = some (d, y) ∧ op.dst = some d ∧ Nat.blt d A.n = true ∧ stepD lay fns ⟨A.n, pickS ((prs.take i).reverse ++ A.sl) (looks ops op), A.rs⟩ ops op = some (y, ψ) ∧ ψ
  | [], A, A', φ, φ', h, hφ => by
    simp only [drawGo, Option.some.injEq, Prod.mk.injEq] at h
    obtain ⟨rfl, rfl⟩ := h
    exact ⟨hφ, [], rfl, rfl, by simp⟩
  | op :: l, ⟨n, sl, rs⟩, A', φ, φ', h, hφ => by
    simp only [drawGo] at h
    split at h
    · rename_i d hd
      split at h
      · rename_i y ψ hlt hs
        obtain ⟨h1, prs, h2, h3, h4⟩ := drawGo_spec h hφ
        refine ⟨h1.1, (d, y) :: prs, by simp [h2], by simpa using h3, fun i op' hi => ?_⟩
        cases i with
        | zero => simp at hi; subst hi; exact ⟨d, y, ψ, by simp, hd, hlt, by simpa using hs, h1.2⟩
        | succ i =>
          simp at hi
          obtain ⟨d', y', ψ', g1, g2, g3, g4, g5⟩ := h4 i op' hi
          exact ⟨d', y', ψ', by simpa using g1, g2, g3, by simpa using g4, g5⟩
      · cases h
    · cases h

def anyE : List Edge → Nat → Bool
  | [], _ => false
  | e :: l, j => (Region.binds .any e && Nat.beq e.on j) || anyE l j
def belowE : List Edge → Nat → Bool
  | [], _ => true
  | e :: l, i => (!Region.binds .any e || Nat.blt e.on i) && belowE l i
def depPair (ops : Array Oper) (i : Nat) (oi : Oper) (j : Nat) (oj : Oper) : Bool :=
  match oj.dst with
  | some d => (Nat.beq i j || (match oi.dst with | some d' => !Nat.beq d' d | none => true)) && (!memN d (looks ops oi) || ((Nat.blt j i && anyE oi.after.toList j) || (Nat.blt i j && anyE oj.after.toList i)))
  | none => true
def depRow (ops : Array Oper) (i : Nat) (oi : Oper) : Nat → List Oper → Bool
  | _, [] => true
  | j, oj :: l => depPair ops i oi j oj && depRow ops i oi (j + 1) l
def depAll (ops : Array Oper) : Nat → List Oper → Bool
  | _, [] => true
  | i, oi :: l => belowE oi.after.toList i && (depRow ops i oi 0 ops.toList && depAll ops (i + 1) l)
def depOk (ops : Array Oper) : Bool := depAll ops 0 ops.toList

theorem anyE_ok : ∀ {l : List Edge} {j : Nat}, anyE l j = true → ∃ e ∈ l, Region.binds .any e = true ∧ e.on = j
  | [], j, h => by cases h
  | e :: l, j, h => by
    simp only [anyE, Bool.or_eq_true, Bool.and_eq_true] at h
    rcases h with ⟨h1, h2⟩ | h
    · exact ⟨e, .head _, h1, Nat.eq_of_beq_eq_true h2⟩
    · obtain ⟨e', h1, h2⟩ := anyE_ok h; exact ⟨e', .tail _ h1, h2⟩
theorem belowE_ok : ∀ {l : List Edge} {i : Nat}, belowE l i = true → ∀ e ∈ l, Region.binds .any e = true → e.on < i
  | [], i, h, e, he, _ => by cases he
  | e' :: l, i, h, e, he, hb => by
    simp only [belowE, Bool.and_eq_true, Bool.or_eq_true] at h
    rcases List.mem_cons.1 he with rfl | he
    · rcases h.1 with h1 | h1
      · simp [hb] at h1
      · simpa [Nat.blt, Nat.succ_le_iff] using h1
    · exact belowE_ok h.2 e he hb
theorem depRow_ok {ops : Array Oper} {i : Nat} {oi : Oper} : ∀ {l : List Oper} {k : Nat}, depRow ops i oi k l = true → ∀ (j : Nat) oj, l[j]? = some oj → depPair ops i oi (k + j) oj = true
  | [], k, h, j, oj, hj => by simp at hj
  | x :: l, k, h, j, oj, hj => by
    simp only [depRow, Bool.and_eq_true] at h
    cases j with
    | zero => simp at hj; subst hj; exact h.1
    | succ j => simp at hj; have := depRow_ok h.2 j oj hj; rwa [show k + 1 + j = k + (j + 1) by omega] at this
theorem depAll_ok {ops : Array Oper} : ∀ {l : List Oper} {k : Nat}, depAll ops k l = true → ∀ (i : Nat) oi, l[i]? = some oi → belowE oi.after.toList (k + i) = true ∧ depRow ops (k + i) oi 0 ops.toList = true
  | [], k, h, j, oj, hj => by simp at hj
  | x :: l, k, h, j, oj, hj => by
    simp only [depAll, Bool.and_eq_true] at h
    cases j with
    | zero => simp at hj; subst hj; exact ⟨h.1, h.2.1⟩
    | succ j => simp at hj; have := depAll_ok h.2.2 j oj hj; rwa [show k + 1 + j = k + (j + 1) by omega] at this

structure Dep (ops : Array Oper) : Prop where
  below : ∀ i oi, ops[i]? = some oi → ∀ e ∈ oi.after, Region.binds .any e = true → e.on < i
  dist : ∀ (i j : Nat) oi oj d, ops[i]? = some oi → ops[j]? = some oj → oi.dst = some d → oj.dst = some d → i = j
  look : ∀ (i j : Nat) oi oj d, ops[i]? = some oi → ops[j]? = some oj → oj.dst = some d → d ∈ looks ops oi → (j < i ∧ ∃ e ∈ oi.after, Region.binds .any e = true ∧ e.on = j) ∨ (i < j ∧ ∃ e ∈ oj.after, Region.binds .any e = true ∧ e.on = i)

theorem depOk_ok {ops : Array Oper} (h : depOk ops = true) : Dep ops := by
  have hl : ∀ (i : Nat) oi, ops[i]? = some oi → ops.toList[i]? = some oi := fun i oi h => by simpa using h
  have hp : ∀ (i j : Nat) oi oj, ops[i]? = some oi → ops[j]? = some oj → depPair ops i oi j oj = true := fun i j oi oj hi hj => by
    have := depRow_ok (depAll_ok h i oi (hl i oi hi)).2 j oj (hl j oj hj)
    simpa using this
  refine ⟨fun i oi hi e he hb => ?_, fun i j oi oj d hi hj hdi hdj => ?_, fun i j oi oj d hi hj hdj hm => ?_⟩
  · have := belowE_ok (depAll_ok h i oi (hl i oi hi)).1 e (by simpa using he) hb
    simpa using this
  · have := hp i j oi oj hi hj
    simp only [depPair, hdj, hdi, Bool.and_eq_true, Bool.or_eq_true] at this
    rcases this.1 with h1 | h1
    · exact Nat.eq_of_beq_eq_true h1
    · simp at h1
  · have := hp i j oi oj hi hj
    simp only [depPair, hdj, Bool.and_eq_true, Bool.or_eq_true] at this
    rcases this.2 with h1 | h1
    · rw [memN_of hm] at h1; cases h1
    · rcases h1 with ⟨h1, h2⟩ | ⟨h1, h2⟩
      · obtain ⟨e, g1, g2⟩ := anyE_ok h2
        exact .inl ⟨by simpa [Nat.blt, Nat.succ_le_iff] using h1, e, by simpa using g1, g2⟩
      · obtain ⟨e, g1, g2⟩ := anyE_ok h2
        exact .inr ⟨by simpa [Nat.blt, Nat.succ_le_iff] using h1, e, by simpa using g1, g2⟩

theorem mem_lk {base : List (Nat × SV)} : ∀ {l : List (Nat × SV)} {t : Nat} {y : SV}, l.Pairwise (fun a b => a.1 ≠ b.1) → (t, y) ∈ l → lk (l ++ base) t = some y
  | [], t, y, _, h => by cases h
  | (t', y') :: l, t, y, hp, h => by
    rw [List.cons_append, lk_cons]
    rw [List.pairwise_cons] at hp
    rcases List.mem_cons.1 h with e | h
    · cases e; rw [if_pos rfl]
    · rw [if_neg (hp.1 _ h)]; exact mem_lk hp.2 h
theorem nomem_lk {base : List (Nat × SV)} : ∀ {l : List (Nat × SV)} {t : Nat}, (∀ y, (t, y) ∉ l) → lk (l ++ base) t = lk base t
  | [], t, _ => rfl
  | (t', y') :: l, t, h => by
    rw [List.cons_append, lk_cons, if_neg]
    · exact nomem_lk fun y hy => h y (.tail _ hy)
    · rintro rfl; exact h y' (.head _)

/-- the slots of what has come up -/
def selL (ls : Nat → Bool) : Nat → List (Nat × SV) → List (Nat × SV)
  | _, [] => []
  | k, x :: l => if ls k then x :: selL ls (k + 1) l else selL ls (k + 1) l
theorem selL_sub (ls : Nat → Bool) : ∀ (k : Nat) (l : List (Nat × SV)), (selL ls k l).Sublist l
  | k, [] => .slnil
  | k, x :: l => by
    simp only [selL]
    split
    · exact (selL_sub ls (k + 1) l).cons_cons x
    · exact (selL_sub ls (k + 1) l).cons x
theorem selL_mem {ls : Nat → Bool} {x : Nat × SV} : ∀ {k : Nat} {l : List (Nat × SV)}, x ∈ selL ls k l ↔ ∃ j : Nat, l[j]? = some x ∧ ls (k + j) = true
  | k, [] => by simp [selL]
  | k, y :: l => by
    have ih := @selL_mem ls x (k + 1) l
    have e : (∃ j : Nat, (y :: l)[j]? = some x ∧ ls (k + j) = true) ↔ (y = x ∧ ls k = true) ∨ ∃ j : Nat, l[j]? = some x ∧ ls (k + 1 + j) = true := by
      constructor
      · rintro ⟨j, h1, h2⟩
        cases j with
        | zero => simp at h1; exact .inl ⟨h1, h2⟩
        | succ j => simp at h1; exact .inr ⟨j, h1, by rwa [show k + 1 + j = k + (j + 1) by omega]⟩
      · rintro (⟨rfl, h⟩ | ⟨j, h1, h2⟩)
        · exact ⟨0, by simp, h⟩
        · exact ⟨j + 1, by simpa using h1, by rwa [show k + (j + 1) = k + 1 + j by omega]⟩
    rw [e, ← ih]
    simp only [selL]
    split
    · rename_i hk; simp [hk, eq_comm]
    · rename_i hk; simp [hk]

def cntU (ls : Nat → Bool) : Nat → Nat
  | 0 => 0
  | n + 1 => (if ls n then 0 else 1) + cntU ls n
theorem cntU_congr {ls ls' : Nat → Bool} : ∀ {n : Nat}, (∀ j, j < n → ls j = ls' j) → cntU ls n = cntU ls' n
  | 0, _ => rfl
  | n + 1, h => by simp only [cntU]; rw [h n (by omega), cntU_congr fun j hj => h j (by omega)]
theorem cntU_upd {ls ls' : Nat → Bool} {i : Nat} : ∀ {n : Nat}, i < n → ls i = false → ls' i = true → (∀ j, j ≠ i → ls' j = ls j) → cntU ls' n + 1 = cntU ls n
  | 0, h, _, _, _ => by omega
  | n + 1, h, h1, h2, h3 => by
    simp only [cntU]
    by_cases hn : i = n
    · subst hn
      rw [h1, h2, cntU_congr (ls := ls') (ls' := ls) fun j hj => h3 j (by omega)]
      simp; omega
    · rw [h3 n (Ne.symm hn)]
      have := cntU_upd (n := n) (by omega) h1 h2 h3
      omega
theorem cntU_zero {ls : Nat → Bool} : ∀ {n : Nat}, cntU ls n = 0 → ∀ j, j < n → ls j = true
  | 0, _, j, hj => by omega
  | n + 1, h, j, hj => by
    simp only [cntU] at h
    by_cases hn : j = n
    · subst hn
      cases hl : ls j with
      | true => rfl
      | false => simp [hl] at h
    · exact cntU_zero (n := n) (by omega) j (by omega)

section
variable {P : Program} {lay : Lay} {A A' : St} {Q : Exit → St → Prop} {fns : Fns}

/-- A REGION THAT DRAWS ITS ORDER comes to what the written order comes to. -/
theorem KW.drawn (hl : LayOk P lay) (hT : FnsOk P fns) (hm : P.follows .mixedOrders = true) {id : Nat} {ops : Array Oper} {k : List K} {φ : Prop} (hdep : depOk ops = true) (hg : drawGo lay fns ops ops.toList A True = some (A', φ)) (hφ : φ)
    (hn : KW P k .normal A' Q) : KW P (.code (.region id ops true) :: k) .normal A Q := by
  obtain ⟨_, prs, hlen, hA', hprs⟩ := drawGo_spec hg hφ
  have dep := depOk_ok hdep
  have hlen' : prs.length = ops.size := by simpa using hlen
  have hop : ∀ (i : Nat) op, ops[i]? = some op → ∃ d y ψ, prs[i]? = some (d, y) ∧ op.dst = some d ∧ Nat.blt d A.n = true ∧ stepD lay fns ⟨A.n, pickS ((prs.take i).reverse ++ A.sl) (looks ops op), A.rs⟩ ops op = some (y, ψ) ∧ ψ :=
    fun i op hi => hprs i op (by simpa using hi)
  have hinv : ∀ (j : Nat) d y, prs[j]? = some (d, y) → ∃ op, ops[j]? = some op ∧ op.dst = some d := fun j d y hj => by
    have hlt : j < ops.size := by rw [← hlen']; exact (List.getElem?_eq_some_iff.1 hj).1
    obtain ⟨d', y', ψ, g1, g2, _⟩ := hop j ops[j] (Array.getElem?_eq_getElem hlt)
    rw [hj] at g1
    cases g1
    exact ⟨_, Array.getElem?_eq_getElem hlt, g2⟩
  have hpw : prs.Pairwise (fun a b => a.1 ≠ b.1) := by
    rw [List.pairwise_iff_getElem]
    intro i j hi hj hij e
    obtain ⟨oi, h1, h2⟩ := hinv i prs[i].1 prs[i].2 (List.getElem?_eq_getElem hi)
    obtain ⟨oj, h3, h4⟩ := hinv j prs[j].1 prs[j].2 (List.getElem?_eq_getElem hj)
    have := dep.dist i j oi oj _ h1 h3 h2 (by rw [h4, e])
    omega
  intro o h tm w hs
  show (Code.region id ops true).wp P (kq P (lift Q o w) k) ⟨tm, []⟩ w
  refine wp_region_any hm ?_
  have main : ∀ (fuel : Nat) (listed : Array Bool) (o' : Nat → Tag) (h' : Nat → Value) (tm' : Array Value) (w' : World), listed.size = ops.size → cntU (fun j => listed.getD j false) ops.size ≤ fuel →
      (∀ (i : Nat) oi, ops[i]? = some oi → listed.getD i false = true → ∀ e ∈ oi.after, Region.binds .any e = true → listed.getD e.on false = true) →
      Sat o' h' ⟨A.n, selL (fun j => listed.getD j false) 0 prs ++ A.sl, A.rs⟩ tm' w' → Ext o w o' w' → wpAny P .any ops (kq P (lift Q o w) k) fuel listed ⟨tm', []⟩ w' := by
    intro fuel
    -- all have come up
    have full : ∀ (listed : Array Bool) (o' : Nat → Tag) (h' : Nat → Value) (tm' : Array Value) (w' : World), (∀ j, j < ops.size → listed.getD j false = true) →
        Sat o' h' ⟨A.n, selL (fun j => listed.getD j false) 0 prs ++ A.sl, A.rs⟩ tm' w' → Ext o w o' w' → kq P (lift Q o w) k .normal ⟨tm', []⟩ w' := by
      intro listed o' h' tm' w' hall hs' hx
      refine kq_mono (lift_trans hx) k .normal _ w' (hn o' h' tm' w' ?_)
      subst hA'
      refine ⟨hs'.size, hs'.tags, fun t x hl => hs'.slot t x ?_, hs'.res⟩
      simp only at hl ⊢
      by_cases hex : ∃ y, (t, y) ∈ prs
      · obtain ⟨y, hy⟩ := hex
        have e1 := mem_lk (base := A.sl) (l := prs.reverse) (List.pairwise_reverse.2 (hpw.imp fun h => Ne.symm h)) (List.mem_reverse.2 hy)
        rw [e1] at hl
        cases hl
        obtain ⟨j, hj⟩ := List.mem_iff_getElem?.1 hy
        refine mem_lk (hpw.sublist (selL_sub _ _ _)) (selL_mem.2 ⟨j, hj, ?_⟩)
        have : j < ops.size := by rw [← hlen']; exact (List.getElem?_eq_some_iff.1 hj).1
        simpa using hall j this
      · have hno : ∀ y, (t, y) ∉ prs := fun y hy => hex ⟨y, hy⟩
        rw [nomem_lk fun y hy => hno y (List.mem_reverse.1 hy)] at hl
        rw [nomem_lk fun y hy => hno y ((selL_sub _ _ _).subset hy)]
        exact hl
    have done : ∀ (listed : Array Bool), listed.size = ops.size → Region.ready .any ops listed = [] → ∀ j, j < ops.size → listed.getD j false = true := by
      intro listed hsz hr j
      induction j using Nat.strongRecOn with
      | ind j ih =>
        intro hj
        cases hlj : listed.getD j false with
        | true => rfl
        | false =>
          exfalso
          have : j ∈ Region.ready .any ops listed := by
            rw [mem_ready]
            refine ⟨?_, ops[j], Array.getElem?_eq_getElem hj, fun e he hb => ?_⟩
            · rw [Array.getD_eq_getD_getElem?] at hlj ⊢
              rw [Array.getElem?_eq_getElem (by omega)] at hlj ⊢
              exact hlj
            · have hlt := dep.below j ops[j] (Array.getElem?_eq_getElem hj) e he hb
              exact ih e.on hlt (by omega)
          rw [hr] at this
          cases this
    induction fuel with
    | zero =>
      intro listed o' h' tm' w' hsz hc hcl hs' hx
      have hall := cntU_zero (Nat.le_zero.1 hc)
      refine ⟨?_, full listed o' h' tm' w' hall hs' hx⟩
      cases hr : Region.ready .any ops listed with
      | nil => rfl
      | cons j l =>
        exfalso
        have hj : j ∈ Region.ready .any ops listed := by rw [hr]; exact .head _
        obtain ⟨h1, oj, h2, _⟩ := mem_ready.1 hj
        have hlt : j < ops.size := (Array.getElem?_eq_some_iff.1 h2).1
        have := hall j hlt
        rw [Array.getD_eq_getD_getElem?, Array.getElem?_eq_getElem (by omega)] at this h1
        simp at this h1
        rw [h1] at this
        cases this
    | succ fuel ih =>
      intro listed o' h' tm' w' hsz hc hcl hs' hx
      refine ⟨fun hr => full listed o' h' tm' w' (done listed hsz hr) hs' hx, fun i hi => ?_⟩
      obtain ⟨hun, op, hop', haft⟩ := mem_ready.1 hi
      have hlt : i < ops.size := (Array.getElem?_eq_some_iff.1 hop').1
      have hun' : listed.getD i false = false := by
        rw [Array.getD_eq_getD_getElem?, Array.getElem?_eq_getElem (by omega)] at hun ⊢
        exact hun
      obtain ⟨d, y, ψ, g1, g2, g3, g4, g5⟩ := hop i op hop'
      have hle : St.le ⟨A.n, pickS ((prs.take i).reverse ++ A.sl) (looks ops op), A.rs⟩ ⟨A.n, selL (fun j => listed.getD j false) 0 prs ++ A.sl, A.rs⟩ := by
        refine ⟨rfl, rfl, fun t x hl => ?_⟩
        obtain ⟨e1, hm⟩ := pickS_lk hl
        simp only at e1 ⊢
        by_cases hex : ∃ (j : Nat) (y' : SV), prs[j]? = some (t, y')
        · obtain ⟨j, y', hj⟩ := hex
          obtain ⟨oj, hoj, hdj⟩ := hinv j t y' hj
          have huniq : ∀ (j' : Nat) y'', prs[j']? = some (t, y'') → j' = j := fun j' y'' hj' => by
            obtain ⟨oj', hoj', hdj'⟩ := hinv j' t y'' hj'
            exact dep.dist j' j oj' oj t hoj' hoj hdj' hdj
          rcases dep.look i j op oj t hop' hoj hdj hm with ⟨hji, e, he, hb, heq⟩ | ⟨hij, e, he, hb, heq⟩
          · have hlj : listed.getD j false = true := by rw [← heq]; exact haft e he hb
            rw [mem_lk (List.pairwise_reverse.2 ((hpw.sublist (List.take_sublist i prs)).imp fun h => Ne.symm h)) (List.mem_reverse.2 (List.mem_of_getElem? (i := j) (by rw [List.getElem?_take, if_pos hji]; exact hj)))] at e1
            cases e1
            exact mem_lk (hpw.sublist (selL_sub _ _ _)) (selL_mem.2 ⟨j, hj, by simpa using hlj⟩)
          · have hlj : listed.getD j false = false := by
              cases hlj : listed.getD j false with
              | false => rfl
              | true =>
                have := hcl j oj hoj hlj e he hb
                rw [heq, hun'] at this
                cases this
            rw [nomem_lk fun y'' hy => ?_] at e1
            · rw [nomem_lk fun y'' hy => ?_]
              · exact e1
              · obtain ⟨j', hj', hl'⟩ := selL_mem.1 hy
                rw [huniq j' y'' hj'] at hl'
                simp [hlj] at hl'
            · obtain ⟨j', hj'⟩ := List.mem_iff_getElem?.1 (List.mem_reverse.1 hy)
              rw [List.getElem?_take] at hj'
              split at hj'
              · have := huniq j' y'' hj'; omega
              · cases hj'
        · have hno : ∀ y, (t, y) ∉ prs := fun y hy => by
            obtain ⟨j, hj⟩ := List.mem_iff_getElem?.1 hy
            exact hex ⟨j, y, hj⟩
          rw [nomem_lk fun y hy => hno y (List.mem_of_mem_take (List.mem_reverse.1 hy))] at e1
          rw [nomem_lk fun y hy => hno y ((selL_sub _ _ _).subset hy)]
          exact e1
      refine stepD_wp hl hT hop' hle hs' g2 g3 g4 g5 fun o2 h2 v w1 hs2 hext => ?_
      have hget : ∀ j, (listed.setIfInBounds i true).getD j false = if j = i then true else listed.getD j false := fun j => by
        by_cases hji : j = i
        · subst hji
          rw [if_pos rfl, Array.getD_eq_getD_getElem?, Array.getElem?_setIfInBounds_self]
          simp [hsz, hlt]
        · rw [if_neg hji, getD_set_ne false (Ne.symm hji)]
      refine ih (listed.setIfInBounds i true) o2 h2 _ w1 (by simp [hsz]) ?_ ?_ ⟨hs2.size, hs2.tags, fun t x hlk => hs2.slot t x ?_, hs2.res⟩ (hx.trans hext)
      · have := cntU_upd (ls := fun j => listed.getD j false) (ls' := fun j => (listed.setIfInBounds i true).getD j false) (i := i) (n := ops.size) hlt hun' (by simp [hget]) fun j hj => by simp [hget, hj]
        omega
      · intro j oj hoj hlj e he hb
        rw [hget] at hlj ⊢
        by_cases he' : e.on = i
        · rw [if_pos he']
        · rw [if_neg he']
          by_cases hji : j = i
          · subst hji
            rw [hop'] at hoj
            cases hoj
            exact haft e he hb
          · rw [if_neg hji] at hlj
            exact hcl j oj hoj hlj e he hb
      · simp only at hlk ⊢
        rw [lk_cons]
        by_cases hdt : d = t
        · subst hdt
          rw [if_pos rfl]
          have := mem_lk (base := A.sl) (hpw.sublist (selL_sub (fun j => (listed.setIfInBounds i true).getD j false) 0 prs)) (selL_mem.2 ⟨i, g1, by simp [hget]⟩)
          rw [this] at hlk
          exact hlk
        · rw [if_neg hdt]
          by_cases hex : ∃ (j : Nat) (y' : SV), prs[j]? = some (t, y') ∧ (listed.setIfInBounds i true).getD j false = true
          · obtain ⟨j, y', hj, hlj⟩ := hex
            have hji : j ≠ i := by
              rintro rfl
              rw [g1] at hj
              cases hj
              exact hdt rfl
            rw [hget, if_neg hji] at hlj
            have := mem_lk (base := A.sl) (hpw.sublist (selL_sub (fun j => (listed.setIfInBounds i true).getD j false) 0 prs)) (selL_mem.2 ⟨j, hj, by simpa [hget, hji] using hlj⟩)
            rw [this] at hlk
            cases hlk
            exact mem_lk (hpw.sublist (selL_sub _ _ _)) (selL_mem.2 ⟨j, hj, by simpa using hlj⟩)
          · rw [nomem_lk fun y' hy => ?_] at hlk
            · rw [nomem_lk fun y' hy => ?_]
              · exact hlk
              · obtain ⟨j, hj, hlj⟩ := selL_mem.1 hy
                refine hex ⟨j, y', hj, ?_⟩
                rw [hget]
                split
                · rfl
                · simpa using hlj
            · obtain ⟨j, hj, hlj⟩ := selL_mem.1 hy
              exact hex ⟨j, y', hj, by simpa using hlj⟩
  refine main ops.size (Array.replicate ops.size false) o h tm w.drew (by simp) ?_ ?_ ?_ (Ext.drew o w)
  · have : ∀ n, cntU (fun j => (Array.replicate ops.size false).getD j false) n ≤ n := by
      intro n
      induction n with
      | zero => exact Nat.le_refl _
      | succ n ih => simp only [cntU]; split <;> omega
    exact this _
  · intro i oi hoi hli
    simp [Array.getD_eq_getD_getElem?, Array.getElem?_replicate] at hli
    split at hli <;> cases hli
  · have hs' := hs.drew
    refine ⟨hs'.size, hs'.tags, fun t x hlk => hs'.slot t x ?_, hs'.res⟩
    rw [nomem_lk fun y hy => ?_] at hlk
    · exact hlk
    · obtain ⟨j, hj, hlj⟩ := selL_mem.1 hy
      simp [Array.getD_eq_getD_getElem?, Array.getElem?_replicate] at hlj
      split at hlj <;> cases hlj
end

end Go.Sy

/-
  SYMBOLIC STATES, PART Q: entries of the table, by the parameters' types.
-/
namespace Go.Sy
variable [Drw]

abbrev lI (n : Int) : CV := .lit (.int .i64 n)
def fI (g : Int → SV) (p : Int → Prop) : List EV → Option (SV × Prop)
  | [.c (.lit (.int .i64 a))] => some (g a, p a)
  | _ => none
def f0 (y : SV) (p : Prop) : List EV → Option (SV × Prop)
  | [] => some (y, p)
  | _ => none
def fU (g : Int → SV) (p : Int → Prop) : List EV → Option (SV × Prop)
  | [.c (.lit (.int .u64 a))] => some (g a, p a)
  | _ => none
def fII (g : Int → Int → SV) (p : Int → Int → Prop) : List EV → Option (SV × Prop)
  | [.c (.lit (.int .i64 a)), .c (.lit (.int .i64 b))] => some (g a b, p a b)
  | _ => none
def fV (g : Value → SV) (p : Value → Prop) : List EV → Option (SV × Prop)
  | [.c (.lit v)] => some (g v, p v)
  | _ => none
def fL (g : List Int → SV) (p : List Int → Prop) : List EV → Option (SV × Prop)
  | [.c x] => some (g (unI x), isI x ∧ p (unI x))
  | _ => none
def fLI (g : List Int → Int → SV) (p : List Int → Int → Prop) : List EV → Option (SV × Prop)
  | [.c x, .c (.lit (.int .i64 a))] => some (g (unI x) a, isI x ∧ p (unI x) a)
  | _ => none
def fLII (g : List Int → Int → Int → SV) (p : List Int → Int → Int → Prop) : List EV → Option (SV × Prop)
  | [.c x, .c (.lit (.int .i64 a)), .c (.lit (.int .i64 b))] => some (g (unI x) a b, isI x ∧ p (unI x) a b)
  | _ => none
def fLL (g : List Int → List Int → SV) (p : List Int → List Int → Prop) : List EV → Option (SV × Prop)
  | [.c x, .c y] => some (g (unI x) (unI y), isI x ∧ isI y ∧ p (unI x) (unI y))
  | _ => none
/-- a list of lists -/
def unII : CV → List (List Int)
  | .sl n _ f => (List.range n).map fun e => unI (f e 0)
  | _ => []
def isII (x : CV) : Prop := CVEq x (intss (unII x))
@[simp] theorem unII_intss (ls : List (List Int)) : unII (intss ls) = ls := by
  unfold unII intss
  refine List.ext_getElem (by simp) fun j h1 h2 => ?_
  simp [List.getD_eq_getElem?_getD, h2]
@[simp] theorem isII_intss (ls : List (List Int)) : isII (intss ls) := by unfold isII; rw [unII_intss]; exact CVEq.refl _
def fLs (g : List (List Int) → SV) (p : List (List Int) → Prop) : List EV → Option (SV × Prop)
  | [.c x] => some (g (unII x), isII x ∧ p (unII x))
  | _ => none

section
variable {P : Program} {lay : Lay} {A A' : St} {Q : Exit → St → Prop} {fns : Fns} {e : Exit} {k k' : List K}
/-- as far as a test: its two ways -/
theorem KW.goIf (hl : LayOk P lay) (hT : FnsOk P fns) (f : Nat) {c : Operand} {x y : Code} {b : Bool} {φ p : Prop} (h : run2 lay fns f k e A True = (.code (.cond c x y) :: k', .normal, A', φ)) (hφ : φ) (hb : litOf A' c = some (.bool b, p)) (hp : p)
    (ht : b = true → KW P (.code x :: k') .normal A' Q) (hf : b = false → KW P (.code y :: k') .normal A' Q) : KW P k e A Q :=
  KW.go hl hT f h hφ (KW.test hb hp ht hf)
/-- as far as a region that draws its order, and through it -/
theorem KW.goD (hl : LayOk P lay) (hT : FnsOk P fns) (hm : P.follows .mixedOrders = true) (f : Nat) {id : Nat} {ops : Array Oper} {φ ψ : Prop} {A'' : St} (h : run2 lay fns f k e A True = (.code (.region id ops true) :: k', .normal, A', φ)) (hdep : depOk ops = true) (hg : drawGo lay fns ops ops.toList A' True = some (A'', ψ)) (hφ : φ) (hψ : ψ)
    (hn : KW P k' .normal A'' Q) : KW P k e A Q :=
  KW.go hl hT f h hφ (KW.drawn hl hT hm hdep hg hψ hn)
/-- as far as the end -/
theorem KW.goRet (hl : LayOk P lay) (hT : FnsOk P fns) (f : Nat) {φ : Prop} (h : run2 lay fns f k e A True = ([], .ret, A', φ)) {rv : List ResultVar} {y y0 : SV} {rs' : List (Nat × Res)} (h1 : retB A' rv = some y0) (h3 : y0 = y.ren []) (hφ : φ) (h4 : subR [] A' rs') : KW P k e A (RetQ rv y rs') :=
  KW.go hl hT f h hφ (KW.fin [] h1 rfl h3 h4)
/-- as far as the end of a round -/
theorem KW.goTo {σ : Type} {I : σ → St} {R : σ → Prop} {k0 : List K} (hl : LayOk P lay) (hT : FnsOk P fns) (f : Nat) {φ : Prop} (h : run2 lay fns f k e A True = ([], .normal, A', φ)) (s : σ) (hn : (I s).n = A'.n) (hS : subS [] A' (I s).sl) (hφ : φ) (hR : R s) (hr : subR [] A' (I s).rs) : KW P k e A (ToQ P k0 Q I R) :=
  KW.go hl hT f h hφ (KW.to s hR [] ⟨rfl, hn, hS, hr⟩)
/-- the same where rows have got other names -/
theorem KW.goToR {σ : Type} {I : σ → St} {R : σ → Prop} {k0 : List K} (hl : LayOk P lay) (hT : FnsOk P fns) (f : Nat) {φ : Prop} (h : run2 lay fns f k e A True = ([], .normal, A', φ)) (s : σ) (ρ : List (Nat × Nat)) (h1 : oneB ρ = true) (hn : (I s).n = A'.n) (hS : subS ρ A' (I s).sl) (hφ : φ) (hR : R s) (hr : subR ρ A' (I s).rs) : KW P k e A (ToQ P k0 Q I R) :=
  KW.go hl hT f h hφ (KW.to s hR ρ ⟨h1, hn, hS, hr⟩)
/-- as far as a way out of the round -/
theorem KW.goOut {σ : Type} {I : σ → St} {R : σ → Prop} {k0 : List K} (hl : LayOk P lay) (hT : FnsOk P fns) (f : Nat) {φ : Prop} {id : Nat} (h : run2 lay fns f k e A True = ([], .exit id, A', φ)) (hφ : φ) (hk : KW P k0 (.exit id) A' Q) : KW P k e A (ToQ P k0 Q I R) :=
  KW.go hl hT f h hφ (KW.outX hk)
theorem KW.goOutR {σ : Type} {I : σ → St} {R : σ → Prop} {k0 : List K} (hl : LayOk P lay) (hT : FnsOk P fns) (f : Nat) {φ : Prop} (h : run2 lay fns f k e A True = ([], .ret, A', φ)) (hφ : φ) (hk : KW P k0 .ret A' Q) : KW P k e A (ToQ P k0 Q I R) :=
  KW.go hl hT f h hφ (KW.outR hk)
/-- as far as the end: a row of its own is handed back as a value -/
theorem KW.goRetO (hl : LayOk P lay) (hT : FnsOk P fns) (f : Nat) {φ : Prop} (h : run2 lay fns f k e A True = ([], .ret, A', φ)) (i s : Nat) {E : Nat} {x z : CV} (hr : lk A'.rs i = some (.own E x)) (hx : isSl x = true) (hs : lk A'.sl s = some (.e (.r i)))
    (hz : x = z) (hφ : φ) : KW P k e A (RetQ [.tmp s] (.e (.c z)) []) := by
  subst hz
  obtain ⟨n, k0, g, e⟩ := isSl_ok hx
  refine KW.go hl hT f h hφ (KW.frz i [s] hr e (by simp [allR, hs]) (KW.fin (y0 := .e (.c x)) [] ?_ rfl rfl trivial))
  simp [retB, pushC, lk_cons]
/-- as far as a loop -/
theorem KW.goLp {σ : Type} (hl : LayOk P lay) (hT : FnsOk P fns) (f : Nat) {φ : Prop} {c : Code} (h : run2 lay fns f k e A True = (.code (.loop c) :: k', .normal, A', φ)) (I : σ → St) (R : σ → Prop) (m : σ → Nat) (s : σ) (hn : (I s).n = A'.n) (hS : subS [] A' (I s).sl) (hφ : φ) (hR : R s) (hr : subR [] A' (I s).rs)
    (round : ∀ s, R s → KW P [.code c] .normal (I s) (ToQ P k' Q I fun s' => R s' ∧ m s' < m s)) : KW P k e A Q :=
  KW.go hl hT f h hφ (KW.lp I R m s hR [] ⟨rfl, hn, hS, hr⟩ round)
end

/-! rows that grow, rows that are cut -/
theorem catV_ints (a b : List Int) : catV (ints a) (ints b) = ints (a ++ b) := by
  simp only [catV, ints, List.length_append]
  congr 1
  funext e q
  by_cases h : e < a.length
  · have : Nat.blt e a.length = true := by simpa [Nat.blt, Nat.succ_le_iff] using h
    simp [this, List.getD_eq_getElem?_getD, List.getElem?_append_left h, h]
  · have : Nat.blt e a.length = false := by
      cases hb : Nat.blt e a.length with
      | false => rfl
      | true => exact absurd (by simpa [Nat.blt, Nat.succ_le_iff] using hb) h
    simp [this, List.getD_eq_getElem?_getD, List.getElem?_append_right (Nat.le_of_not_lt h)]
theorem own_cat (E : Nat) {a b c : List Int} (h : a ++ b = c) : some (Res.own E (catV (ints a) (ints b))) = some (Res.own E (ints c)) := by rw [catV_ints, h]
theorem own_cat1 (E : Nat) {b c : List Int} (h : b = c) : some (Res.own E (ints b)) = some (Res.own E (ints c)) := by rw [h]
/-! short lists of lists, errors -/
@[simp] theorem fill1 (z x : CV) : setsN (repZ [z] 1) 0 [x] = [x] := rfl
@[simp] theorem fill2 (z x y : CV) : setsN (setsN (repZ [z] 2) 0 [x]) 1 [y] = [x, y] := rfl
@[simp] theorem fill3 (z x y u : CV) : setsN (setsN (setsN (repZ [z] 3) 0 [x]) 1 [y]) 2 [u] = [x, y, u] := rfl
@[simp] theorem unII_rows1 (x : CV) : unII (rowsC 1 1 [x]) = [unI x] := rfl
@[simp] theorem unII_rows2 (x y : CV) : unII (rowsC 1 2 [x, y]) = [unI x, unI y] := rfl
@[simp] theorem unII_rows3 (x y z : CV) : unII (rowsC 1 3 [x, y, z]) = [unI x, unI y, unI z] := rfl
theorem isII_rows1 {x : CV} (h : isI x) : isII (rowsC 1 1 [x]) := by
  refine ⟨rfl, .inr ⟨rfl, fun e q he hq => ?_⟩⟩
  have : e = 0 := by omega
  have : q = 0 := by omega
  subst_vars; exact h
theorem isII_rows2 {x y : CV} (h : isI x) (h' : isI y) : isII (rowsC 1 2 [x, y]) := by
  refine ⟨rfl, .inr ⟨rfl, fun e q he hq => ?_⟩⟩
  have : q = 0 := by omega
  rcases (by omega : e = 0 ∨ e = 1) with rfl | rfl
  · subst_vars; exact h
  · subst_vars; exact h'
theorem isII_rows3 {x y z : CV} (h : isI x) (h' : isI y) (h'' : isI z) : isII (rowsC 1 3 [x, y, z]) := by
  refine ⟨rfl, .inr ⟨rfl, fun e q he hq => ?_⟩⟩
  have : q = 0 := by omega
  rcases (by omega : e = 0 ∨ e = 1 ∨ e = 2) with rfl | rfl | rfl
  · subst_vars; exact h
  · subst_vars; exact h'
  · subst_vars; exact h''
@[simp] theorem isII_r1 (a : List Int) : isII (rowsC 1 1 [ints a]) := isII_rows1 (isI_ints a)
@[simp] theorem isII_r2 (a b : List Int) : isII (rowsC 1 2 [ints a, ints b]) := isII_rows2 (isI_ints a) (isI_ints b)
@[simp] theorem isII_r3 (a b c : List Int) : isII (rowsC 1 3 [ints a, ints b, ints c]) := isII_rows3 (isI_ints a) (isI_ints b) (isI_ints c)
/-- the number of an error -/
def numV : Value → Int
  | .iface _ (.int _ n) => n
  | _ => 0
@[simp] theorem numV_errV (T : Nat) (n : Int) : numV (errV T n) = n := by unfold errV; split <;> simp_all [numV]
def isErr (T : Nat) (v : Value) : Prop := v = errV T (numV v)
@[simp] theorem isErr_errV (T : Nat) (n : Int) : isErr T (errV T n) := by unfold isErr; simp
@[simp] theorem isErr_nil (T : Nat) : isErr T .nilIface := rfl
@[simp] theorem numV_nil : numV .nilIface = 0 := rfl
@[simp] theorem numV_iface (T : Nat) (n : Int) : numV (.iface T (.int .i64 n)) = n := rfl
def fVI (g : Value → Int → SV) (p : Value → Int → Prop) : List EV → Option (SV × Prop)
  | [.c (.lit v), .c (.lit (.int .i64 a))] => some (g v a, p v a)
  | _ => none

section
variable {P : Program} {f : FuncId}
theorem fVI_ok {g : Value → Int → SV} {p : Value → Int → Prop} (h : ∀ v a, p v a → DoesF P f [.c (.lit v), iV a] [] (g v a) []) : ∀ ys y φ, fVI g p ys = some (y, φ) → φ → DoesF P f ys [] y [] := by
  intro ys y φ he hφ
  unfold fVI at he
  split at he
  · simp only [Option.some.injEq, Prod.mk.injEq] at he
    obtain ⟨rfl, rfl⟩ := he
    exact h _ _ hφ
  · cases he
theorem fI_ok {g : Int → SV} {p : Int → Prop} (h : ∀ a, p a → DoesF P f [iV a] [] (g a) []) : ∀ ys y φ, fI g p ys = some (y, φ) → φ → DoesF P f ys [] y [] := by
  intro ys y φ he hφ
  unfold fI at he
  split at he
  · simp only [Option.some.injEq, Prod.mk.injEq] at he
    obtain ⟨rfl, rfl⟩ := he
    exact h _ hφ
  · cases he
theorem f0_ok {y : SV} {p : Prop} (h : p → DoesF P f [] [] y []) : ∀ ys y' φ, f0 y p ys = some (y', φ) → φ → DoesF P f ys [] y' [] := by
  intro ys y' φ he hφ
  unfold f0 at he
  split at he
  · simp only [Option.some.injEq, Prod.mk.injEq] at he
    obtain ⟨rfl, rfl⟩ := he
    exact h hφ
  · cases he
theorem fU_ok {g : Int → SV} {p : Int → Prop} (h : ∀ a, p a → DoesF P f [.c (.lit (.int .u64 a))] [] (g a) []) : ∀ ys y φ, fU g p ys = some (y, φ) → φ → DoesF P f ys [] y [] := by
  intro ys y φ he hφ
  unfold fU at he
  split at he
  · simp only [Option.some.injEq, Prod.mk.injEq] at he
    obtain ⟨rfl, rfl⟩ := he
    exact h _ hφ
  · cases he
theorem fII_ok {g : Int → Int → SV} {p : Int → Int → Prop} (h : ∀ a b, p a b → DoesF P f [iV a, iV b] [] (g a b) []) : ∀ ys y φ, fII g p ys = some (y, φ) → φ → DoesF P f ys [] y [] := by
  intro ys y φ he hφ
  unfold fII at he
  split at he
  · simp only [Option.some.injEq, Prod.mk.injEq] at he
    obtain ⟨rfl, rfl⟩ := he
    exact h _ _ hφ
  · cases he
theorem fV_ok {g : Value → SV} {p : Value → Prop} (h : ∀ a, p a → DoesF P f [.c (.lit a)] [] (g a) []) : ∀ ys y φ, fV g p ys = some (y, φ) → φ → DoesF P f ys [] y [] := by
  intro ys y φ he hφ
  unfold fV at he
  split at he
  · simp only [Option.some.injEq, Prod.mk.injEq] at he
    obtain ⟨rfl, rfl⟩ := he
    exact h _ hφ
  · cases he
theorem fL_ok {g : List Int → SV} {p : List Int → Prop} (h : ∀ a, p a → DoesF P f [.c (ints a)] [] (g a) []) : ∀ ys y φ, fL g p ys = some (y, φ) → φ → DoesF P f ys [] y [] := by
  intro ys y φ he hφ
  unfold fL at he
  split at he
  · simp only [Option.some.injEq, Prod.mk.injEq] at he
    obtain ⟨rfl, rfl⟩ := he
    refine DoesF.conv ?_ (h _ hφ.2)
    exact ⟨hφ.1, trivial⟩
  · cases he
theorem fLI_ok {g : List Int → Int → SV} {p : List Int → Int → Prop} (h : ∀ a b, p a b → DoesF P f [.c (ints a), iV b] [] (g a b) []) : ∀ ys y φ, fLI g p ys = some (y, φ) → φ → DoesF P f ys [] y [] := by
  intro ys y φ he hφ
  unfold fLI at he
  split at he
  · simp only [Option.some.injEq, Prod.mk.injEq] at he
    obtain ⟨rfl, rfl⟩ := he
    refine DoesF.conv ?_ (h _ _ hφ.2)
    exact ⟨hφ.1, CVEq.refl _, trivial⟩
  · cases he
theorem fLII_ok {g : List Int → Int → Int → SV} {p : List Int → Int → Int → Prop} (h : ∀ a b c, p a b c → DoesF P f [.c (ints a), iV b, iV c] [] (g a b c) []) : ∀ ys y φ, fLII g p ys = some (y, φ) → φ → DoesF P f ys [] y [] := by
  intro ys y φ he hφ
  unfold fLII at he
  split at he
  · simp only [Option.some.injEq, Prod.mk.injEq] at he
    obtain ⟨rfl, rfl⟩ := he
    refine DoesF.conv ?_ (h _ _ _ hφ.2)
    exact ⟨hφ.1, CVEq.refl _, CVEq.refl _, trivial⟩
  · cases he
theorem fLL_ok {g : List Int → List Int → SV} {p : List Int → List Int → Prop} (h : ∀ a b, p a b → DoesF P f [.c (ints a), .c (ints b)] [] (g a b) []) : ∀ ys y φ, fLL g p ys = some (y, φ) → φ → DoesF P f ys [] y [] := by
  intro ys y φ he hφ
  unfold fLL at he
  split at he
  · simp only [Option.some.injEq, Prod.mk.injEq] at he
    obtain ⟨rfl, rfl⟩ := he
    refine DoesF.conv ?_ (h _ _ hφ.2.2)
    exact ⟨hφ.1, hφ.2.1, trivial⟩
  · cases he
theorem fLs_ok {g : List (List Int) → SV} {p : List (List Int) → Prop} (h : ∀ a, p a → DoesF P f [.c (intss a)] [] (g a) []) : ∀ ys y φ, fLs g p ys = some (y, φ) → φ → DoesF P f ys [] y [] := by
  intro ys y φ he hφ
  unfold fLs at he
  split at he
  · simp only [Option.some.injEq, Prod.mk.injEq] at he
    obtain ⟨rfl, rfl⟩ := he
    refine DoesF.conv ?_ (h _ hφ.2)
    exact ⟨hφ.1, trivial⟩
  · cases he
end

end Go.Sy
