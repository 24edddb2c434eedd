/-
  SYMBOLIC STATES, PART P: the engine with a table of contracts: 'run2' goes through the calls of the table's functions by itself.
-/
import Derived.Test.YtpjhpcclbenfbaaSyO
set_option linter.unusedVariables false
set_option linter.unusedSimpArgs false
namespace Go.Sy

/-- a table of contracts: what a function answers to values, and what it takes -/
abbrev Fns := List (Nat × (List EV → Option (SV × Prop)))
def FnsOk (P : Program) (fns : Fns) : Prop := ∀ f F, lk fns f = some F → (∀ args w, (callFunc f args).run P w = .ok (.enter f args) w) ∧ ∀ ys y φ, F ys = some (y, φ) → φ → DoesF P f ys [] y []

theorem FnsOk.nil (P : Program) : FnsOk P [] := fun f F h => by simp [lk] at h
theorem FnsOk.cons {P : Program} {fns : Fns} {f : FuncId} {fn : Func} {c : Code} {F : List EV → Option (SV × Prop)} (h : FnsOk P fns) (hf : P.funcs[f]? = some fn) (hn : (fn.name == "runtime.NumGoroutine") = false) (hb : fn.body = some c)
    (hF : ∀ ys y φ, F ys = some (y, φ) → φ → DoesF P f ys [] y []) : FnsOk P ((f, F) :: fns) := by
  intro g G hl
  rw [lk_cons] at hl
  split at hl
  · rename_i e; subst e; cases hl; exact ⟨enters hf hn hb, hF⟩
  · exact h g G hl

/-- parameters in other words -/
def EvEq : EV → EV → Prop
  | .c x, .c y => CVEq x y
  | .ag xs, .ag ys => xs.length = ys.length ∧ ∀ (q : Nat) x y, xs[q]? = some x → ys[q]? = some y → CVEq x y
  | x, y => x = y
def EvEqs : List EV → List EV → Prop
  | [], [] => True
  | x :: xs, y :: ys => EvEq x y ∧ EvEqs xs ys
  | _, _ => False

theorem EvEqs.len : ∀ {xs ys : List EV}, EvEqs xs ys → xs.length = ys.length
  | [], [], _ => rfl
  | _ :: xs, _ :: ys, h => by simp [EvEqs.len h.2]
  | [], _ :: _, h => h.elim
  | _ :: _, [], h => h.elim
theorem EvEqs.get : ∀ {xs ys : List EV}, EvEqs xs ys → ∀ {q : Nat} {y : EV}, ys[q]? = some y → ∃ x, xs[q]? = some x ∧ EvEq x y
  | [], [], _, q, y, h => by simp at h
  | x :: xs, y :: ys, h, 0, y', hy => by simp at hy; subst hy; exact ⟨x, by simp, h.1⟩
  | x :: xs, y :: ys, h, q + 1, y', hy => by simp at hy; obtain ⟨x', h1, h2⟩ := EvEqs.get h.2 hy; exact ⟨x', by simpa using h1, h2⟩
  | [], _ :: _, h, _, _, _ => h.elim
  | _ :: _, [], h, _, _, _ => h.elim

theorem EvOk.conv {o : Nat → Tag} {h : Nat → Value} {w : World} {x y : EV} {v : Value} (he : EvEq x y) (hx : EvOk o h w x v) : EvOk o h w y v := by
  cases x with
  | c x => cases y with
    | c y => exact RepV.conv he hx
    | _ => exact absurd he (by simp [EvEq])
  | ag xs => cases y with
    | ag ys =>
      obtain ⟨vs, rfl, h1, h2⟩ := hx
      refine ⟨vs, rfl, h1.trans he.1, fun q y hq => ?_⟩
      have hlt : q < xs.length := by rw [he.1]; exact (List.getElem?_eq_some_iff.1 hq).1
      obtain ⟨u, hu, hr⟩ := h2 q _ (List.getElem?_eq_getElem hlt)
      exact ⟨u, hu, RepV.conv (he.2 q _ y (List.getElem?_eq_getElem hlt) hq) hr⟩
    | _ => exact absurd he (by simp [EvEq])
  | _ => simp only [EvEq] at he; subst he; exact hx

theorem DoesF.conv {P : Program} {f : FuncId} {ys ys' : List EV} {rs rs' : List (Nat × Res)} {y : SV} (he : EvEqs ys ys') (D : DoesF P f ys' rs y rs') : DoesF P f ys rs y rs' := by
  intro o h args w hs
  refine D o h args w ⟨by simpa [he.len] using hs.size, hs.tags, fun s x hl => ?_, hs.res⟩
  obtain ⟨_, hlt, y, hy, rfl⟩ := idx_lt ys' 0 s x hl
  obtain ⟨x, hx, hxy⟩ := he.get hy
  have := hs.slot (0 + (s - 0)) _ (idx_get ys 0 _ x hx)
  simp only [Nat.sub_zero, Nat.zero_add] at this
  exact EvOk.conv hxy this

/-! what a slice's cells say -/
def cvInt : CV → Int
  | .lit (.int _ z) => z
  | _ => 0
def unI : CV → List Int
  | .sl n _ f => (List.range n).map fun e => cvInt (f e 0)
  | _ => []
def isI (x : CV) : Prop := CVEq x (ints (unI x))
@[simp] theorem unI_ints (xs : List Int) : unI (ints xs) = xs := by
  unfold unI ints
  refine List.ext_getElem (by simp) fun j h1 h2 => ?_
  simp [cvInt, List.getD_eq_getElem?_getD, h2]
@[simp] theorem isI_ints (xs : List Int) : isI (ints xs) := by unfold isI; rw [unI_ints]; exact CVEq.refl _
def nilV : CV := .lit (.slice none 0 0)
@[simp] theorem unI_nil : unI (.lit (.slice none 0 0)) = [] := rfl
@[simp] theorem isI_nil : isI (.lit (.slice none 0 0)) := ⟨rfl, rfl⟩
theorem isI_drop (xs : List Int) (n lo : Nat) (h : lo + n ≤ xs.length) : isI (.sl n 1 fun e _ => .lit (.int .i64 (xs.getD (e + lo) 0))) ∧ unI (.sl n 1 fun e _ => .lit (.int .i64 (xs.getD (e + lo) 0))) = (xs.drop lo).take n := by
  have h2 : unI (.sl n 1 fun e _ => .lit (.int .i64 (xs.getD (e + lo) 0))) = (xs.drop lo).take n := by
    refine List.ext_getElem (by simp [unI]; omega) fun j h1 h2 => ?_
    simp only [unI, List.length_map, List.length_range] at h1
    have : lo + j < xs.length := by omega
    simp [unI, cvInt, List.getD_eq_getElem?_getD, Nat.add_comm j lo, this]
  refine ⟨?_, h2⟩
  unfold isI
  rw [h2]
  refine ⟨by simp; omega, .inr ⟨rfl, fun e q he hq => ?_⟩⟩
  have : lo + e < xs.length := by omega
  simp [CVEq, List.getD_eq_getElem?_getD, he, Nat.add_comm e lo, this]

/-! calls of the table's functions -/
def isLit : CV → Bool
  | .lit _ => true
  | _ => false
def evFlatB : EV → Bool
  | .c x => isLit x
  | _ => false
def evsFlatB : List EV → Bool
  | [] => true
  | x :: l => evFlatB x && evsFlatB l
def svFlatB : SV → Bool
  | .e x => evFlatB x
  | .tup xs => evsFlatB xs
theorem evFlatB_ok {x : EV} (h : evFlatB x = true) : EvFlat x := by
  cases x with
  | c x => cases x with
    | lit _ => trivial
    | _ => simp [evFlatB, isLit] at h
  | _ => simp [evFlatB] at h
theorem svFlatB_ok {x : SV} (h : svFlatB x = true) : SvFlat x := by
  cases x with
  | e x => exact evFlatB_ok h
  | tup xs =>
    have : ∀ xs : List EV, evsFlatB xs = true → ∀ x ∈ xs, EvFlat x := by
      intro xs
      induction xs with
      | nil => intro _ x hx; cases hx
      | cons a l ih =>
        intro h x hx
        simp only [evsFlatB, Bool.and_eq_true] at h
        rcases List.mem_cons.1 hx with e | hx
        · subst e; exact evFlatB_ok h.1
        · exact ih h.2 x hx
    exact this xs h

def isSl : CV → Bool
  | .sl _ _ _ => true
  | _ => false
theorem isSl_ok {x : CV} (h : isSl x = true) : ∃ n k f, x = .sl n k f := by
  cases x with
  | sl n k f => exact ⟨n, k, f, rfl⟩
  | _ => simp [isSl] at h
def argE (A : St) : EV → Option (EV × List Nat)
  | .c x => some (.c x, [])
  | .ag cs => some (.ag cs, [])
  | .r i => match lk A.rs i with
    | some (.own _ x) => match isSl x with
      | true => some (.c x, [i])
      | false => none
    | _ => none
  | _ => none
def argsE (A : St) : List Operand → Option (List EV × List Nat × Prop)
  | [] => some ([], [], True)
  | x :: xs => match rd A x with
    | some (z, p) => match argE A z with
      | some (y, L) => match argsE A xs with
        | some (ys, L', q) => some (y :: ys, appN L L', p ∧ q)
        | none => none
      | none => none
    | none => none

theorem memN_of {d : Nat} : ∀ {l : List Nat}, d ∈ l → memN d l = true
  | [], h => by cases h
  | x :: l, h => by
    simp only [memN, Bool.or_eq_true]
    rcases List.mem_cons.1 h with e | h
    · subst e; left; simp
    · exact .inr (memN_of h)

theorem argsE_ok {A : St} : ∀ {xs : List Operand} {ys : List EV} {L : List Nat} {p : Prop}, argsE A xs = some (ys, L, p) → p → ∀ L0, (∀ i ∈ L, i ∈ L0) → argsP A [] L0 xs ys
  | [], ys, L, p, h, hp, L0, hL => by
    simp only [argsE, Option.some.injEq, Prod.mk.injEq] at h
    obtain ⟨rfl, rfl, rfl⟩ := h
    trivial
  | x :: xs, ys, L, p, h, hp, L0, hL => by
    simp only [argsE] at h
    split at h
    · rename_i z p1 hr
      split at h
      · rename_i y L1 ha
        split at h
        · rename_i ys' L' q hxs
          simp only [Option.some.injEq, Prod.mk.injEq] at h
          obtain ⟨rfl, rfl, rfl⟩ := h
          rw [appN_eq] at hL
          refine ⟨⟨z, p1, hr, hp.1, ?_⟩, argsE_ok hxs hp.2 L0 fun i hi => hL i (List.mem_append.2 (.inr hi))⟩
          unfold argE at ha
          split at ha
          · simp only [Option.some.injEq, Prod.mk.injEq] at ha
            obtain ⟨rfl, rfl⟩ := ha
            exact .conv (CVEq.refl _)
          · simp only [Option.some.injEq, Prod.mk.injEq] at ha
            obtain ⟨rfl, rfl⟩ := ha
            exact .agc rfl fun q x y h1 h2 => by rw [h1] at h2; cases h2; exact CVEq.refl _
          · split at ha
            · rename_i i _ E x hl
              split at ha
              · rename_i hx
                obtain ⟨n, k, f, e⟩ := isSl_ok hx
                simp only [Option.some.injEq, Prod.mk.injEq] at ha
                obtain ⟨rfl, rfl⟩ := ha
                exact .lend hl e (CVEq.refl _) (memN_of (hL _ (List.mem_append.2 (.inl (.head _))))) rfl
              · cases ha
            · cases ha
          · cases ha
        · cases h
      · cases h
    · cases h

def emptyN : List Nat → Bool
  | [] => true
  | _ => false
def stepC (fns : Fns) (A : St) (op : Oper) : Option (SV × Prop) :=
  match op.op with
  | .call c => match c.callee with
    | .value (.func g) => match lk fns g with
      | some F => match argsE A c.args.toList with
        | some (ys, L, q) => match F ys with
          | some (y, φ) => match y.inB [], emptyN L || svFlatB y with
            | true, true => some (y, q ∧ φ)
            | _, _ => none
          | none => none
        | none => none
      | none => none
    | _ => none
  | _ => none

section
variable {P : Program} {lay : Lay} {A A' : St} {Q : Exit → St → Prop} {fns : Fns}

theorem KW.slotW {k : List K} {e : Exit} {d n : Nat} {x x' : SV} {sl : List (Nat × SV)} {rs : List (Nat × Res)} (h : ∀ o h w v, SvOk o h w x v → SvOk o h w x' v) (hn : KW P k e ⟨n, (d, x') :: sl, rs⟩ Q) : KW P k e ⟨n, (d, x) :: sl, rs⟩ Q := by
  refine KW.weaken (A' := ⟨n, (d, x') :: sl, rs⟩) (fun o h' tm w hs => ⟨o, h', ⟨hs.size, hs.tags, fun s y hl => ?_, hs.res⟩, Ext.refl o w⟩) hn
  rw [lk_cons] at hl
  split at hl
  · rename_i e; subst e; cases hl; exact h _ _ _ _ (hs.slot d x (by rw [lk_cons, if_pos rfl]))
  · rename_i hne; exact hs.slot s y (by rw [lk_cons, if_neg hne]; exact hl)

theorem stepC_ok (hT : FnsOk P fns) {all : Array Oper} {op : Oper} {rest : List Oper} {k : List K} {y : SV} {φ : Prop} {d : Nat} (hg : Wanted A all op) (hd : op.dst = some d) (hlt : Nat.blt d A.n = true) (h : stepC fns A op = some (y, φ)) (hφ : φ)
    (hn : KW P (.ops all rest :: k) .normal ⟨A.n, (d, y) :: A.sl, A.rs⟩ Q) : KW P (.ops all (op :: rest) :: k) .normal A Q := by
  unfold stepC at h
  split at h
  · rename_i c ho
    split at h
    · rename_i g hc
      split at h
      · rename_i F hF
        split at h
        · rename_i ys L q ha
          split at h
          · rename_i y' φ' hy
            split at h
            · rename_i hin hfl
              simp only [Option.some.injEq, Prod.mk.injEq] at h
              obtain ⟨rfl, rfl⟩ := h
              obtain ⟨he, hD⟩ := hT g F hF
              refine KW.callV0 (hD ys y' φ' hy hφ.2) he L hg ho hd hlt hc rfl trivial (argsE_ok ha hφ.1 L fun _ h => h) hin ?_ hn
              simp only [Bool.or_eq_true] at hfl
              refine hfl.imp (fun h => ?_) svFlatB_ok
              cases L with
              | nil => rfl
              | cons _ _ => simp [emptyN] at h
            · cases h
          · cases h
        · cases h
      · cases h
    · cases h
  · cases h

def stepO (fns : Fns) : List K → Exit → St → Option (List K × Exit × St × Prop)
  | .ops all (o :: rest) :: k, .normal, ⟨n, sl, rs⟩ => match o.guard with
    | none => match o.dst, stepC fns ⟨n, sl, rs⟩ o with
      | some d, some (y, ψ) => match Nat.blt d n with
        | true => some (.ops all rest :: k, .normal, ⟨n, (d, y) :: sl, rs⟩, ψ)
        | false => none
      | _, _ => none
    | some (j, want) => match gdOf ⟨n, sl, rs⟩ all j want, stepC fns ⟨n, sl, rs⟩ o, o.dst with
      | some b, some (.e x, ψ), some d => match Nat.blt d n with
        | true => some (.ops all rest :: k, .normal, ⟨n, (d, .e (.gd b x)) :: sl, rs⟩, b = true → ψ)
        | false => none
      | _, _, _ => none
  | _, _, _ => none

def run2 (lay : Lay) (fns : Fns) : Nat → List K → Exit → St → Prop → List K × Exit × St × Prop
  | 0, k, e, A, φ => (k, e, A, φ)
  | f + 1, k, e, A, φ => match step1 lay k e A with
    | some (k', e', A', ψ) => run2 lay fns f k' e' A' (φ ∧ ψ)
    | none => match stepO fns k e A with
      | some (k', e', A', ψ) => run2 lay fns f k' e' A' (φ ∧ ψ)
      | none => (k, e, A, φ)

theorem stepO_ok (hT : FnsOk P fns) {k k' : List K} {e e' : Exit} {φ : Prop} (h : stepO fns k e A = some (k', e', A', φ)) (hφ : φ) (hn : KW P k' e' A' Q) : KW P k e A Q := by
  unfold stepO at h
  split at h
  · split at h
    · rename_i hg
      split at h
      · rename_i hd hc
        split at h
        · rename_i hlt
          simp only [Option.some.injEq, Prod.mk.injEq] at h
          obtain ⟨rfl, rfl, rfl, rfl⟩ := h
          exact stepC_ok hT (.inl hg) hd hlt hc hφ hn
        · cases h
      · cases h
    · rename_i j want hg
      split at h
      · rename_i b x ψ d hb hc hd
        split at h
        · rename_i hlt
          simp only [Option.some.injEq, Prod.mk.injEq] at h
          obtain ⟨rfl, rfl, rfl, rfl⟩ := h
          by_cases hbt : b = true
          · refine stepC_ok hT (.inr ⟨j, want, b, hg, hb, hbt⟩) hd hlt hc (hφ hbt) (KW.slotW (fun o h w v hv => ?_) hn)
            exact ⟨fun _ => hv, fun e => by rw [hbt] at e; cases e⟩
          · have hbf : b = false := by simpa using hbt
            refine KW.pass hg hb hbf hd hlt (KW.slotW (fun o h w v hv => ?_) hn)
            exact ⟨fun e => absurd e hbt, fun _ => hv.2 rfl⟩
        · cases h
      · cases h
  · cases h

theorem run2_ok (hl : LayOk P lay) (hT : FnsOk P fns) : ∀ (f : Nat) {k k' : List K} {e e' : Exit} {A A' : St} {φ φ' : Prop}, run2 lay fns f k e A φ = (k', e', A', φ') → φ' → KW P k' e' A' Q → φ ∧ KW P k e A Q
  | 0, k, k', e, e', A, A', φ, φ', h, hφ, hn => by
    simp only [run2, Prod.mk.injEq] at h
    obtain ⟨rfl, rfl, rfl, rfl⟩ := h
    exact ⟨hφ, hn⟩
  | f + 1, k, k', e, e', A, A', φ, φ', h, hφ, hn => by
    simp only [run2] at h
    split at h
    · rename_i k1 e1 A1 ψ hs
      obtain ⟨⟨h1, h2⟩, h3⟩ := run2_ok hl hT f h hφ hn
      exact ⟨h1, step1_ok hl hs h2 h3⟩
    · split at h
      · rename_i k1 e1 A1 ψ hs
        obtain ⟨⟨h1, h2⟩, h3⟩ := run2_ok hl hT f h hφ hn
        exact ⟨h1, stepO_ok hT hs h2 h3⟩
      · simp only [Prod.mk.injEq] at h
        obtain ⟨rfl, rfl, rfl, rfl⟩ := h
        exact ⟨hφ, hn⟩

theorem KW.go (hl : LayOk P lay) (hT : FnsOk P fns) (f : Nat) {k k' : List K} {e e' : Exit} {φ : Prop} (h : run2 lay fns f k e A True = (k', e', A', φ)) (hφ : φ) (hn : KW P k' e' A' Q) : KW P k e A Q :=
  (run2_ok hl hT f h hφ hn).2
end

end Go.Sy
