/-
  SYMBOLIC STATES, PART Q: entries of the table, by the parameters' types.
-/
import Derived.Test.YtpjhpcclbenfbaaSyS
set_option linter.unusedVariables false
namespace Go.Sy

abbrev lI (n : Int) : CV := .lit (.int .i64 n)
def fI (g : Int → SV) (p : Int → Prop) : List EV → Option (SV × Prop)
  | [.c (.lit (.int .i64 a))] => some (g a, p a)
  | _ => none
def f0 (y : SV) (p : Prop) : List EV → Option (SV × Prop)
  | [] => some (y, p)
  | _ => none
def fU (g : Int → SV) (p : Int → Prop) : List EV → Option (SV × Prop)
  | [.c (.lit (.int .u64 a))] => some (g a, p a)
  | _ => none
def fII (g : Int → Int → SV) (p : Int → Int → Prop) : List EV → Option (SV × Prop)
  | [.c (.lit (.int .i64 a)), .c (.lit (.int .i64 b))] => some (g a b, p a b)
  | _ => none
def fV (g : Value → SV) (p : Value → Prop) : List EV → Option (SV × Prop)
  | [.c (.lit v)] => some (g v, p v)
  | _ => none
def fL (g : List Int → SV) (p : List Int → Prop) : List EV → Option (SV × Prop)
  | [.c x] => some (g (unI x), isI x ∧ p (unI x))
  | _ => none
def fLI (g : List Int → Int → SV) (p : List Int → Int → Prop) : List EV → Option (SV × Prop)
  | [.c x, .c (.lit (.int .i64 a))] => some (g (unI x) a, isI x ∧ p (unI x) a)
  | _ => none
def fLII (g : List Int → Int → Int → SV) (p : List Int → Int → Int → Prop) : List EV → Option (SV × Prop)
  | [.c x, .c (.lit (.int .i64 a)), .c (.lit (.int .i64 b))] => some (g (unI x) a b, isI x ∧ p (unI x) a b)
  | _ => none
def fLL (g : List Int → List Int → SV) (p : List Int → List Int → Prop) : List EV → Option (SV × Prop)
  | [.c x, .c y] => some (g (unI x) (unI y), isI x ∧ isI y ∧ p (unI x) (unI y))
  | _ => none
/-- a list of lists -/
def unII : CV → List (List Int)
  | .sl n _ f => (List.range n).map fun e => unI (f e 0)
  | _ => []
def isII (x : CV) : Prop := CVEq x (intss (unII x))
@[simp] theorem unII_intss (ls : List (List Int)) : unII (intss ls) = ls := by
  unfold unII intss
  refine List.ext_getElem (by simp) fun j h1 h2 => ?_
  simp [List.getD_eq_getElem?_getD, h2]
@[simp] theorem isII_intss (ls : List (List Int)) : isII (intss ls) := by unfold isII; rw [unII_intss]; exact CVEq.refl _
def fLs (g : List (List Int) → SV) (p : List (List Int) → Prop) : List EV → Option (SV × Prop)
  | [.c x] => some (g (unII x), isII x ∧ p (unII x))
  | _ => none

section
variable {P : Program} {lay : Lay} {A A' : St} {Q : Exit → St → Prop} {fns : Fns} {e : Exit} {k k' : List K}
/-- as far as a test: its two ways -/
theorem KW.goIf (hl : LayOk P lay) (hT : FnsOk P fns) (f : Nat) {c : Operand} {x y : Code} {b : Bool} {φ p : Prop} (h : run2 lay fns f k e A True = (.code (.cond c x y) :: k', .normal, A', φ)) (hφ : φ) (hb : litOf A' c = some (.bool b, p)) (hp : p)
    (ht : b = true → KW P (.code x :: k') .normal A' Q) (hf : b = false → KW P (.code y :: k') .normal A' Q) : KW P k e A Q :=
  KW.go hl hT f h hφ (KW.test hb hp ht hf)
/-- as far as a region that draws its order, and through it -/
theorem KW.goD (hl : LayOk P lay) (hT : FnsOk P fns) (hm : P.follows .mixedOrders = true) (f : Nat) {id : Nat} {ops : Array Oper} {φ ψ : Prop} {A'' : St} (h : run2 lay fns f k e A True = (.code (.region id ops true) :: k', .normal, A', φ)) (hdep : depOk ops = true) (hg : drawGo lay fns ops ops.toList A' True = some (A'', ψ)) (hφ : φ) (hψ : ψ)
    (hn : KW P k' .normal A'' Q) : KW P k e A Q :=
  KW.go hl hT f h hφ (KW.drawn hl hT hm hdep hg hψ hn)
/-- as far as the end -/
theorem KW.goRet (hl : LayOk P lay) (hT : FnsOk P fns) (f : Nat) {φ : Prop} (h : run2 lay fns f k e A True = ([], .ret, A', φ)) {rv : List ResultVar} {y y0 : SV} {rs' : List (Nat × Res)} (h1 : retB A' rv = some y0) (h3 : y0 = y.ren []) (hφ : φ) (h4 : subR [] A' rs') : KW P k e A (RetQ rv y rs') :=
  KW.go hl hT f h hφ (KW.fin [] h1 rfl h3 h4)
/-- as far as the end of a round -/
theorem KW.goTo {σ : Type} {I : σ → St} {R : σ → Prop} {k0 : List K} (hl : LayOk P lay) (hT : FnsOk P fns) (f : Nat) {φ : Prop} (h : run2 lay fns f k e A True = ([], .normal, A', φ)) (s : σ) (hn : (I s).n = A'.n) (hS : subS [] A' (I s).sl) (hφ : φ) (hR : R s) (hr : subR [] A' (I s).rs) : KW P k e A (ToQ P k0 Q I R) :=
  KW.go hl hT f h hφ (KW.to s hR [] ⟨rfl, hn, hS, hr⟩)
/-- the same where rows have got other names -/
theorem KW.goToR {σ : Type} {I : σ → St} {R : σ → Prop} {k0 : List K} (hl : LayOk P lay) (hT : FnsOk P fns) (f : Nat) {φ : Prop} (h : run2 lay fns f k e A True = ([], .normal, A', φ)) (s : σ) (ρ : List (Nat × Nat)) (h1 : oneB ρ = true) (hn : (I s).n = A'.n) (hS : subS ρ A' (I s).sl) (hφ : φ) (hR : R s) (hr : subR ρ A' (I s).rs) : KW P k e A (ToQ P k0 Q I R) :=
  KW.go hl hT f h hφ (KW.to s hR ρ ⟨h1, hn, hS, hr⟩)
/-- as far as a way out of the round -/
theorem KW.goOut {σ : Type} {I : σ → St} {R : σ → Prop} {k0 : List K} (hl : LayOk P lay) (hT : FnsOk P fns) (f : Nat) {φ : Prop} {id : Nat} (h : run2 lay fns f k e A True = ([], .exit id, A', φ)) (hφ : φ) (hk : KW P k0 (.exit id) A' Q) : KW P k e A (ToQ P k0 Q I R) :=
  KW.go hl hT f h hφ (KW.outX hk)
theorem KW.goOutR {σ : Type} {I : σ → St} {R : σ → Prop} {k0 : List K} (hl : LayOk P lay) (hT : FnsOk P fns) (f : Nat) {φ : Prop} (h : run2 lay fns f k e A True = ([], .ret, A', φ)) (hφ : φ) (hk : KW P k0 .ret A' Q) : KW P k e A (ToQ P k0 Q I R) :=
  KW.go hl hT f h hφ (KW.outR hk)
/-- as far as the end: a row of its own is handed back as a value -/
theorem KW.goRetO (hl : LayOk P lay) (hT : FnsOk P fns) (f : Nat) {φ : Prop} (h : run2 lay fns f k e A True = ([], .ret, A', φ)) (i s : Nat) {E : Nat} {x z : CV} (hr : lk A'.rs i = some (.own E x)) (hx : isSl x = true) (hs : lk A'.sl s = some (.e (.r i)))
    (hz : x = z) (hφ : φ) : KW P k e A (RetQ [.tmp s] (.e (.c z)) []) := by
  subst hz
  obtain ⟨n, k0, g, e⟩ := isSl_ok hx
  refine KW.go hl hT f h hφ (KW.frz i [s] hr e (by simp [allR, hs]) (KW.fin (y0 := .e (.c x)) [] ?_ rfl rfl trivial))
  simp [retB, pushC, lk_cons]
/-- as far as a loop -/
theorem KW.goLp {σ : Type} (hl : LayOk P lay) (hT : FnsOk P fns) (f : Nat) {φ : Prop} {c : Code} (h : run2 lay fns f k e A True = (.code (.loop c) :: k', .normal, A', φ)) (I : σ → St) (R : σ → Prop) (m : σ → Nat) (s : σ) (hn : (I s).n = A'.n) (hS : subS [] A' (I s).sl) (hφ : φ) (hR : R s) (hr : subR [] A' (I s).rs)
    (round : ∀ s, R s → KW P [.code c] .normal (I s) (ToQ P k' Q I fun s' => R s' ∧ m s' < m s)) : KW P k e A Q :=
  KW.go hl hT f h hφ (KW.lp I R m s hR [] ⟨rfl, hn, hS, hr⟩ round)
end

/-! rows that grow, rows that are cut -/
theorem catV_ints (a b : List Int) : catV (ints a) (ints b) = ints (a ++ b) := by
  simp only [catV, ints, List.length_append]
  congr 1
  funext e q
  by_cases h : e < a.length
  · have : Nat.blt e a.length = true := by simpa [Nat.blt, Nat.succ_le_iff] using h
    simp [this, List.getD_eq_getElem?_getD, List.getElem?_append_left h, h]
  · have : Nat.blt e a.length = false := by
      cases hb : Nat.blt e a.length with
      | false => rfl
      | true => exact absurd (by simpa [Nat.blt, Nat.succ_le_iff] using hb) h
    simp [this, List.getD_eq_getElem?_getD, List.getElem?_append_right (Nat.le_of_not_lt h)]
theorem own_cat (E : Nat) {a b c : List Int} (h : a ++ b = c) : some (Res.own E (catV (ints a) (ints b))) = some (Res.own E (ints c)) := by rw [catV_ints, h]
theorem own_cat1 (E : Nat) {b c : List Int} (h : b = c) : some (Res.own E (ints b)) = some (Res.own E (ints c)) := by rw [h]
/-! short lists of lists, errors -/
@[simp] theorem fill1 (z x : CV) : setsN (repZ [z] 1) 0 [x] = [x] := rfl
@[simp] theorem fill2 (z x y : CV) : setsN (setsN (repZ [z] 2) 0 [x]) 1 [y] = [x, y] := rfl
@[simp] theorem fill3 (z x y u : CV) : setsN (setsN (setsN (repZ [z] 3) 0 [x]) 1 [y]) 2 [u] = [x, y, u] := rfl
@[simp] theorem unII_rows1 (x : CV) : unII (rowsC 1 1 [x]) = [unI x] := rfl
@[simp] theorem unII_rows2 (x y : CV) : unII (rowsC 1 2 [x, y]) = [unI x, unI y] := rfl
@[simp] theorem unII_rows3 (x y z : CV) : unII (rowsC 1 3 [x, y, z]) = [unI x, unI y, unI z] := rfl
theorem isII_rows1 {x : CV} (h : isI x) : isII (rowsC 1 1 [x]) := by
  refine ⟨rfl, .inr ⟨rfl, fun e q he hq => ?_⟩⟩
  have : e = 0 := by omega
  have : q = 0 := by omega
  subst_vars; exact h
theorem isII_rows2 {x y : CV} (h : isI x) (h' : isI y) : isII (rowsC 1 2 [x, y]) := by
  refine ⟨rfl, .inr ⟨rfl, fun e q he hq => ?_⟩⟩
  have : q = 0 := by omega
  rcases (by omega : e = 0 ∨ e = 1) with rfl | rfl
  · subst_vars; exact h
  · subst_vars; exact h'
theorem isII_rows3 {x y z : CV} (h : isI x) (h' : isI y) (h'' : isI z) : isII (rowsC 1 3 [x, y, z]) := by
  refine ⟨rfl, .inr ⟨rfl, fun e q he hq => ?_⟩⟩
  have : q = 0 := by omega
  rcases (by omega : e = 0 ∨ e = 1 ∨ e = 2) with rfl | rfl | rfl
  · subst_vars; exact h
  · subst_vars; exact h'
  · subst_vars; exact h''
@[simp] theorem isII_r1 (a : List Int) : isII (rowsC 1 1 [ints a]) := isII_rows1 (isI_ints a)
@[simp] theorem isII_r2 (a b : List Int) : isII (rowsC 1 2 [ints a, ints b]) := isII_rows2 (isI_ints a) (isI_ints b)
@[simp] theorem isII_r3 (a b c : List Int) : isII (rowsC 1 3 [ints a, ints b, ints c]) := isII_rows3 (isI_ints a) (isI_ints b) (isI_ints c)
/-- the number of an error -/
def numV : Value → Int
  | .iface _ (.int _ n) => n
  | _ => 0
@[simp] theorem numV_errV (T : Nat) (n : Int) : numV (errV T n) = n := by unfold errV; split <;> simp_all [numV]
def isErr (T : Nat) (v : Value) : Prop := v = errV T (numV v)
@[simp] theorem isErr_errV (T : Nat) (n : Int) : isErr T (errV T n) := by unfold isErr; simp
@[simp] theorem isErr_nil (T : Nat) : isErr T .nilIface := rfl
@[simp] theorem numV_nil : numV .nilIface = 0 := rfl
@[simp] theorem numV_iface (T : Nat) (n : Int) : numV (.iface T (.int .i64 n)) = n := rfl
def fVI (g : Value → Int → SV) (p : Value → Int → Prop) : List EV → Option (SV × Prop)
  | [.c (.lit v), .c (.lit (.int .i64 a))] => some (g v a, p v a)
  | _ => none

section
variable {P : Program} {f : FuncId}
theorem fVI_ok {g : Value → Int → SV} {p : Value → Int → Prop} (h : ∀ v a, p v a → DoesF P f [.c (.lit v), iV a] [] (g v a) []) : ∀ ys y φ, fVI g p ys = some (y, φ) → φ → DoesF P f ys [] y [] := by
  intro ys y φ he hφ
  unfold fVI at he
  split at he
  · simp only [Option.some.injEq, Prod.mk.injEq] at he
    obtain ⟨rfl, rfl⟩ := he
    exact h _ _ hφ
  · cases he
theorem fI_ok {g : Int → SV} {p : Int → Prop} (h : ∀ a, p a → DoesF P f [iV a] [] (g a) []) : ∀ ys y φ, fI g p ys = some (y, φ) → φ → DoesF P f ys [] y [] := by
  intro ys y φ he hφ
  unfold fI at he
  split at he
  · simp only [Option.some.injEq, Prod.mk.injEq] at he
    obtain ⟨rfl, rfl⟩ := he
    exact h _ hφ
  · cases he
theorem f0_ok {y : SV} {p : Prop} (h : p → DoesF P f [] [] y []) : ∀ ys y' φ, f0 y p ys = some (y', φ) → φ → DoesF P f ys [] y' [] := by
  intro ys y' φ he hφ
  unfold f0 at he
  split at he
  · simp only [Option.some.injEq, Prod.mk.injEq] at he
    obtain ⟨rfl, rfl⟩ := he
    exact h hφ
  · cases he
theorem fU_ok {g : Int → SV} {p : Int → Prop} (h : ∀ a, p a → DoesF P f [.c (.lit (.int .u64 a))] [] (g a) []) : ∀ ys y φ, fU g p ys = some (y, φ) → φ → DoesF P f ys [] y [] := by
  intro ys y φ he hφ
  unfold fU at he
  split at he
  · simp only [Option.some.injEq, Prod.mk.injEq] at he
    obtain ⟨rfl, rfl⟩ := he
    exact h _ hφ
  · cases he
theorem fII_ok {g : Int → Int → SV} {p : Int → Int → Prop} (h : ∀ a b, p a b → DoesF P f [iV a, iV b] [] (g a b) []) : ∀ ys y φ, fII g p ys = some (y, φ) → φ → DoesF P f ys [] y [] := by
  intro ys y φ he hφ
  unfold fII at he
  split at he
  · simp only [Option.some.injEq, Prod.mk.injEq] at he
    obtain ⟨rfl, rfl⟩ := he
    exact h _ _ hφ
  · cases he
theorem fV_ok {g : Value → SV} {p : Value → Prop} (h : ∀ a, p a → DoesF P f [.c (.lit a)] [] (g a) []) : ∀ ys y φ, fV g p ys = some (y, φ) → φ → DoesF P f ys [] y [] := by
  intro ys y φ he hφ
  unfold fV at he
  split at he
  · simp only [Option.some.injEq, Prod.mk.injEq] at he
    obtain ⟨rfl, rfl⟩ := he
    exact h _ hφ
  · cases he
theorem fL_ok {g : List Int → SV} {p : List Int → Prop} (h : ∀ a, p a → DoesF P f [.c (ints a)] [] (g a) []) : ∀ ys y φ, fL g p ys = some (y, φ) → φ → DoesF P f ys [] y [] := by
  intro ys y φ he hφ
  unfold fL at he
  split at he
  · simp only [Option.some.injEq, Prod.mk.injEq] at he
    obtain ⟨rfl, rfl⟩ := he
    refine DoesF.conv ?_ (h _ hφ.2)
    exact ⟨hφ.1, trivial⟩
  · cases he
theorem fLI_ok {g : List Int → Int → SV} {p : List Int → Int → Prop} (h : ∀ a b, p a b → DoesF P f [.c (ints a), iV b] [] (g a b) []) : ∀ ys y φ, fLI g p ys = some (y, φ) → φ → DoesF P f ys [] y [] := by
  intro ys y φ he hφ
  unfold fLI at he
  split at he
  · simp only [Option.some.injEq, Prod.mk.injEq] at he
    obtain ⟨rfl, rfl⟩ := he
    refine DoesF.conv ?_ (h _ _ hφ.2)
    exact ⟨hφ.1, CVEq.refl _, trivial⟩
  · cases he
theorem fLII_ok {g : List Int → Int → Int → SV} {p : List Int → Int → Int → Prop} (h : ∀ a b c, p a b c → DoesF P f [.c (ints a), iV b, iV c] [] (g a b c) []) : ∀ ys y φ, fLII g p ys = some (y, φ) → φ → DoesF P f ys [] y [] := by
  intro ys y φ he hφ
  unfold fLII at he
  split at he
  · simp only [Option.some.injEq, Prod.mk.injEq] at he
    obtain ⟨rfl, rfl⟩ := he
    refine DoesF.conv ?_ (h _ _ _ hφ.2)
    exact ⟨hφ.1, CVEq.refl _, CVEq.refl _, trivial⟩
  · cases he
theorem fLL_ok {g : List Int → List Int → SV} {p : List Int → List Int → Prop} (h : ∀ a b, p a b → DoesF P f [.c (ints a), .c (ints b)] [] (g a b) []) : ∀ ys y φ, fLL g p ys = some (y, φ) → φ → DoesF P f ys [] y [] := by
  intro ys y φ he hφ
  unfold fLL at he
  split at he
  · simp only [Option.some.injEq, Prod.mk.injEq] at he
    obtain ⟨rfl, rfl⟩ := he
    refine DoesF.conv ?_ (h _ _ hφ.2.2)
    exact ⟨hφ.1, hφ.2.1, trivial⟩
  · cases he
theorem fLs_ok {g : List (List Int) → SV} {p : List (List Int) → Prop} (h : ∀ a, p a → DoesF P f [.c (intss a)] [] (g a) []) : ∀ ys y φ, fLs g p ys = some (y, φ) → φ → DoesF P f ys [] y [] := by
  intro ys y φ he hφ
  unfold fLs at he
  split at he
  · simp only [Option.some.injEq, Prod.mk.injEq] at he
    obtain ⟨rfl, rfl⟩ := he
    refine DoesF.conv ?_ (h _ hφ.2)
    exact ⟨hφ.1, trivial⟩
  · cases he
end

end Go.Sy
