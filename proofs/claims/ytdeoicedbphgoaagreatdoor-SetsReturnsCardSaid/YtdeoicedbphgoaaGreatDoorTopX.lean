/-
  A law at a world of the right shape: the shape says that the library's own variable holds some integer; what stands in package variables is handed to a walk as resources.
-/
import Derived.Test.YtdeoicedbphgoaaGreatDoorTopA
import Derived.Test.YtdeoicedbphgoaaGreatDoorRows
import Derived.HandedShaped
import Derived.LaidSub
import Derived.MakeChecks
import Derived.Shelf.Vars
import Derived.KernelRfl
set_option linter.unusedVariables false
set_option linter.unusedSectionVars false
attribute [local instance] Go.Sy.drwNo
namespace Go.Proofs.YtdeoicedbphgoaaGreatDoor
open Go.Sy Go.ChangeShapes Go.WideShapes Go.ChangeAt Go.RowKit
theorem walk_glos {P : Program} {f : FuncId} {ys : List EV} {rs : List (Nat × Res)} {args : Array Value} {W : World} (hg : ∀ i r, lk rs i = some r → ∃ g T vs, r = .glo g T vs ∧ W.heap[g]? = some (.cells vs.toArray T (0, 0))) (D : DoesF P f ys rs (sB true) []) (hsz : args.size = ys.length)
    (ha : ∀ (j : Nat) y, ys[j]? = some y → EvOk (oldO W) (fun _ => undef) W y (args.getD j undef)) : Calls P f args W fun e w' => e = .returned (.bool true) ∧ Below W.heap.size W w' := by
  refine (D (oldO W) (fun _ => undef) args W ⟨hsz, fun b => ⟨fun i h => ?_, fun h => ?_⟩, fun s x hl => ?_, fun i r hl => ?_⟩).mono ?_
  · simp only [oldO] at h; split at h <;> cases h
  · simp only [oldO] at h; split at h
    · assumption
    · cases h
  · obtain ⟨_, _, y, hy, rfl⟩ := idx_lt ys 0 s x hl
    exact ha s y (by simpa using hy)
  · obtain ⟨g, T, vs, rfl, h1⟩ := hg i r hl
    have hlt : g < W.heap.size := by
      refine Classical.byContradiction fun h => ?_
      rw [Array.getElem?_eq_none (by omega)] at h1; cases h1
    exact ⟨by simp only [oldO, if_pos hlt], h1⟩
  · rintro e w' ⟨v, o', h', rfl, hs, hx⟩
    have hv : RepV o' w' (.lit (.bool true)) v := hs.slot 0 (sB true) (by rw [lk_cons, if_pos rfl])
    exact ⟨by rw [hv.1], ext_below hx⟩
theorem glo1 {W : World} {i g T : Nat} {vs : List Value} (h : W.heap[g]? = some (.cells vs.toArray T (0, 0))) : ∀ j r, lk [(i, Res.glo g T vs)] j = some r → ∃ g T vs, r = Res.glo g T vs ∧ W.heap[g]? = some (.cells vs.toArray T (0, 0)) := fun j r hl => by
  rw [lk_cons] at hl
  split at hl
  · cases hl; exact ⟨_, _, _, rfl, h⟩
  · simp [lk] at hl
theorem glo2 {W : World} {i g T i' g' T' : Nat} {vs vs' : List Value} (h : W.heap[g]? = some (.cells vs.toArray T (0, 0))) (h' : W.heap[g']? = some (.cells vs'.toArray T' (0, 0))) : ∀ j r, lk [(i, Res.glo g T vs), (i', Res.glo g' T' vs')] j = some r → ∃ g T vs, r = Res.glo g T vs ∧ W.heap[g]? = some (.cells vs.toArray T (0, 0)) := fun j r hl => by
  rw [lk_cons] at hl
  split at hl
  · cases hl; exact ⟨_, _, _, rfl, h⟩
  · exact glo1 h' j r hl
theorem handed_shape {H : Type} {enc : TypeId × Value → H} {a : Assume} {C : Checked} {os : Os} {f : FuncId} {fn : Func} {s : ChangeSpec} {conds : List PathCond} {apart fresh handsOn again : Bool} {X : World → Array Value → Prop}
    (hX : ∀ (w w' : World) (args : Array Value), w.heap = w'.heap → X w args → X w' args)
    (own : ownKnob C.prog.godebug = none) (started : os.Started) (noInit : C.prog.inits.idxOf? f = none) (hfn : C.prog.funcs[f]? = some fn)
    (witness : ∃ (w : World) (tape : Tape) (i : Input), w.os = os ∧ (w.forCall tape i).Shaped C.prog ∧ i.vars = [] ∧ Input.okWide C.prog (w.forCall tape i) .any w.heap.size f i ∧
      ((s.pre enc C.prog fn conds apart (w.forCall tape i).memory i.args ∧ X (w.forCall tape i).memory i.args) ∧ sizedMet enc C.prog fn (OpenSpec.ofChange s) apart (w.forCall tape i).memory i.args) ∧ a.holds C.prog (lone (Frame.enter C.prog f i.args .normal) [] (w.forCall tape i)))
    (walk : ∀ (W : World) (base : Nat) (args : Array Value) (ds gs : List (DataW H)) (before : List MemPlace),
      (∀ (j : Nat) t v, fn.params[j]? = some t → args[j]? = some v → Value.okWide C.prog W .any base t v) →
      DataW.Whole enc C.prog fn.params.toList s.vars apart W args.toList ds gs before → X W args → W.ShapedOpen C.prog →
      Calls C.prog f args W fun e W' => ∃ v, e = .returned v ∧ s.post enc C.prog fn apart fresh handsOn again W args v W') :
    ReturnsInHanded a C os f .any (fun w args => (s.pre enc C.prog fn conds apart w args ∧ X w args) ∧ sizedMet enc C.prog fn (OpenSpec.ofChange s) apart w args) (s.post enc C.prog fn apart fresh handsOn again) := by
  refine returnsInHanded_of_calls own started noInit witness ?_
  intro w tape i _ shape _ okw met _
  obtain ⟨_, _, _, fn2, hfn2, _, _, _, _, vals⟩ := okw
  obtain rfl : fn2 = fn := Option.some.inj (hfn2.symm.trans hfn)
  obtain ⟨⟨⟨ds, gs, before, whole, _⟩, hx⟩, _⟩ := met
  have h1 := walk (w.forCall tape i) w.heap.size i.args ds gs before vals (DataW.Whole.of_heap (w' := w.forCall tape i) (by rfl) whole) (hX _ _ _ (by rfl) hx) shape
  refine h1.mono fun e W' h2 => ?_
  obtain ⟨v, rfl, h3⟩ := h2
  exact ChangeSpec.post_blind h3
theorem max_int {W : World} (h : W.ShapedOpen Tryz.prog) : ∃ (m : Int) (T : Nat), W.heap[3]? = some (.cells [Value.int .i64 m].toArray T (0, 0)) := by
  have hz : ∃ zero, ((begin Tryz.prog (fun _ _ => 0) default).world.heap[3]?).bind Obj.row? = some (zero, 3) ∧ zero.size = 1 := ⟨#[.int .i64 0], by kernel_rfl, rfl⟩
  obtain ⟨zero, h0, h1⟩ := hz
  obtain ⟨m, hm⟩ := cell_of_shapedOpen_int h (g := 3) (t := 3) (k := .i64) (of_decide_eq_true (by kernel_rfl)) h0 h1 (by kernel_rfl) (by kernel_rfl) (by kernel_rfl)
  obtain ⟨cs, hh, hs, _⟩ := h.1 3 zero 3 (of_decide_eq_true (by kernel_rfl)) h0
  refine ⟨m, 3, ?_⟩
  rw [hh]
  have hc : cs[0]? = some (.int .i64 m) := by
    have := hm
    simp only [World.cell?, hh] at this
    simpa using this
  have : cs = #[.int .i64 m] := by
    apply Array.ext
    · rw [hs, h1]; rfl
    · intro i h1' h2'
      have hi : i = 0 := by simp at h2'; omega
      subst hi
      have := Array.getElem?_eq_some_iff.1 hc
      obtain ⟨_, h3⟩ := this
      rw [h3]; rfl
  rw [this]
end Go.Proofs.YtdeoicedbphgoaaGreatDoor
