/-
  FROM A FUNCTION'S CONTRACT TO A ROW'S STEP: arguments that came in are read by anybody and written by nobody. No program is named here.
-/
import Derived.Test.YtdeoicedbphgoaaGreatDoorSyO
import Derived.ProofKit
import Derived.OpenShut
import Derived.ShutString
import Derived.ChangeOld
import Derived.Below
set_option linter.unusedSectionVars false
set_option linter.unusedVariables false
namespace Go.Sy
open Go.ChangeShapes Go.WideShapes Go.ChangeAt Go.RowKit
variable [Drw]
open Go.ChangeMaps (open_string shut_string)

/-- all that lay there before is stable -/
def oldO (W : World) : Nat → Tag := fun b => if b < W.heap.size then .sh else .no

theorem ext_below {W w' : World} {o' : Nat → Tag} (h : Ext (oldO W) W o' w') : Below W.heap.size W w' :=
  ⟨h.os, h.tape, h.output, h.size, fun k hk => (h.sh k (by simp [oldO, hk]) hk).2⟩

theorem walk_of {P : Program} {f : FuncId} {ys : List EV} {args : Array Value} {W : World} (D : DoesF P f ys [] (sB true) []) (hsz : args.size = ys.length)
    (ha : ∀ (j : Nat) y, ys[j]? = some y → EvOk (oldO W) (fun _ => undef) W y (args.getD j undef)) : Calls P f args W fun e w' => e = .returned (.bool true) ∧ Below W.heap.size W w' := by
  refine (D (oldO W) (fun _ => undef) args W ⟨hsz, fun b => ⟨fun i h => ?_, fun h => ?_⟩, fun s x hl => ?_, fun i r hl => by simp [lk] at hl⟩).mono ?_
  · simp only [oldO] at h; split at h <;> cases h
  · simp only [oldO] at h; split at h
    · assumption
    · cases h
  · obtain ⟨_, _, y, hy, rfl⟩ := idx_lt ys 0 s x hl
    exact ha s y (by simpa using hy)
  · rintro e w' ⟨v, o', h', rfl, hs, hx⟩
    have hv : RepV o' w' (.lit (.bool true)) v := hs.slot 0 (sB true) (by rw [lk_cons, if_pos rfl])
    exact ⟨by rw [hv.1], ext_below hx⟩

section
variable {H : Type} {enc : TypeId × Value → H} {P : Program} {W : World}

theorem op_int {t : TypeId} {k : IntKind} {v : Value} {d : DataW H} {ps : List MemPlace} (ht : P.underlying t = some (.int k)) (hval : Value.okWide P W .any 0 t v) (hd : DataW.Trod enc P W 0 (fun _ => true) true t v d ps) :
    ∃ n, v = .int k n ∧ inK k n := by
  obtain ⟨n, rfl, _, _, hw⟩ := open_int ht hval hd
  refine ⟨n, rfl, ?_⟩
  cases k
  · exact bounds_i8 hw
  · exact bounds_i16 hw
  · exact bounds_i32 hw
  · exact bounds_i64 hw
  · exact bounds_u8 hw
  · exact bounds_u16 hw
  · exact bounds_u32 hw
  · exact bounds_u64 hw

theorem ag2 {o : Nat → Tag} {w : World} (a b : Int) : ∀ (q : Nat) x, [(CV.lit (.int .i64 a)), .lit (.int .i64 b)][q]? = some x → ∃ u, (#[Value.int .i64 a, .int .i64 b] : Array Value)[q]? = some u ∧ RepV o w x u := by
  intro q x hq
  match q, hq with
  | 0, hq => simp at hq; subst hq; exact ⟨_, rfl, rfl, rfl⟩
  | 1, hq => simp at hq; subst hq; exact ⟨_, rfl, rfl, rfl⟩

theorem addr_eta {a : Addr} {w : World} {u : Value} (h : w.cell? a = some u) : a = ⟨a.block, a.off, none⟩ ∧ a.block < w.heap.size := by
  unfold World.cell? at h
  cases hb : w.heap[a.block]? with
  | none => simp [hb] at h
  | some ob =>
    have hlt : a.block < w.heap.size := by
      rcases Nat.lt_or_ge a.block w.heap.size with h' | h'
      · exact h'
      · simp [Array.getElem?_eq_none h'] at hb
    refine ⟨?_, hlt⟩
    cases ob with
    | cells c _ _ =>
      simp only [hb] at h
      split at h
      · cases h
      · rename_i hs
        obtain ⟨b, o, s⟩ := a
        cases s with
        | none => rfl
        | some _ => simp at hs
    | _ => simp [hb] at h

theorem rep_ints {a : Option Addr} {len cap : Nat} {zs : List Int} (h0 : len = 0 ∨ ∃ x, a = some x ∧ len ≤ zs.length ∧ (∀ i, i < zs.length → W.cell? (x.add i) = some (.int .i64 (zs.getD i 0)))) (hl : len ≤ cap) (hm : cap ≤ maxLen) (hz : (zs.take len).length = len) :
    RepV (oldO W) W (ints (zs.take len)) (.slice a len cap) := by
  refine ⟨a, cap, by rw [hz], by rw [hz]; exact hl, hm, ?_⟩
  rcases Nat.eq_zero_or_pos len with h00 | hpos
  · exact .inl (by rw [hz]; exact h00)
  · right
    rcases h0 with h0 | ⟨x, rfl, hlz, hc⟩
    · omega
    · have h1 := hc 0 (by omega)
      simp only [Addr.add, if_true] at h1
      obtain ⟨hx, hb⟩ := addr_eta h1
      refine ⟨x.block, x.off, by rw [hx], by simp [oldO, hb], fun e q he hq => ?_⟩
      have hq0 : q = 0 := by omega
      subst hq0
      rw [hz] at he
      have h2 := hc e (by omega)
      rw [hx, addr_add] at h2
      refine ⟨_, by simpa using h2, ?_, rfl⟩
      simp [List.getD_eq_getElem?_getD, he]

theorem op_ints {t e : TypeId} {v : Value} {d : DataW H} {ps : List MemPlace} (ht : P.underlying t = some (.slice e)) (he : P.underlying e = some (.int .i64)) (hc : P.cellsOf e = 1) (hval : Value.okWide P W .any 0 t v) (hd : DataW.Trod enc P W 0 (fun _ => true) true t v d ps) :
    ∃ xs : List Int, RepV (oldO W) W (ints xs) v ∧ ∀ x ∈ xs, inK .i64 x := by
  obtain ⟨a, len, cap, rfl⟩ := okWide_slice ht hval
  obtain ⟨fuel, hf⟩ := hd
  rcases open_ints ht he hc hf with ⟨hcs, _⟩ | ⟨x, l, c, zs, hcs, _, hl, hm, hz, _, hcell, hwz⟩
  · simp [Value.cells] at hcs
    obtain ⟨rfl, rfl, rfl⟩ := hcs
    exact ⟨[], rep_ints (zs := []) (.inl rfl) (Nat.le_refl _) (Nat.zero_le _) rfl, by simp⟩
  · simp [Value.cells] at hcs
    obtain ⟨rfl, rfl, rfl⟩ := hcs
    simp only [if_true] at hz
    refine ⟨zs.take len, rep_ints (.inr ⟨x, rfl, by omega, hcell⟩) hl hm (by simp; omega), fun y hy => bounds_i64 (hwz y (List.mem_of_mem_take hy))⟩

theorem op_arr2 {t e : TypeId} {k : IntKind} {v : Value} {d : DataW H} {ps : List MemPlace} (ht : P.underlying t = some (.array 2 e)) (he : P.underlying e = some (.int k)) (hc : P.cellsOf e = 1) (hc' : P.cellsOf t = 2) (hval : Value.okWide P W .any 0 t v) (hd : DataW.Trod enc P W 0 (fun _ => true) true t v d ps) :
    ∃ a b : Int, v = .agg #[.int k a, .int k b] := by
  have h1 : ∃ cs, v = .agg cs ∧ cs.size = P.cellsOf t ∧ Row.okWide P W .any 0 t cs := by
    unfold Value.okWide at hval
    rw [ht] at hval
    exact hval
  obtain ⟨cs, rfl, hsz, _⟩ := h1
  obtain ⟨fuel, hf⟩ := hd
  obtain ⟨xs, m, rfl, _, hlen, hxl, hx⟩ := DataW.trod_array ht hf
  simp only [Value.cells] at hx
  rw [hc] at hx
  rw [hc'] at hsz
  match cs, hsz with
  | ⟨[u, u']⟩, _ =>
    match xs, hxl with
    | [x, x'], _ =>
      obtain ⟨n, h1, _⟩ := DataW.trod_int he (hx 0 (by decide))
      obtain ⟨n', h1', _⟩ := DataW.trod_int he (hx 1 (by decide))
      simp at h1 h1'
      exact ⟨n, n', by rw [h1, h1']⟩
end

end Go.Sy
namespace Go.Sy
instance drwDef : Drw := drwNo
end Go.Sy
