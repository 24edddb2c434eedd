/-
  Opening a tree that came in, and structs that hold one. No program is named here.
-/
import Derived.Test.YtpkjbchplkfmhaaDoorTopB
import Derived.Test.YtpkjbchplkfmhaaDoorTrA
set_option linter.unusedVariables false
namespace Go.Sy
open Go.ChangeShapes Go.WideShapes Go.ChangeAt Go.RowKit Go.Pu
section
variable {H : Type} {enc : TypeId × Value → H} {P : Program} {W : World}
/-- how a tree lies -/
structure TreeLay (P : Program) (t : TypeId) : Prop where
  lay : ∃ g0 g1 g2, P.underlying t = some (.struct #[g0, g1, g2]) ∧ (g0.offset = 0 ∧ g1.offset = 1 ∧ g2.offset = 2) ∧ P.underlying g0.type = some (.int .i64) ∧ P.underlying g1.type = some (.slice t) ∧ P.underlying g2.type = some (.int .i64) ∧
    (P.cellsOf t = 3 ∧ P.cellsOf g0.type = 1 ∧ P.cellsOf g1.type = 1 ∧ P.cellsOf g2.type = 1)
theorem trod_st3 {t : TypeId} {f0 f1 f2 : Field} {fuel : Nat} {cs : List Value} {x : DataW H × List MemPlace} (ht : P.underlying t = some (.struct #[f0, f1, f2])) (h : DataW.trod enc P W 0 (fun _ => true) true fuel t cs = some x) :
    ∃ y0 y1 y2 n, fuel = n + 1 ∧ cs.length = P.cellsOf t ∧ DataW.trod enc P W 0 (fun _ => true) true n f0.type ((cs.drop f0.offset).take (P.cellsOf f0.type)) = some y0 ∧
      DataW.trod enc P W 0 (fun _ => true) true n f1.type ((cs.drop f1.offset).take (P.cellsOf f1.type)) = some y1 ∧ DataW.trod enc P W 0 (fun _ => true) true n f2.type ((cs.drop f2.offset).take (P.cellsOf f2.type)) = some y2 := by
  obtain ⟨xs, n, e, _, hl, hlen, hf⟩ := DataW.trod_struct ht h
  match xs, hlen with
  | [y0, y1, y2], _ => exact ⟨y0, y1, y2, n, e, hl, by simpa using hf 0 f0 rfl, by simpa using hf 1 f1 rfl, by simpa using hf 2 f2 rfl⟩
theorem open_tree {t : TypeId} (L : TreeLay P t) : ∀ (fuel : Nat) {cs : List Value} {y : DataW H × List MemPlace}, DataW.trod enc P W 0 (fun _ => true) true fuel t cs = some y →
    ∃ x : Tr, x.In ∧ ∀ q, q < 3 → ∃ u, cs[q]? = some u ∧ RepV (oldO W) W (x.cell q) u := by
  intro fuel
  induction fuel using Nat.strongRecOn with
  | ind fuel ih =>
  intro cs y hf
  obtain ⟨g0, g1, g2, ht, ⟨o0, o1, o2⟩, h0, h1, h2, ⟨c, c0, c1, c2⟩⟩ := L.lay
  obtain ⟨y0, y1, y2, n, hfu, hl, t0, t1, t2⟩ := trod_st3 ht hf
  rw [o0, c0] at t0
  rw [o1, c1] at t1
  rw [o2, c2] at t2
  obtain ⟨a, ha, _, wa⟩ := DataW.trod_int h0 t0
  obtain ⟨b, hb, _, wb⟩ := DataW.trod_int h2 t2
  have hkids : ∃ (u : Value) (m : Nat) (g : Nat → Tr), (cs.drop 1).take 1 = [u] ∧ RepV (oldO W) W (.sl m 3 fun e q => (g e).cell q) u ∧ ∀ i, i < m → (g i).In := by
    rcases DataW.trod_slice h1 t1 with ⟨e, _⟩ | ⟨ad, len, cap, elems, rest, m, hm1, e, _, _, hlc, hm, hlen, hel, _, _⟩
    · exact ⟨_, 0, fun _ => .no, e, ⟨none, 0, rfl, Nat.le_refl _, Nat.zero_le _, .inl rfl⟩, fun i hi => by omega⟩
    · have each : ∀ i, i < len → ∃ x : Tr, x.In ∧ ∀ q, q < 3 → ∃ u, W.cell? (ad.add (i * 3 + q)) = some u ∧ RepV (oldO W) W (x.cell q) u := fun i hi => by
        have h3 := hel i hi
        rw [List.getElem?_eq_getElem (by omega), Option.bind_eq_some_iff] at h3
        obtain ⟨c', hc', hy'⟩ := h3
        obtain ⟨x, hx, hq⟩ := ih m (by omega) hy'
        obtain ⟨_, hcl, hcc⟩ := World.cells?_some hc'
        refine ⟨x, hx, fun q hq3 => ?_⟩
        obtain ⟨u, hu, hr⟩ := hq q hq3
        refine ⟨u, ?_, hr⟩
        have h4 := hcc q (by omega)
        rw [hu] at h4
        have h5 : (ad.add (i * P.cellsOf t)).add q = ad.add (i * 3 + q) := by
          rw [c]
          unfold Addr.add
          split <;> split <;> simp_all <;> omega
        rw [h5] at h4
        exact h4
      have hch : ∃ g : Nat → Tr, ∀ i, i < len → (g i).In ∧ ∀ q, q < 3 → ∃ u, W.cell? (ad.add (i * 3 + q)) = some u ∧ RepV (oldO W) W ((g i).cell q) u :=
        ⟨fun i => if h : i < len then Classical.choose (each i h) else .no, fun i hi => by
          simp only [hi, dif_pos]
          exact Classical.choose_spec (each i hi)⟩
      obtain ⟨g, hg⟩ := hch
      refine ⟨_, len, g, e, ⟨some ad, cap, rfl, hlc, hm, ?_⟩, fun i hi => (hg i hi).1⟩
      rcases Nat.eq_zero_or_pos len with h00 | hpos
      · exact .inl h00
      · right
        obtain ⟨u0, hu0, _⟩ := (hg 0 hpos).2 0 (by decide)
        have e0 : ad.add (0 * 3 + 0) = ad := by unfold Addr.add; split <;> simp_all
        rw [e0] at hu0
        obtain ⟨hx, hb'⟩ := addr_eta hu0
        refine ⟨ad.block, ad.off, by rw [hx], by simp [oldO, hb'], fun e q he hq => ?_⟩
        obtain ⟨u, hu, hr⟩ := (hg e he).2 q hq
        rw [hx, addr_add] at hu
        exact ⟨u, hu, hr⟩
  obtain ⟨u, m, g, hu, hr, hin⟩ := hkids
  refine ⟨Tr.of a b m g, (Tr.in_iff _).2 ⟨bounds_i64 wa, bounds_i64 wb, fun i hi => by rw [Tr.k_of (show i < m from hi)]; exact hin i hi⟩, fun q hq => ?_⟩
  match q, hq with
  | 0, _ => exact ⟨_, cell_at ha, rfl, rfl⟩
  | 1, _ => exact ⟨_, cell_at hu, RepV.conv Tr.of_ks hr⟩
  | 2, _ => exact ⟨_, cell_at hb, rfl, rfl⟩
theorem cells_st {t : TypeId} {fs : Array Field} {v : Value} (ht : P.underlying t = some (.struct fs)) (hval : Value.okWide P W .any 0 t v) : ∃ cs, v = .agg cs ∧ cs.size = P.cellsOf t := by
  unfold Value.okWide at hval
  rw [ht] at hval
  obtain ⟨cs, h1, h2, _⟩ := hval
  exact ⟨cs, h1, h2⟩
theorem op_tree {t : TypeId} {v : Value} {d : DataW H} {ps : List MemPlace} (L : TreeLay P t) (hval : Value.okWide P W .any 0 t v) (hd : DataW.Trod enc P W 0 (fun _ => true) true t v d ps) :
    ∃ x : Tr, x.In ∧ EvOk (oldO W) (fun _ => undef) W (trV x) v := by
  obtain ⟨g0, g1, g2, ht, _, _, _, _, ⟨c, _⟩⟩ := L.lay
  obtain ⟨cs, rfl, hsz⟩ := cells_st ht hval
  obtain ⟨fuel, hf⟩ := hd
  obtain ⟨x, hin, hx⟩ := open_tree L fuel hf
  simp only [Value.cells, Array.getElem?_toList] at hx
  refine ⟨x, hin, cs, rfl, hsz.trans c, fun q y hq => ?_⟩
  match q, hq with
  | 0, hq => simp [trC] at hq; subst hq; exact hx 0 (by decide)
  | 1, hq => simp [trC] at hq; subst hq; exact hx 1 (by decide)
  | 2, hq => simp [trC] at hq; subst hq; exact hx 2 (by decide)
  | q + 3, hq => simp [trC] at hq
/-- a struct of three ints -/
theorem op_ints3 {t : TypeId} {f0 f1 f2 : Field} {v : Value} {d : DataW H} {ps : List MemPlace} (ht : P.underlying t = some (.struct #[f0, f1, f2])) (ho : f0.offset = 0 ∧ f1.offset = 1 ∧ f2.offset = 2)
    (h0 : P.underlying f0.type = some (.int .i64)) (h1 : P.underlying f1.type = some (.int .i64)) (h2 : P.underlying f2.type = some (.int .i64)) (hc : P.cellsOf t = 3 ∧ P.cellsOf f0.type = 1 ∧ P.cellsOf f1.type = 1 ∧ P.cellsOf f2.type = 1)
    (hval : Value.okWide P W .any 0 t v) (hd : DataW.Trod enc P W 0 (fun _ => true) true t v d ps) :
    ∃ a b c : Int, (inK .i64 a ∧ inK .i64 b ∧ inK .i64 c) ∧ EvOk (oldO W) (fun _ => undef) W (.ag [.lit (.int .i64 a), .lit (.int .i64 b), .lit (.int .i64 c)]) v := by
  obtain ⟨cs, rfl, hsz⟩ := cells_st ht hval
  obtain ⟨fuel, hf⟩ := hd
  obtain ⟨y0, y1, y2, n, hfu, hl, t0, t1, t2⟩ := trod_st3 ht hf
  obtain ⟨o0, o1, o2⟩ := ho
  obtain ⟨c, c0, c1, c2⟩ := hc
  simp only [Value.cells] at t0 t1 t2
  rw [o0, c0] at t0
  rw [o1, c1] at t1
  rw [o2, c2] at t2
  obtain ⟨a, ha, _, wa⟩ := DataW.trod_int h0 t0
  obtain ⟨b, hb, _, wb⟩ := DataW.trod_int h1 t1
  obtain ⟨b', hb', _, wb'⟩ := DataW.trod_int h2 t2
  have g0' := cell_at ha
  have g1' := cell_at hb
  have g2' := cell_at hb'
  rw [Array.getElem?_toList] at g0' g1' g2'
  refine ⟨a, b, b', ⟨bounds_i64 wa, bounds_i64 wb, bounds_i64 wb'⟩, cs, rfl, hsz.trans c, fun q y hq => ?_⟩
  match q, hq with
  | 0, hq => simp at hq; subst hq; exact ⟨_, g0', rfl, rfl⟩
  | 1, hq => simp at hq; subst hq; exact ⟨_, g1', rfl, rfl⟩
  | 2, hq => simp at hq; subst hq; exact ⟨_, g2', rfl, rfl⟩
  | q + 3, hq => simp at hq
end
end Go.Sy
