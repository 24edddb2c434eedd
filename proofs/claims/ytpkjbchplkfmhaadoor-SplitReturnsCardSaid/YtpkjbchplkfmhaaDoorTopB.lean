/-
  Opening a formula that came in. No program is named here.
-/
import Derived.Test.YtpkjbchplkfmhaaDoorTopA
import Derived.Test.YtpkjbchplkfmhaaDoorPuN
import Derived.Deep.Strs
set_option linter.unusedVariables false
namespace Go.Sy
open Go.ChangeShapes Go.WideShapes Go.ChangeAt Go.RowKit Go.Pu
section
variable {H : Type} {enc : TypeId × Value → H} {P : Program} {W : World}

theorem open_row {t e : TypeId} {fuel : Nat} {cs : List Value} {x : DataW H × List MemPlace} (ht : P.underlying t = some (.slice e)) (he : P.underlying e = some (.int .i64)) (hc : P.cellsOf e = 1) (hf : DataW.trod enc P W 0 (fun _ => true) true fuel t cs = some x) :
    ∃ (v : Value) (xs : List Int), cs = [v] ∧ RepV (oldO W) W (ints xs) v ∧ ∀ x ∈ xs, inK .i64 x := by
  rcases open_ints ht he hc hf with ⟨rfl, _⟩ | ⟨x, l, c, zs, rfl, _, hl, hm, hz, _, hcell, hwz⟩
  · exact ⟨_, [], rfl, rep_ints (zs := []) (.inl rfl) (Nat.le_refl _) (Nat.zero_le _) rfl, by simp⟩
  · simp only [if_true] at hz
    exact ⟨_, zs.take l, rfl, rep_ints (.inr ⟨x, rfl, by omega, hcell⟩) hl hm (by simp; omega), fun y hy => bounds_i64 (hwz y (List.mem_of_mem_take hy))⟩
theorem cell_at {cs : List Value} {o : Nat} {v : Value} (h : (cs.drop o).take 1 = [v]) : cs[o]? = some v := by
  have e := congrArg (fun l : List Value => l[0]?) h
  simpa [List.getElem?_take, List.getElem?_drop] using e
/-- how a node lies -/
structure NodeLay (P : Program) (tn : TypeId) : Prop where
  lay : ∃ f0 f1 f2 e, P.underlying tn = some (.struct #[f0, f1, f2]) ∧ (f0.offset = 0 ∧ f1.offset = 1 ∧ f2.offset = 2) ∧ P.underlying f0.type = some (.int .i64) ∧ P.underlying f1.type = some (.int .i64) ∧ P.underlying f2.type = some (.slice e) ∧ P.underlying e = some (.int .i64) ∧
    (P.cellsOf tn = 3 ∧ P.cellsOf f0.type = 1 ∧ P.cellsOf f1.type = 1 ∧ P.cellsOf f2.type = 1 ∧ P.cellsOf e = 1)
structure FormLay (P : Program) (t : TypeId) : Prop where
  lay : ∃ g0 g1 g2 tn, P.underlying t = some (.struct #[g0, g1, g2]) ∧ (g0.offset = 0 ∧ g1.offset = 1 ∧ g2.offset = 2) ∧ P.underlying g0.type = some (.int .i64) ∧ P.underlying g1.type = some (.slice tn) ∧ P.underlying g2.type = some (.int .i64) ∧
    (P.cellsOf t = 3 ∧ P.cellsOf g0.type = 1 ∧ P.cellsOf g1.type = 1 ∧ P.cellsOf g2.type = 1) ∧ NodeLay P tn
theorem open_node {tn : TypeId} (L : NodeLay P tn) {fuel : Nat} {cs : List Value} {y : DataW H × List MemPlace} (h : DataW.trod enc P W 0 (fun _ => true) true fuel tn cs = some y) :
    ∃ x : NodeP, NodeIn x ∧ ∀ q, q < 3 → ∃ u, cs[q]? = some u ∧ RepV (oldO W) W (nodeC x q) u := by
  obtain ⟨f0, f1, f2, e, hn, ⟨o0, o1, o2⟩, h0, h1, h2, he, c, c0, c1, c2, ce⟩ := L.lay
  obtain ⟨y0, y1, y2, n, _, hl, t0, t1, t2⟩ := Go.Deep.trod_struct3 hn h
  rw [o0, c0] at t0
  rw [o1, c1] at t1
  rw [o2, c2] at t2
  obtain ⟨a, ha, _, wa⟩ := DataW.trod_int h0 t0
  obtain ⟨b, hb, _, wb⟩ := DataW.trod_int h1 t1
  obtain ⟨v, xs, hv, hr, hin⟩ := open_row h2 he ce t2
  refine ⟨⟨a, b, xs⟩, ⟨bounds_i64 wa, bounds_i64 wb, hin⟩, fun q hq => ?_⟩
  match q, hq with
  | 0, _ => exact ⟨_, cell_at ha, rfl, rfl⟩
  | 1, _ => exact ⟨_, cell_at hb, rfl, rfl⟩
  | 2, _ => exact ⟨_, cell_at hv, hr⟩
theorem op_form {t : TypeId} {v : Value} {d : DataW H} {ps : List MemPlace} (L : FormLay P t) (hval : Value.okWide P W .any 0 t v) (hd : DataW.Trod enc P W 0 (fun _ => true) true t v d ps) :
    ∃ f : FormP, FormIn f ∧ EvOk (oldO W) (fun _ => undef) W (.ag (formC f)) v := by
  obtain ⟨g0, g1, g2, tn, ht, ⟨o0, o1, o2⟩, h0, h1, h2, ⟨c, c0, c1, c2⟩, LN⟩ := L.lay
  have hv : ∃ cs, v = .agg cs ∧ cs.size = P.cellsOf t ∧ Row.okWide P W .any 0 t cs := by
    unfold Value.okWide at hval
    rw [ht] at hval
    exact hval
  obtain ⟨cs, rfl, hsz, _⟩ := hv
  obtain ⟨fuel, hf⟩ := hd
  obtain ⟨y0, y1, y2, n, _, hl, t0, t1, t2⟩ := Go.Deep.trod_struct3 ht hf
  simp only [Value.cells] at t0 t1 t2
  rw [o0, c0] at t0
  rw [o1, c1] at t1
  rw [o2, c2] at t2
  obtain ⟨a, ha, _, wa⟩ := DataW.trod_int h0 t0
  obtain ⟨b, hb, _, wb⟩ := DataW.trod_int h2 t2
  have hnodes : ∃ (u : Value) (ns : List NodeP), (cs.toList.drop 1).take 1 = [u] ∧ RepV (oldO W) W (nodesC ns) u ∧ ∀ x ∈ ns, NodeIn x := by
    obtain ⟨_, _, _, _, _, _, _, _, _, _, c3, _⟩ := LN.lay
    rcases DataW.trod_slice h1 t1 with ⟨e, _⟩ | ⟨ad, len, cap, elems, rest, m, _, e, _, _, hlc, hm, hlen, hel, _, _⟩
    · exact ⟨_, [], e, ⟨none, 0, rfl, Nat.le_refl _, Nat.zero_le _, .inl rfl⟩, by simp⟩
    · have each : ∀ i, i < len → ∃ x : NodeP, NodeIn x ∧ ∀ q, q < 3 → ∃ u, W.cell? (ad.add (i * 3 + q)) = some u ∧ RepV (oldO W) W (nodeC x q) u := fun i hi => by
        have h3 := hel i hi
        rw [List.getElem?_eq_getElem (by omega), Option.bind_eq_some_iff] at h3
        obtain ⟨c', hc', hy'⟩ := h3
        obtain ⟨x, hx, hq⟩ := open_node LN hy'
        obtain ⟨_, hcl, hcc⟩ := World.cells?_some hc'
        refine ⟨x, hx, fun q hq3 => ?_⟩
        obtain ⟨u, hu, hr⟩ := hq q hq3
        refine ⟨u, ?_, hr⟩
        have h4 := hcc q (by omega)
        rw [hu] at h4
        have h5 : (ad.add (i * P.cellsOf tn)).add q = ad.add (i * 3 + q) := by
          rw [c3]
          unfold Addr.add
          split <;> split <;> simp_all <;> omega
        rw [h5] at h4
        exact h4
      have hch : ∃ g : Nat → NodeP, ∀ i, i < len → NodeIn (g i) ∧ ∀ q, q < 3 → ∃ u, W.cell? (ad.add (i * 3 + q)) = some u ∧ RepV (oldO W) W (nodeC (g i) q) u :=
        ⟨fun i => if h : i < len then Classical.choose (each i h) else node0, fun i hi => by
          simp only [hi, dif_pos]
          exact Classical.choose_spec (each i hi)⟩
      obtain ⟨g, hg⟩ := hch
      refine ⟨_, (List.range len).map g, e, ?_, fun x hx => ?_⟩
      · refine ⟨some ad, cap, by simp, by simpa using hlc, hm, ?_⟩
        rcases Nat.eq_zero_or_pos len with h00 | hpos
        · left; simpa using h00
        · right
          obtain ⟨u0, hu0, _⟩ := (hg 0 hpos).2 0 (by decide)
          have e0 : ad.add (0 * 3 + 0) = ad := by unfold Addr.add; split <;> simp_all
          rw [e0] at hu0
          obtain ⟨hx, hb'⟩ := addr_eta hu0
          refine ⟨ad.block, ad.off, by rw [hx], by simp [oldO, hb'], fun e q he hq => ?_⟩
          have he' : e < len := by simpa using he
          obtain ⟨u, hu, hr⟩ := (hg e he').2 q hq
          rw [hx, addr_add] at hu
          refine ⟨u, hu, ?_⟩
          have e2 : ((List.range len).map g).getD e node0 = g e := by simp [List.getD_eq_getElem?_getD, he']
          show RepV (oldO W) W (nodeC (((List.range len).map g).getD e node0) q) u
          rw [e2]; exact hr
      · obtain ⟨i, hi, rfl⟩ := List.mem_map.1 hx
        exact (hg i (by simpa using hi)).1
  obtain ⟨u, ns, hu, hr, hin⟩ := hnodes
  refine ⟨⟨a, ns, b⟩, ⟨bounds_i64 wa, bounds_i64 wb, hin⟩, cs, rfl, hsz.trans c, fun q x hq => ?_⟩
  have g0' := cell_at ha
  have g1' := cell_at hu
  have g2' := cell_at hb
  rw [Array.getElem?_toList] at g0' g1' g2'
  match q, hq with
  | 0, hq => simp [formC] at hq; subst hq; exact ⟨_, g0', rfl, rfl⟩
  | 1, hq => simp [formC] at hq; subst hq; exact ⟨_, g1', hr⟩
  | 2, hq => simp [formC] at hq; subst hq; exact ⟨_, g2', rfl, rfl⟩
  | q + 3, hq => simp [formC] at hq
end
end Go.Sy
