/-
  SORTING ROWS OF STRUCTS, out of the shelf's contract. No program is named here.
-/
import Derived.Test.YtpjhpcclbenfbaaSyZ
set_option linter.unusedVariables false
set_option linter.unusedSimpArgs false
namespace Go.Sy
open Go.Sort Go.Lib Go.Shelf Go.Proofs

section
variable {α : Type} [Inhabited α] {enc : α → List Value} {k : Nat} {cenc : α → Nat → CV} {d0 : α}
theorem own_putK (hk : ∀ x, (enc x).length = k) (h1 : ∀ x, ∀ v ∈ enc x, v.oneCell' = true) (henc : ∀ x q, q < k → cenc x q = .lit ((enc x)[q]!))
    {o : Nat → Tag} {h : Nat → Value} {w w' : World} {i b n cap E m : Nat} {x : CV} {D : Array α} {os : Array Obj}
    (hr : ResOk o h w i (.own E x)) (hx : ∃ f, x = .sl n k f) (hb : h i = .slice (some ⟨b, 0, none⟩) n cap) (hw : w' = sortWorldK enc k w b 0 m D os) (hn : D.size = n) :
    ResOk o h w' i (.own E (rows k cenc d0 D.toList)) ∧ Ext o w o w' := by
  obtain ⟨f, rfl⟩ := hx
  subst hn
  obtain ⟨vs, hown, htag, hv⟩ := hr
  have ht : o b = .hd i := htag b (by rw [hb]; rfl)
  rcases hown.2 with ⟨h1', _⟩ | ⟨g, cap', cur, h1', g0, h2, h3, h4, h5, h6⟩
  · rw [hb] at h1'; cases h1'
  · rw [hb] at h1'
    simp only [Value.slice.injEq, Option.some.injEq, Addr.mk.injEq, and_true] at h1'
    obtain ⟨rfl, _, rfl⟩ := h1'
    have hw2 : w' = sortWorld id w b 0 m (flatK enc k D) os := hw
    obtain ⟨g1, g2, g3⟩ := heap_sortWorld id w b m (flatK enc k D) os h2
    have hfs : (flatK enc k D).size = D.size * k := size_flatK enc k D
    have hle : D.size * k ≤ cap * k := Nat.mul_le_mul_right k h3
    obtain ⟨p1, p2⟩ := putCells_take id (flatK enc k D) cur (D.size * k) (by omega) (by omega)
    rw [← hw2] at g1 g2 g3
    have hft : (putCells id 0 (flatK enc k D) cur).toList.take (D.size * k) = (flatK enc k D).toList := by
      rw [p2, List.map_id, List.take_of_length_le (by simp [hfs])]
    refine ⟨⟨(flatK enc k D).toList, ⟨by simp [hfs], .inr ⟨b, cap, putCells id 0 (flatK enc k D) cur, hb, g0, g1, h3, h4, by rw [p1]; exact h5, hft⟩⟩, htag, fun e q he hq => ?_⟩, ⟨g3, by rw [hw2]; rfl, by rw [hw2]; rfl, by rw [hw2]; rfl, by rw [hw2]; exact Nat.le_add_right _ _, fun z hz hl => ⟨hz, ?_⟩, fun z hz hl => ⟨hz, ?_⟩⟩⟩
    · have he' : e < D.size := by simpa using he
      have hek : e * k + q < D.size * k := by
        have := Nat.mul_le_mul_right k (show e + 1 ≤ D.size from he')
        rw [Nat.add_mul, Nat.one_mul] at this; omega
      have hdiv : (e * k + q) / k = e := by rw [Nat.mul_comm, Nat.mul_add_div (by omega), Nat.div_eq_of_lt hq, Nat.add_zero]
      have hmod : (e * k + q) % k = q := by rw [Nat.mul_comm, Nat.mul_add_mod, Nat.mod_eq_of_lt hq]
      have hget := get_flatK enc k D (e * k + q) hek
      rw [hdiv, hmod] at hget
      have hD : D.toList.getD e d0 = D[e]! := by rw [List.getD_eq_getElem?_getD, Array.getElem?_toList, Array.getElem?_eq_getElem he', getElem!_pos D e he']; rfl
      refine ⟨(enc D[e]!)[q]!, ?_, ?_⟩
      · rw [← hget, Array.getElem?_toList, Array.getElem?_eq_getElem (by omega), getElem!_pos _ _ (by omega)]
      · show RepV o w' (cenc (D.toList.getD e d0) q) _
        rw [hD, henc _ _ hq]
        refine ⟨rfl, h1 D[e]! _ ?_⟩
        rw [getElem!_pos (enc D[e]!) q (by rw [hk]; exact hq)]
        exact List.getElem_mem _
    · exact g2 z (by rintro rfl; rw [ht] at hz; cases hz) hl
    · exact g2 z (by rintro rfl; rw [ht] at hz; cases hz) hl

theorem rows_cells (hk : ∀ x, (enc x).length = k) (henc : ∀ x q, q < k → cenc x q = .lit ((enc x)[q]!))
    {o : Nat → Tag} {h : Nat → Value} {w : World} {i E b n cap : Nat} {D : Array α} {xs : List α} (hD : D.toList = xs) (hr : ResOk o h w i (.own E (rows k cenc d0 xs))) (hb : h i = .slice (some ⟨b, 0, none⟩) n cap) :
    n = D.size ∧ b < w.heap.size ∧ HoldsK enc k w b 0 D := by
  obtain ⟨vs, hown, htag, hv⟩ := hr
  have hlen : xs.length = D.size := by rw [← hD]; simp
  rcases hown.2 with ⟨h1, _⟩ | ⟨g, cap', cur, h1, g0, h2, h3, h4, h5, h6⟩
  · rw [hb] at h1; cases h1
  · rw [hb] at h1
    simp only [Value.slice.injEq, Option.some.injEq, Addr.mk.injEq, and_true] at h1
    obtain ⟨rfl, hnn, rfl⟩ := h1
    refine ⟨by omega, ?_, fun j hj => ?_⟩
    · rcases Nat.lt_or_ge b w.heap.size with h | h
      · exact h
      · simp [Array.getElem?_eq_none h] at h2
    · rw [size_flatK] at hj
      have k0 : 0 < k := by rcases Nat.eq_zero_or_pos k with h | h; · subst h; simp at hj
                            · exact h
      have he : j / k < D.size := Nat.div_lt_of_lt_mul (by rw [Nat.mul_comm]; exact hj)
      have hq : j % k < k := Nat.mod_lt _ k0
      obtain ⟨u, hu, hrep⟩ := hv (j / k) (j % k) (by omega) hq
      have hjj : j / k * k + j % k = j := by rw [Nat.mul_comm]; exact Nat.div_add_mod j k
      rw [hjj] at hu
      have hcell := hown.cells (g := b) (by rw [hb]; rfl) _ _ hu
      rw [addr_add] at hcell
      refine ⟨?_, by simp [World.frozen?, h2]⟩
      rw [hcell, get_flatK enc k D j hj]
      have hg : xs.getD (j / k) d0 = D[j / k]! := by rw [← hD, List.getD_eq_getElem?_getD, Array.getElem?_toList, Array.getElem?_eq_getElem he, getElem!_pos D _ he]; rfl
      replace hrep : RepV o w (cenc (xs.getD (j / k) d0) (j % k)) u := hrep
      rw [hg, henc _ _ hq] at hrep
      rw [hrep.1]; rfl
end

section
variable {P : Program} {ρ : Ren}
/-- in whatever memory, of which it need know nothing: what a comparison of structs does, in the sort's own words -/
theorem cmp_laysK {α : Type} [Inhabited α] {enc : α → List Value} {k : Nat} (h1 : ∀ x, ∀ v ∈ enc x, v.oneCell' = true) {g : Nat} {cf : α → α → Int}
    (D : ∀ x y, DoesF P g [.ag ((enc x).map .lit), .ag ((enc y).map .lit)] [] (sI (cf x y)) []) (blk off size : Nat) (w : World) : CmpLays P g #[] enc k cf blk off size w := by
  intro m os dk _ x y
  generalize sortWorldK enc k w blk off m dk os = W
  have hag : ∀ x : α, EvOk (fun _ => .no) (fun _ => undef) W (.ag ((enc x).map .lit)) (.agg (enc x).toArray) := fun x => by
    refine ⟨_, rfl, by simp, fun q z hq => ?_⟩
    simp only [List.getElem?_map, Option.map_eq_some_iff] at hq
    obtain ⟨v, hv, rfl⟩ := hq
    exact ⟨v, by simpa using hv, rfl, h1 x v (List.mem_of_getElem? hv)⟩
  have he : (#[Value.agg (enc x).toArray, Value.agg (enc y).toArray] ++ (#[] : Array Value)) = #[Value.agg (enc x).toArray, Value.agg (enc y).toArray] := by simp
  rw [he]
  refine Calls.mono (D x y (fun _ => .no) (fun _ => undef) #[.agg (enc x).toArray, .agg (enc y).toArray] W ⟨rfl, fun b => ⟨fun i h => (by cases h), fun h => (by cases h)⟩, fun s z hl => ?_, fun i r hl => by simp [lk] at hl⟩) ?_
  · simp only [idx, lk_cons] at hl
    split at hl
    · rename_i e; subst e; cases hl; exact hag x
    · split at hl
      · rename_i e; subst e; cases hl; exact hag y
      · simp [lk] at hl
  · rintro e w' ⟨u, o', h', rfl, hs, hx⟩
    have hu : RepV o' w' (.lit (.int .i64 (cf x y))) u := hs.slot 0 (sI _) (by rw [lk_cons, if_pos rfl])
    refine ⟨by rw [hu.1], w'.drawn - W.drawn, w'.heap.extract W.heap.size w'.heap.size, ?_⟩
    have hheap : w'.heap = W.heap ++ w'.heap.extract W.heap.size w'.heap.size := by
      refine Array.ext_getElem? fun k => ?_
      rw [Array.getElem?_append]
      split
      · rename_i hk; exact (hx.no k rfl hk).2
      · rename_i hk
        rw [Array.getElem?_extract]
        split
        · congr 1; omega
        · rw [Array.getElem?_eq_none]; simp at *; omega
    have hdr := hx.drawn
    have ht := hx.tape
    have ho := hx.os
    have hou := hx.output
    obtain ⟨he, ta, dr, os1, ou⟩ := w'
    obtain ⟨he2, ta2, dr2, os2, ou2⟩ := W
    simp only [grow, World.drewN] at *
    subst ht; subst ho; subst hou
    rw [← hheap, show dr2 + (dr - dr2) = dr by omega]

theorem sortFuncK_does {α : Type} {enc : α → List Value} {k : Nat} {cenc : α → Nat → CV} {d0 : α} (hk : ∀ x, (enc x).length = k) (h1 : ∀ x, ∀ v ∈ enc x, v.oneCell' = true) (henc : ∀ x q, q < k → cenc x q = .lit ((enc x)[q]!))
    (L : SlLaysF0.n6 P ρ) {F : Nat} (hF : ρ.f 6 = F) (aE : ∀ w, (isAgg (ρ.t 24)).run P w = .ok true w) (zE : ∀ w, (Go.sizeOf (ρ.t 24)).run P w = .ok k w) {V : α → Prop} {cf : α → α → Int} {g : Nat} {ks : Nat → Nat} {caps : Nat → Nat → CV} (hO : SWO (ltOf cf))
    (hT : ∀ x y, V x → V y → cf x y = 0 → x = y) (hA : ∀ x y, cf x y = 0 ∨ cf x y < 0 ∨ cf y x < 0) (eg : ∀ args w, (callFunc g args).run P w = .ok (.enter g args) w)
    (D : ∀ x y, V x → V y → DoesF P g [.ag ((enc x).map .lit), .ag ((enc y).map .lit)] [] (sI (cf x y)) [])
    (E : Nat) (xs : List α) (hV : ∀ x ∈ xs, V x) (hlen : xs.length < 4611686018427387904) :
    DoesK P F [.r 0, .c (.clo g 0 ks caps)] [(0, .own E (rows k cenc d0 xs))] (.tup []) [(0, .own E (rows k cenc d0 (xs.mergeSort fun x y => !decide (cf y x < 0))))] [0] := by
  intro o h args w hs
  have h0 : args.getD 0 undef = h 0 := hs.slot 0 (.e (.r 0)) rfl
  have hf1 : args.getD 1 undef = .func (.func g) #[] #[] := by
    obtain ⟨bs, hv, _⟩ := hs.slot 1 (.e (.c (.clo g 0 ks caps))) rfl
    exact hv
  have hr := hs.res 0 _ rfl
  have hargs := args2 (by exact hs.size) h0 hf1
  subst hargs
  have fin0 : ∀ {e w'}, e = Ending.returned (.tuple #[]) ∧ w' = w → xs = [] → ∃ v o' h', e = .returned v ∧ Sat o' h' ⟨1, [(0, .tup [])], [(0, .own E (rows k cenc d0 (xs.mergeSort fun x y => !decide (cf y x < 0))))]⟩ #[v] w' ∧ Ext o w o' w' ∧ ∀ j ∈ [0], h' j = h j := by
    rintro e w' ⟨rfl, rfl⟩ rfl
    refine ⟨_, o, h, rfl, ⟨rfl, hs.tags, fun s x hl => ?_, fun i r hl => ?_⟩, Ext.refl _ _, fun _ _ => rfl⟩
    · rw [lk_cons] at hl
      split at hl
      · rename_i e; subst e; cases hl; exact ⟨#[], rfl, rfl, by simp⟩
      · simp [lk] at hl
    · rw [lk_cons] at hl
      split at hl
      · rename_i e; subst e; cases hl; simpa using hr
      · simp [lk] at hl
  have hr2 := hr
  obtain ⟨vs, hown, htag, hv⟩ := hr2
  rcases hown.2 with ⟨g1, g2⟩ | ⟨b, cap, cur, g1, _, g2, g3, g4, g5, g6⟩
  · rw [g1]
    have hnil : xs = [] := List.length_eq_zero_iff.1 g2
    rw [← hF]
    exact (AnyF.slices_SortFunc_none L none 0 _ w).mono fun _ _ hq => fin0 hq hnil
  · by_cases hnil : xs = []
    · subst hnil
      rw [g1, ← hF]
      exact (AnyF.slices_SortFunc_none L _ cap _ w).mono fun _ _ hq => fin0 hq rfl
    · obtain ⟨x0, hx0⟩ := List.exists_mem_of_ne_nil xs hnil
      haveI : Inhabited {x // V x} := ⟨⟨x0, hV x0 hx0⟩⟩
      haveI : Inhabited α := ⟨x0⟩
      let ds : List {x // V x} := xs.attach.map fun x => ⟨x.1, hV x.1 x.2⟩
      have hds : ds.map (fun x => x.1) = xs := by simp [ds]
      have hdl : ds.length = xs.length := by simp [ds]
      let enc' : {x // V x} → List Value := fun x => enc x.1
      let cenc' : {x // V x} → Nat → CV := fun x => cenc x.1
      have hk' : ∀ x, (enc' x).length = k := fun x => hk x.1
      have h1' : ∀ x, ∀ v ∈ enc' x, v.oneCell' = true := fun x => h1 x.1
      have henc' : ∀ x q, q < k → cenc' x q = .lit ((enc' x)[q]!) := fun x => henc x.1
      have hrow : ∀ l : List {x // V x}, ∀ e q, e < l.length → CVEq (cenc' (l.getD e ⟨x0, hV x0 hx0⟩) q) (cenc ((l.map fun x => x.1).getD e d0) q) := fun l e q he => by
        have e1 : (l.map fun x => x.1).getD e d0 = (l.getD e ⟨x0, hV x0 hx0⟩).1 := by simp [List.getD_eq_getElem?_getD, he]
        rw [e1]; exact CVEq.refl _
      have hrow' : ∀ l : List {x // V x}, ∀ e q, e < l.length → CVEq (cenc ((l.map fun x => x.1).getD e d0) q) (cenc' (l.getD e ⟨x0, hV x0 hx0⟩) q) := fun l e q he => by
        have e1 : (l.map fun x => x.1).getD e d0 = (l.getD e ⟨x0, hV x0 hx0⟩).1 := by simp [List.getD_eq_getElem?_getD, he]
        rw [e1]; exact CVEq.refl _
      have hr' : ResOk o h w 0 (.own E (rows k cenc' ⟨x0, hV x0 hx0⟩ ds)) := by
        obtain ⟨vs, hown, htag, hv⟩ := hr
        refine ⟨vs, ?_, htag, fun e q he hq => ?_⟩
        · rw [hdl]; exact hown
        · obtain ⟨u, hu, hrep⟩ := hv e q (by omega) hq
          refine ⟨u, hu, RepV.conv ?_ hrep⟩
          have := hrow' ds e q he
          rw [hds] at this
          exact this
      obtain ⟨hn, hblt, hH⟩ := rows_cells (enc := enc') (cenc := cenc') hk' henc' (D := ds.toArray) (by simp) hr' g1
      have hsw : SWO (ltOf fun x y : {x // V x} => cf x.1 y.1) := ⟨fun x => hO.irrefl x.1, fun x y z => hO.trans x.1 y.1 z.1, fun x y z => hO.ntrans x.1 y.1 z.1⟩
      have hcon := AnyQ.slices_SortFunc_total L k aE zE enc' hk' h1' (fun x y => cf x.1 y.1) hsw g #[] b 0 cap ds.toArray w eg (cmp_laysK h1' (fun x y => D x.1 y.1 x.2 y.2) b 0 _ w) hH hblt (by simpa [hdl] using hlen)
        (fun x y a c => by
          have a' : ¬ cf x.1 y.1 < 0 := by simpa [ltOf] using a
          have c' : ¬ cf y.1 x.1 < 0 := by simpa [ltOf] using c
          rcases hA x.1 y.1 with e | e | e
          · exact Subtype.ext (hT _ _ x.2 y.2 e)
          · exact absurd e a'
          · exact absurd e c')
      have hsz : ds.toArray.size = xs.length := by simp [hdl]
      rw [hF, hsz] at hcon
      rw [g1]
      refine hcon.mono ?_
      rintro e w' ⟨rfl, m, os, hw⟩
      have hmap : ((ds.mergeSort fun x y => !(ltOf (fun x y : {x // V x} => cf x.1 y.1)) y x).map fun x => x.1) = xs.mergeSort fun x y => !decide (cf y x < 0) := by
        rw [← hds, List.map_mergeSort (s := fun x y => !decide (cf y x < 0))]
        intro a _ c _
        rfl
      have hput := own_putK (enc := enc') (cenc := cenc') (d0 := ⟨x0, hV x0 hx0⟩) hk' h1' henc' hr' ⟨_, rfl⟩ (by rw [hdl]; exact g1) hw (by simp)
      have hres : ResOk o h w' 0 (.own E (rows k cenc d0 (xs.mergeSort fun x y => !decide (cf y x < 0)))) := by
        obtain ⟨vs, hown, htag, hv⟩ := hput.1
        refine ⟨vs, ?_, htag, fun e q he hq => ?_⟩
        · have e3 : (xs.mergeSort fun x y => !decide (cf y x < 0)).length = (ds.mergeSort fun x y => !(ltOf (fun x y : {x // V x} => cf x.1 y.1)) y x).length := by rw [← hmap]; simp
          rw [e3]
          simpa using hown
        · rw [← hmap] at he ⊢
          have he' : e < (ds.mergeSort fun x y => !(ltOf (fun x y : {x // V x} => cf x.1 y.1)) y x).length := by simpa using he
          obtain ⟨u, hu, hrep⟩ := hv e q (by simpa using he') hq
          refine ⟨u, hu, RepV.conv ?_ hrep⟩
          exact hrow _ e q he'
      refine ⟨_, o, h, rfl, ⟨rfl, fun k => ⟨fun i hk => Nat.lt_of_lt_of_le ((hs.tags k).1 i hk) hput.2.size, fun hk => Nat.lt_of_lt_of_le ((hs.tags k).2 hk) hput.2.size⟩, fun s x hl => ?_, fun i r hl => ?_⟩, hput.2, fun _ _ => rfl⟩
      · rw [lk_cons] at hl
        split at hl
        · rename_i e; subst e; cases hl; exact ⟨#[], rfl, rfl, by simp⟩
        · simp [lk] at hl
      · rw [lk_cons] at hl
        split at hl
        · rename_i e; subst e; cases hl; exact hres
        · simp [lk] at hl
end
end Go.Sy
