/-
  THE LIBRARY'S FUNCTIONS ON SLICES OF INTEGERS, out of the shelf's contracts: sorting in place, and striking repetitions. No program is named here.
-/
import Derived.Test.YtpjhpcclbenfbaaSyQ
import Derived.Shelf.SlicesG.CompactI
import Derived.Shelf.SlSortCmp.NoneTotal
set_option linter.unusedVariables false
set_option linter.unusedSimpArgs false
namespace Go.Sy
open Go.Sort Go.Lib Go.Shelf Go.Proofs

theorem heap_sortWorld {α : Type} [Inhabited α] (enc : α → Value) (w : World) (b m : Nat) (D : Array α) (os : Array Obj) {cur : Array Value} {E : Nat} (hb : w.heap[b]? = some (.cells cur E (0, 0))) :
    (sortWorld enc w b 0 m D os).heap[b]? = some (.cells (putCells enc 0 D cur) E (0, 0)) ∧ (∀ k, k ≠ b → k < w.heap.size → (sortWorld enc w b 0 m D os).heap[k]? = w.heap[k]?) ∧
    w.heap.size ≤ (sortWorld enc w b 0 m D os).heap.size := by
  have hlt : b < w.heap.size := by
    rcases Nat.lt_or_ge b w.heap.size with h | h
    · exact h
    · simp [Array.getElem?_eq_none h] at hb
  have hs : (putRow enc (Sort.ahead w m) b 0 D).heap.size = w.heap.size := by simp [putRow, mapBlock, Sort.ahead]
  refine ⟨?_, fun k hk hkl => ?_, ?_⟩
  · unfold sortWorld
    rw [heap_grow_old _ _ (by rw [hs]; exact hlt)]
    simp only [putRow, mapBlock, Sort.ahead, Array.getElem?_modify, if_true, hb, Option.map_some, onCells]
  · unfold sortWorld
    rw [heap_grow_old _ _ (by rw [hs]; exact hkl)]
    simp only [putRow, mapBlock, Sort.ahead, Array.getElem?_modify, if_neg (Ne.symm hk)]
  · unfold sortWorld
    rw [size_grow, hs]; omega

theorem putCells_take {α : Type} [Inhabited α] (enc : α → Value) (D : Array α) (cur : Array Value) (n : Nat) (hn : n ≤ D.size) (hc : D.size ≤ cur.size) :
    (putCells enc 0 D cur).size = cur.size ∧ (putCells enc 0 D cur).toList.take n = (D.toList.map enc).take n := by
  refine ⟨by simp [putCells], ?_⟩
  refine List.ext_getElem? fun j => ?_
  by_cases hj : j < n
  · simp only [List.getElem?_take, if_pos hj, putCells, Array.getElem?_toList, Array.getElem?_mapIdx, List.getElem?_map]
    rw [Array.getElem?_eq_getElem (by omega : j < cur.size)]
    simp only [Option.map_some, Nat.zero_le, Nat.zero_add, true_and, Nat.sub_zero]
    rw [if_pos (by omega : j < D.size), Array.getElem?_eq_getElem (by omega : j < D.size), getElem!_pos D j (by omega)]
    rfl
  · simp [List.getElem?_take, hj]

/-- a row of the call's own whose cells have been written over, in memory that has grown: some of its first elements -/
theorem own_put {α : Type} [Inhabited α] {o : Nat → Tag} {h h' : Nat → Value} {w w' : World} {i b n n' cap E m : Nat} {x : CV} {ys : List Int} {D : Array α} {os : Array Obj} (enc : α → Value)
    (hr : ResOk o h w i (.own E x)) (hx : ∃ f, x = .sl n 1 f) (hb : h i = .slice (some ⟨b, 0, none⟩) n cap) (hw : w' = sortWorld enc w b 0 m D os) (hn : n' ≤ D.size) (hD : D.size ≤ cap)
    (hh : h' i = .slice (some ⟨b, 0, none⟩) n' cap) (hy : (D.toList.map enc).take n' = ys.map (Value.int .i64)) :
    ResOk o h' w' i (.own E (ints ys)) ∧ Ext o w o w' := by
  obtain ⟨f, rfl⟩ := hx
  subst hw
  obtain ⟨vs, hown, htag, hv⟩ := hr
  have ht : o b = .hd i := htag b (by rw [hb]; rfl)
  rcases hown.2 with ⟨h1, _⟩ | ⟨g, cap', cur, h1, _, h2, h3, h4, h5, h6⟩
  · rw [hb] at h1; cases h1
  · rw [hb] at h1
    simp only [Value.slice.injEq, Option.some.injEq, Addr.mk.injEq, and_true] at h1
    obtain ⟨rfl, _, rfl⟩ := h1
    obtain ⟨g1, g2, g3⟩ := heap_sortWorld enc w b m D os h2
    simp only [Nat.mul_one] at h5
    obtain ⟨p1, p2⟩ := putCells_take enc D cur n' hn (by omega)
    have hlen : ys.length = n' := by
      have := congrArg List.length hy
      simp only [List.length_take, List.length_map, Array.length_toList] at this
      omega
    refine ⟨⟨ys.map (Value.int .i64), ⟨by simp, .inr ⟨b, cap, putCells enc 0 D cur, by rw [hh, hlen], Nat.zero_le _, g1, by omega, h4, by rw [p1]; omega, ?_⟩⟩, fun b' hb' => ?_, fun e q he hq => ?_⟩, ⟨g3, rfl, rfl, rfl, ?_, fun k hk hl => ⟨hk, ?_⟩, fun k hk hl => ⟨hk, ?_⟩⟩⟩
    · rw [Nat.mul_one, hlen, p2, hy]
    · rw [hh] at hb'
      simp [Value.ownBlock] at hb'
      rw [← hb']; exact ht
    · have : q = 0 := by omega
      subst this
      refine ⟨.int .i64 (ys.getD e 0), ?_, rfl, rfl⟩
      simp [List.getElem?_map, List.getD_eq_getElem?_getD, he]
    · show w.drawn ≤ w.drawn + m
      omega
    · exact g2 k (by rintro rfl; rw [ht] at hk; cases hk) hl
    · exact g2 k (by rintro rfl; rw [ht] at hk; cases hk) hl

section
variable {P : Program} {ρ ρ0 : Ren}

theorem ints_cells {o : Nat → Tag} {h : Nat → Value} {w : World} {i E b n cap : Nat} {xs : List Int} (hr : ResOk o h w i (.own E (ints xs))) (hb : h i = .slice (some ⟨b, 0, none⟩) n cap) :
    n = xs.length ∧ n ≤ cap ∧ cap ≤ maxLen ∧ b < w.heap.size ∧ ∀ j, j < xs.length → w.cell? ⟨b, 0 + j, none⟩ = some (.int .i64 (xs.getD j 0)) ∧ w.frozen? ⟨b, 0 + j, none⟩ = false := by
  obtain ⟨vs, hown, htag, hv⟩ := hr
  rcases hown.2 with ⟨h1, _⟩ | ⟨g, cap', cur, h1, _, h2, h3, h4, h5, h6⟩
  · rw [hb] at h1; cases h1
  · rw [hb] at h1
    simp only [Value.slice.injEq, Option.some.injEq, Addr.mk.injEq, and_true] at h1
    obtain ⟨rfl, hnn, rfl⟩ := h1
    refine ⟨hnn, by omega, h4, ?_, fun j hj => ⟨?_, ?_⟩⟩
    · rcases Nat.lt_or_ge b w.heap.size with h | h
      · exact h
      · simp [Array.getElem?_eq_none h] at h2
    · obtain ⟨u, hu, rfl, _⟩ := hv j 0 hj (by omega)
      have := hown.cells (g := b) (by rw [hb]; rfl) _ _ hu
      rw [addr_add, Nat.mul_one, Nat.add_zero] at this
      simpa using this
    · simp [World.frozen?, h2]

theorem args2 {args : Array Value} {a b : Value} (hs : args.size = 2) (h0 : args.getD 0 undef = a) (h1 : args.getD 1 undef = b) : args = #[a, b] := by
  match args, hs with
  | ⟨[x, y]⟩, _ => simp at h0 h1; subst h0; subst h1; rfl
theorem args1 {args : Array Value} {a : Value} (hs : args.size = 1) (h0 : args.getD 0 undef = a) : args = #[a] := by
  match args, hs with
  | ⟨[x]⟩, _ => simp at h0; subst h0; rfl

/-- in whatever memory, of which it need know nothing: what a comparison does, in the sort's own words -/
theorem cmp_lays {α : Type} [Inhabited α] {g : Nat} {cf : Int → Int → Int} (D : ∀ x y, DoesF P g [iV x, iV y] [] (sI (cf x y)) []) (v : α → Int) (blk off size : Nat) (w : World) :
    CmpLays1 P g #[] (fun x => .int .i64 (v x)) (fun x y => cf (v x) (v y)) blk off size w := by
  intro m os dk _ x y
  generalize sortWorld (fun x => Value.int .i64 (v x)) w blk off m dk os = W
  refine Calls.mono (D (v x) (v y) (fun _ => .no) (fun _ => undef) #[.int .i64 (v x), .int .i64 (v y)] W ⟨rfl, fun b => ⟨fun i h => (by cases h), fun h => (by cases h)⟩, fun s z hl => ?_, fun i r hl => by simp [lk] at hl⟩) ?_
  · simp only [idx, lk_cons] at hl
    split at hl
    · rename_i e; subst e; cases hl; exact ⟨rfl, rfl⟩
    · split at hl
      · rename_i e; subst e; cases hl; exact ⟨rfl, rfl⟩
      · simp [lk] at hl
  · rintro e w' ⟨u, o', h', rfl, hs, hx⟩
    have hu : RepV o' w' (.lit (.int .i64 (cf (v x) (v y)))) u := hs.slot 0 (sI _) (by rw [lk_cons, if_pos rfl])
    refine ⟨by rw [hu.1], w'.drawn - W.drawn, w'.heap.extract W.heap.size w'.heap.size, ?_⟩
    have hheap : w'.heap = W.heap ++ w'.heap.extract W.heap.size w'.heap.size := by
      refine Array.ext_getElem? fun k => ?_
      rw [Array.getElem?_append]
      split
      · rename_i hk; exact (hx.no k rfl hk).2
      · rename_i hk
        rw [Array.getElem?_extract]
        split
        · congr 1; omega
        · rw [Array.getElem?_eq_none]; simp at *; omega
    have hdr := hx.drawn
    have ht := hx.tape
    have ho := hx.os
    have hou := hx.output
    obtain ⟨he, ta, dr, os1, ou⟩ := w'
    obtain ⟨he2, ta2, dr2, os2, ou2⟩ := W
    simp only [grow, World.drewN] at *
    subst ht; subst ho; subst hou
    rw [← hheap, show dr2 + (dr - dr2) = dr by omega]

/-- what a list is when it has been sorted -/
def sortL (cf : Int → Int → Int) (xs : List Int) : List Int := xs.mergeSort fun x y => !decide (cf y x < 0)

theorem sortFunc_does (L : SlLaysF.n6 P ρ) (L0 : SlLaysF0.n6 P ρ0) {F : Nat} (hF : ρ.f 6 = F) (hF0 : ρ0.f 6 = F) {V : Int → Prop} {cf : Int → Int → Int} {g : Nat} {ks : Nat → Nat} {caps : Nat → Nat → CV} (hO : SWO (ltOf cf))
    (hT : ∀ x y, V x → V y → cf x y = 0 → x = y) (hA : ∀ x y, cf x y = 0 ∨ cf x y < 0 ∨ cf y x < 0) (eg : ∀ args w, (callFunc g args).run P w = .ok (.enter g args) w) (D : ∀ x y, DoesF P g [iV x, iV y] [] (sI (cf x y)) [])
    (E : Nat) (xs : List Int) (hV : ∀ x ∈ xs, V x) (hlen : xs.length < 4611686018427387904) :
    DoesK P F [.r 0, .c (.clo g 0 ks caps)] [(0, .own E (ints xs))] (.tup []) [(0, .own E (ints (sortL cf xs)))] [0] := by
  intro o h args w hs
  have h0 : args.getD 0 undef = h 0 := hs.slot 0 (.e (.r 0)) rfl
  have h1 : args.getD 1 undef = .func (.func g) #[] #[] := by
    obtain ⟨bs, hv, _⟩ := hs.slot 1 (.e (.c (.clo g 0 ks caps))) rfl
    exact hv
  have hr := hs.res 0 _ rfl
  have hargs := args2 (by exact hs.size) h0 h1
  subst hargs
  have fin0 : ∀ {e w'}, e = Ending.returned (.tuple #[]) ∧ w' = w → xs = [] → ∃ v o' h', e = .returned v ∧ Sat o' h' ⟨1, [(0, .tup [])], [(0, .own E (ints (sortL cf xs)))]⟩ #[v] w' ∧ Ext o w o' w' ∧ ∀ j ∈ [0], h' j = h j := by
    rintro e w' ⟨rfl, rfl⟩ rfl
    refine ⟨_, o, h, rfl, ⟨rfl, hs.tags, fun s x hl => ?_, fun i r hl => ?_⟩, Ext.refl _ _, fun _ _ => rfl⟩
    · rw [lk_cons] at hl
      split at hl
      · rename_i e; subst e; cases hl; exact ⟨#[], rfl, rfl, by simp⟩
      · simp [lk] at hl
    · rw [lk_cons] at hl
      split at hl
      · rename_i e; subst e; cases hl; simpa [sortL] using hr
      · simp [lk] at hl
  have hr2 := hr
  obtain ⟨vs, hown, htag, hv⟩ := hr2
  rcases hown.2 with ⟨g1, g2⟩ | ⟨b, cap, cur, g1, _, g2, g3, g4, g5, g6⟩
  · rw [g1]
    have hnil : xs = [] := List.length_eq_zero_iff.1 g2
    rw [← hF0]
    exact (AnyF.slices_SortFunc_none L0 none 0 _ w).mono fun _ _ hq => fin0 hq hnil
  · by_cases hnil : xs = []
    · subst hnil
      rw [g1, ← hF0]
      exact (AnyF.slices_SortFunc_none L0 _ cap _ w).mono fun _ _ hq => fin0 hq rfl
    · obtain ⟨x0, hx0⟩ := List.exists_mem_of_ne_nil xs hnil
      haveI : Inhabited {x // V x} := ⟨⟨x0, hV x0 hx0⟩⟩
      obtain ⟨_, _, _, hblt, hcells⟩ := ints_cells hr g1
      let ds : List {x // V x} := xs.attach.map fun x => ⟨x.1, hV x.1 x.2⟩
      have hds : ds.map (fun x => x.1) = xs := by simp [ds]
      have hdl : ds.length = xs.length := by simp [ds]
      have hget : ∀ j, j < xs.length → (ds.toArray[j]!).1 = xs.getD j 0 := fun j hj => by
        rw [getElem!_pos _ j (by simp [hdl, hj])]
        simp [ds, List.getD_eq_getElem?_getD, hj]
      have hsw : SWO (ltOf fun x y : {x // V x} => cf x.1 y.1) := ⟨fun x => hO.irrefl x.1, fun x y z => hO.trans x.1 y.1 z.1, fun x y z => hO.ntrans x.1 y.1 z.1⟩
      have hcon := Any.slices_SortFunc_total L (fun x : {x // V x} => Value.int .i64 x.1) (fun x => rfl) (fun x y => cf x.1 y.1) hsw g #[] b 0 cap ds.toArray w eg (cmp_lays D (fun x : {x // V x} => x.1) b 0 _ w)
        (fun j hj => by
          have hj' : j < xs.length := by simpa [hdl] using hj
          refine ⟨?_, (hcells j hj').2⟩
          show _ = some (Value.int .i64 (ds.toArray[j]!).1)
          rw [(hcells j hj').1, hget j hj']) hblt (by simpa [hdl] using hlen)
        (fun x y a c => by
          have a' : ¬ cf x.1 y.1 < 0 := by simpa [ltOf] using a
          have c' : ¬ cf y.1 x.1 < 0 := by simpa [ltOf] using c
          rcases hA x.1 y.1 with e | e | e
          · exact Subtype.ext (hT _ _ x.2 y.2 e)
          · exact absurd e a'
          · exact absurd e c')
      have hsz : ds.toArray.size = xs.length := by simp [hdl]
      rw [hF, hsz] at hcon
      rw [g1]
      refine hcon.mono ?_
      rintro e w' ⟨rfl, m, os, hw⟩
      have hmap : ((ds.mergeSort fun x y => !(ltOf (fun x y : {x // V x} => cf x.1 y.1)) y x).map fun x => x.1) = sortL cf xs := by
        unfold sortL
        rw [← hds, List.map_mergeSort (s := fun x y => !decide (cf y x < 0))]
        intro a _ c _
        rfl
      have hput := own_put (h' := h) (ys := sortL cf xs) (fun x : {x // V x} => Value.int .i64 x.1) hr ⟨_, rfl⟩ g1 hw (n' := xs.length) (by simp [hdl]) (by simp [hdl]; omega) g1
        (by
          rw [List.take_of_length_le (by simp [hdl]), ← hmap]
          simp [List.map_map, Function.comp_def])
      refine ⟨_, o, h, rfl, ⟨rfl, fun k => ⟨fun i hk => Nat.lt_of_lt_of_le ((hs.tags k).1 i hk) hput.2.size, fun hk => Nat.lt_of_lt_of_le ((hs.tags k).2 hk) hput.2.size⟩, fun s x hl => ?_, fun i r hl => ?_⟩, hput.2, fun _ _ => rfl⟩
      · rw [lk_cons] at hl
        split at hl
        · rename_i e; subst e; cases hl; exact ⟨#[], rfl, rfl, by simp⟩
        · simp [lk] at hl
      · rw [lk_cons] at hl
        split at hl
        · rename_i e; subst e; cases hl; exact hput.1
        · simp [lk] at hl

theorem compact_does (L : SlLaysN.n43 P ρ) {F : Nat} (hF : ρ.f 43 = F) (E : Nat) (xs : List Int) :
    DoesF P F [.r 0] [(0, .own E (ints xs))] (.e (.r 0)) [(0, .own E (ints (Lib.compact xs)))] := by
  intro o h args w hs
  have h0 : args.getD 0 undef = h 0 := hs.slot 0 (.e (.r 0)) rfl
  have hr := hs.res 0 _ rfl
  have hargs := args1 (by exact hs.size) h0
  subst hargs
  have fin0 : ∀ {e w'}, e = Ending.returned (h 0) ∧ w' = w → xs = [] → ∃ v o' h', e = .returned v ∧ Sat o' h' ⟨1, [(0, .e (.r 0))], [(0, .own E (ints (Lib.compact xs)))]⟩ #[v] w' ∧ Ext o w o' w' := by
    rintro e w' ⟨rfl, rfl⟩ rfl
    refine ⟨_, o, h, rfl, ⟨rfl, hs.tags, fun s x hl => ?_, fun i r hl => ?_⟩, Ext.refl _ _⟩
    · rw [lk_cons] at hl
      split at hl
      · rename_i e; subst e; cases hl; rfl
      · simp [lk] at hl
    · rw [lk_cons] at hl
      split at hl
      · rename_i e; subst e; cases hl; simpa [Lib.compact, compactUpTo] using hr
      · simp [lk] at hl
  have hr2 := hr
  obtain ⟨vs, hown, htag, hv⟩ := hr2
  rcases hown.2 with ⟨g1, g2⟩ | ⟨b, cap, cur, g1, _, g2, g3, g4, g5, g6⟩
  · have hnil : xs = [] := List.length_eq_zero_iff.1 g2
    rw [← hF]
    have := AnyG.slices_Compact_int_empty L none 0 w
    rw [g1] at fin0 ⊢
    exact this.mono fun _ _ hq => fin0 hq hnil
  · by_cases hnil : xs = []
    · subst hnil
      rw [← hF]
      have := AnyG.slices_Compact_int_empty L (some ⟨b, 0, none⟩) cap w
      have g1' : h 0 = .slice (some ⟨b, 0, none⟩) 0 cap := g1
      rw [g1'] at fin0 ⊢
      exact this.mono fun _ _ hq => fin0 hq rfl
    · obtain ⟨_, hnc, hcm, hblt, hcells⟩ := ints_cells hr g1
      have hcon := AnyG.slices_Compact_int L b 0 cap xs w (fun j hj => by
          have hj' : j < xs.length := by simpa using hj
          refine ⟨?_, (hcells j hj').2⟩
          rw [(hcells j hj').1, getElem!_pos _ j hj]
          simp [List.getD_eq_getElem?_getD, hj']) (by simp only [maxLen] at hcm; omega) g3
      rw [hF] at hcon
      rw [g1]
      refine hcon.mono ?_
      rintro e w' ⟨rfl, m, hw⟩
      have hle : (Lib.compact xs).length ≤ xs.length := by
        have := List.length_filter_le (keeps xs.toArray) (List.range xs.length)
        simpa [Lib.compact, compactUpTo] using this
      have hput := own_put (h' := updH h 0 (.slice (some ⟨b, 0, none⟩) (Lib.compact xs).length cap)) (os := #[]) (m := m) (ys := Lib.compact xs) (Value.int .i64) hr ⟨_, rfl⟩ g1 (w' := w') (D := (Lib.compact xs ++ List.replicate (xs.length - (Lib.compact xs).length) 0).toArray) (by rw [hw]; simp [sortWorld]) (n' := (Lib.compact xs).length) (by simp) (by simp; omega) (by simp [updH])
        (by simp)
      refine ⟨_, o, updH h 0 (.slice (some ⟨b, 0, none⟩) (Lib.compact xs).length cap), rfl, ⟨rfl, fun k => ⟨fun i hk => Nat.lt_of_lt_of_le ((hs.tags k).1 i hk) hput.2.size, fun hk => Nat.lt_of_lt_of_le ((hs.tags k).2 hk) hput.2.size⟩, fun s x hl => ?_, fun i r hl => ?_⟩, hput.2⟩
      · rw [lk_cons] at hl
        split at hl
        · rename_i e; subst e; cases hl; simp [SvOk, EvOk, updH]
        · simp [lk] at hl
      · rw [lk_cons] at hl
        split at hl
        · rename_i e; subst e; cases hl; exact hput.1
        · simp [lk] at hl
end
end Go.Sy
