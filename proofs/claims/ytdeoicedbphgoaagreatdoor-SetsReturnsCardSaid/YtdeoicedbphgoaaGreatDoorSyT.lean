/-
  SyT, SyU, SyV, SyW, one text.
-/
import Derived.Test.YtdeoicedbphgoaaGreatDoorSyO
import Derived.Shelf.SlicesG.CompactI
import Derived.Shelf.SlSortCmp.NoneTotal
import Derived.Shelf.Spec.SlicesGrow
import Derived.Lib.SliceRun
import Derived.WalkSpells
set_option linter.unusedSectionVars false
set_option linter.unusedVariables false
set_option linter.unusedSimpArgs false
/-
  THE LIBRARY'S FUNCTIONS ON SLICES OF INTEGERS, out of the shelf's contracts: sorting in place, and striking repetitions. No program is named here.
-/
namespace Go.Sy
open Go.Sort Go.Lib Go.Shelf Go.Proofs
variable [Drw]

theorem heap_sortWorld {α : Type} [Inhabited α] (enc : α → Value) (w : World) (b m : Nat) (D : Array α) (os : Array Obj) {cur : Array Value} {E : Nat} (hb : w.heap[b]? = some (.cells cur E (0, 0))) :
    (sortWorld enc w b 0 m D os).heap[b]? = some (.cells (putCells enc 0 D cur) E (0, 0)) ∧ (∀ k, k ≠ b → k < w.heap.size → (sortWorld enc w b 0 m D os).heap[k]? = w.heap[k]?) ∧
    w.heap.size ≤ (sortWorld enc w b 0 m D os).heap.size := by
  have hlt : b < w.heap.size := by
    rcases Nat.lt_or_ge b w.heap.size with h | h
    · exact h
    · simp [Array.getElem?_eq_none h] at hb
  have hs : (putRow enc (Sort.ahead w m) b 0 D).heap.size = w.heap.size := by simp [putRow, mapBlock, Sort.ahead]
  refine ⟨?_, fun k hk hkl => ?_, ?_⟩
  · unfold sortWorld
    rw [heap_grow_old _ _ (by rw [hs]; exact hlt)]
    simp only [putRow, mapBlock, Sort.ahead, Array.getElem?_modify, if_true, hb, Option.map_some, onCells]
  · unfold sortWorld
    rw [heap_grow_old _ _ (by rw [hs]; exact hkl)]
    simp only [putRow, mapBlock, Sort.ahead, Array.getElem?_modify, if_neg (Ne.symm hk)]
  · unfold sortWorld
    rw [size_grow, hs]; omega

theorem putCells_take {α : Type} [Inhabited α] (enc : α → Value) (D : Array α) (cur : Array Value) (n : Nat) (hn : n ≤ D.size) (hc : D.size ≤ cur.size) :
    (putCells enc 0 D cur).size = cur.size ∧ (putCells enc 0 D cur).toList.take n = (D.toList.map enc).take n := by
  refine ⟨by simp [putCells], ?_⟩
  refine List.ext_getElem? fun j => ?_
  by_cases hj : j < n
  · simp only [List.getElem?_take, if_pos hj, putCells, Array.getElem?_toList, Array.getElem?_mapIdx, List.getElem?_map]
    rw [Array.getElem?_eq_getElem (by omega : j < cur.size)]
    simp only [Option.map_some, Nat.zero_le, Nat.zero_add, true_and, Nat.sub_zero]
    rw [if_pos (by omega : j < D.size), Array.getElem?_eq_getElem (by omega : j < D.size), getElem!_pos D j (by omega)]
    rfl
  · simp [List.getElem?_take, hj]

/-- a row of the call's own whose cells have been written over, in memory that has grown: some of its first elements -/
theorem own_put {α : Type} [Inhabited α] {o : Nat → Tag} {h h' : Nat → Value} {w w' : World} {i b n n' cap E m : Nat} {x : CV} {ys : List Int} {D : Array α} {os : Array Obj} (enc : α → Value)
    (hr : ResOk o h w i (.own E x)) (hx : ∃ f, x = .sl n 1 f) (hb : h i = .slice (some ⟨b, 0, none⟩) n cap) (hw : w' = sortWorld enc w b 0 m D os) (hn : n' ≤ D.size) (hD : D.size ≤ cap)
    (hh : h' i = .slice (some ⟨b, 0, none⟩) n' cap) (hy : (D.toList.map enc).take n' = ys.map (Value.int .i64)) :
    ResOk o h' w' i (.own E (ints ys)) ∧ Ext o w o w' := by
  obtain ⟨f, rfl⟩ := hx
  subst hw
  obtain ⟨vs, hown, htag, hv⟩ := hr
  have ht : o b = .hd i := htag b (by rw [hb]; rfl)
  rcases hown.2 with ⟨h1, _⟩ | ⟨g, cap', cur, h1, _, h2, h3, h4, h5, h6⟩
  · rw [hb] at h1; cases h1
  · rw [hb] at h1
    simp only [Value.slice.injEq, Option.some.injEq, Addr.mk.injEq, and_true] at h1
    obtain ⟨rfl, _, rfl⟩ := h1
    obtain ⟨g1, g2, g3⟩ := heap_sortWorld enc w b m D os h2
    simp only [Nat.mul_one] at h5
    obtain ⟨p1, p2⟩ := putCells_take enc D cur n' hn (by omega)
    have hlen : ys.length = n' := by
      have := congrArg List.length hy
      simp only [List.length_take, List.length_map, Array.length_toList] at this
      omega
    refine ⟨⟨ys.map (Value.int .i64), ⟨by simp, .inr ⟨b, cap, putCells enc 0 D cur, by rw [hh, hlen], Nat.zero_le _, g1, by omega, h4, by rw [p1]; omega, ?_⟩⟩, fun b' hb' => ?_, fun e q he hq => ?_⟩, ⟨g3, rfl, rfl, rfl, ?_, fun k hk hl => ⟨hk, ?_⟩, fun k hk hl => ⟨hk, ?_⟩⟩⟩
    · rw [Nat.mul_one, hlen, p2, hy]
    · rw [hh] at hb'
      simp [Value.ownBlock] at hb'
      rw [← hb']; exact ht
    · have : q = 0 := by omega
      subst this
      refine ⟨.int .i64 (ys.getD e 0), ?_, rfl, rfl⟩
      simp [List.getElem?_map, List.getD_eq_getElem?_getD, he]
    · exact Drw.mono _ _ (Nat.le_add_right _ _)
    · exact g2 k (by rintro rfl; rw [ht] at hk; cases hk) hl
    · exact g2 k (by rintro rfl; rw [ht] at hk; cases hk) hl

section
variable {P : Program} {ρ ρ0 : Ren}

theorem ints_cells {o : Nat → Tag} {h : Nat → Value} {w : World} {i E b n cap : Nat} {xs : List Int} (hr : ResOk o h w i (.own E (ints xs))) (hb : h i = .slice (some ⟨b, 0, none⟩) n cap) :
    n = xs.length ∧ n ≤ cap ∧ cap ≤ maxLen ∧ b < w.heap.size ∧ ∀ j, j < xs.length → w.cell? ⟨b, 0 + j, none⟩ = some (.int .i64 (xs.getD j 0)) ∧ w.frozen? ⟨b, 0 + j, none⟩ = false := by
  obtain ⟨vs, hown, htag, hv⟩ := hr
  rcases hown.2 with ⟨h1, _⟩ | ⟨g, cap', cur, h1, _, h2, h3, h4, h5, h6⟩
  · rw [hb] at h1; cases h1
  · rw [hb] at h1
    simp only [Value.slice.injEq, Option.some.injEq, Addr.mk.injEq, and_true] at h1
    obtain ⟨rfl, hnn, rfl⟩ := h1
    refine ⟨hnn, by omega, h4, ?_, fun j hj => ⟨?_, ?_⟩⟩
    · rcases Nat.lt_or_ge b w.heap.size with h | h
      · exact h
      · simp [Array.getElem?_eq_none h] at h2
    · obtain ⟨u, hu, rfl, _⟩ := hv j 0 hj (by omega)
      have := hown.cells (g := b) (by rw [hb]; rfl) _ _ hu
      rw [addr_add, Nat.mul_one, Nat.add_zero] at this
      simpa using this
    · simp [World.frozen?, h2]

theorem args2 {args : Array Value} {a b : Value} (hs : args.size = 2) (h0 : args.getD 0 undef = a) (h1 : args.getD 1 undef = b) : args = #[a, b] := by
  match args, hs with
  | ⟨[x, y]⟩, _ => simp at h0 h1; subst h0; subst h1; rfl
theorem args1 {args : Array Value} {a : Value} (hs : args.size = 1) (h0 : args.getD 0 undef = a) : args = #[a] := by
  match args, hs with
  | ⟨[x]⟩, _ => simp at h0; subst h0; rfl

omit [Drw] in
/-- in whatever memory, of which it need know nothing: what a comparison does, in the sort's own words -/
theorem cmp_lays {α : Type} [Inhabited α] {g : Nat} {cf : Int → Int → Int} (D : ∀ x y, @DoesF drwOn P g [iV x, iV y] [] (sI (cf x y)) []) (v : α → Int) (blk off size : Nat) (w : World) :
    CmpLays1 P g #[] (fun x => .int .i64 (v x)) (fun x y => cf (v x) (v y)) blk off size w := by
  letI : Drw := drwOn
  intro m os dk _ x y
  generalize sortWorld (fun x => Value.int .i64 (v x)) w blk off m dk os = W
  refine Calls.mono (D (v x) (v y) (fun _ => .no) (fun _ => undef) #[.int .i64 (v x), .int .i64 (v y)] W ⟨rfl, fun b => ⟨fun i h => (by cases h), fun h => (by cases h)⟩, fun s z hl => ?_, fun i r hl => by simp [lk] at hl⟩) ?_
  · simp only [idx, lk_cons] at hl
    split at hl
    · rename_i e; subst e; cases hl; exact ⟨rfl, rfl⟩
    · split at hl
      · rename_i e; subst e; cases hl; exact ⟨rfl, rfl⟩
      · simp [lk] at hl
  · rintro e w' ⟨u, o', h', rfl, hs, hx⟩
    have hu : RepV o' w' (.lit (.int .i64 (cf (v x) (v y)))) u := hs.slot 0 (sI _) (by rw [lk_cons, if_pos rfl])
    refine ⟨by rw [hu.1], w'.drawn - W.drawn, w'.heap.extract W.heap.size w'.heap.size, ?_⟩
    have hheap : w'.heap = W.heap ++ w'.heap.extract W.heap.size w'.heap.size := by
      refine Array.ext_getElem? fun k => ?_
      rw [Array.getElem?_append]
      split
      · rename_i hk; exact (hx.no k rfl hk).2
      · rename_i hk
        rw [Array.getElem?_extract]
        split
        · congr 1; omega
        · rw [Array.getElem?_eq_none]; simp at *; omega
    have hdr : W.drawn ≤ w'.drawn := hx.drawn
    have ht := hx.tape
    have ho := hx.os
    have hou := hx.output
    obtain ⟨he, ta, dr, os1, ou⟩ := w'
    obtain ⟨he2, ta2, dr2, os2, ou2⟩ := W
    simp only [grow, World.drewN] at *
    subst ht; subst ho; subst hou
    rw [← hheap, show dr2 + (dr - dr2) = dr by omega]

/-- what a list is when it has been sorted -/
def sortL (cf : Int → Int → Int) (xs : List Int) : List Int := xs.mergeSort fun x y => !decide (cf y x < 0)

theorem sortFunc_does (L : SlLaysF.n6 P ρ) (L0 : SlLaysF0.n6 P ρ0) {F : Nat} (hF : ρ.f 6 = F) (hF0 : ρ0.f 6 = F) {V : Int → Prop} {cf : Int → Int → Int} {g : Nat} {ks : Nat → Nat} {caps : Nat → Nat → CV} (hO : SWO (ltOf cf))
    (hT : ∀ x y, V x → V y → cf x y = 0 → x = y) (hA : ∀ x y, cf x y = 0 ∨ cf x y < 0 ∨ cf y x < 0) (eg : ∀ args w, (callFunc g args).run P w = .ok (.enter g args) w) (D : ∀ x y, @DoesF drwOn P g [iV x, iV y] [] (sI (cf x y)) [])
    (E : Nat) (xs : List Int) (hV : ∀ x ∈ xs, V x) (hlen : xs.length < 4611686018427387904) :
    DoesK P F [.r 0, .c (.clo g 0 ks caps)] [(0, .own E (ints xs))] (.tup []) [(0, .own E (ints (sortL cf xs)))] [0] := by
  intro o h args w hs
  have h0 : args.getD 0 undef = h 0 := hs.slot 0 (.e (.r 0)) rfl
  have h1 : args.getD 1 undef = .func (.func g) #[] #[] := by
    obtain ⟨bs, hv, _⟩ := hs.slot 1 (.e (.c (.clo g 0 ks caps))) rfl
    exact hv
  have hr := hs.res 0 _ rfl
  have hargs := args2 (by exact hs.size) h0 h1
  subst hargs
  have fin0 : ∀ {e w'}, e = Ending.returned (.tuple #[]) ∧ w' = w → xs = [] → ∃ v o' h', e = .returned v ∧ Sat o' h' ⟨1, [(0, .tup [])], [(0, .own E (ints (sortL cf xs)))]⟩ #[v] w' ∧ Ext o w o' w' ∧ ∀ j ∈ [0], h' j = h j := by
    rintro e w' ⟨rfl, rfl⟩ rfl
    refine ⟨_, o, h, rfl, ⟨rfl, hs.tags, fun s x hl => ?_, fun i r hl => ?_⟩, Ext.refl _ _, fun _ _ => rfl⟩
    · rw [lk_cons] at hl
      split at hl
      · rename_i e; subst e; cases hl; exact ⟨#[], rfl, rfl, by simp⟩
      · simp [lk] at hl
    · rw [lk_cons] at hl
      split at hl
      · rename_i e; subst e; cases hl; simpa [sortL] using hr
      · simp [lk] at hl
  have hr2 := hr
  obtain ⟨vs, hown, htag, hv⟩ := hr2
  rcases hown.2 with ⟨g1, g2⟩ | ⟨b, cap, cur, g1, _, g2, g3, g4, g5, g6⟩
  · rw [g1]
    have hnil : xs = [] := List.length_eq_zero_iff.1 g2
    rw [← hF0]
    exact (AnyF.slices_SortFunc_none L0 none 0 _ w).mono fun _ _ hq => fin0 hq hnil
  · by_cases hnil : xs = []
    · subst hnil
      rw [g1, ← hF0]
      exact (AnyF.slices_SortFunc_none L0 _ cap _ w).mono fun _ _ hq => fin0 hq rfl
    · obtain ⟨x0, hx0⟩ := List.exists_mem_of_ne_nil xs hnil
      haveI : Inhabited {x // V x} := ⟨⟨x0, hV x0 hx0⟩⟩
      obtain ⟨_, _, _, hblt, hcells⟩ := ints_cells hr g1
      let ds : List {x // V x} := xs.attach.map fun x => ⟨x.1, hV x.1 x.2⟩
      have hds : ds.map (fun x => x.1) = xs := by simp [ds]
      have hdl : ds.length = xs.length := by simp [ds]
      have hget : ∀ j, j < xs.length → (ds.toArray[j]!).1 = xs.getD j 0 := fun j hj => by
        rw [getElem!_pos _ j (by simp [hdl, hj])]
        simp [ds, List.getD_eq_getElem?_getD, hj]
      have hsw : SWO (ltOf fun x y : {x // V x} => cf x.1 y.1) := ⟨fun x => hO.irrefl x.1, fun x y z => hO.trans x.1 y.1 z.1, fun x y z => hO.ntrans x.1 y.1 z.1⟩
      have hcon := Any.slices_SortFunc_total L (fun x : {x // V x} => Value.int .i64 x.1) (fun x => rfl) (fun x y => cf x.1 y.1) hsw g #[] b 0 cap ds.toArray w eg (cmp_lays D (fun x : {x // V x} => x.1) b 0 _ w)
        (fun j hj => by
          have hj' : j < xs.length := by simpa [hdl] using hj
          refine ⟨?_, (hcells j hj').2⟩
          show _ = some (Value.int .i64 (ds.toArray[j]!).1)
          rw [(hcells j hj').1, hget j hj']) hblt (by simpa [hdl] using hlen)
        (fun x y a c => by
          have a' : ¬ cf x.1 y.1 < 0 := by simpa [ltOf] using a
          have c' : ¬ cf y.1 x.1 < 0 := by simpa [ltOf] using c
          rcases hA x.1 y.1 with e | e | e
          · exact Subtype.ext (hT _ _ x.2 y.2 e)
          · exact absurd e a'
          · exact absurd e c')
      have hsz : ds.toArray.size = xs.length := by simp [hdl]
      rw [hF, hsz] at hcon
      rw [g1]
      refine hcon.mono ?_
      rintro e w' ⟨rfl, m, os, hw⟩
      have hmap : ((ds.mergeSort fun x y => !(ltOf (fun x y : {x // V x} => cf x.1 y.1)) y x).map fun x => x.1) = sortL cf xs := by
        unfold sortL
        rw [← hds, List.map_mergeSort (s := fun x y => !decide (cf y x < 0))]
        intro a _ c _
        rfl
      have hput := own_put (h' := h) (ys := sortL cf xs) (fun x : {x // V x} => Value.int .i64 x.1) hr ⟨_, rfl⟩ g1 hw (n' := xs.length) (by simp [hdl]) (by simp [hdl]; omega) g1
        (by
          rw [List.take_of_length_le (by simp [hdl]), ← hmap]
          simp [List.map_map, Function.comp_def])
      refine ⟨_, o, h, rfl, ⟨rfl, fun k => ⟨fun i hk => Nat.lt_of_lt_of_le ((hs.tags k).1 i hk) hput.2.size, fun hk => Nat.lt_of_lt_of_le ((hs.tags k).2 hk) hput.2.size⟩, fun s x hl => ?_, fun i r hl => ?_⟩, hput.2, fun _ _ => rfl⟩
      · rw [lk_cons] at hl
        split at hl
        · rename_i e; subst e; cases hl; exact ⟨#[], rfl, rfl, by simp⟩
        · simp [lk] at hl
      · rw [lk_cons] at hl
        split at hl
        · rename_i e; subst e; cases hl; exact hput.1
        · simp [lk] at hl

theorem compact_does (L : SlLaysN.n43 P ρ) {F : Nat} (hF : ρ.f 43 = F) (E : Nat) (xs : List Int) :
    DoesF P F [.r 0] [(0, .own E (ints xs))] (.e (.r 0)) [(0, .own E (ints (Lib.compact xs)))] := by
  intro o h args w hs
  have h0 : args.getD 0 undef = h 0 := hs.slot 0 (.e (.r 0)) rfl
  have hr := hs.res 0 _ rfl
  have hargs := args1 (by exact hs.size) h0
  subst hargs
  have fin0 : ∀ {e w'}, e = Ending.returned (h 0) ∧ w' = w → xs = [] → ∃ v o' h', e = .returned v ∧ Sat o' h' ⟨1, [(0, .e (.r 0))], [(0, .own E (ints (Lib.compact xs)))]⟩ #[v] w' ∧ Ext o w o' w' := by
    rintro e w' ⟨rfl, rfl⟩ rfl
    refine ⟨_, o, h, rfl, ⟨rfl, hs.tags, fun s x hl => ?_, fun i r hl => ?_⟩, Ext.refl _ _⟩
    · rw [lk_cons] at hl
      split at hl
      · rename_i e; subst e; cases hl; rfl
      · simp [lk] at hl
    · rw [lk_cons] at hl
      split at hl
      · rename_i e; subst e; cases hl; simpa [Lib.compact, compactUpTo] using hr
      · simp [lk] at hl
  have hr2 := hr
  obtain ⟨vs, hown, htag, hv⟩ := hr2
  rcases hown.2 with ⟨g1, g2⟩ | ⟨b, cap, cur, g1, _, g2, g3, g4, g5, g6⟩
  · have hnil : xs = [] := List.length_eq_zero_iff.1 g2
    rw [← hF]
    have := AnyG.slices_Compact_int_empty L none 0 w
    rw [g1] at fin0 ⊢
    exact this.mono fun _ _ hq => fin0 hq hnil
  · by_cases hnil : xs = []
    · subst hnil
      rw [← hF]
      have := AnyG.slices_Compact_int_empty L (some ⟨b, 0, none⟩) cap w
      have g1' : h 0 = .slice (some ⟨b, 0, none⟩) 0 cap := g1
      rw [g1'] at fin0 ⊢
      exact this.mono fun _ _ hq => fin0 hq rfl
    · obtain ⟨_, hnc, hcm, hblt, hcells⟩ := ints_cells hr g1
      have hcon := AnyG.slices_Compact_int L b 0 cap xs w (fun j hj => by
          have hj' : j < xs.length := by simpa using hj
          refine ⟨?_, (hcells j hj').2⟩
          rw [(hcells j hj').1, getElem!_pos _ j hj]
          simp [List.getD_eq_getElem?_getD, hj']) (by simp only [maxLen] at hcm; omega) g3
      rw [hF] at hcon
      rw [g1]
      refine hcon.mono ?_
      rintro e w' ⟨rfl, m, hw⟩
      have hle : (Lib.compact xs).length ≤ xs.length := by
        have := List.length_filter_le (keeps xs.toArray) (List.range xs.length)
        simpa [Lib.compact, compactUpTo] using this
      have hput := own_put (h' := updH h 0 (.slice (some ⟨b, 0, none⟩) (Lib.compact xs).length cap)) (os := #[]) (m := m) (ys := Lib.compact xs) (Value.int .i64) hr ⟨_, rfl⟩ g1 (w' := w') (D := (Lib.compact xs ++ List.replicate (xs.length - (Lib.compact xs).length) 0).toArray) (by rw [hw]; simp [sortWorld]) (n' := (Lib.compact xs).length) (by simp) (by simp; omega) (by simp [updH])
        (by simp)
      refine ⟨_, o, updH h 0 (.slice (some ⟨b, 0, none⟩) (Lib.compact xs).length cap), rfl, ⟨rfl, fun k => ⟨fun i hk => Nat.lt_of_lt_of_le ((hs.tags k).1 i hk) hput.2.size, fun hk => Nat.lt_of_lt_of_le ((hs.tags k).2 hk) hput.2.size⟩, fun s x hl => ?_, fun i r hl => ?_⟩, hput.2⟩
      · rw [lk_cons] at hl
        split at hl
        · rename_i e; subst e; cases hl; simp [SvOk, EvOk, updH]
        · simp [lk] at hl
      · rw [lk_cons] at hl
        split at hl
        · rename_i e; subst e; cases hl; exact hput.1
        · simp [lk] at hl
end
end Go.Sy

/-
  A SLICE HELD AGAINST nil; slices.Grow at nil, out of the shelf's contract. No program is named here.
-/
namespace Go.Sy
open Go.Sort Go.Lib Go.Shelf Go.Proofs
variable [Drw]

section
variable {P : Program} {lay : Lay} {k : List K} {A : St} {Q : Exit → St → Prop}

/-- 's == nil' or 's != nil': where it says nil the slice has no element; of more nothing is known -/
theorem KW.eqNil (hl : LayOk P lay) {all : Array Oper} {op : Oper} {rest : List Oper} {T T2 d n k' : Nat} {neg : Bool} {x : Operand} {f : Nat → Nat → CV} {p : Prop} {r : TRow} {E es by' : Nat} {X : CV}
    (ho : op.op = .binOp (bif neg then .neq else .eql) T x (.const (.slice none 0 0)) T2) (hg : op.guard = none) (hd : op.dst = some d) (hlt : Nat.blt d A.n = true) (hx : rd A x = some (.c X, p)) (hX : X = .sl n k' f) (hT : lk lay T = some r) (hr : r.td = .sl E es by')
    (hp : p) (hn : ∀ b : Bool, (b = true → n = 0) → KW P (.ops all rest :: k) .normal ⟨A.n, (d, sB (bif neg then !b else b)) :: A.sl, A.rs⟩ Q) : KW P (.ops all (op :: rest) :: k) .normal A Q := by
  subst hX
  intro o h tm w hs
  have hlt : d < A.n := by simpa [Nat.blt, Nat.succ_le_iff] using hlt
  obtain ⟨a, cap, hv, h1, h2, h3⟩ := rd_ok hs hx hp
  obtain ⟨dd, hdd, ht⟩ := (hl _ _ hT).td
  rw [hr] at ht
  simp only [tdB, Bool.and_eq_true] at ht
  have hu : ∃ e, P.underlying T = some (.slice e) := by
    cases dd <;> simp at ht
    exact ⟨_, hdd⟩
  obtain ⟨e, hu⟩ := hu
  show wpList P all (kq P (lift Q o w) k) (op :: rest) ⟨tm, []⟩ w
  unfold wpList
  rw [if_pos (by simp [Region.wanted, hg])]
  left
  unfold Oper.wp
  show op.upon P ⟨tm, []⟩ _ _ ((execOp (evl tm) op).run P w)
  have hv' : evl tm x = .slice a n cap := hv
  have hrun : (execOp (evl tm) op).run P w = .ok (.value (.bool (bif neg then !a.isNone else a.isNone))) w := by
    simp only [execOp, ho, hv']
    refine value_of ?_
    have hc : evl tm (.const (.slice none 0 0)) = .slice none 0 0 := rfl
    cases neg with
    | true =>
      simp only [cond_true]
      have hgd : (eqGuard .neq T x (.const (.slice none 0 0)) (.slice a n cap) (.slice none 0 0)).run P w = .ok () w := by
        unfold eqGuard; split <;> first | rfl | simp_all
      simp only [hc, Sem.run_bind, hgd, Result.andThen_ok]
      exact run_neq_slice_nil_any w T e a n cap 0 0 hu
    | false =>
      simp only [cond_false]
      have hgd : (eqGuard .eql T x (.const (.slice none 0 0)) (.slice a n cap) (.slice none 0 0)).run P w = .ok () w := by
        unfold eqGuard; split <;> first | rfl | simp_all
      simp only [hc, Sem.run_bind, hgd, Result.andThen_ok]
      exact Lib.run_eql_slice_nil w T e a n cap 0 0 hu
  rw [hrun]
  show wpList P all (kq P (lift Q o w) k) rest ((⟨tm, []⟩ : Act).put op.dst _) w
  have hput : (⟨tm, []⟩ : Act).put op.dst (.bool (bif neg then !a.isNone else a.isNone)) = ⟨tm.setIfInBounds d (.bool (bif neg then !a.isNone else a.isNone)), []⟩ := by simp [Act.put, hd]
  rw [hput]
  refine hn a.isNone (fun hb => ?_) o h _ w (hs.put hlt ⟨rfl, rfl⟩)
  rcases h3 with h3 | ⟨b, off, h3, _⟩
  · exact h3
  · rw [h3] at hb; simp at hb

/-- as far as the end, rows handed back -/
theorem KW.goRetR {fns : Fns} {A' : St} {e : Exit} (hl : LayOk P lay) (hT : FnsOk P fns) (f : Nat) {φ : Prop} (h : run2 lay fns f k e A True = ([], .ret, A', φ)) {rv : List ResultVar} {y y0 : SV} {rs' : List (Nat × Res)} (ρ : List (Nat × Nat)) (h1 : retB A' rv = some y0) (h2 : oneB ρ = true) (h3 : y0 = y.ren ρ) (hφ : φ) (h4 : subR ρ A' rs') : KW P k e A (RetQ rv y rs') :=
  KW.go hl hT f h hφ (KW.fin ρ h1 h2 h3 h4)

theorem KW.goRetK {fns : Fns} {A' : St} {e : Exit} (hl : LayOk P lay) (hT : FnsOk P fns) (f : Nat) {φ : Prop} (h : run2 lay fns f k e A True = ([], .ret, A', φ)) {rv : List ResultVar} {y y0 : SV} {rs' : List (Nat × Res)} {kp : List (Nat × Nat)} (ρ : List (Nat × Nat)) (h1 : retB A' rv = some y0) (h2 : oneB ρ = true) (h3 : y0 = y.ren ρ) (hφ : φ) (h4 : subR ρ A' rs') (h5 : keptR ρ A' kp) : KW P k e A (RetQK rv y rs' kp) :=
  KW.go hl hT f h hφ (KW.finK ρ h1 h2 h3 h4 h5)

/-! an operation whose guard is decided -/
theorem KW.guardT {all : Array Oper} {op : Oper} {rest : List Oper} {j : Nat} {want b : Bool} (hg : op.guard = some (j, want)) (hb : gdOf A all j want = some b) (ht : b = true)
    (hn : KW P (.ops all (⟨op.dst, op.op, op.type, op.pos, op.after, none⟩ :: rest) :: k) .normal A Q) : KW P (.ops all (op :: rest) :: k) .normal A Q := by
  intro o h tm w hs
  have h1 := hn o h tm w hs
  show wpList P all (kq P (lift Q o w) k) (op :: rest) ⟨tm, []⟩ w
  replace h1 : wpList P all (kq P (lift Q o w) k) (⟨op.dst, op.op, op.type, op.pos, op.after, none⟩ :: rest) ⟨tm, []⟩ w := h1
  unfold wpList at h1 ⊢
  rw [if_pos (by simp [Region.wanted])] at h1
  rw [if_pos (by simp [Region.wanted, hg, gdOf_true hs hb ht])]
  exact h1
theorem KW.guardF {all : Array Oper} {op : Oper} {rest : List Oper} {j d : Nat} {want b : Bool} (hg : op.guard = some (j, want)) (hb : gdOf A all j want = some b) (ht : b = false) (hd : op.dst = some d) (hlt : Nat.blt d A.n = true)
    (hn : KW P (.ops all rest :: k) .normal ⟨A.n, (d, .e (.gd false .dead)) :: A.sl, A.rs⟩ Q) : KW P (.ops all (op :: rest) :: k) .normal A Q := KW.pass hg hb ht hd hlt hn
/-- the row 'i' is from now on read by anybody, written by nobody -/
theorem KW.frz1 (i : Nat) {E n k' : Nat} {f : Nat → Nat → CV} {x : CV} {e : Exit} (hl : lk A.rs i = some (.own E x)) (hx : x = .sl n k' f) (ha : allR A i [i] = true)
    (hk : KW P k e ⟨A.n, (i, .e (.c x)) :: A.sl, (i, .gone) :: A.rs⟩ Q) : KW P k e A Q := KW.frz i [i] hl hx ha hk

/-! calls of functions that capture nothing -/
theorem KW.callO0 {all : Array Oper} {op : Oper} {rest : List Oper} {c : Call} {d g : Nat} {ks : Nat → Nat} {caps : Nat → Nat → CV} {p : Prop} {f : Operand} {ys : List EV} {E : Nat} {x : CV}
    (D : DoesF P g ys [] (.e (.r 0)) [(0, .own E x)]) (eg : ∀ args w, (callFunc g args).run P w = .ok (.enter g args) w) (L : List Nat)
    (hw : Wanted A all op) (ho : op.op = .call c) (hd : op.dst = some d) (hlt : Nat.blt d A.n = true) (hc : c.callee = .value f) (hf : rd A f = some (.c (.clo g 0 ks caps), p)) (hp : p)
    (hargs : argsP A [] L c.args.toList ys) (hfr : freshB A d = true) (hflat : L = [] ∨ ResFlat (.own E x))
    (hn : KW P (.ops all rest :: k) .normal ⟨A.n, (d, .e (.r d)) :: A.sl, (d, .own E x) :: A.rs⟩ Q) : KW P (.ops all (op :: rest) :: k) .normal A Q :=
  KW.callO D eg L hw ho hd hlt hc hf hp (by simp [capE]) hargs hfr hflat hn
theorem KW.call0 {all : Array Oper} {op : Oper} {rest : List Oper} {c : Call} {d g : Nat} {ks : Nat → Nat} {caps : Nat → Nat → CV} {p : Prop} {f : Operand} {ys : List EV} {rs rs' : List (Nat × Res)} {y : SV}
    (D : DoesF P g ys rs y rs') (eg : ∀ args w, (callFunc g args).run P w = .ok (.enter g args) w) (ρ ρ' : List (Nat × Nat)) (L : List Nat)
    (hw : Wanted A all op) (ho : op.op = .call c) (hd : op.dst = some d) (hlt : Nat.blt d A.n = true) (hc : c.callee = .value f) (hf : rd A f = some (.c (.clo g 0 ks caps), p)) (hp : p)
    (hargs : argsP A ρ L c.args.toList ys) (h1 : oneB ρ = true) (hR : subR ρ A rs)
    (h1' : oneB ρ' = true) (hnew : newB A ρ rs rs' [] ρ') (hy : y.inB ρ' = true) (hrs : resIn ρ' rs' = true) (hflat : L = [] ∨ (SvFlat y ∧ ∀ j r, (j, r) ∈ rs' → ResFlat r))
    (hn : KW P (.ops all rest :: k) .normal ⟨A.n, (d, y.ren ρ') :: A.sl, renR ρ' rs' (gones ρ A.rs)⟩ Q) :
    KW P (.ops all (op :: rest) :: k) .normal A Q :=
  KW.call D eg ρ ρ' L hw ho hd hlt hc hf hp (by simp [capE]) hargs h1 hR h1' hnew hy hrs hflat hn
theorem KW.callK0 {all : Array Oper} {op : Oper} {rest : List Oper} {c : Call} {d g : Nat} {kp : List Nat} {ks : Nat → Nat} {caps : Nat → Nat → CV} {p : Prop} {f : Operand} {ys : List EV} {rs rs' : List (Nat × Res)} {y : SV}
    (D : DoesK P g ys rs y rs' kp) (eg : ∀ args w, (callFunc g args).run P w = .ok (.enter g args) w) (ρ ρ' : List (Nat × Nat)) (L : List Nat)
    (hw : Wanted A all op) (ho : op.op = .call c) (hd : op.dst = some d) (hlt : Nat.blt d A.n = true) (hc : c.callee = .value f) (hf : rd A f = some (.c (.clo g 0 ks caps), p)) (hp : p)
    (hargs : argsP A ρ L c.args.toList ys) (h1 : oneB ρ = true) (hR : subR ρ A rs)
    (h1' : oneB ρ' = true) (hnew : newB A ρ rs rs' kp ρ') (hy : y.inB ρ' = true) (hrs : resIn ρ' rs' = true) (hflat : L = [] ∨ (SvFlat y ∧ ∀ j r, (j, r) ∈ rs' → ResFlat r))
    (hn : KW P (.ops all rest :: k) .normal ⟨A.n, (d, y.ren ρ') :: A.sl, renR ρ' rs' (gones ρ A.rs)⟩ Q) :
    KW P (.ops all (op :: rest) :: k) .normal A Q :=
  KW.callK D eg ρ ρ' L hw ho hd hlt hc hf hp (by simp [capE]) hargs h1 hR h1' hnew hy hrs hflat hn
/-- as far as a loop, rows under other names -/
theorem KW.goLpR {σ : Type} {fns : Fns} {A' : St} {e : Exit} {k' : List K} (hl : LayOk P lay) (hT : FnsOk P fns) (f : Nat) {φ : Prop} {c : Code} (h : run2 lay fns f k e A True = (.code (.loop c) :: k', .normal, A', φ)) (I : σ → St) (R : σ → Prop) (m : σ → Nat) (s : σ) (ρ : List (Nat × Nat)) (h1 : oneB ρ = true) (hn : (I s).n = A'.n) (hS : subS ρ A' (I s).sl) (hφ : φ) (hR : R s) (hr : subR ρ A' (I s).rs)
    (round : ∀ s, R s → KW P [.code c] .normal (I s) (ToQ P k' Q I fun s' => R s' ∧ m s' < m s)) : KW P k e A Q :=
  KW.go hl hT f h hφ (KW.lp I R m s hR ρ ⟨h1, hn, hS, hr⟩ round)
/-- a list of integers without its first elements, and its first elements alone -/
theorem ints_nil_of {xs : List Int} (h : xs.length = 0) : xs = [] := List.length_eq_zero_iff.1 h

theorem grow_nil_does {ρ : Ren} (L : Lays8.n4 P ρ) {F E : Nat} (hF : ρ.f 4 = F) (hE : ρ.t 25 = E) {i0 : TypeInfo} {z : Value} (hi : P.info? E = some i0) (hz : i0.zero = some z) (hs1 : i0.size = 1) (hb8 : i0.bytes = 8) (hzc : z.cells.size = 1) (n : Nat) (hn : n ≤ 1099511627776) :
    DoesF P F [.c (.lit (.slice none 0 0)), iV n] [] (.e (.r 0)) [(0, .own E (ints []))] := by
  intro o h args w hs
  have h0 : args.getD 0 undef = .slice none 0 0 := (show RepV o w (.lit (.slice none 0 0)) _ from hs.slot 0 (.e (.c (.lit (.slice none 0 0)))) rfl).1
  have h1 : args.getD 1 undef = .int .i64 n := (show RepV o w (.lit (.int .i64 n)) _ from hs.slot 1 (sI n) rfl).1
  have hargs := args2 (by exact hs.size) h0 h1
  subst hargs
  subst hF hE
  by_cases hn0 : n = 0
  · subst hn0
    refine (Any8.slices_Grow_room L none 0 0 0 w (Nat.le_refl _) (Nat.zero_le _) (Nat.zero_le _) (Nat.le_refl _)).mono ?_
    rintro e w' ⟨rfl, rfl⟩
    refine ⟨_, o, updH h 0 (.slice none 0 0), rfl, ⟨rfl, hs.tags, fun s x hl => ?_, fun i r hl => ?_⟩, Ext.refl _ _⟩
    · rw [lk_cons] at hl
      split at hl
      · rename_i e; subst e; cases hl; simp [SvOk, EvOk, updH]
      · simp [lk] at hl
    · rw [lk_cons] at hl
      split at hl
      · rename_i e; subst e; cases hl
        exact ⟨[], by simpa [updH] using World.ownsRow_nil _ 0 _ 1, fun b hb => by simp [updH, Value.ownBlock] at hb, fun e q he => by simp at he⟩
      · simp [lk] at hl
  · refine (Any8.slices_Grow_grow L i0 z hi hz (by omega) none 0 0 n [] w (Nat.le_refl _) (by omega) (by rw [hb8]; omega) (by omega) (by simp) (fun _ => rfl) (fun a ha => by cases ha)).mono ?_
    rintro e w' ⟨rfl, rfl⟩
    have hge := grownCap_ge w (0 + n) 0 (ρ.t 25)
    have hmx := grownCap_le_maxLen w (0 + n) 0 (ρ.t 25) (by simp only [maxLen]; omega)
    generalize grownCap w (0 + n) 0 (ρ.t 25) = cap at hge hmx
    generalize hcur : ([].toArray ++ Builtin.zeroCells z.cells (0 + n - 0) ++ Builtin.zeroCells z.cells (cap - (0 + n))) = cur
    have hcs : cur.size = cap := by
      rw [← hcur]
      simp only [Array.size_append, size_zeroCells, hzc, List.size_toArray, List.length_nil]
      omega
    have hnew : (w.drew.alloc (.cells cur (ρ.t 25))).heap[w.heap.size]? = some (.cells cur (ρ.t 25) (0, 0)) := by
      show (w.heap.push _)[w.heap.size]? = _
      simp
    have hold : ∀ b, b < w.heap.size → (w.drew.alloc (.cells cur (ρ.t 25))).heap[b]? = w.heap[b]? := fun b hb => by
      show (w.heap.push _)[b]? = _
      rw [Array.getElem?_push, if_neg (by omega)]
    have hsz : (w.drew.alloc (.cells cur (ρ.t 25))).heap.size = w.heap.size + 1 := by
      show (w.heap.push _).size = _
      simp
    refine ⟨_, updO o w.heap.size (.hd 0), updH h 0 (.slice (some ⟨w.heap.size, 0, none⟩) 0 cap), rfl, ⟨rfl, fun b => ?_, fun s x hl => ?_, fun i r hl => ?_⟩, ⟨by omega, rfl, rfl, rfl, Drw.mono _ _ (Nat.le_succ _), fun b hb hlt => ⟨?_, hold b hlt⟩, fun b hb hlt => ⟨?_, hold b hlt⟩⟩⟩
    · rw [hsz]
      by_cases hb : b = w.heap.size
      · subst hb; exact ⟨fun _ _ => Nat.lt_succ_self _, fun _ => Nat.lt_succ_self _⟩
      · simp only [updO, if_neg hb]
        exact ⟨fun i hi => Nat.lt_succ_of_lt ((hs.tags b).1 i hi), fun hi => Nat.lt_succ_of_lt ((hs.tags b).2 hi)⟩
    · rw [lk_cons] at hl
      split at hl
      · rename_i e; subst e; cases hl; simp [SvOk, EvOk, updH]
      · simp [lk] at hl
    · rw [lk_cons] at hl
      split at hl
      · rename_i e; subst e; cases hl
        refine ⟨[], ⟨by simp, .inr ⟨w.heap.size, cap, cur, by simp [updH], Nat.zero_le _, hnew, Nat.zero_le _, hmx, by omega, by simp⟩⟩, fun b hb => ?_, fun e q he => by simp at he⟩
        simp [updH, Value.ownBlock] at hb
        simp [updO, hb]
      · simp [lk] at hl
    · simp only [updO]; rw [if_neg (by omega)]; exact hb
    · simp only [updO]; rw [if_neg (by omega)]; exact hb
end
end Go.Sy

/-
  MAPS FROM int TO bool AS SETS: made, asked, filled. No program is named here.
-/
namespace Go.Sy
variable [Drw]

section
variable {P : Program} {lay : Lay} {k : List K} {A : St} {Q : Exit → St → Prop} {o : Nat → Tag} {h : Nat → Value} {tm : Array Value} {w : World}

theorem lay_map (hl : LayOk P lay) {T sz : Nat} {ag : Bool} {z : List Value} (hT : lk lay T = some ⟨sz, ag, .mapIB, z⟩) :
    ∃ kt et i, P.underlying T = some (.map kt et) ∧ P.underlying kt = some (.int .i64) ∧ P.info? et = some i ∧ i.zero = some (.bool false) := by
  obtain ⟨d, hd, ht⟩ := (hl _ _ hT).td
  simp only [tdB, Bool.and_eq_true] at ht
  obtain ⟨_, ht⟩ := ht
  split at ht
  · rename_i kt et
    simp only [Bool.and_eq_true] at ht
    obtain ⟨h1, h2⟩ := ht
    split at h1
    · rename_i hk
      split at h2
      · rename_i i hi
        split at h2
        · rename_i hz
          exact ⟨kt, et, i, hd, hk, hi, hz⟩
        · cases h2
      · cases h2
    · cases h1
  · cases ht

/-- what a set's entries are -/
def SetE (es : Array MapEntry) (xs : List Int) : Prop := (∀ e ∈ es.toList, ∃ n, e.key = .int .i64 n ∧ e.val = .bool true) ∧ ∀ n : Int, (∃ e ∈ es.toList, e.key = .int .i64 n) ↔ n ∈ xs

theorem findNow_set (n : Int) : ∀ (es : List MapEntry) (i : Nat), (∀ e ∈ es, ∃ m, e.key = .int .i64 m ∧ e.val = .bool true) →
    (((∃ e ∈ es, e.key = .int .i64 n) ∧ ∃ j e, i ≤ j ∧ es[j - i]? = some e ∧ e.key = .int .i64 n ∧ Instr.findNow (.int .i64) (.int .i64 n) es i = some (some (j, .bool true))) ∨
    ((¬ ∃ e ∈ es, e.key = .int .i64 n) ∧ Instr.findNow (.int .i64) (.int .i64 n) es i = some none))
  | [], i, _ => .inr ⟨by simp, rfl⟩
  | e :: es, i, he => by
    obtain ⟨m, hm, hv⟩ := he e (.head _)
    by_cases hmn : n = m
    · subst hmn
      refine .inl ⟨⟨e, .head _, hm⟩, i, e, Nat.le_refl _, by simp, hm, ?_⟩
      simp [Instr.findNow, hm, hv, Instr.sameNow]
    · have hne : e.key ≠ .int .i64 n := fun h' => by rw [hm] at h'; simp at h'; exact hmn h'.symm
      have hf : Instr.findNow (.int .i64) (.int .i64 n) (e :: es) i = Instr.findNow (.int .i64) (.int .i64 n) es (i + 1) := by
        have : (n == m) = false := by simpa using hmn
        simp [Instr.findNow, hm, Instr.sameNow, this]
      rcases findNow_set n es (i + 1) (fun e he' => he e (.tail _ he')) with ⟨⟨e', he', hk'⟩, j, e2, h1, h2, h3, h4⟩ | ⟨h1, h2⟩
      · refine .inl ⟨⟨e', .tail _ he', hk'⟩, j, e2, by omega, ?_, h3, hf.trans h4⟩
        rw [show j - i = (j - (i + 1)) + 1 by omega, List.getElem?_cons_succ]; exact h2
      · refine .inr ⟨?_, hf.trans h2⟩
        rintro ⟨e', he', hk'⟩
        rcases List.mem_cons.1 he' with e | he'
        · subst e; exact hne hk'
        · exact h1 ⟨e', he', hk'⟩

theorem run_checkKey {e : Bool} {kt : TypeId} (hk : P.underlying kt = some (.int .i64)) (n : Int) : (Instr.checkKey e 10000 kt (.int .i64 n)).run P w = .ok () w := by
  have h : ∀ d : Nat, (Instr.checkKey e (d + 1) kt (.int .i64 n)).run P w = .ok () w := fun d => by simp [Instr.checkKey, run_underlying hk]
  exact h 9999
theorem run_findKey {kt : TypeId} (hk : P.underlying kt = some (.int .i64)) {v : Value} {es : List MapEntry} {r : Option (Nat × Value)} (hf : Instr.findNow (.int .i64) v es 0 = some r) : (Instr.findKey kt v es).run P w = .ok r w := by
  simp [Instr.findKey, run_underlying hk, hf]
theorem run_getMap {b : Nat} {es : Array MapEntry} {c : Nat} (hb : w.heap[b]? = some (.map es c)) : (getObj b).run P w = .ok (.map es c) w := by simp [getObj, Sem.run, hb]
theorem run_setMap {b : Nat} {es : Array MapEntry} {c : Nat} (hb : w.heap[b]? = some (.map es c)) (ob : Obj) : (setObj b ob).run P w = .ok () { w with heap := w.heap.setIfInBounds b ob } := by simp [setObj, Sem.run, hb]

/-- is it in the set? -/
theorem KW.look (hl : LayOk P lay) {all : Array Oper} {op : Oper} {rest : List Oper} {T d i sz : Nat} {ag : Bool} {z : List Value} {m x : Operand} {xs : List Int} {n : Int} {p q : Prop}
    (ho : op.op = .lookup T m x false) (hg : op.guard = none) (hd : op.dst = some d) (hlt : Nat.blt d A.n = true) (hT : lk lay T = some ⟨sz, ag, .mapIB, z⟩) (hm : rd A m = some (.r i, p)) (hr : lk A.rs i = some (.mset xs)) (hx : litOf A x = some (.int .i64 n, q)) (hp : p) (hq : q)
    (hn : KW P (.ops all rest :: k) .normal ⟨A.n, (d, sB (decide (n ∈ xs))) :: A.sl, A.rs⟩ Q) : KW P (.ops all (op :: rest) :: k) .normal A Q := by
  have hlt : d < A.n := by simpa [Nat.blt, Nat.succ_le_iff] using hlt
  refine KW.op hg (fun o h tm w hs => ?_) hn
  obtain ⟨kt, et, inf, hu, hk, hi, hz⟩ := lay_map hl hT
  obtain ⟨b, es, clock, h1, h2, h3, h4, h5⟩ := hs.res i _ hr
  have hmv : evl tm m = .map (some b) := (show evl tm m = h i from rd_ok hs hm hp).trans h1
  have hxv := (litOf_ok hs hx hq).1
  have hzv : (zeroValue et).run P w = .ok (.bool false) w := by simp [zeroValue, typeInfo, hi, hz]
  refine ⟨_, .bool (decide (n ∈ xs)), w, o, h, ?_, .inl rfl, ?_, Ext.refl o w⟩
  · simp only [execOp, ho, hmv, hxv]
    refine value_of ?_
    rcases findNow_set n es.toList 0 h4 with ⟨g1, j, e, _, _, _, g4⟩ | ⟨g1, g4⟩
    · have hin : n ∈ xs := (h5 n).1 g1
      simp [Instr.lookup, run_underlying hu, run_getMap h2, run_checkKey hk, run_findKey hk g4, hin]
    · have hin : ¬ n ∈ xs := fun hx => g1 ((h5 n).2 hx)
      simp [Instr.lookup, run_underlying hu, run_getMap h2, run_checkKey hk, run_findKey hk g4, hin, hzv]
  · simpa only [Act.put, hd] using hs.put hlt (sv := sB (decide (n ∈ xs))) (show RepV o w (.lit (.bool (decide (n ∈ xs)))) _ from ⟨rfl, rfl⟩)

theorem KW.makeMap {all : Array Oper} {op : Oper} {rest : List Oper} {T d : Nat} (ho : op.op = .makeMap T none) (hg : op.guard = none) (hd : op.dst = some d) (hlt : Nat.blt d A.n = true) (hf : freshB A d = true)
    (hn : KW P (.ops all rest :: k) .normal ⟨A.n, (d, .e (.r d)) :: A.sl, (d, .mset []) :: A.rs⟩ Q) : KW P (.ops all (op :: rest) :: k) .normal A Q := by
  have hlt : d < A.n := by simpa [Nat.blt, Nat.succ_le_iff] using hlt
  refine KW.op hg (fun o h tm w hs => ?_) hn
  have ha := Sat.alloc hs hlt hf (obj := .map #[] 0) (v := .map (some w.heap.size)) (r := .mset []) (sv := .e (.r d))
    ⟨w.heap.size, #[], 0, by simp [updH], heap_alloc_new w _, by simp [updO], by simp, by simp⟩ (by simp [SvOk, EvOk, updH])
  refine ⟨_, .map (some w.heap.size), _, updO o w.heap.size (.hd d), updH h d (.map (some w.heap.size)), ?_, .inl rfl, ?_, ha.2⟩
  · simp only [execOp, ho]
    exact value_of rfl
  · simpa only [Act.put, hd] using ha.1

/-- put into the set -/
theorem KW.mapPut (hl : LayOk P lay) {all : Array Oper} {op : Oper} {rest : List Oper} {T i sz : Nat} {ag : Bool} {z : List Value} {m x : Operand} {xs : List Int} {n : Int} {p q : Prop}
    (ho : op.op = .mapUpdate T m x (.const (.bool true))) (hg : op.guard = none) (hd : op.dst = none) (hT : lk lay T = some ⟨sz, ag, .mapIB, z⟩) (hm : rd A m = some (.r i, p)) (hr : lk A.rs i = some (.mset xs)) (hx : litOf A x = some (.int .i64 n, q)) (hp : p) (hq : q)
    (hn : KW P (.ops all rest :: k) .normal ⟨A.n, A.sl, (i, .mset (n :: xs)) :: A.rs⟩ Q) : KW P (.ops all (op :: rest) :: k) .normal A Q := by
  refine KW.op hg (fun o h tm w hs => ?_) hn
  obtain ⟨kt, et, inf, hu, hk, hi, hz⟩ := lay_map hl hT
  obtain ⟨b, es, clock, h1, h2, h3, h4, h5⟩ := hs.res i _ hr
  have hmv : evl tm m = .map (some b) := (show evl tm m = h i from rd_ok hs hm hp).trans h1
  have hxv := (litOf_ok hs hx hq).1
  have hcv : evl tm (.const (.bool true)) = .bool true := rfl
  have hblt : b < w.heap.size := (hs.tags b).1 i h3
  have fin : ∀ (es' : Array MapEntry) (c' : Nat), SetE es' (n :: xs) → (Instr.mapUpdate T (.map (some b)) (.int .i64 n) (.bool true)).run P w = .ok () { w with heap := w.heap.setIfInBounds b (.map es' c') } →
      ∃ x v w' o' h', (execOp (evl tm) op).run P w = .ok x w' ∧ (x = .value v ∨ (x = .skip ∧ v = undef)) ∧ Sat o' h' ⟨A.n, A.sl, (i, .mset (n :: xs)) :: A.rs⟩ ((⟨tm, []⟩ : Act).put op.dst v).tmps w' ∧ Ext o w o' w' := by
    intro es' c' hse hrun
    have hoth : ∀ b', b' ≠ b → ({ w with heap := w.heap.setIfInBounds b (.map es' c') } : World).heap[b']? = w.heap[b']? := fun b' hne => by
      show (w.heap.setIfInBounds b (.map es' c'))[b']? = _
      rw [Array.getElem?_setIfInBounds_ne (Ne.symm hne)]
    have hsz : ({ w with heap := w.heap.setIfInBounds b (.map es' c') } : World).heap.size = w.heap.size := by show (w.heap.setIfInBounds _ _).size = _; simp
    have hc : Chg o h w o h { w with heap := w.heap.setIfInBounds b (.map es' c') } (fun j => j = i) A := by
      refine ⟨fun b' hb' => ⟨hb', hoth b' ?_⟩, fun j b' hj hb' => ⟨hb', hoth b' ?_⟩, fun j hj => absurd rfl hj⟩
      · rintro rfl; rw [h3] at hb'; cases hb'
      · rintro rfl; rw [h3] at hb'; cases hb'; exact hj rfl
    refine ⟨.skip, undef, _, o, h, ?_, .inr ⟨rfl, rfl⟩, ?_, ⟨Nat.le_of_eq hsz.symm, rfl, rfl, rfl, Nat.le_refl _, fun b' hb' _ => ⟨hb', hoth b' ?_⟩, fun b' hb' _ => ⟨hb', hoth b' ?_⟩⟩⟩
    · simp only [execOp, ho, hmv, hxv, hcv]
      simp [hrun]
    · simp only [Act.put, hd]
      refine ⟨hs.size, fun b' => by rw [hsz]; exact hs.tags b', fun s x hl => hc.slot hs s x hl, fun j r' hl => ?_⟩
      rw [lk_cons] at hl
      split at hl
      · rename_i e; subst e; cases hl
        refine ⟨b, es', c', h1, ?_, h3, hse.1, hse.2⟩
        show (w.heap.setIfInBounds b (.map es' c'))[b]? = _
        rw [Array.getElem?_setIfInBounds_self]; simp [hblt]
      · rename_i hne; exact hc.resOk hs j r' (fun e => hne e.symm) hl
    · rintro rfl; rw [h3] at hb'; cases hb'
    · rintro rfl; rw [h3] at hb'; cases hb'
  rcases findNow_set n es.toList 0 h4 with ⟨g1, j, e, _, g2, g3, g4⟩ | ⟨g1, g4⟩
  · have hin : n ∈ xs := (h5 n).1 g1
    rw [Nat.sub_zero] at g2
    have g2' : es[j]? = some e := by simpa using g2
    refine fin (es.modify j fun e => ⟨.int .i64 n, .bool true, e.born⟩) clock ⟨fun e' he' => ?_, fun m => ?_⟩ ?_
    · obtain ⟨q, hq'⟩ := List.mem_iff_getElem?.1 he'
      rw [Array.getElem?_toList, Array.getElem?_modify] at hq'
      split at hq'
      · rw [Option.map_eq_some_iff] at hq'
        obtain ⟨e2, _, rfl⟩ := hq'
        exact ⟨n, rfl, rfl⟩
      · exact h4 e' (List.mem_of_getElem? (by simpa using hq'))
    · rw [List.mem_cons, ← h5 m]
      constructor
      · rintro ⟨e', he', hk'⟩
        obtain ⟨q, hq'⟩ := List.mem_iff_getElem?.1 he'
        rw [Array.getElem?_toList, Array.getElem?_modify] at hq'
        split at hq'
        · rw [Option.map_eq_some_iff] at hq'
          obtain ⟨e2, _, rfl⟩ := hq'
          simp at hk'
          exact .inl hk'.symm
        · exact .inr ⟨e', List.mem_of_getElem? (by simpa using hq'), hk'⟩
      · have self : ∃ e' ∈ (es.modify j fun e => ⟨.int .i64 n, .bool true, e.born⟩).toList, e'.key = .int .i64 n := by
          refine ⟨⟨.int .i64 n, .bool true, e.born⟩, List.mem_of_getElem? (i := j) ?_, rfl⟩
          rw [Array.getElem?_toList, Array.getElem?_modify, if_pos rfl, g2']; rfl
        rintro (rfl | ⟨e', he', hk'⟩)
        · exact self
        · obtain ⟨q, hq'⟩ := List.mem_iff_getElem?.1 he'
          by_cases hqj : j = q
          · subst hqj
            rw [g2] at hq'
            cases hq'
            rw [g3] at hk'
            simp at hk'
            rw [← hk']; exact self
          · refine ⟨e', List.mem_of_getElem? (i := q) ?_, hk'⟩
            rw [Array.getElem?_toList, Array.getElem?_modify, if_neg hqj]
            simpa using hq'
    · have hst : (Instr.keyThatStays (.int .i64 n) (.int .i64 n)).run P w = .ok (.int .i64 n) w := by simp [Instr.keyThatStays, Instr.sameBits]
      have hkk : ((es[j]?).map (·.key)).getD (.int .i64 n) = .int .i64 n := by rw [g2']; simpa using g3
      simp [Instr.mapUpdate, run_underlying hu, run_getMap h2, run_checkKey hk, run_findKey hk g4, hkk, hst, run_setMap h2]
  · have hin : ¬ n ∈ xs := fun hx => g1 ((h5 n).2 hx)
    refine fin (es.push ⟨.int .i64 n, .bool true, clock⟩) (clock + 1) ⟨fun e' he' => ?_, fun m => ?_⟩ ?_
    · rw [Array.toList_push, List.mem_append, List.mem_singleton] at he'
      rcases he' with he' | rfl
      · exact h4 e' he'
      · exact ⟨n, rfl, rfl⟩
    · rw [List.mem_cons, ← h5 m]
      constructor
      · rintro ⟨e', he', hk'⟩
        rw [Array.toList_push, List.mem_append, List.mem_singleton] at he'
        rcases he' with he' | rfl
        · exact .inr ⟨e', he', hk'⟩
        · simp at hk'; exact .inl hk'.symm
      · rintro (rfl | ⟨e', he', hk'⟩)
        · exact ⟨⟨.int .i64 m, .bool true, clock⟩, by rw [Array.toList_push]; simp, rfl⟩
        · exact ⟨e', by rw [Array.toList_push]; simp [he'], hk'⟩
    · simp [Instr.mapUpdate, run_underlying hu, run_getMap h2, run_checkKey hk, run_findKey hk g4, run_setMap h2]
end

/-- one number of a row of the call's own is written over -/
theorem KW.updI {P : Program} {k : List K} {A : St} {Q : Exit → St → Prop} {ex : Exit} (i : Nat) {E e : Nat} {a : List Int} {v : Int} (hl : lk A.rs i = some (.own E (updV (ints a) e 0 [.lit (.int .i64 v)])))
    (hk : KW P k ex ⟨A.n, A.sl, (i, .own E (ints (a.set e v))) :: A.rs⟩ Q) : KW P k ex A Q := by
  refine KW.convR i (ints (a.set e v)) (g := fun e' _ => .lit (.int .i64 ((a.set e v).getD e' 0))) hl (by simp only [ints, List.length_set]) (fun e' q he hq => ?_) hk
  have : q = 0 := by omega
  subst this
  by_cases h : e' = e
  · subst h
    simp [Nat.beq_refl, Nat.blt, nthD, List.getD_eq_getElem?_getD, he]
    exact CVEq.refl (.lit (.int .i64 v))
  · have hb : Nat.beq e' e = false := by
      cases hb : Nat.beq e' e with
      | false => rfl
      | true => exact absurd (Nat.eq_of_beq_eq_true hb) h
    simp [hb, CVEq, List.getD_eq_getElem?_getD, List.getElem?_set_ne (Ne.symm h)]
end Go.Sy

/-
  SYMBOLIC STATES, PART W: a region that draws its order and ends in one operation that waits for all others; contracts of the library that leave memory as it is.
-/
namespace Go.Sy
variable [Drw]
/-- every operation but the last must come before a later one -/
def edgeTo : List Edge → Nat → Bool
  | [], _ => false
  | e :: l, j => (Region.binds .any e && Nat.beq e.on j) || edgeTo l j
def laterTo : List Oper → Nat → Bool
  | [], _ => false
  | o :: l, j => edgeTo o.after.toList j || laterTo l j
def tailAll (l : List Oper) : Nat → List Oper → Bool
  | _, [] => true
  | _, [_] => true
  | j, _ :: r => laterTo r j && tailAll l (j + 1) r
def tailOk (ops : Array Oper) : Bool := tailAll ops.toList 0 ops.toList
theorem edgeTo_ok : ∀ {l : List Edge} {j : Nat}, edgeTo l j = true → ∃ e ∈ l, Region.binds .any e = true ∧ e.on = j
  | [], _, h => by simp [edgeTo] at h
  | e :: l, j, h => by
    simp only [edgeTo, Bool.or_eq_true, Bool.and_eq_true] at h
    rcases h with ⟨h1, h2⟩ | h
    · exact ⟨e, .head _, h1, Nat.eq_of_beq_eq_true h2⟩
    · obtain ⟨e', h1, h2⟩ := edgeTo_ok h; exact ⟨e', .tail _ h1, h2⟩
theorem laterTo_ok : ∀ {l : List Oper} {j : Nat}, laterTo l j = true → ∃ (i : Nat) (o : Oper), l[i]? = some o ∧ ∃ e ∈ o.after.toList, Region.binds .any e = true ∧ e.on = j
  | [], _, h => by simp [laterTo] at h
  | o :: l, j, h => by
    simp only [laterTo, Bool.or_eq_true] at h
    rcases h with h | h
    · exact ⟨0, o, rfl, edgeTo_ok h⟩
    · obtain ⟨i, o', h1, h2⟩ := laterTo_ok h; exact ⟨i + 1, o', by simpa using h1, h2⟩
theorem tailAll_ok {L : List Oper} : ∀ {l : List Oper} {j : Nat}, tailAll L j l = true → ∀ i, i + 1 < l.length → ∃ (q : Nat) (o : Oper), i < q ∧ l[q]? = some o ∧ ∃ e ∈ o.after.toList, Region.binds .any e = true ∧ e.on = j + i
  | [], _, _, i, hi => by simp at hi
  | [_], _, _, i, hi => by simp at hi
  | x :: y :: r, j, h, i, hi => by
    simp only [tailAll, Bool.and_eq_true] at h
    cases i with
    | zero =>
      obtain ⟨q, o, h1, h2⟩ := laterTo_ok h.1
      exact ⟨q + 1, o, by omega, by simpa using h1, by simpa using h2⟩
    | succ i =>
      obtain ⟨q, o, h0, h1, h2⟩ := tailAll_ok h.2 i (by simpa using hi)
      exact ⟨q + 1, o, by omega, by simpa using h1, by rw [show j + (i + 1) = j + 1 + i by omega]; exact h2⟩

section
variable {P : Program} {lay : Lay} {A A' : St} {Q : Exit → St → Prop} {fns : Fns}
/-- A region that draws its order, whose last operation waits for all others: the others come to what the written order comes to, then the last goes. -/
theorem KW.drawnTail (hl : LayOk P lay) (hT : FnsOk P fns) (hm : P.follows .mixedOrders = true) {id : Nat} {ops : Array Oper} {k : List K} {φ : Prop} {n : Nat} {last : Oper} (hsize : ops.size = n + 1) (hlast : ops[n]? = some last) (hdep : depOk ops = true) (htl : tailOk ops = true) (hg : drawGo lay fns ops (takeN n ops.toList) A True = some (A', φ)) (hφ : φ)
    (hn : KW P (.ops ops [last] :: k) .normal A' Q) : KW P (.code (.region id ops true) :: k) .normal A Q := by
  rw [takeN_eq] at hg
  obtain ⟨_, prs, hlen, hA', hprs⟩ := drawGo_spec hg hφ
  have dep := depOk_ok hdep
  have hlen' : prs.length = n := by simp only [List.length_take, Array.length_toList, hsize] at hlen; omega
  have htail : ∀ i, i < n → ∃ (q : Nat) (o : Oper), i < q ∧ ops[q]? = some o ∧ ∃ e ∈ o.after, Region.binds .any e = true ∧ e.on = i := fun i hi => by
    obtain ⟨q, o, h0, h1, e, h2, h3, h4⟩ := tailAll_ok htl i (by simp [hsize, hi])
    exact ⟨q, o, h0, by simpa using h1, e, by simpa using h2, h3, by simpa using h4⟩
  have hop : ∀ (i : Nat) op, i < n → ops[i]? = some op → ∃ d y ψ, prs[i]? = some (d, y) ∧ op.dst = some d ∧ Nat.blt d A.n = true ∧ stepD lay fns ⟨A.n, pickS ((prs.take i).reverse ++ A.sl) (looks ops op), A.rs⟩ ops op = some (y, ψ) ∧ ψ :=
    fun i op hin hi => hprs i op (by rw [List.getElem?_take, if_pos hin]; simpa using hi)
  have hinv : ∀ (j : Nat) d y, prs[j]? = some (d, y) → ∃ op, ops[j]? = some op ∧ op.dst = some d := fun j d y hj => by
    have hltn : j < n := by rw [← hlen']; exact (List.getElem?_eq_some_iff.1 hj).1
    have hlt : j < ops.size := by omega
    obtain ⟨d', y', ψ, g1, g2, _⟩ := hop j ops[j] hltn (Array.getElem?_eq_getElem hlt)
    rw [hj] at g1
    cases g1
    exact ⟨_, Array.getElem?_eq_getElem hlt, g2⟩
  have hpw : prs.Pairwise (fun a b => a.1 ≠ b.1) := by
    rw [List.pairwise_iff_getElem]
    intro i j hi hj hij e
    obtain ⟨oi, h1, h2⟩ := hinv i prs[i].1 prs[i].2 (List.getElem?_eq_getElem hi)
    obtain ⟨oj, h3, h4⟩ := hinv j prs[j].1 prs[j].2 (List.getElem?_eq_getElem hj)
    have := dep.dist i j oi oj _ h1 h3 h2 (by rw [h4, e])
    omega
  intro o h tm w hs
  show (Code.region id ops true).wp P (kq P (lift Q o w) k) ⟨tm, []⟩ w
  refine wp_region_any hm ?_
  have main : ∀ (fuel : Nat) (listed : Array Bool) (o' : Nat → Tag) (h' : Nat → Value) (tm' : Array Value) (w' : World), listed.size = ops.size → listed.getD n false = false → cntU (fun j => listed.getD j false) n + 1 ≤ fuel →
      (∀ (i : Nat) oi, ops[i]? = some oi → listed.getD i false = true → ∀ e ∈ oi.after, Region.binds .any e = true → listed.getD e.on false = true) →
      Sat o' h' ⟨A.n, selL (fun j => listed.getD j false) 0 prs ++ A.sl, A.rs⟩ tm' w' → Ext o w o' w' → wpAny P .any ops (kq P (lift Q o w) k) fuel listed ⟨tm', []⟩ w' := by
    intro fuel
    -- all have come up
    have full : ∀ (listed : Array Bool) (o' : Nat → Tag) (h' : Nat → Value) (tm' : Array Value) (w' : World), (∀ j, j < n → listed.getD j false = true) →
        Sat o' h' ⟨A.n, selL (fun j => listed.getD j false) 0 prs ++ A.sl, A.rs⟩ tm' w' → Ext o w o' w' → kq P (lift Q o w) (.ops ops [last] :: k) .normal ⟨tm', []⟩ w' := by
      intro listed o' h' tm' w' hall hs' hx
      refine kq_mono (lift_trans hx) (.ops ops [last] :: k) .normal _ w' (hn o' h' tm' w' ?_)
      subst hA'
      refine ⟨hs'.size, hs'.tags, fun t x hl => hs'.slot t x ?_, hs'.res⟩
      simp only at hl ⊢
      by_cases hex : ∃ y, (t, y) ∈ prs
      · obtain ⟨y, hy⟩ := hex
        have e1 := mem_lk (base := A.sl) (l := prs.reverse) (List.pairwise_reverse.2 (hpw.imp fun h => Ne.symm h)) (List.mem_reverse.2 hy)
        rw [e1] at hl
        cases hl
        obtain ⟨j, hj⟩ := List.mem_iff_getElem?.1 hy
        refine mem_lk (hpw.sublist (selL_sub _ _ _)) (selL_mem.2 ⟨j, hj, ?_⟩)
        have : j < n := by rw [← hlen']; exact (List.getElem?_eq_some_iff.1 hj).1
        simpa using hall j this
      · have hno : ∀ y, (t, y) ∉ prs := fun y hy => hex ⟨y, hy⟩
        rw [nomem_lk fun y hy => hno y (List.mem_reverse.1 hy)] at hl
        rw [nomem_lk fun y hy => hno y ((selL_sub _ _ _).subset hy)]
        exact hl
    have done : ∀ (listed : Array Bool), listed.size = ops.size → Region.ready .any ops listed = [] → ∀ j, j < ops.size → listed.getD j false = true := by
      intro listed hsz hr j
      induction j using Nat.strongRecOn with
      | ind j ih =>
        intro hj
        cases hlj : listed.getD j false with
        | true => rfl
        | false =>
          exfalso
          have : j ∈ Region.ready .any ops listed := by
            rw [mem_ready]
            refine ⟨?_, ops[j], Array.getElem?_eq_getElem hj, fun e he hb => ?_⟩
            · rw [Array.getD_eq_getD_getElem?] at hlj ⊢
              rw [Array.getElem?_eq_getElem (by omega)] at hlj ⊢
              exact hlj
            · have hlt := dep.below j ops[j] (Array.getElem?_eq_getElem hj) e he hb
              exact ih e.on hlt (by omega)
          rw [hr] at this
          cases this
    induction fuel with
    | zero =>
      intro listed o' h' tm' w' hsz hnl hc
      omega
    | succ fuel ih =>
      intro listed o' h' tm' w' hsz hnl hc hcl hs' hx
      refine ⟨fun hr => (by have := done listed hsz hr n (by omega); rw [hnl] at this; cases this), fun i hi => ?_⟩
      obtain ⟨hun, op, hop', haft⟩ := mem_ready.1 hi
      by_cases hin : i = n
      · subst hin
        rw [hlast] at hop'
        cases hop'
        have hall : ∀ d j, j < i → i ≤ j + d → listed.getD j false = true := by
          intro d
          induction d with
          | zero => intro j h1 h2; omega
          | succ d ihd =>
            intro j h1 h2
            obtain ⟨q, oq, h3, h4, e, h5, h6, h7⟩ := htail j h1
            have hq : q < ops.size := (Array.getElem?_eq_some_iff.1 h4).1
            by_cases hqi : q = i
            · subst hqi
              rw [hlast] at h4
              cases h4
              rw [← h7]; exact haft e h5 h6
            · have := ihd q (by omega) (by omega)
              rw [← h7]; exact hcl q oq h4 this e h5 h6
        have hf := full listed o' h' tm' w' (fun j hj => hall i j hj (by omega)) hs' hx
        have hget : ∀ j, j < ops.size → (listed.setIfInBounds i true).getD j false = true := fun j hj => by
          by_cases hji : j = i
          · subst hji
            rw [Array.getD_eq_getD_getElem?, Array.getElem?_setIfInBounds_self]
            simp [hsz, hj]
          · rw [getD_set_ne false (Ne.symm hji)]
            exact hall i j (by omega) (by omega)
        have hrdy : Region.ready .any ops (listed.setIfInBounds i true) = [] := by
          cases hr : Region.ready .any ops (listed.setIfInBounds i true) with
          | nil => rfl
          | cons j l =>
            exfalso
            have hj : j ∈ Region.ready .any ops (listed.setIfInBounds i true) := by rw [hr]; exact .head _
            obtain ⟨h1, oj, h2, _⟩ := mem_ready.1 hj
            have hlt : j < ops.size := (Array.getElem?_eq_some_iff.1 h2).1
            have := hget j hlt
            rw [Array.getD_eq_getD_getElem?, Array.getElem?_eq_getElem (by simp; omega)] at this h1
            simp at this h1
            rw [h1] at this
            cases this
        have hnext : ∀ a wz, kq P (lift Q o w) k .normal a wz → wpAny P .any ops (kq P (lift Q o w) k) fuel (listed.setIfInBounds i true) a wz := fun a wz hq => by
          cases fuel with
          | zero => exact ⟨hrdy, hq⟩
          | succ _ => exact ⟨fun _ => hq, fun j hj => by rw [hrdy] at hj; cases hj⟩
        unfold wpOp
        simp only [hlast]
        replace hf : wpList P ops (kq P (lift Q o w) k) [last] ⟨tm', []⟩ w' := hf
        unfold wpList at hf
        split at hf
        · rename_i hw
          rw [if_pos hw]
          exact hf.imp (fun h => upon_mono (fun a w => hnext a w) (fun _ _ _ h => h) h) (fun h => h)
        · rename_i hw
          rw [if_neg hw]
          exact hnext _ _ hf
      have hlt : i < ops.size := (Array.getElem?_eq_some_iff.1 hop').1
      have hun' : listed.getD i false = false := by
        rw [Array.getD_eq_getD_getElem?, Array.getElem?_eq_getElem (by omega)] at hun ⊢
        exact hun
      obtain ⟨d, y, ψ, g1, g2, g3, g4, g5⟩ := hop i op (by omega) hop'
      have hle : St.le ⟨A.n, pickS ((prs.take i).reverse ++ A.sl) (looks ops op), A.rs⟩ ⟨A.n, selL (fun j => listed.getD j false) 0 prs ++ A.sl, A.rs⟩ := by
        refine ⟨rfl, rfl, fun t x hl => ?_⟩
        obtain ⟨e1, hm⟩ := pickS_lk hl
        simp only at e1 ⊢
        by_cases hex : ∃ (j : Nat) (y' : SV), prs[j]? = some (t, y')
        · obtain ⟨j, y', hj⟩ := hex
          obtain ⟨oj, hoj, hdj⟩ := hinv j t y' hj
          have huniq : ∀ (j' : Nat) y'', prs[j']? = some (t, y'') → j' = j := fun j' y'' hj' => by
            obtain ⟨oj', hoj', hdj'⟩ := hinv j' t y'' hj'
            exact dep.dist j' j oj' oj t hoj' hoj hdj' hdj
          rcases dep.look i j op oj t hop' hoj hdj hm with ⟨hji, e, he, hb, heq⟩ | ⟨hij, e, he, hb, heq⟩
          · have hlj : listed.getD j false = true := by rw [← heq]; exact haft e he hb
            rw [mem_lk (List.pairwise_reverse.2 ((hpw.sublist (List.take_sublist i prs)).imp fun h => Ne.symm h)) (List.mem_reverse.2 (List.mem_of_getElem? (i := j) (by rw [List.getElem?_take, if_pos hji]; exact hj)))] at e1
            cases e1
            exact mem_lk (hpw.sublist (selL_sub _ _ _)) (selL_mem.2 ⟨j, hj, by simpa using hlj⟩)
          · have hlj : listed.getD j false = false := by
              cases hlj : listed.getD j false with
              | false => rfl
              | true =>
                have := hcl j oj hoj hlj e he hb
                rw [heq, hun'] at this
                cases this
            rw [nomem_lk fun y'' hy => ?_] at e1
            · rw [nomem_lk fun y'' hy => ?_]
              · exact e1
              · obtain ⟨j', hj', hl'⟩ := selL_mem.1 hy
                rw [huniq j' y'' hj'] at hl'
                simp [hlj] at hl'
            · obtain ⟨j', hj'⟩ := List.mem_iff_getElem?.1 (List.mem_reverse.1 hy)
              rw [List.getElem?_take] at hj'
              split at hj'
              · have := huniq j' y'' hj'; omega
              · cases hj'
        · have hno : ∀ y, (t, y) ∉ prs := fun y hy => by
            obtain ⟨j, hj⟩ := List.mem_iff_getElem?.1 hy
            exact hex ⟨j, y, hj⟩
          rw [nomem_lk fun y hy => hno y (List.mem_of_mem_take (List.mem_reverse.1 hy))] at e1
          rw [nomem_lk fun y hy => hno y ((selL_sub _ _ _).subset hy)]
          exact e1
      refine stepD_wp hl hT hop' hle hs' g2 g3 g4 g5 fun o2 h2 v w1 hs2 hext => ?_
      have hget : ∀ j, (listed.setIfInBounds i true).getD j false = if j = i then true else listed.getD j false := fun j => by
        by_cases hji : j = i
        · subst hji
          rw [if_pos rfl, Array.getD_eq_getD_getElem?, Array.getElem?_setIfInBounds_self]
          simp [hsz, hlt]
        · rw [if_neg hji, getD_set_ne false (Ne.symm hji)]
      refine ih (listed.setIfInBounds i true) o2 h2 _ w1 (by simp [hsz]) (by rw [hget, if_neg (Ne.symm hin)]; exact hnl) ?_ ?_ ⟨hs2.size, hs2.tags, fun t x hlk => hs2.slot t x ?_, hs2.res⟩ (hx.trans hext)
      · have := cntU_upd (ls := fun j => listed.getD j false) (ls' := fun j => (listed.setIfInBounds i true).getD j false) (i := i) (n := n) (by omega) hun' (by simp [hget]) fun j hj => by simp [hget, hj]
        omega
      · intro j oj hoj hlj e he hb
        rw [hget] at hlj ⊢
        by_cases he' : e.on = i
        · rw [if_pos he']
        · rw [if_neg he']
          by_cases hji : j = i
          · subst hji
            rw [hop'] at hoj
            cases hoj
            exact haft e he hb
          · rw [if_neg hji] at hlj
            exact hcl j oj hoj hlj e he hb
      · simp only at hlk ⊢
        rw [lk_cons]
        by_cases hdt : d = t
        · subst hdt
          rw [if_pos rfl]
          have := mem_lk (base := A.sl) (hpw.sublist (selL_sub (fun j => (listed.setIfInBounds i true).getD j false) 0 prs)) (selL_mem.2 ⟨i, g1, by simp [hget]⟩)
          rw [this] at hlk
          exact hlk
        · rw [if_neg hdt]
          by_cases hex : ∃ (j : Nat) (y' : SV), prs[j]? = some (t, y') ∧ (listed.setIfInBounds i true).getD j false = true
          · obtain ⟨j, y', hj, hlj⟩ := hex
            have hji : j ≠ i := by
              rintro rfl
              rw [g1] at hj
              cases hj
              exact hdt rfl
            rw [hget, if_neg hji] at hlj
            have := mem_lk (base := A.sl) (hpw.sublist (selL_sub (fun j => (listed.setIfInBounds i true).getD j false) 0 prs)) (selL_mem.2 ⟨j, hj, by simpa [hget, hji] using hlj⟩)
            rw [this] at hlk
            cases hlk
            exact mem_lk (hpw.sublist (selL_sub _ _ _)) (selL_mem.2 ⟨j, hj, by simpa using hlj⟩)
          · rw [nomem_lk fun y' hy => ?_] at hlk
            · rw [nomem_lk fun y' hy => ?_]
              · exact hlk
              · obtain ⟨j, hj, hlj⟩ := selL_mem.1 hy
                refine hex ⟨j, y', hj, ?_⟩
                rw [hget]
                split
                · rfl
                · simpa using hlj
            · obtain ⟨j, hj, hlj⟩ := selL_mem.1 hy
              exact hex ⟨j, y', hj, by simpa using hlj⟩
  refine main ops.size (Array.replicate ops.size false) o h tm w.drew (by simp) (by simp [Array.getD_eq_getD_getElem?, hsize]) ?_ ?_ ?_ (Ext.drew o w)
  · have : ∀ n, cntU (fun j => (Array.replicate ops.size false).getD j false) n ≤ n := by
      intro n
      induction n with
      | zero => exact Nat.le_refl _
      | succ n ih => simp only [cntU]; split <;> omega
    have := this n
    omega
  · intro i oi hoi hli
    simp [Array.getD_eq_getD_getElem?, Array.getElem?_replicate] at hli
    split at hli <;> cases hli
  · have hs' := hs.drew
    refine ⟨hs'.size, hs'.tags, fun t x hlk => hs'.slot t x ?_, hs'.res⟩
    rw [nomem_lk fun y hy => ?_] at hlk
    · exact hlk
    · obtain ⟨j, hj, hlj⟩ := selL_mem.1 hy
      simp [Array.getD_eq_getD_getElem?, Array.getElem?_replicate] at hlj
      split at hlj <;> cases hlj

/-- as far as a region that draws its order and ends in such an operation -/
theorem KW.goDT {k k' : List K} {e : Exit} {A'' : St} (hl : LayOk P lay) (hT : FnsOk P fns) (hm : P.follows .mixedOrders = true) (f : Nat) {id : Nat} {ops : Array Oper} {φ ψ : Prop} (h : run2 lay fns f k e A True = (.code (.region id ops true) :: k', .normal, A', φ)) (n : Nat) {last : Oper} (hsize : ops.size = n + 1) (hlast : ops[n]? = some last) (hdep : depOk ops = true) (htl : tailOk ops = true)
    (hg : drawGo lay fns ops (takeN n ops.toList) A' True = some (A'', ψ)) (hφ : φ) (hψ : ψ) (hn : KW P (.ops ops [last] :: k') .normal A'' Q) : KW P k e A Q :=
  KW.go hl hT f h hφ (KW.drawnTail hl hT hm hsize hlast hdep htl hg hψ hn)

/-- a function of one number that leaves memory as it is -/
theorem DoesF.ofSame {f : FuncId} {ys : List EV} {args : Array Value} {u : Value} (h1 : u.oneCell' = true) (ha : ∀ (o : Nat → Tag) (h : Nat → Value) (args' : Array Value) (w : World), Sat o h ⟨ys.length, idx 0 ys, []⟩ args' w → args' = args)
    (hc : ∀ w, Calls P f args w fun e w' => e = .returned u ∧ w' = w) : DoesF P f ys [] (.e (.c (.lit u))) [] := by
  intro o h args' w hs
  have := ha o h args' w hs
  subst this
  refine (hc w).mono ?_
  rintro e w' ⟨rfl, rfl⟩
  refine ⟨u, o, h, rfl, ⟨rfl, hs.tags, fun s x hl => ?_, fun i r hl => by simp [lk] at hl⟩, Ext.refl o _⟩
  rw [lk_cons] at hl
  split at hl
  · rename_i e; subst e; cases hl; exact ⟨rfl, h1⟩
  · simp [lk] at hl
end
end Go.Sy
