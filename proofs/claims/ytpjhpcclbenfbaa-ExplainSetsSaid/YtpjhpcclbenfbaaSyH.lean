/-
  SYMBOLIC STATES, PART H: steps that make, write or grow memory of the call's own.
-/
import Derived.Test.YtpjhpcclbenfbaaSyG
set_option linter.unusedVariables false
set_option linter.unusedSimpArgs false
namespace Go.Sy

def memN (d : Nat) : List Nat → Bool
  | [] => false
  | x :: l => Nat.beq x d || memN d l
def EV.men (d : Nat) : EV → Bool
  | .r i => Nat.beq i d
  | .pt i _ _ _ => Nat.beq i d
  | .fn _ hs => memN d hs
  | .gd _ x => x.men d
  | _ => false
def menEs (d : Nat) : List EV → Bool
  | [] => false
  | x :: l => x.men d || menEs d l
def SV.men (d : Nat) : SV → Bool
  | .e x => x.men d
  | .tup xs => menEs d xs
def Res.men (d : Nat) : Res → Bool
  | .box _ cs _ => menEs d cs
  | _ => false
def freshS (d : Nat) : List (Nat × SV) → Bool
  | [] => true
  | (_, x) :: l => !x.men d && freshS d l
def freshR (d : Nat) : List (Nat × Res) → Bool
  | [] => true
  | (j, r) :: l => !Nat.beq j d && (!r.men d && freshR d l)
def freshB (A : St) (d : Nat) : Bool := freshS d A.sl && freshR d A.rs

theorem memN_ok {d : Nat} : ∀ {l : List Nat}, memN d l = false → ∀ x ∈ l, x ≠ d
  | [], _, x, hx => by simp at hx
  | y :: l, hm, x, hx => by
    simp only [memN, Bool.or_eq_false_iff] at hm
    rcases List.mem_cons.1 hx with rfl | hx
    · rintro rfl; simp at hm
    · exact memN_ok hm.2 x hx

section
variable {P : Program} {lay : Lay} {o o' : Nat → Tag} {h h' : Nat → Value} {A : St} {tm : Array Value} {w w' : World}

theorem EvOk.hupd {x : EV} {v : Value} (hh : ∀ j, h' j ≠ h j → x.men j = false) (hx : EvOk o h w x v) : EvOk o h' w x v := by
  have key : ∀ j, x.men j = true → h' j = h j := fun j hj => Classical.byContradiction fun hne => by rw [hh j hne] at hj; cases hj
  induction x with
  | r i => show v = h' i; rw [key i (by simp [EV.men])]; exact hx
  | pt i k e q => show ∃ b, headOf (h' i) = some b ∧ _; rw [key i (by simp [EV.men])]; exact hx
  | fn g hs =>
    show v = .func (.func g) #[] (hs.map h').toArray
    have : hs.map h' = hs.map h := List.map_congr_left fun j hj => Classical.byContradiction fun hne => memN_ok (hh j hne) j hj rfl
    rw [this]; exact hx
  | gd b x ih => exact ⟨fun e => ih hh (hx.1 e) key, hx.2⟩
  | _ => exact hx

theorem menEs_ok {d : Nat} : ∀ {l : List EV}, menEs d l = false → ∀ (q : Nat) x, l[q]? = some x → x.men d = false
  | [], _, _, _, hq => by simp at hq
  | y :: l, hm, 0, x, hq => by simp only [menEs, Bool.or_eq_false_iff] at hm; simp at hq; subst hq; exact hm.1
  | y :: l, hm, q + 1, x, hq => by simp only [menEs, Bool.or_eq_false_iff] at hm; simp at hq; exact menEs_ok hm.2 q x hq

theorem SvOk.hupd {x : SV} {v : Value} (hh : ∀ j, h' j ≠ h j → x.men j = false) (hx : SvOk o h w x v) : SvOk o h' w x v := by
  cases x with
  | e x => exact EvOk.hupd hh hx
  | tup xs =>
    obtain ⟨vs, rfl, h1, h2⟩ := hx
    exact ⟨vs, rfl, h1, fun q y hq => let ⟨u, hu, hy⟩ := h2 q y hq; ⟨u, hu, hy.hupd fun j hj => menEs_ok (hh j hj) q y hq⟩⟩

theorem freshS_ok {d : Nat} : ∀ {l : List (Nat × SV)}, freshS d l = true → ∀ s x, lk l s = some x → x.men d = false
  | [], _, _, _, hl => by simp [lk] at hl
  | (j, y) :: l, hf, s, x, hl => by
    simp only [freshS, Bool.and_eq_true, Bool.not_eq_true'] at hf
    rw [lk_cons] at hl
    split at hl
    · cases hl; exact hf.1
    · exact freshS_ok hf.2 s x hl
theorem freshR_ok {d : Nat} : ∀ {l : List (Nat × Res)}, freshR d l = true → ∀ i r, lk l i = some r → i ≠ d ∧ r.men d = false
  | [], _, _, _, hl => by simp [lk] at hl
  | (j, y) :: l, hf, i, r, hl => by
    simp only [freshR, Bool.and_eq_true, Bool.not_eq_true'] at hf
    rw [lk_cons] at hl
    split at hl
    · rename_i e
      subst e
      cases hl
      refine ⟨?_, hf.2.1⟩
      rintro rfl; simp at hf
    · exact freshR_ok hf.2.2 i r hl

/-- from one memory to the next: what is stable stays, and so do all resources but those of T; handles whose value turns are named nowhere -/
structure Chg (o : Nat → Tag) (h : Nat → Value) (w : World) (o' : Nat → Tag) (h' : Nat → Value) (w' : World) (T : Nat → Prop) (A : St) : Prop where
  keep : Keep o w o' w'
  res : ∀ i b, ¬ T i → o b = .hd i → o' b = .hd i ∧ w'.heap[b]? = w.heap[b]?
  hh : ∀ j, h' j ≠ h j → freshB A j = true

theorem Chg.slot {T : Nat → Prop} (hc : Chg o h w o' h' w' T A) (hs : Sat o h A tm w) : ∀ s x, lk A.sl s = some x → SvOk o' h' w' x (tm.getD s undef) := by
  intro s x hl
  refine SvOk.hupd (h := h) (fun j hj => ?_) ((hs.slot s x hl).keep hc.keep)
  have := hc.hh j hj
  simp only [freshB, Bool.and_eq_true] at this
  exact freshS_ok this.1 s x hl

theorem ResOk.chg {i : Nat} {r : Res} (hk : Keep o w o' w') (hb : ∀ b, o b = .hd i → o' b = .hd i ∧ w'.heap[b]? = w.heap[b]?) (hi : h' i = h i) (hm : ∀ j, h' j ≠ h j → r.men j = false)
    (hr : ResOk o h w i r) : ResOk o' h' w' i r := by
  cases r with
  | gone => trivial
  | own E x =>
    cases x with
    | sl n k f =>
      obtain ⟨vs, hown, htag, hv⟩ := hr
      refine ⟨vs, ?_, fun b hb' => ?_, fun e q he hq => ?_⟩
      · rw [hi]
        refine ⟨hown.1, ?_⟩
        rcases hown.2 with h1 | ⟨g, cap, cur, h1, h2, h3, h4⟩
        · exact .inl h1
        · refine .inr ⟨g, cap, cur, h1, h2, ?_, h4⟩
          rw [(hb g (htag g (by rw [h1]; rfl))).2]; exact h3
      · rw [hi] at hb'; exact (hb b (htag b hb')).1
      · obtain ⟨u, hu, hx⟩ := hv e q he hq
        exact ⟨u, hu, hx.keep hk⟩
    | lit _ => exact hr.elim
    | clo _ _ _ _ => exact hr.elim
  | box T cs bk =>
    obtain ⟨b, vs, h0, h1, h2, h3, h4, h5⟩ := hr
    refine ⟨b, vs, h0, hi.trans h1, (hb b h3).2.trans h2, (hb b h3).1, h4, fun q x hq => ?_⟩
    obtain ⟨u, hu, hone, hx⟩ := h5 q x hq
    exact ⟨u, hu, hone, (hx.keep hk).hupd fun j hj => menEs_ok (hm j hj) q x hq⟩
  | mset xs =>
    obtain ⟨b, es, clock, h1, h2, h3, h4⟩ := hr
    exact ⟨b, es, clock, hi.trans h1, (hb b h3).2.trans h2, (hb b h3).1, h4⟩

theorem Chg.resOk {T : Nat → Prop} (hc : Chg o h w o' h' w' T A) (hs : Sat o h A tm w) : ∀ i r, ¬ T i → lk A.rs i = some r → ResOk o' h' w' i r := by
  intro i r hT hl
  have hf : ∀ j, h' j ≠ h j → i ≠ j ∧ r.men j = false := fun j hj => by
    have := hc.hh j hj
    simp only [freshB, Bool.and_eq_true] at this
    exact freshR_ok this.2 i r hl
  exact ResOk.chg hc.keep (fun b hb => hc.res i b hT hb) (Classical.byContradiction fun hne => (hf i hne).1 rfl) (fun j hj => (hf j hj).2) (hs.res i r hl)

/-! a new block -/
def updH (h : Nat → Value) (d : Nat) (v : Value) : Nat → Value := fun j => if j = d then v else h j
def updO (o : Nat → Tag) (b : Nat) (t : Tag) : Nat → Tag := fun j => if j = b then t else o j

theorem Sat.alloc (hs : Sat o h A tm w) {d : Nat} (hd : d < A.n) (hf : freshB A d = true) {obj : Obj} {v : Value} {r : Res}
    (hr : ResOk (updO o w.heap.size (.hd d)) (updH h d v) (w.alloc obj) d r) {sv : SV} (hsv : SvOk (updO o w.heap.size (.hd d)) (updH h d v) (w.alloc obj) sv v) :
    Sat (updO o w.heap.size (.hd d)) (updH h d v) ⟨A.n, (d, sv) :: A.sl, (d, r) :: A.rs⟩ (tm.setIfInBounds d v) (w.alloc obj) ∧ Ext o w (updO o w.heap.size (.hd d)) (w.alloc obj) := by
  have hold : ∀ b, b < w.heap.size → (w.alloc obj).heap[b]? = w.heap[b]? := fun b hb => heap_alloc_old w obj hb
  have hob : ∀ b, b < w.heap.size → updO o w.heap.size (.hd d) b = o b := fun b hb => by simp [updO, show ¬ b = w.heap.size by omega]
  have hc : Chg o h w (updO o w.heap.size (.hd d)) (updH h d v) (w.alloc obj) (fun _ => False) A := by
    refine ⟨fun b hb => ?_, fun i b _ hb => ?_, fun j hj => ?_⟩
    · have := (hs.tags b).2 hb; exact ⟨(hob b this).trans hb, hold b this⟩
    · have := (hs.tags b).1 i hb; exact ⟨(hob b this).trans hb, hold b this⟩
    · have : j = d := Classical.byContradiction fun hne => hj (by simp [updH, hne])
      subst this; exact hf
  refine ⟨⟨by simp [hs.size], fun b => ?_, fun s x hl => ?_, fun i r' hl => ?_⟩, ⟨by simp, rfl, rfl, rfl, Nat.le_refl _, fun b hb hlt => ⟨(hob b hlt).trans hb, hold b hlt⟩, fun b hb hlt => ⟨(hob b hlt).trans hb, hold b hlt⟩⟩⟩
  · simp only [World.size_alloc]
    by_cases hb : b = w.heap.size
    · subst hb; exact ⟨fun _ _ => by omega, fun _ => by omega⟩
    · simp only [updO, hb, if_false]
      exact ⟨fun i hi => Nat.lt_succ_of_lt ((hs.tags b).1 i hi), fun hi => Nat.lt_succ_of_lt ((hs.tags b).2 hi)⟩
  · rw [lk_cons] at hl
    have hsz := hs.size
    split at hl
    · rename_i e
      subst e
      cases hl
      have : (tm.setIfInBounds d v).getD d undef = v := by
        rw [Array.getD_eq_getD_getElem?, Array.getElem?_setIfInBounds_self]; simp [hsz, hd]
      rw [this]; exact hsv
    · rename_i hne
      have : (tm.setIfInBounds d v).getD s undef = tm.getD s undef := by
        rw [Array.getD_eq_getD_getElem?, Array.getElem?_setIfInBounds_ne hne, ← Array.getD_eq_getD_getElem?]
      rw [this]; exact hc.slot hs s x hl
  · rw [lk_cons] at hl
    split at hl
    · rename_i e; subst e; cases hl; exact hr
    · exact hc.resOk hs i r' (fun e => e) hl

/-! cells that may hold handles -/
def mapC : List CV → List EV
  | [] => []
  | x :: l => .c x :: mapC l
theorem mapC_eq : ∀ l : List CV, mapC l = l.map .c
  | [] => rfl
  | x :: l => by simp [mapC, mapC_eq l]

def partE (A : St) (x : Operand) : Option (List EV × Prop) :=
  match rd A x with
  | some (.c y, p) => some ([.c y], p)
  | some (.ag cs, p) => some (mapC cs, p)
  | some (.r j, p) => match lk A.rs j with
    | some (.own E x) => some ([.r j], p)
    | some (.box _ _ _) => some ([.r j], p)
    | _ => none
  | _ => none

def CellsE (o : Nat → Tag) (h : Nat → Value) (w : World) (vs : Array Value) (cs : List EV) : Prop :=
  vs.size = cs.length ∧ ∀ (q : Nat) x, cs[q]? = some x → ∃ u, vs[q]? = some u ∧ u.oneCell' = true ∧ EvOk o h w x u

theorem partE_ok (hs : Sat o h A tm w) {x : Operand} {xs : List EV} {p : Prop} (hp : partE A x = some (xs, p)) (hφ : p) : CellsE o h w (evl tm x).cells xs := by
  have one : ∀ v : Value, v.oneCell' = true → v.cells = #[v] := fun v hv => by cases v <;> first | rfl | simp [Value.oneCell'] at hv
  unfold partE at hp
  split at hp
  · rename_i y p' hr
    simp only [Option.some.injEq, Prod.mk.injEq] at hp
    obtain ⟨rfl, rfl⟩ := hp
    have hv : RepV o w y (evl tm x) := rd_ok hs hr hφ
    rw [one _ hv.one]
    refine ⟨rfl, fun q y' hq => ?_⟩
    cases q with
    | zero => simp at hq; subst hq; exact ⟨_, rfl, hv.one, hv⟩
    | succ q => simp at hq
  · rename_i cs p' hr
    simp only [Option.some.injEq, Prod.mk.injEq] at hp
    obtain ⟨rfl, rfl⟩ := hp
    obtain ⟨vs, hv, h1, h2⟩ := rd_ok hs hr hφ
    rw [hv, mapC_eq]
    refine ⟨by rw [List.length_map]; exact h1, fun q y hq => ?_⟩
    rw [List.getElem?_map] at hq
    cases hcq : cs[q]? with
    | none => simp [hcq] at hq
    | some z =>
      simp [hcq] at hq
      subst hq
      obtain ⟨u, hu, hr⟩ := h2 q z hcq
      exact ⟨u, hu, hr.one, hr⟩
  · rename_i j p' hr
    have hv : ∀ p', rd A x = some (.r j, p') → p' → evl tm x = h j := fun p' hr hp' => rd_ok hs hr hp'
    split at hp
    · rename_i E y hl
      simp only [Option.some.injEq, Prod.mk.injEq] at hp
      obtain ⟨rfl, rfl⟩ := hp
      have hv := hv _ hr hφ
      have hone : (h j).oneCell' = true := by
        have := hs.res j _ hl
        cases y with
        | sl n k f => obtain ⟨a, cap, hj, _⟩ := own_slice this; rw [hj]; rfl
        | lit _ => exact this.elim
        | clo _ _ _ _ => exact this.elim
      rw [hv, one _ hone]
      refine ⟨rfl, fun q y' hq => ?_⟩
      cases q with
      | zero => simp at hq; subst hq; exact ⟨_, rfl, hone, rfl⟩
      | succ q => simp at hq
    · rename_i T cs bk hl
      simp only [Option.some.injEq, Prod.mk.injEq] at hp
      obtain ⟨rfl, rfl⟩ := hp
      have hv := hv _ hr hφ
      have hone : (h j).oneCell' = true := by
        obtain ⟨b, hb⟩ := box_ptr (hs.res j _ hl)
        rw [hb]; rfl
      rw [hv, one _ hone]
      refine ⟨rfl, fun q y' hq => ?_⟩
      cases q with
      | zero => simp at hq; subst hq; exact ⟨_, rfl, hone, rfl⟩
      | succ q => simp at hq
    · cases hp
  · cases hp

/-! a new box -/
theorem Sat.newBox (hs : Sat o h A tm w) {d : Nat} (hd : d < A.n) (hf : freshB A d = true) {vs : Array Value} {cs : List EV} {T : Nat} (hc : CellsE o h w vs cs) (hm : menEs d cs = false) :
    ∃ o' h', Sat o' h' ⟨A.n, (d, .e (.r d)) :: A.sl, (d, .box T cs none) :: A.rs⟩ (tm.setIfInBounds d (.pointer (some ⟨w.heap.size, 0, none⟩))) (w.alloc (.cells vs T)) ∧ Ext o w o' (w.alloc (.cells vs T)) := by
  refine ⟨_, _, Sat.alloc hs hd hf (v := .pointer (some ⟨w.heap.size, 0, none⟩)) (r := .box T cs none) ?_ (sv := .e (.r d)) (by simp [SvOk, EvOk, updH])⟩
  have hob : ∀ b, b < w.heap.size → updO o w.heap.size (.hd d) b = o b := fun b hb => by simp [updO, show ¬ b = w.heap.size by omega]
  have hk : Keep o w (updO o w.heap.size (.hd d)) (w.alloc (.cells vs T)) := fun b hb => by
    have := (hs.tags b).2 hb; exact ⟨(hob b this).trans hb, heap_alloc_old w _ this⟩
  refine ⟨w.heap.size, vs, (fun b' hb' => by cases hb'), by simp [updH], heap_alloc_new w _, by simp [updO], hc.1, fun q x hq => ?_⟩
  obtain ⟨u, hu, hone, hx⟩ := hc.2 q x hq
  refine ⟨u, hu, hone, (hx.keep hk).hupd fun j hj => ?_⟩
  have : j = d := Classical.byContradiction fun hne => hj (by simp [updH, hne])
  subst this; exact menEs_ok hm q x hq

/-! a new row -/
theorem Sat.newRow (hs : Sat o h A tm w) {d : Nat} (hd : d < A.n) (hf : freshB A d = true) {cur : Array Value} {E n k cap : Nat} {f : Nat → Nat → CV}
    (hnc : n ≤ cap) (hcm : cap ≤ maxLen) (hsz : cur.size = cap * k) (hv : ∀ e q, e < n → q < k → ∃ u, cur[e * k + q]? = some u ∧ RepV o w (f e q) u) :
    ∃ o' h', Sat o' h' ⟨A.n, (d, .e (.r d)) :: A.sl, (d, .own E (.sl n k f)) :: A.rs⟩ (tm.setIfInBounds d (.slice (some ⟨w.heap.size, 0, none⟩) n cap)) (w.alloc (.cells cur E)) ∧ Ext o w o' (w.alloc (.cells cur E)) := by
  refine ⟨_, _, Sat.alloc hs hd hf (v := .slice (some ⟨w.heap.size, 0, none⟩) n cap) (r := .own E (.sl n k f)) ?_ (sv := .e (.r d)) (by simp [SvOk, EvOk, updH])⟩
  have hob : ∀ b, b < w.heap.size → updO o w.heap.size (.hd d) b = o b := fun b hb => by simp [updO, show ¬ b = w.heap.size by omega]
  have hk : Keep o w (updO o w.heap.size (.hd d)) (w.alloc (.cells cur E)) := fun b hb => by
    have := (hs.tags b).2 hb; exact ⟨(hob b this).trans hb, heap_alloc_old w _ this⟩
  have hle : n * k ≤ cap * k := Nat.mul_le_mul_right k hnc
  refine ⟨cur.toList.take (n * k), ⟨?_, .inr ⟨w.heap.size, cap, cur, by simp [updH], Nat.zero_le _, heap_alloc_new w _, hnc, hcm, hsz, rfl⟩⟩, ?_, ?_⟩
  · rw [List.length_take, Array.length_toList, hsz]; omega
  · intro b hb
    simp [updH, Value.ownBlock] at hb
    subst hb
    simp [updO]
  · intro e q he hq
    obtain ⟨u, hu, hx⟩ := hv e q he hq
    refine ⟨u, ?_, hx.keep hk⟩
    have hlt : e * k + q < n * k := by
      have : (e + 1) * k ≤ n * k := Nat.mul_le_mul_right k he
      rw [Nat.add_mul] at this; omega
    rw [List.getElem?_take, if_pos hlt]
    simpa using hu
end

end Go.Sy
