/-
  SyX, SyY, SyZ, SyCu, SyCv, SyDa, one text.
-/
import Derived.Test.YtdeoicedbphgoaaGreatDoorSyT
set_option linter.unusedSectionVars false
set_option linter.unusedVariables false
set_option linter.unusedSimpArgs false
/-
  SYMBOLIC STATES, PART X: a region that draws its order, walked by hand; copy into a row of one's own; all orders of a region.
-/
namespace Go.Sy
variable [Drw]
section
variable {P : Program} {lay : Lay} {o : Nat → Tag} {h : Nat → Value} {A A' : St} {tm : Array Value} {w : World} {Q : Exit → St → Prop} {k : List K}

theorem wpOp_mono2 {ops : Array Oper} {Q Q' : Exit → Act → World → Prop} {K K' : Act → World → Prop} {i : Nat} {a : Act} {w : World} (hq : ∀ e a w, Q e a w → Q' e a w) (hk : ∀ a w, K a w → K' a w) (hh : wpOp P ops Q i K a w) : wpOp P ops Q' i K' a w := by
  unfold wpOp at *
  split
  · exact hk _ _ (by simpa [*] using hh)
  · rename_i o ho
    rw [ho] at hh
    simp only at hh
    split
    · rename_i hw
      rw [if_pos hw] at hh
      rcases hh with hh | ⟨h1, a', w', h2⟩
      · exact .inl (upon_mono hk hq hh)
      · exact .inr ⟨h1, a', w', hq _ _ _ h2⟩
    · rename_i hw
      rw [if_neg hw] at hh
      exact hk _ _ hh
theorem wpAny_mono2 {md : Region.Mode} {ops : Array Oper} {Q Q' : Exit → Act → World → Prop} (hq : ∀ e a w, Q e a w → Q' e a w) : ∀ (fuel : Nat) (listed : Array Bool) (a : Act) (w : World), wpAny P md ops Q fuel listed a w → wpAny P md ops Q' fuel listed a w
  | 0, _, _, _, hh => ⟨hh.1, hq _ _ _ hh.2⟩
  | fuel + 1, _, _, _, hh => ⟨fun hr => hq _ _ _ (hh.1 hr), fun i hi => wpOp_mono2 hq (fun a w => wpAny_mono2 hq fuel _ a w) (hh.2 i hi)⟩
/-- a region that draws its order, out of the kit's own law -/
def RawQ (o : Nat → Tag) (w : World) (A' : St) : Exit → Act → World → Prop := fun e a w' => e = .normal ∧ a.defers = [] ∧ ∃ o' h', Sat o' h' A' a.tmps w' ∧ Ext o w o' w'
theorem KW.rawD (hm : P.follows .mixedOrders = true) {id : Nat} {ops : Array Oper} (A' : St)
    (hh : ∀ o h tm w, Sat o h A tm w → wpAny P .any ops (RawQ o w A') ops.size (Array.replicate ops.size false) ⟨tm, []⟩ w.drew)
    (hn : KW P k .normal A' Q) : KW P (.code (.region id ops true) :: k) .normal A Q := by
  intro o h tm w hs
  show (Code.region id ops true).wp P (kq P (lift Q o w) k) ⟨tm, []⟩ w
  refine wp_region_any hm (wpAny_mono2 (fun e a w' hq => ?_) _ _ _ _ (hh o h tm w hs))
  obtain ⟨rfl, hd, o', h', hs', hx⟩ := hq
  obtain ⟨tm', d⟩ := a
  simp only at hd hs'
  subst hd
  exact kq_mono (lift_trans hx) k .normal _ w' (hn o' h' tm' w' hs')

/-- a row of integers of one's own, read and written as a whole -/
theorem Sat.write (hs : Sat o h A tm w) {i E : Nat} {xs : List Int} (hi : lk A.rs i = some (.own E (ints xs))) (hpos : 0 < xs.length) :
    ∃ g cap cur, h i = .slice (some ⟨g, 0, none⟩) xs.length cap ∧ w.heap[g]? = some (.cells cur E (0, 0)) ∧ xs.length ≤ cap ∧ cur.size = cap ∧ (∀ j, j < xs.length → cur[j]? = some (.int .i64 (xs.getD j 0))) ∧
      ∀ (cur' : Array Value) (ys : List Int), cur'.size = cap → ys.length = xs.length → (∀ j, j < xs.length → cur'[j]? = some (.int .i64 (ys.getD j 0))) → Sat o h ⟨A.n, A.sl, (i, .own E (ints ys)) :: A.rs⟩ tm (w.setRow g cur') ∧ Ext o w o (w.setRow g cur') := by
  obtain ⟨vs, ⟨hvl, hown⟩, htag, hvs⟩ := hs.res i _ hi
  rcases hown with ⟨_, h0⟩ | ⟨g, cap, cur, hv, _, hheap, hnc, hcm, hcs, htake⟩
  · omega
  · simp only [Nat.mul_one] at hcs htake hvl
    refine ⟨g, cap, cur, hv, hheap, hnc, hcs, fun j hj => ?_, fun cur' ys h1 h2 h3 => ?_⟩
    · obtain ⟨u, hu, hx⟩ := hvs j 0 hj (by decide)
      obtain ⟨rfl, _⟩ := hx
      rw [← htake] at hu
      simp only [Nat.mul_one, Nat.add_zero, List.getElem?_take, if_pos hj] at hu
      simpa using hu
    · refine Sat.setRow hs hheap (htag g (by rw [hv]; rfl)) fun hk => ?_
      show ResOk o h (w.setRow g cur') i (.own E (.sl ys.length 1 fun e _ => .lit (.int .i64 (ys.getD e 0))))
      refine ⟨cur'.toList.take ys.length, ⟨by simp; omega, .inr ⟨g, cap, cur', by rw [hv, h2], Nat.zero_le _, setRow_heap w g cur _ E _ hheap, by omega, hcm, by omega, by simp⟩⟩, htag, fun e q he hq => ?_⟩
      obtain rfl : q = 0 := by omega
      refine ⟨_, ?_, rfl, rfl⟩
      simp only [Nat.mul_one, Nat.add_zero, List.getElem?_take, if_pos he]
      simpa using h3 e (by omega)

/-- copy into a row of one's own, at its start -/
theorem copy_step (hl : LayOk P lay) {op : Oper} {c : Call} {d t t' sz E by' i : Nat} {ag : Bool} {zz : List Value} {x y : Operand} {xs ys : List Int} {p q : Prop} (ho : op.op = .call c) (hc : c.callee = .builtin .copy) (ha : c.args = #[x, y]) (ht : c.argTypes = #[t, t'])
    (hd : op.dst = some d) (hlt : d < A.n) (hT : lk lay t = some ⟨sz, ag, .sl E 1 by', zz⟩) (hx : rd A x = some (.r i, p)) (hp : p) (hi : lk A.rs i = some (.own E (ints xs))) (hy : srcOf A i y = some (ints ys, q)) (hq : q) (h0 : 0 < ys.length) (hle : ys.length ≤ xs.length) :
    OpStep P op A ⟨A.n, (d, sI ys.length) :: A.sl, (i, .own E (ints (ys ++ xs.drop ys.length))) :: A.rs⟩ := by
  intro o h tm w hs
  obtain ⟨hu, _, i0, hinfo, hsz, _⟩ := sl_elem hl hT
  obtain ⟨a, cc, hyv, hsrc⟩ := srcOf_ok hs hy hq rfl
  have hxv : evl tm x = h i := rd_ok hs hx hp
  obtain ⟨g, cap, cur, hv, hheap, hnc, hcs, hcur, hwr⟩ := hs.write hi (by omega)
  rcases hsrc with ⟨_, hm⟩ | ⟨ad, news, rfl, hln, hnews, h1, hC⟩
  · omega
  · simp only [Nat.mul_one] at hln
    have hrun := run_copy_row P w t t' op.type E g 0 xs.length cap ad ys.length cc cur E news hu (by simp [hinfo, hsz]) hheap (by rw [hln]; exact (Nat.min_eq_left hle).symm) hnews (by omega) h1
    have hnw : ∀ j, j < ys.length → news[j]? = some (.int .i64 (ys.getD j 0)) := fun j hj => by
      obtain ⟨u, hu', hx'⟩ := hC j 0 hj (by decide)
      obtain ⟨rfl, _⟩ := hx'
      simpa using hu'
    obtain ⟨hs1, hx1⟩ := hwr (cur.toList.take 0 ++ news ++ cur.toList.drop (0 + news.length)).toArray (ys ++ xs.drop ys.length) (by simp [hln]; omega) (by simp; omega) (fun j hj => by
      rw [List.getElem?_toArray]
      simp only [List.take_zero, List.nil_append, Nat.zero_add]
      by_cases hj' : j < ys.length
      · rw [List.getElem?_append_left (by omega), hnw j hj', List.getD_eq_getElem?_getD, List.getD_eq_getElem?_getD, List.getElem?_append_left hj']
      · rw [List.getElem?_append_right (by omega), List.getElem?_drop, hln, Nat.add_sub_cancel' (by omega)]
        have := hcur j hj
        rw [← Array.getElem?_toList] at this
        rw [this, List.getD_eq_getElem?_getD, List.getD_eq_getElem?_getD, List.getElem?_append_right (by omega), List.getElem?_drop, Nat.add_sub_cancel' (by omega)])
    refine ⟨_, .int .i64 ys.length, _, o, h, ?_, .inl rfl, ?_, hx1⟩
    · simp only [execOp, ho, resolve, hc, invoke, builtin, ha, ht]
      simp [hxv, hv, hyv, hrun, goInt, hln]
    · simp only [Act.put, hd]
      exact hs1.put (A := ⟨A.n, A.sl, (i, .own E (ints (ys ++ xs.drop ys.length))) :: A.rs⟩) hlt ⟨rfl, rfl⟩

/-! all orders of a region -/
def KA (P : Program) (ops : Array Oper) (k : List K) (Q : Exit → St → Prop) (fuel : Nat) (listed : Array Bool) (A : St) : Prop :=
  ∀ o0 w0 o h tm w, Sat o h A tm w → Ext o0 w0 o w → wpAny P .any ops (kq P (lift Q o0 w0) k) fuel listed ⟨tm, []⟩ w
theorem KW.orders (hm : P.follows .mixedOrders = true) {id : Nat} {ops : Array Oper} (hh : KA P ops k Q ops.size (Array.replicate ops.size false) A) : KW P (.code (.region id ops true) :: k) .normal A Q := by
  intro o h tm w hs
  exact wp_region_any hm (hh o w o h tm w.drew hs.drew (Ext.drew o w))
theorem KA.done {ops : Array Oper} {fuel : Nat} {listed : Array Bool} (hr : Region.ready .any ops listed = []) (hn : KW P k .normal A Q) : KA P ops k Q fuel listed A := by
  intro o0 w0 o h tm w hs hx
  exact wpAny_done hr (kq_mono (lift_trans hx) k .normal _ w (hn o h tm w hs)) fuel
theorem upon_out {o : Oper} {a : Act} {next next' : Act → World → Prop} {Q Q' : Exit → Act → World → Prop}
    (hn : ∀ a w, next a w → next' a w) (hq : ∀ e a w, e ≠ .normal → Q e a w → Q' e a w) {r : Result Next} (h : o.upon P a next Q r) : o.upon P a next' Q' r := by
  cases r with
  | ok x w' =>
    cases x with
    | value v => exact hn _ _ h
    | skip => exact hn _ _ h
    | defer d => exact hn _ _ h
    | enter f args =>
      refine Calls.mono h ?_
      intro e w'' h
      cases e with
      | returned v => exact hn _ _ h
      | panicked ch => exact hq _ _ _ (by simp) h
      | outgrown => exact let ⟨a, w, h⟩ := h; ⟨a, w, hq _ _ _ (by simp) h⟩
    | row row args => exact Rows.mono h fun v w'' h => hn _ _ h
    | _ => exact h.elim
  | halt x w' =>
    cases x with
    | panic v => exact hq _ _ _ (by simp) h
    | _ => exact h.elim
theorem KA.step {ops : Array Oper} {fuel : Nat} {listed : Array Bool} {rs : List Nat} (hr : Region.ready .any ops listed = rs) (hne : rs ≠ [])
    (hh : ∀ i ∈ rs, ∃ op, ops[i]? = some op ∧ KW P [.ops ops [op]] .normal A fun e A' => e = .normal ∧ KA P ops k Q fuel (listed.setIfInBounds i true) A') : KA P ops k Q (fuel + 1) listed A := by
  intro o0 w0 o h tm w hs hx
  refine wpAny_all hr hne fun i hi => ?_
  obtain ⟨op, hop, hk⟩ := hh i hi
  have h1 := hk o h tm w hs
  replace h1 : wpList P ops (lift (fun e A' => e = .normal ∧ KA P ops k Q fuel (listed.setIfInBounds i true) A') o w) [op] ⟨tm, []⟩ w := h1
  have hnx : ∀ a w', lift (fun e A' => e = Exit.normal ∧ KA P ops k Q fuel (listed.setIfInBounds i true) A') o w .normal a w' → wpAny P .any ops (kq P (lift Q o0 w0) k) fuel (listed.setIfInBounds i true) a w' := by
    rintro ⟨tm', d⟩ w' ⟨hd, o', h', A', ⟨_, hka⟩, hs', hx'⟩
    simp only at hd hs'
    subst hd
    exact hka o0 w0 o' h' tm' w' hs' (hx.trans hx')
  unfold wpOp
  rw [hop]
  simp only
  unfold wpList at h1
  split
  · rename_i hw
    rw [if_pos hw] at h1
    rcases h1 with h1 | ⟨_, a', w', h2⟩
    · refine .inl (upon_out (fun a w' h => hnx a w' (by unfold wpList at h; exact h)) (fun e a w' hne' hq => ?_) h1)
      obtain ⟨_, _, _, _, ⟨e0, _⟩, _⟩ := hq
      exact absurd e0 hne'
    · obtain ⟨_, _, _, _, ⟨e0, _⟩, _⟩ := h2
      cases e0
  · rename_i hw
    rw [if_neg hw] at h1
    exact hnx _ _ (by unfold wpList at h1; exact h1)
theorem KW.stop {e : Exit} (hq : Q e A) : KW P [] e A Q := fun o h tm w hs => ⟨rfl, o, h, A, hq, hs, Ext.refl o w⟩
end
end Go.Sy

/-
  SYMBOLIC STATES, PART Y: rows of bools.
-/
namespace Go.Sy
variable [Drw]
theorem catV_bools (a b : List Bool) : catV (bools a) (bools b) = bools (a ++ b) := by
  simp only [catV, bools, List.length_append]
  congr 1
  funext e q
  by_cases h : e < a.length
  · have : Nat.blt e a.length = true := by simpa [Nat.blt, Nat.succ_le_iff] using h
    simp [this, List.getD_eq_getElem?_getD, List.getElem?_append_left h, h]
  · have : Nat.blt e a.length = false := by
      cases hb : Nat.blt e a.length with
      | false => rfl
      | true => exact absurd (by simpa [Nat.blt, Nat.succ_le_iff] using hb) h
    simp [this, List.getD_eq_getElem?_getD, List.getElem?_append_right (Nat.le_of_not_lt h)]
theorem own_catB (E : Nat) {a b c : List Bool} (h : a ++ b = c) : some (Res.own E (catV (bools a) (bools b))) = some (Res.own E (bools c)) := by rw [catV_bools, h]
theorem own_catB0 (E : Nat) {b c : List Bool} (h : b = c) : some (Res.own E (bools b)) = some (Res.own E (bools c)) := by rw [h]
theorem KW.updB {P : Program} {k : List K} {A : St} {Q : Exit → St → Prop} {ex : Exit} (i : Nat) {E e : Nat} {a : List Bool} {v : Bool} (hl : lk A.rs i = some (.own E (updV (bools a) e 0 [.lit (.bool v)])))
    (hk : KW P k ex ⟨A.n, A.sl, (i, .own E (bools (a.set e v))) :: A.rs⟩ Q) : KW P k ex A Q := by
  refine KW.convR i (bools (a.set e v)) (g := fun e' _ => .lit (.bool ((a.set e v).getD e' false))) hl (by simp only [bools, List.length_set]) (fun e' q he hq => ?_) hk
  have : q = 0 := by omega
  subst this
  by_cases h : e' = e
  · subst h
    simp [Nat.beq_refl, Nat.blt, nthD, List.getD_eq_getElem?_getD, he]
    exact CVEq.refl (.lit (.bool v))
  · have hb : Nat.beq e' e = false := by
      cases hb : Nat.beq e' e with
      | false => rfl
      | true => exact absurd (Nat.eq_of_beq_eq_true hb) h
    simp [hb, CVEq, List.getD_eq_getElem?_getD, List.getElem?_set_ne (Ne.symm h)]

/-! rows of whatever elements -/
def rows {α : Type} (k : Nat) (enc : α → Nat → CV) (d : α) (xs : List α) : CV := .sl xs.length k fun e q => enc (xs.getD e d) q
theorem bools_rows (xs : List Bool) : bools xs = rows 1 (fun b _ => .lit (.bool b)) false xs := rfl
theorem ints_rows (xs : List Int) : ints xs = rows 1 (fun n _ => .lit (.int .i64 n)) 0 xs := rfl
theorem catV_rows {α : Type} {k : Nat} {enc : α → Nat → CV} {d : α} (a b : List α) : catV (rows k enc d a) (rows k enc d b) = rows k enc d (a ++ b) := by
  simp only [catV, rows, List.length_append]
  congr 1
  funext e q
  by_cases h : e < a.length
  · have : Nat.blt e a.length = true := by simpa [Nat.blt, Nat.succ_le_iff] using h
    simp [this, List.getD_eq_getElem?_getD, List.getElem?_append_left h, h]
  · have : Nat.blt e a.length = false := by
      cases hb : Nat.blt e a.length with
      | false => rfl
      | true => exact absurd (by simpa [Nat.blt, Nat.succ_le_iff] using hb) h
    simp [this, List.getD_eq_getElem?_getD, List.getElem?_append_right (Nat.le_of_not_lt h)]
section
variable {P : Program} {K0 : List K} {A : St} {Q : Exit → St → Prop} {ex : Exit} {α : Type}
/-- an element has been appended -/
theorem KW.catG (i : Nat) {E k : Nat} {enc : α → Nat → CV} {d : α} {xs : List α} {cs : List CV} (x : α) (hl : lk A.rs i = some (.own E (catV (rows k enc d xs) (rowsC k 1 cs))))
    (hx : ∀ q, q < k → CVEq (nthD (.lit undef) cs q) (enc x q)) (hk : KW P K0 ex ⟨A.n, A.sl, (i, .own E (rows k enc d (xs ++ [x]))) :: A.rs⟩ Q) : KW P K0 ex A Q := by
  refine KW.convR i (rows k enc d (xs ++ [x])) (g := fun e q => enc ((xs ++ [x]).getD e d) q) hl (by simp [rows]) (fun e q he hq => ?_) hk
  by_cases h : e < xs.length
  · have : Nat.blt e xs.length = true := by simpa [Nat.blt, Nat.succ_le_iff] using h
    simp [this, List.getD_eq_getElem?_getD, List.getElem?_append_left h, h]
    exact CVEq.refl _
  · have h2 : e = xs.length := by omega
    subst h2
    have : Nat.blt xs.length xs.length = false := by
      cases hb : Nat.blt xs.length xs.length with
      | false => rfl
      | true => exact absurd (Nat.le_of_ble_eq_true hb) (Nat.not_succ_le_self _)
    simp [this, List.getD_eq_getElem?_getD]
    exact hx q hq
/-- an element has been set -/
theorem KW.updG (i : Nat) {E k e : Nat} {enc : α → Nat → CV} {d : α} {xs : List α} {cs : List CV} (x : α) (hl : lk A.rs i = some (.own E (updV (rows k enc d xs) e 0 cs))) (hc : cs.length = k)
    (hx : ∀ q, q < k → CVEq (nthD (.lit undef) cs q) (enc x q)) (hk : KW P K0 ex ⟨A.n, A.sl, (i, .own E (rows k enc d (xs.set e x))) :: A.rs⟩ Q) : KW P K0 ex A Q := by
  refine KW.convR i (rows k enc d (xs.set e x)) (g := fun e' q => enc ((xs.set e x).getD e' d) q) hl (by simp [rows]) (fun e' q he hq => ?_) hk
  by_cases h : e' = e
  · subst h
    have hb : Nat.blt q cs.length = true := by simpa [Nat.blt, Nat.succ_le_iff, hc] using hq
    simp [Nat.beq_refl, hb, List.getD_eq_getElem?_getD, he]
    exact hx q hq
  · have hb : Nat.beq e' e = false := by
      cases hb : Nat.beq e' e with
      | false => rfl
      | true => exact absurd (Nat.eq_of_beq_eq_true hb) h
    simp [hb, List.getD_eq_getElem?_getD, List.getElem?_set_ne (Ne.symm h)]
    exact CVEq.refl _
end
theorem KW.catB {P : Program} {K0 : List K} {A : St} {Q : Exit → St → Prop} {ex : Exit} (i : Nat) {E : Nat} {xs : List Bool} {b : Bool} (hl : lk A.rs i = some (.own E (catV (bools xs) (rowsC 1 1 [.lit (.bool b)]))))
    (hk : KW P K0 ex ⟨A.n, A.sl, (i, .own E (bools (xs ++ [b]))) :: A.rs⟩ Q) : KW P K0 ex A Q :=
  KW.catG (k := 1) (enc := fun b _ => .lit (.bool b)) (d := false) i b hl (fun q hq => match q, hq with | 0, _ => CVEq.refl (.lit (.bool b))) hk
end Go.Sy

/-
  SYMBOLIC STATES, PART Z: a region that draws its order and ends in some operations that wait for all before them.
-/
namespace Go.Sy
variable [Drw]
def tailsOk (ops : Array Oper) (n : Nat) : Bool := (List.range (ops.size - n)).all fun k => tailAll (ops.toList.take (n + k + 1)) 0 (ops.toList.take (n + k + 1))
theorem tailsOk_ok {ops : Array Oper} {n : Nat} (h : tailsOk ops n = true) : ∀ i, n ≤ i → i < ops.size → ∀ j, j < i → ∃ (q : Nat) (o : Oper), j < q ∧ q ≤ i ∧ ops[q]? = some o ∧ ∃ e ∈ o.after, Region.binds .any e = true ∧ e.on = j := by
  intro i h1 h2 j h3
  simp only [tailsOk, List.all_eq_true, List.mem_range] at h
  have h4 := h (i - n) (by omega)
  rw [show n + (i - n) + 1 = i + 1 by omega] at h4
  obtain ⟨q, o, h5, h6, e, h7, h8, h9⟩ := tailAll_ok h4 j (by simp; omega)
  rw [List.getElem?_take] at h6
  split at h6
  · exact ⟨q, o, h5, by omega, by simpa using h6, e, by simpa using h7, h8, by omega⟩
  · cases h6
section
variable {P : Program} {lay : Lay} {A A' : St} {Q : Exit → St → Prop} {fns : Fns}
theorem tailSeq {ops : Array Oper} {n : Nat} {QQ : Exit → Act → World → Prop} (hstep : ∀ i, n ≤ i → i < ops.size → ∀ j, j < i → ∃ (q : Nat) (o : Oper), j < q ∧ q ≤ i ∧ ops[q]? = some o ∧ ∃ e ∈ o.after, Region.binds .any e = true ∧ e.on = j)
    (hbelow : ∀ (i : Nat) oi, ops[i]? = some oi → ∀ e ∈ oi.after, Region.binds .any e = true → e.on < i) :
    ∀ (m i fuel : Nat) (listed : Array Bool) (a : Act) (w : World), i + m = ops.size → n ≤ i → listed.size = ops.size → (∀ j, j < i → listed.getD j false = true) → (∀ j, i ≤ j → listed.getD j false = false) → m ≤ fuel →
      wpList P ops QQ (ops.toList.drop i) a w → wpAny P .any ops QQ fuel listed a w := by
  intro m
  induction m with
  | zero =>
    intro i fuel listed a w him hni hsz hl hnl hmf hw
    rw [List.drop_of_length_le (by simp; omega)] at hw
    have hrdy : Region.ready .any ops listed = [] := by
      cases hr : Region.ready .any ops listed with
      | nil => rfl
      | cons j l =>
        exfalso
        have hj : j ∈ Region.ready .any ops listed := by rw [hr]; exact .head _
        obtain ⟨h1, oj, h2, _⟩ := mem_ready.1 hj
        have hlt : j < ops.size := (Array.getElem?_eq_some_iff.1 h2).1
        have := hl j (by omega)
        rw [Array.getD_eq_getD_getElem?, Array.getElem?_eq_getElem (by omega)] at this h1
        simp at this h1
        rw [h1] at this
        cases this
    replace hw : QQ .normal a w := hw
    cases fuel with
    | zero => exact ⟨hrdy, hw⟩
    | succ _ => exact ⟨fun _ => hw, fun j hj => by rw [hrdy] at hj; cases hj⟩
  | succ m ih =>
    intro i fuel listed a w him hni hsz hl hnl hmf hw
    obtain ⟨f, rfl⟩ : ∃ f, fuel = f + 1 := ⟨fuel - 1, by omega⟩
    have hlt : i < ops.size := by omega
    have hread : i ∈ Region.ready .any ops listed := by
      rw [mem_ready]
      refine ⟨?_, ops[i], Array.getElem?_eq_getElem hlt, fun e he hb => ?_⟩
      · have := hnl i (Nat.le_refl _)
        rw [Array.getD_eq_getD_getElem?] at this ⊢
        rw [Array.getElem?_eq_getElem (by omega)] at this ⊢
        exact this
      · exact hl e.on (hbelow i ops[i] (Array.getElem?_eq_getElem hlt) e he hb)
    refine ⟨fun hr => (by rw [hr] at hread; cases hread), fun j hj => ?_⟩
    obtain ⟨hun, oj, hoj, haft⟩ := mem_ready.1 hj
    have hjs : j < ops.size := (Array.getElem?_eq_some_iff.1 hoj).1
    have hge : i ≤ j := by
      rcases Nat.lt_or_ge j i with h | h
      · exfalso
        have := hl j h
        rw [Array.getD_eq_getD_getElem?, Array.getElem?_eq_getElem (by omega)] at this hun
        simp at this hun
        rw [hun] at this; cases this
      · exact h
    have hno : ∀ d x, i ≤ x → x < j → j ≤ x + d → False := by
      intro d
      induction d with
      | zero => intro x h1 h2 h3; omega
      | succ d ihd =>
        intro x h1 h2 h3
        obtain ⟨q, oq, h4, h5, h6, e, h7, h8, h9⟩ := hstep j (by omega) hjs x h2
        by_cases hqj : q = j
        · subst hqj
          rw [hoj] at h6; cases h6
          have := haft e h7 h8
          rw [h9, hnl x h1] at this; cases this
        · exact ihd q (by omega) (by omega) (by omega)
    have hji : j = i := by
      rcases Nat.lt_or_ge i j with h | h
      · exact (hno (j - i) i (Nat.le_refl _) h (by omega)).elim
      · omega
    subst hji
    have hdrop : ops.toList.drop j = oj :: ops.toList.drop (j + 1) := by
      rw [List.drop_eq_getElem_cons (by simpa using hlt)]
      congr 1
      have := (Array.getElem?_eq_some_iff.1 hoj).2
      simpa using this
    rw [hdrop] at hw
    have hget : ∀ x, (listed.setIfInBounds j true).getD x false = if x = j then true else listed.getD x false := fun x => by
      by_cases hxj : x = j
      · subst hxj
        rw [if_pos rfl, Array.getD_eq_getD_getElem?, Array.getElem?_setIfInBounds_self]
        simp [hsz, hlt]
      · rw [if_neg hxj, getD_set_ne false (Ne.symm hxj)]
    have hnext : ∀ a w, wpList P ops QQ (ops.toList.drop (j + 1)) a w → wpAny P .any ops QQ f (listed.setIfInBounds j true) a w := fun a w hq =>
      ih (j + 1) f (listed.setIfInBounds j true) a w (by omega) (by omega) (by simp [hsz]) (fun x hx => by
        rw [hget]; split
        · rfl
        · exact hl x (by omega)) (fun x hx => by rw [hget, if_neg (by omega)]; exact hnl x (by omega)) (by omega) hq
    unfold wpOp
    simp only [hoj]
    unfold wpList at hw
    split at hw
    · rename_i hww
      rw [if_pos hww]
      exact hw.imp (fun h => upon_mono (fun a w => hnext a w) (fun _ _ _ h => h) h) (fun h => h)
    · rename_i hww
      rw [if_neg hww]
      exact hnext _ _ hw

/-- A region that draws its order, whose last operations, from 'n' on, wait for all before them: the others come to what the written order comes to, then these go, one after the other. -/
theorem KW.drawnTails (hl : LayOk P lay) (hT : FnsOk P fns) (hm : P.follows .mixedOrders = true) {id : Nat} {ops : Array Oper} {k : List K} {φ : Prop} {n : Nat} (hsz0 : Nat.blt n ops.size = true) (hdep : depOk ops = true) (htl : tailsOk ops n = true) (hg : drawGo lay fns ops (takeN n ops.toList) A True = some (A', φ)) (hφ : φ)
    (hn : KW P (.ops ops (dropN n ops.toList) :: k) .normal A' Q) : KW P (.code (.region id ops true) :: k) .normal A Q := by
  rw [takeN_eq] at hg
  rw [dropN_eq] at hn
  have hsize : n < ops.size := by simpa [Nat.blt, Nat.succ_le_iff] using hsz0
  obtain ⟨_, prs, hlen, hA', hprs⟩ := drawGo_spec hg hφ
  have dep := depOk_ok hdep
  have hlen' : prs.length = n := by simp only [List.length_take, Array.length_toList] at hlen; omega
  have hstep := tailsOk_ok htl
  have hop : ∀ (i : Nat) op, i < n → ops[i]? = some op → ∃ d y ψ, prs[i]? = some (d, y) ∧ op.dst = some d ∧ Nat.blt d A.n = true ∧ stepD lay fns ⟨A.n, pickS ((prs.take i).reverse ++ A.sl) (looks ops op), A.rs⟩ ops op = some (y, ψ) ∧ ψ :=
    fun i op hin hi => hprs i op (by rw [List.getElem?_take, if_pos hin]; simpa using hi)
  have hinv : ∀ (j : Nat) d y, prs[j]? = some (d, y) → ∃ op, ops[j]? = some op ∧ op.dst = some d := fun j d y hj => by
    have hltn : j < n := by rw [← hlen']; exact (List.getElem?_eq_some_iff.1 hj).1
    have hlt : j < ops.size := by omega
    obtain ⟨d', y', ψ, g1, g2, _⟩ := hop j ops[j] hltn (Array.getElem?_eq_getElem hlt)
    rw [hj] at g1
    cases g1
    exact ⟨_, Array.getElem?_eq_getElem hlt, g2⟩
  have hpw : prs.Pairwise (fun a b => a.1 ≠ b.1) := by
    rw [List.pairwise_iff_getElem]
    intro i j hi hj hij e
    obtain ⟨oi, h1, h2⟩ := hinv i prs[i].1 prs[i].2 (List.getElem?_eq_getElem hi)
    obtain ⟨oj, h3, h4⟩ := hinv j prs[j].1 prs[j].2 (List.getElem?_eq_getElem hj)
    have := dep.dist i j oi oj _ h1 h3 h2 (by rw [h4, e])
    omega
  intro o h tm w hs
  show (Code.region id ops true).wp P (kq P (lift Q o w) k) ⟨tm, []⟩ w
  refine wp_region_any hm ?_
  have main : ∀ (fuel : Nat) (listed : Array Bool) (o' : Nat → Tag) (h' : Nat → Value) (tm' : Array Value) (w' : World), listed.size = ops.size → (∀ j, n ≤ j → listed.getD j false = false) → cntU (fun j => listed.getD j false) n + (ops.size - n) ≤ fuel →
      (∀ (i : Nat) oi, ops[i]? = some oi → listed.getD i false = true → ∀ e ∈ oi.after, Region.binds .any e = true → listed.getD e.on false = true) →
      Sat o' h' ⟨A.n, selL (fun j => listed.getD j false) 0 prs ++ A.sl, A.rs⟩ tm' w' → Ext o w o' w' → wpAny P .any ops (kq P (lift Q o w) k) fuel listed ⟨tm', []⟩ w' := by
    intro fuel
    -- all have come up
    have full : ∀ (listed : Array Bool) (o' : Nat → Tag) (h' : Nat → Value) (tm' : Array Value) (w' : World), (∀ j, j < n → listed.getD j false = true) →
        Sat o' h' ⟨A.n, selL (fun j => listed.getD j false) 0 prs ++ A.sl, A.rs⟩ tm' w' → Ext o w o' w' → kq P (lift Q o w) (.ops ops (ops.toList.drop n) :: k) .normal ⟨tm', []⟩ w' := by
      intro listed o' h' tm' w' hall hs' hx
      refine kq_mono (lift_trans hx) (.ops ops (ops.toList.drop n) :: k) .normal _ w' (hn o' h' tm' w' ?_)
      subst hA'
      refine ⟨hs'.size, hs'.tags, fun t x hl => hs'.slot t x ?_, hs'.res⟩
      simp only at hl ⊢
      by_cases hex : ∃ y, (t, y) ∈ prs
      · obtain ⟨y, hy⟩ := hex
        have e1 := mem_lk (base := A.sl) (l := prs.reverse) (List.pairwise_reverse.2 (hpw.imp fun h => Ne.symm h)) (List.mem_reverse.2 hy)
        rw [e1] at hl
        cases hl
        obtain ⟨j, hj⟩ := List.mem_iff_getElem?.1 hy
        refine mem_lk (hpw.sublist (selL_sub _ _ _)) (selL_mem.2 ⟨j, hj, ?_⟩)
        have : j < n := by rw [← hlen']; exact (List.getElem?_eq_some_iff.1 hj).1
        simpa using hall j this
      · have hno : ∀ y, (t, y) ∉ prs := fun y hy => hex ⟨y, hy⟩
        rw [nomem_lk fun y hy => hno y (List.mem_reverse.1 hy)] at hl
        rw [nomem_lk fun y hy => hno y ((selL_sub _ _ _).subset hy)]
        exact hl
    have done : ∀ (listed : Array Bool), listed.size = ops.size → Region.ready .any ops listed = [] → ∀ j, j < ops.size → listed.getD j false = true := by
      intro listed hsz hr j
      induction j using Nat.strongRecOn with
      | ind j ih =>
        intro hj
        cases hlj : listed.getD j false with
        | true => rfl
        | false =>
          exfalso
          have : j ∈ Region.ready .any ops listed := by
            rw [mem_ready]
            refine ⟨?_, ops[j], Array.getElem?_eq_getElem hj, fun e he hb => ?_⟩
            · rw [Array.getD_eq_getD_getElem?] at hlj ⊢
              rw [Array.getElem?_eq_getElem (by omega)] at hlj ⊢
              exact hlj
            · have hlt := dep.below j ops[j] (Array.getElem?_eq_getElem hj) e he hb
              exact ih e.on hlt (by omega)
          rw [hr] at this
          cases this
    induction fuel with
    | zero =>
      intro listed o' h' tm' w' hsz hnl hc
      omega
    | succ fuel ih =>
      intro listed o' h' tm' w' hsz hnl hc hcl hs' hx
      refine ⟨fun hr => (by have := done listed hsz hr n (by omega); rw [hnl n (Nat.le_refl n)] at this; cases this), fun i hi => ?_⟩
      by_cases hin : n ≤ i
      · obtain ⟨hun, op, hop', haft⟩ := mem_ready.1 hi
        have hlt : i < ops.size := (Array.getElem?_eq_some_iff.1 hop').1
        have hall : ∀ d j, j < i → i ≤ j + d → listed.getD j false = true := by
          intro d
          induction d with
          | zero => intro j h1 h2; omega
          | succ d ihd =>
            intro j h1 h2
            obtain ⟨q, oq, h3, h3', h4, e, h5, h6, h7⟩ := hstep i hin hlt j h1
            by_cases hqi : q = i
            · subst hqi
              rw [hop'] at h4
              cases h4
              rw [← h7]; exact haft e h5 h6
            · have := ihd q (by omega) (by omega)
              rw [← h7]; exact hcl q oq h4 this e h5 h6
        have hi0 : i = n := by
          rcases Nat.lt_or_ge n i with h | h
          · have := hall i n h (by omega)
            rw [hnl n (Nat.le_refl n)] at this; cases this
          · omega
        subst hi0
        have hf := full listed o' h' tm' w' (fun j hj => hall i j hj (by omega)) hs' hx
        exact (tailSeq hstep dep.below (ops.size - i) i (fuel + 1) listed ⟨tm', []⟩ w' (by omega) (Nat.le_refl _) hsz (fun j hj => hall i j hj (by omega)) hnl (by omega) hf).2 i hi
      obtain ⟨hun, op, hop', haft⟩ := mem_ready.1 hi
      have hlt : i < ops.size := (Array.getElem?_eq_some_iff.1 hop').1
      have hun' : listed.getD i false = false := by
        rw [Array.getD_eq_getD_getElem?, Array.getElem?_eq_getElem (by omega)] at hun ⊢
        exact hun
      obtain ⟨d, y, ψ, g1, g2, g3, g4, g5⟩ := hop i op (by omega) hop'
      have hle : St.le ⟨A.n, pickS ((prs.take i).reverse ++ A.sl) (looks ops op), A.rs⟩ ⟨A.n, selL (fun j => listed.getD j false) 0 prs ++ A.sl, A.rs⟩ := by
        refine ⟨rfl, rfl, fun t x hl => ?_⟩
        obtain ⟨e1, hm⟩ := pickS_lk hl
        simp only at e1 ⊢
        by_cases hex : ∃ (j : Nat) (y' : SV), prs[j]? = some (t, y')
        · obtain ⟨j, y', hj⟩ := hex
          obtain ⟨oj, hoj, hdj⟩ := hinv j t y' hj
          have huniq : ∀ (j' : Nat) y'', prs[j']? = some (t, y'') → j' = j := fun j' y'' hj' => by
            obtain ⟨oj', hoj', hdj'⟩ := hinv j' t y'' hj'
            exact dep.dist j' j oj' oj t hoj' hoj hdj' hdj
          rcases dep.look i j op oj t hop' hoj hdj hm with ⟨hji, e, he, hb, heq⟩ | ⟨hij, e, he, hb, heq⟩
          · have hlj : listed.getD j false = true := by rw [← heq]; exact haft e he hb
            rw [mem_lk (List.pairwise_reverse.2 ((hpw.sublist (List.take_sublist i prs)).imp fun h => Ne.symm h)) (List.mem_reverse.2 (List.mem_of_getElem? (i := j) (by rw [List.getElem?_take, if_pos hji]; exact hj)))] at e1
            cases e1
            exact mem_lk (hpw.sublist (selL_sub _ _ _)) (selL_mem.2 ⟨j, hj, by simpa using hlj⟩)
          · have hlj : listed.getD j false = false := by
              cases hlj : listed.getD j false with
              | false => rfl
              | true =>
                have := hcl j oj hoj hlj e he hb
                rw [heq, hun'] at this
                cases this
            rw [nomem_lk fun y'' hy => ?_] at e1
            · rw [nomem_lk fun y'' hy => ?_]
              · exact e1
              · obtain ⟨j', hj', hl'⟩ := selL_mem.1 hy
                rw [huniq j' y'' hj'] at hl'
                simp [hlj] at hl'
            · obtain ⟨j', hj'⟩ := List.mem_iff_getElem?.1 (List.mem_reverse.1 hy)
              rw [List.getElem?_take] at hj'
              split at hj'
              · have := huniq j' y'' hj'; omega
              · cases hj'
        · have hno : ∀ y, (t, y) ∉ prs := fun y hy => by
            obtain ⟨j, hj⟩ := List.mem_iff_getElem?.1 hy
            exact hex ⟨j, y, hj⟩
          rw [nomem_lk fun y hy => hno y (List.mem_of_mem_take (List.mem_reverse.1 hy))] at e1
          rw [nomem_lk fun y hy => hno y ((selL_sub _ _ _).subset hy)]
          exact e1
      refine stepD_wp hl hT hop' hle hs' g2 g3 g4 g5 fun o2 h2 v w1 hs2 hext => ?_
      have hget : ∀ j, (listed.setIfInBounds i true).getD j false = if j = i then true else listed.getD j false := fun j => by
        by_cases hji : j = i
        · subst hji
          rw [if_pos rfl, Array.getD_eq_getD_getElem?, Array.getElem?_setIfInBounds_self]
          simp [hsz, hlt]
        · rw [if_neg hji, getD_set_ne false (Ne.symm hji)]
      refine ih (listed.setIfInBounds i true) o2 h2 _ w1 (by simp [hsz]) (fun j hj => by rw [hget, if_neg (by omega)]; exact hnl j hj) ?_ ?_ ⟨hs2.size, hs2.tags, fun t x hlk => hs2.slot t x ?_, hs2.res⟩ (hx.trans hext)
      · have := cntU_upd (ls := fun j => listed.getD j false) (ls' := fun j => (listed.setIfInBounds i true).getD j false) (i := i) (n := n) (by omega) hun' (by simp [hget]) fun j hj => by simp [hget, hj]
        omega
      · intro j oj hoj hlj e he hb
        rw [hget] at hlj ⊢
        by_cases he' : e.on = i
        · rw [if_pos he']
        · rw [if_neg he']
          by_cases hji : j = i
          · subst hji
            rw [hop'] at hoj
            cases hoj
            exact haft e he hb
          · rw [if_neg hji] at hlj
            exact hcl j oj hoj hlj e he hb
      · simp only at hlk ⊢
        rw [lk_cons]
        by_cases hdt : d = t
        · subst hdt
          rw [if_pos rfl]
          have := mem_lk (base := A.sl) (hpw.sublist (selL_sub (fun j => (listed.setIfInBounds i true).getD j false) 0 prs)) (selL_mem.2 ⟨i, g1, by simp [hget]⟩)
          rw [this] at hlk
          exact hlk
        · rw [if_neg hdt]
          by_cases hex : ∃ (j : Nat) (y' : SV), prs[j]? = some (t, y') ∧ (listed.setIfInBounds i true).getD j false = true
          · obtain ⟨j, y', hj, hlj⟩ := hex
            have hji : j ≠ i := by
              rintro rfl
              rw [g1] at hj
              cases hj
              exact hdt rfl
            rw [hget, if_neg hji] at hlj
            have := mem_lk (base := A.sl) (hpw.sublist (selL_sub (fun j => (listed.setIfInBounds i true).getD j false) 0 prs)) (selL_mem.2 ⟨j, hj, by simpa [hget, hji] using hlj⟩)
            rw [this] at hlk
            cases hlk
            exact mem_lk (hpw.sublist (selL_sub _ _ _)) (selL_mem.2 ⟨j, hj, by simpa using hlj⟩)
          · rw [nomem_lk fun y' hy => ?_] at hlk
            · rw [nomem_lk fun y' hy => ?_]
              · exact hlk
              · obtain ⟨j, hj, hlj⟩ := selL_mem.1 hy
                refine hex ⟨j, y', hj, ?_⟩
                rw [hget]
                split
                · rfl
                · simpa using hlj
            · obtain ⟨j, hj, hlj⟩ := selL_mem.1 hy
              exact hex ⟨j, y', hj, by simpa using hlj⟩
  refine main ops.size (Array.replicate ops.size false) o h tm w.drew (by simp) (fun j _ => by simp [Array.getD_eq_getD_getElem?, Array.getElem?_replicate]; split <;> rfl) ?_ ?_ ?_ (Ext.drew o w)
  · have : ∀ n, cntU (fun j => (Array.replicate ops.size false).getD j false) n ≤ n := by
      intro n
      induction n with
      | zero => exact Nat.le_refl _
      | succ n ih => simp only [cntU]; split <;> omega
    have := this n
    omega
  · intro i oi hoi hli
    simp [Array.getD_eq_getD_getElem?, Array.getElem?_replicate] at hli
    split at hli <;> cases hli
  · have hs' := hs.drew
    refine ⟨hs'.size, hs'.tags, fun t x hlk => hs'.slot t x ?_, hs'.res⟩
    rw [nomem_lk fun y hy => ?_] at hlk
    · exact hlk
    · obtain ⟨j, hj, hlj⟩ := selL_mem.1 hy
      simp [Array.getD_eq_getD_getElem?, Array.getElem?_replicate] at hlj
      split at hlj <;> cases hlj


/-- as far as a region that draws its order and ends in such operations -/
theorem KW.goDS {k k' : List K} {e : Exit} {A'' : St} (hl : LayOk P lay) (hT : FnsOk P fns) (hm : P.follows .mixedOrders = true) (f : Nat) {id : Nat} {ops : Array Oper} {φ ψ : Prop} (h : run2 lay fns f k e A True = (.code (.region id ops true) :: k', .normal, A', φ)) (n : Nat) (hsz0 : Nat.blt n ops.size = true) (hdep : depOk ops = true) (htl : tailsOk ops n = true)
    (hg : drawGo lay fns ops (takeN n ops.toList) A' True = some (A'', ψ)) (hφ : φ) (hψ : ψ) (hn : KW P (.ops ops (dropN n ops.toList) :: k') .normal A'' Q) : KW P k e A Q :=
  KW.go hl hT f h hφ (KW.drawnTails hl hT hm hsz0 hdep htl hg hψ hn)
end
end Go.Sy

/-
  SORTING ROWS OF STRUCTS, out of the shelf's contract. No program is named here.
-/
namespace Go.Sy
open Go.Sort Go.Lib Go.Shelf Go.Proofs
variable [Drw]

section
variable {α : Type} [Inhabited α] {enc : α → List Value} {k : Nat} {cenc : α → Nat → CV} {d0 : α}
theorem own_putK (hk : ∀ x, (enc x).length = k) (h1 : ∀ x, ∀ v ∈ enc x, v.oneCell' = true) (henc : ∀ x q, q < k → cenc x q = .lit ((enc x)[q]!))
    {o : Nat → Tag} {h : Nat → Value} {w w' : World} {i b n cap E m : Nat} {x : CV} {D : Array α} {os : Array Obj}
    (hr : ResOk o h w i (.own E x)) (hx : ∃ f, x = .sl n k f) (hb : h i = .slice (some ⟨b, 0, none⟩) n cap) (hw : w' = sortWorldK enc k w b 0 m D os) (hn : D.size = n) :
    ResOk o h w' i (.own E (rows k cenc d0 D.toList)) ∧ Ext o w o w' := by
  obtain ⟨f, rfl⟩ := hx
  subst hn
  obtain ⟨vs, hown, htag, hv⟩ := hr
  have ht : o b = .hd i := htag b (by rw [hb]; rfl)
  rcases hown.2 with ⟨h1', _⟩ | ⟨g, cap', cur, h1', g0, h2, h3, h4, h5, h6⟩
  · rw [hb] at h1'; cases h1'
  · rw [hb] at h1'
    simp only [Value.slice.injEq, Option.some.injEq, Addr.mk.injEq, and_true] at h1'
    obtain ⟨rfl, _, rfl⟩ := h1'
    have hw2 : w' = sortWorld id w b 0 m (flatK enc k D) os := hw
    obtain ⟨g1, g2, g3⟩ := heap_sortWorld id w b m (flatK enc k D) os h2
    have hfs : (flatK enc k D).size = D.size * k := size_flatK enc k D
    have hle : D.size * k ≤ cap * k := Nat.mul_le_mul_right k h3
    obtain ⟨p1, p2⟩ := putCells_take id (flatK enc k D) cur (D.size * k) (by omega) (by omega)
    rw [← hw2] at g1 g2 g3
    have hft : (putCells id 0 (flatK enc k D) cur).toList.take (D.size * k) = (flatK enc k D).toList := by
      rw [p2, List.map_id, List.take_of_length_le (by simp [hfs])]
    refine ⟨⟨(flatK enc k D).toList, ⟨by simp [hfs], .inr ⟨b, cap, putCells id 0 (flatK enc k D) cur, hb, g0, g1, h3, h4, by rw [p1]; exact h5, hft⟩⟩, htag, fun e q he hq => ?_⟩, ⟨g3, by rw [hw2]; rfl, by rw [hw2]; rfl, by rw [hw2]; rfl, by rw [hw2]; exact Drw.mono _ _ (Nat.le_add_right _ _), fun z hz hl => ⟨hz, ?_⟩, fun z hz hl => ⟨hz, ?_⟩⟩⟩
    · have he' : e < D.size := by simpa using he
      have hek : e * k + q < D.size * k := by
        have := Nat.mul_le_mul_right k (show e + 1 ≤ D.size from he')
        rw [Nat.add_mul, Nat.one_mul] at this; omega
      have hdiv : (e * k + q) / k = e := by rw [Nat.mul_comm, Nat.mul_add_div (by omega), Nat.div_eq_of_lt hq, Nat.add_zero]
      have hmod : (e * k + q) % k = q := by rw [Nat.mul_comm, Nat.mul_add_mod, Nat.mod_eq_of_lt hq]
      have hget := get_flatK enc k D (e * k + q) hek
      rw [hdiv, hmod] at hget
      have hD : D.toList.getD e d0 = D[e]! := by rw [List.getD_eq_getElem?_getD, Array.getElem?_toList, Array.getElem?_eq_getElem he', getElem!_pos D e he']; rfl
      refine ⟨(enc D[e]!)[q]!, ?_, ?_⟩
      · rw [← hget, Array.getElem?_toList, Array.getElem?_eq_getElem (by omega), getElem!_pos _ _ (by omega)]
      · show RepV o w' (cenc (D.toList.getD e d0) q) _
        rw [hD, henc _ _ hq]
        refine ⟨rfl, h1 D[e]! _ ?_⟩
        rw [getElem!_pos (enc D[e]!) q (by rw [hk]; exact hq)]
        exact List.getElem_mem _
    · exact g2 z (by rintro rfl; rw [ht] at hz; cases hz) hl
    · exact g2 z (by rintro rfl; rw [ht] at hz; cases hz) hl

theorem rows_cells (hk : ∀ x, (enc x).length = k) (henc : ∀ x q, q < k → cenc x q = .lit ((enc x)[q]!))
    {o : Nat → Tag} {h : Nat → Value} {w : World} {i E b n cap : Nat} {D : Array α} {xs : List α} (hD : D.toList = xs) (hr : ResOk o h w i (.own E (rows k cenc d0 xs))) (hb : h i = .slice (some ⟨b, 0, none⟩) n cap) :
    n = D.size ∧ b < w.heap.size ∧ HoldsK enc k w b 0 D := by
  obtain ⟨vs, hown, htag, hv⟩ := hr
  have hlen : xs.length = D.size := by rw [← hD]; simp
  rcases hown.2 with ⟨h1, _⟩ | ⟨g, cap', cur, h1, g0, h2, h3, h4, h5, h6⟩
  · rw [hb] at h1; cases h1
  · rw [hb] at h1
    simp only [Value.slice.injEq, Option.some.injEq, Addr.mk.injEq, and_true] at h1
    obtain ⟨rfl, hnn, rfl⟩ := h1
    refine ⟨by omega, ?_, fun j hj => ?_⟩
    · rcases Nat.lt_or_ge b w.heap.size with h | h
      · exact h
      · simp [Array.getElem?_eq_none h] at h2
    · rw [size_flatK] at hj
      have k0 : 0 < k := by rcases Nat.eq_zero_or_pos k with h | h; · subst h; simp at hj
                            · exact h
      have he : j / k < D.size := Nat.div_lt_of_lt_mul (by rw [Nat.mul_comm]; exact hj)
      have hq : j % k < k := Nat.mod_lt _ k0
      obtain ⟨u, hu, hrep⟩ := hv (j / k) (j % k) (by omega) hq
      have hjj : j / k * k + j % k = j := by rw [Nat.mul_comm]; exact Nat.div_add_mod j k
      rw [hjj] at hu
      have hcell := hown.cells (g := b) (by rw [hb]; rfl) _ _ hu
      rw [addr_add] at hcell
      refine ⟨?_, by simp [World.frozen?, h2]⟩
      rw [hcell, get_flatK enc k D j hj]
      have hg : xs.getD (j / k) d0 = D[j / k]! := by rw [← hD, List.getD_eq_getElem?_getD, Array.getElem?_toList, Array.getElem?_eq_getElem he, getElem!_pos D _ he]; rfl
      replace hrep : RepV o w (cenc (xs.getD (j / k) d0) (j % k)) u := hrep
      rw [hg, henc _ _ hq] at hrep
      rw [hrep.1]; rfl
end

section
variable {P : Program} {ρ : Ren}
omit [Drw] in
/-- in whatever memory, of which it need know nothing: what a comparison of structs does, in the sort's own words -/
theorem cmp_laysK {α : Type} [Inhabited α] {enc : α → List Value} {k : Nat} (h1 : ∀ x, ∀ v ∈ enc x, v.oneCell' = true) {g : Nat} {cf : α → α → Int}
    (D : ∀ x y, @DoesF drwOn P g [.ag ((enc x).map .lit), .ag ((enc y).map .lit)] [] (sI (cf x y)) []) (blk off size : Nat) (w : World) : CmpLays P g #[] enc k cf blk off size w := by
  letI : Drw := drwOn
  intro m os dk _ x y
  generalize sortWorldK enc k w blk off m dk os = W
  have hag : ∀ x : α, EvOk (fun _ => .no) (fun _ => undef) W (.ag ((enc x).map .lit)) (.agg (enc x).toArray) := fun x => by
    refine ⟨_, rfl, by simp, fun q z hq => ?_⟩
    simp only [List.getElem?_map, Option.map_eq_some_iff] at hq
    obtain ⟨v, hv, rfl⟩ := hq
    exact ⟨v, by simpa using hv, rfl, h1 x v (List.mem_of_getElem? hv)⟩
  have he : (#[Value.agg (enc x).toArray, Value.agg (enc y).toArray] ++ (#[] : Array Value)) = #[Value.agg (enc x).toArray, Value.agg (enc y).toArray] := by simp
  rw [he]
  refine Calls.mono (D x y (fun _ => .no) (fun _ => undef) #[.agg (enc x).toArray, .agg (enc y).toArray] W ⟨rfl, fun b => ⟨fun i h => (by cases h), fun h => (by cases h)⟩, fun s z hl => ?_, fun i r hl => by simp [lk] at hl⟩) ?_
  · simp only [idx, lk_cons] at hl
    split at hl
    · rename_i e; subst e; cases hl; exact hag x
    · split at hl
      · rename_i e; subst e; cases hl; exact hag y
      · simp [lk] at hl
  · rintro e w' ⟨u, o', h', rfl, hs, hx⟩
    have hu : RepV o' w' (.lit (.int .i64 (cf x y))) u := hs.slot 0 (sI _) (by rw [lk_cons, if_pos rfl])
    refine ⟨by rw [hu.1], w'.drawn - W.drawn, w'.heap.extract W.heap.size w'.heap.size, ?_⟩
    have hheap : w'.heap = W.heap ++ w'.heap.extract W.heap.size w'.heap.size := by
      refine Array.ext_getElem? fun k => ?_
      rw [Array.getElem?_append]
      split
      · rename_i hk; exact (hx.no k rfl hk).2
      · rename_i hk
        rw [Array.getElem?_extract]
        split
        · congr 1; omega
        · rw [Array.getElem?_eq_none]; simp at *; omega
    have hdr : W.drawn ≤ w'.drawn := hx.drawn
    have ht := hx.tape
    have ho := hx.os
    have hou := hx.output
    obtain ⟨he, ta, dr, os1, ou⟩ := w'
    obtain ⟨he2, ta2, dr2, os2, ou2⟩ := W
    simp only [grow, World.drewN] at *
    subst ht; subst ho; subst hou
    rw [← hheap, show dr2 + (dr - dr2) = dr by omega]

theorem sortFuncK_does {α : Type} {enc : α → List Value} {k : Nat} {cenc : α → Nat → CV} {d0 : α} (hk : ∀ x, (enc x).length = k) (h1 : ∀ x, ∀ v ∈ enc x, v.oneCell' = true) (henc : ∀ x q, q < k → cenc x q = .lit ((enc x)[q]!))
    (L : SlLaysF0.n6 P ρ) {F : Nat} (hF : ρ.f 6 = F) (aE : ∀ w, (isAgg (ρ.t 24)).run P w = .ok true w) (zE : ∀ w, (Go.sizeOf (ρ.t 24)).run P w = .ok k w) {V : α → Prop} {cf : α → α → Int} {g : Nat} {ks : Nat → Nat} {caps : Nat → Nat → CV} (hO : SWO (ltOf cf))
    (hT : ∀ x y, V x → V y → cf x y = 0 → x = y) (hA : ∀ x y, cf x y = 0 ∨ cf x y < 0 ∨ cf y x < 0) (eg : ∀ args w, (callFunc g args).run P w = .ok (.enter g args) w)
    (D : ∀ x y, V x → V y → @DoesF drwOn P g [.ag ((enc x).map .lit), .ag ((enc y).map .lit)] [] (sI (cf x y)) [])
    (E : Nat) (xs : List α) (hV : ∀ x ∈ xs, V x) (hlen : xs.length < 4611686018427387904) :
    DoesK P F [.r 0, .c (.clo g 0 ks caps)] [(0, .own E (rows k cenc d0 xs))] (.tup []) [(0, .own E (rows k cenc d0 (xs.mergeSort fun x y => !decide (cf y x < 0))))] [0] := by
  intro o h args w hs
  have h0 : args.getD 0 undef = h 0 := hs.slot 0 (.e (.r 0)) rfl
  have hf1 : args.getD 1 undef = .func (.func g) #[] #[] := by
    obtain ⟨bs, hv, _⟩ := hs.slot 1 (.e (.c (.clo g 0 ks caps))) rfl
    exact hv
  have hr := hs.res 0 _ rfl
  have hargs := args2 (by exact hs.size) h0 hf1
  subst hargs
  have fin0 : ∀ {e w'}, e = Ending.returned (.tuple #[]) ∧ w' = w → xs = [] → ∃ v o' h', e = .returned v ∧ Sat o' h' ⟨1, [(0, .tup [])], [(0, .own E (rows k cenc d0 (xs.mergeSort fun x y => !decide (cf y x < 0))))]⟩ #[v] w' ∧ Ext o w o' w' ∧ ∀ j ∈ [0], h' j = h j := by
    rintro e w' ⟨rfl, rfl⟩ rfl
    refine ⟨_, o, h, rfl, ⟨rfl, hs.tags, fun s x hl => ?_, fun i r hl => ?_⟩, Ext.refl _ _, fun _ _ => rfl⟩
    · rw [lk_cons] at hl
      split at hl
      · rename_i e; subst e; cases hl; exact ⟨#[], rfl, rfl, by simp⟩
      · simp [lk] at hl
    · rw [lk_cons] at hl
      split at hl
      · rename_i e; subst e; cases hl; simpa using hr
      · simp [lk] at hl
  have hr2 := hr
  obtain ⟨vs, hown, htag, hv⟩ := hr2
  rcases hown.2 with ⟨g1, g2⟩ | ⟨b, cap, cur, g1, _, g2, g3, g4, g5, g6⟩
  · rw [g1]
    have hnil : xs = [] := List.length_eq_zero_iff.1 g2
    rw [← hF]
    exact (AnyF.slices_SortFunc_none L none 0 _ w).mono fun _ _ hq => fin0 hq hnil
  · by_cases hnil : xs = []
    · subst hnil
      rw [g1, ← hF]
      exact (AnyF.slices_SortFunc_none L _ cap _ w).mono fun _ _ hq => fin0 hq rfl
    · obtain ⟨x0, hx0⟩ := List.exists_mem_of_ne_nil xs hnil
      haveI : Inhabited {x // V x} := ⟨⟨x0, hV x0 hx0⟩⟩
      haveI : Inhabited α := ⟨x0⟩
      let ds : List {x // V x} := xs.attach.map fun x => ⟨x.1, hV x.1 x.2⟩
      have hds : ds.map (fun x => x.1) = xs := by simp [ds]
      have hdl : ds.length = xs.length := by simp [ds]
      let enc' : {x // V x} → List Value := fun x => enc x.1
      let cenc' : {x // V x} → Nat → CV := fun x => cenc x.1
      have hk' : ∀ x, (enc' x).length = k := fun x => hk x.1
      have h1' : ∀ x, ∀ v ∈ enc' x, v.oneCell' = true := fun x => h1 x.1
      have henc' : ∀ x q, q < k → cenc' x q = .lit ((enc' x)[q]!) := fun x => henc x.1
      have hrow : ∀ l : List {x // V x}, ∀ e q, e < l.length → CVEq (cenc' (l.getD e ⟨x0, hV x0 hx0⟩) q) (cenc ((l.map fun x => x.1).getD e d0) q) := fun l e q he => by
        have e1 : (l.map fun x => x.1).getD e d0 = (l.getD e ⟨x0, hV x0 hx0⟩).1 := by simp [List.getD_eq_getElem?_getD, he]
        rw [e1]; exact CVEq.refl _
      have hrow' : ∀ l : List {x // V x}, ∀ e q, e < l.length → CVEq (cenc ((l.map fun x => x.1).getD e d0) q) (cenc' (l.getD e ⟨x0, hV x0 hx0⟩) q) := fun l e q he => by
        have e1 : (l.map fun x => x.1).getD e d0 = (l.getD e ⟨x0, hV x0 hx0⟩).1 := by simp [List.getD_eq_getElem?_getD, he]
        rw [e1]; exact CVEq.refl _
      have hr' : ResOk o h w 0 (.own E (rows k cenc' ⟨x0, hV x0 hx0⟩ ds)) := by
        obtain ⟨vs, hown, htag, hv⟩ := hr
        refine ⟨vs, ?_, htag, fun e q he hq => ?_⟩
        · rw [hdl]; exact hown
        · obtain ⟨u, hu, hrep⟩ := hv e q (by omega) hq
          refine ⟨u, hu, RepV.conv ?_ hrep⟩
          have := hrow' ds e q he
          rw [hds] at this
          exact this
      obtain ⟨hn, hblt, hH⟩ := rows_cells (enc := enc') (cenc := cenc') hk' henc' (D := ds.toArray) (by simp) hr' g1
      have hsw : SWO (ltOf fun x y : {x // V x} => cf x.1 y.1) := ⟨fun x => hO.irrefl x.1, fun x y z => hO.trans x.1 y.1 z.1, fun x y z => hO.ntrans x.1 y.1 z.1⟩
      have hcon := AnyQ.slices_SortFunc_total L k aE zE enc' hk' h1' (fun x y => cf x.1 y.1) hsw g #[] b 0 cap ds.toArray w eg (cmp_laysK h1' (fun x y => D x.1 y.1 x.2 y.2) b 0 _ w) hH hblt (by simpa [hdl] using hlen)
        (fun x y a c => by
          have a' : ¬ cf x.1 y.1 < 0 := by simpa [ltOf] using a
          have c' : ¬ cf y.1 x.1 < 0 := by simpa [ltOf] using c
          rcases hA x.1 y.1 with e | e | e
          · exact Subtype.ext (hT _ _ x.2 y.2 e)
          · exact absurd e a'
          · exact absurd e c')
      have hsz : ds.toArray.size = xs.length := by simp [hdl]
      rw [hF, hsz] at hcon
      rw [g1]
      refine hcon.mono ?_
      rintro e w' ⟨rfl, m, os, hw⟩
      have hmap : ((ds.mergeSort fun x y => !(ltOf (fun x y : {x // V x} => cf x.1 y.1)) y x).map fun x => x.1) = xs.mergeSort fun x y => !decide (cf y x < 0) := by
        rw [← hds, List.map_mergeSort (s := fun x y => !decide (cf y x < 0))]
        intro a _ c _
        rfl
      have hput := own_putK (enc := enc') (cenc := cenc') (d0 := ⟨x0, hV x0 hx0⟩) hk' h1' henc' hr' ⟨_, rfl⟩ (by rw [hdl]; exact g1) hw (by simp)
      have hres : ResOk o h w' 0 (.own E (rows k cenc d0 (xs.mergeSort fun x y => !decide (cf y x < 0)))) := by
        obtain ⟨vs, hown, htag, hv⟩ := hput.1
        refine ⟨vs, ?_, htag, fun e q he hq => ?_⟩
        · have e3 : (xs.mergeSort fun x y => !decide (cf y x < 0)).length = (ds.mergeSort fun x y => !(ltOf (fun x y : {x // V x} => cf x.1 y.1)) y x).length := by rw [← hmap]; simp
          rw [e3]
          simpa using hown
        · rw [← hmap] at he ⊢
          have he' : e < (ds.mergeSort fun x y => !(ltOf (fun x y : {x // V x} => cf x.1 y.1)) y x).length := by simpa using he
          obtain ⟨u, hu, hrep⟩ := hv e q (by simpa using he') hq
          refine ⟨u, hu, RepV.conv ?_ hrep⟩
          exact hrow _ e q he'
      refine ⟨_, o, h, rfl, ⟨rfl, fun k => ⟨fun i hk => Nat.lt_of_lt_of_le ((hs.tags k).1 i hk) hput.2.size, fun hk => Nat.lt_of_lt_of_le ((hs.tags k).2 hk) hput.2.size⟩, fun s x hl => ?_, fun i r hl => ?_⟩, hput.2, fun _ _ => rfl⟩
      · rw [lk_cons] at hl
        split at hl
        · rename_i e; subst e; cases hl; exact ⟨#[], rfl, rfl, by simp⟩
        · simp [lk] at hl
      · rw [lk_cons] at hl
        split at hl
        · rename_i e; subst e; cases hl; exact hres
        · simp [lk] at hl
end
end Go.Sy

/-
  SYMBOLIC STATES: functions whose results lie in variables of their own.
-/
namespace Go.Sy
variable [Drw]
def rvE (lay : Lay) (A : St) : ResultVar → Option EV
  | .tmp t => match lk A.sl t with
    | some (.e x) => some x
    | _ => none
  | .cell a t => match lk lay t, lk A.sl a with
    | some ⟨s, agg, _, _⟩, some (.e (.r i)) => match lk A.rs i with
      | some (.box _ cs _) => match ldBox agg s cs 0 True with
        | some (.e x, _) => some x
        | _ => none
      | _ => none
    | _, _ => none
def rvEs (lay : Lay) (A : St) : List ResultVar → Option (List EV)
  | [] => some []
  | x :: l => match rvE lay A x, rvEs lay A l with
    | some e, some es => some (e :: es)
    | _, _ => none
def retC (lay : Lay) (A : St) (rv : List ResultVar) : Option SV :=
  match rv with
  | [x] => match rvE lay A x with
    | some e => some (.e e)
    | none => none
  | rv => match rvEs lay A rv with
    | some es => some (.tup es)
    | none => none
section
variable {P : Program} {lay : Lay} {A A' : St} {Q : Exit → St → Prop} {k k' : List K} {e : Exit} {o : Nat → Tag} {h : Nat → Value} {tm : Array Value} {w : World}
theorem rvE_ok (hl : LayOk P lay) (hs : Sat o h A tm w) {x : ResultVar} {y : EV} (hr : rvE lay A x = some y) : ∃ v, (rvS tm x).run P w = .ok v w ∧ EvOk o h w y v := by
  unfold rvE at hr
  split at hr
  · rename_i t
    split at hr
    · rename_i z hz
      simp only [Option.some.injEq] at hr
      subst hr
      exact ⟨_, rfl, hs.slot t _ hz⟩
    · cases hr
  · rename_i a t
    split at hr
    · rename_i s agg td z i hT ha
      split at hr
      · rename_i T cs bk hb
        split at hr
        · rename_i z0 p0 hld
          simp only [Option.some.injEq] at hr
          subst hr
          obtain ⟨b, vs, hbk, h1, h2, h3, h4, h5⟩ := hs.res i _ hb
          obtain ⟨v, hv, hx⟩ := ldBox_ok hl hT h2 h4 h5 hld
          have h0 : tm.getD a undef = h i := hs.slot a _ ha
          refine ⟨v, ?_, hx⟩
          rw [← hv]
          simp [rvS, h0, h1, asAddr, Instr.loadAt, Instr.sureAddr]
        · cases hr
      · cases hr
    · cases hr
theorem rvEs_ok (hl : LayOk P lay) (hs : Sat o h A tm w) : ∀ {l : List ResultVar} {ys : List EV}, rvEs lay A l = some ys → ∃ vs : List Value, (l.mapM (rvS tm)).run P w = .ok vs w ∧ vs.length = ys.length ∧ ∀ (q : Nat) y, ys[q]? = some y → ∃ v, vs[q]? = some v ∧ EvOk o h w y v
  | [], ys, hr => by
    simp only [rvEs, Option.some.injEq] at hr
    subst hr
    exact ⟨[], rfl, rfl, by simp⟩
  | x :: l, ys, hr => by
    simp only [rvEs] at hr
    split at hr
    · rename_i e es h1 h2
      simp only [Option.some.injEq] at hr
      subst hr
      obtain ⟨v, g1, g2⟩ := rvE_ok hl hs h1
      obtain ⟨vs, g3, g4, g5⟩ := rvEs_ok hl hs h2
      refine ⟨v :: vs, by simp only [List.mapM_cons, Sem.run_bind, g1, g3, Result.andThen_ok, Sem.run_pure], by simp [g4], fun q y hq => ?_⟩
      cases q with
      | zero => simp at hq; subst hq; exact ⟨v, rfl, g2⟩
      | succ q => simp at hq; simpa using g5 q y hq
    · cases hr
theorem resultsC_ok (hl : LayOk P lay) (hs : Sat o h A tm w) {fn : Func} {y : SV} (hr : retC lay A fn.results.toList = some y) : ∃ v, (results fn tm).run P w = .ok v w ∧ SvOk o h w y v := by
  have hM : ∀ vs : List Value, (fn.results.toList.mapM (rvS tm)).run P w = .ok vs w → (results fn tm).run P w = .ok (if h : vs.toArray.size = 1 then vs.toArray[0] else .tuple vs.toArray) w := fun vs hv => by
    have : (fn.results.mapM (rvS tm)).run P w = .ok vs.toArray w := by
      rw [Array.mapM_eq_mapM_toList]
      simp only [Sem.run_map]
      rw [hv]; rfl
    rw [results_eq]
    simp only [Sem.run_bind, this, Result.andThen_ok, Sem.run_pure]
  unfold retC at hr
  split at hr
  · rename_i x hx
    split at hr
    · rename_i e he
      simp only [Option.some.injEq] at hr
      subst hr
      obtain ⟨v, g1, g2⟩ := rvE_ok hl hs he
      exact ⟨_, hM [v] (by rw [hx]; simp [g1]), g2⟩
    · cases hr
  · rename_i rv hne
    split at hr
    · rename_i es he
      simp only [Option.some.injEq] at hr
      subst hr
      obtain ⟨vs, g3, g4, g5⟩ := rvEs_ok hl hs he
      refine ⟨_, hM vs g3, ?_⟩
      have hlen : vs.toArray.size ≠ 1 := by
        intro h1
        have hl2 : es.length = 1 := by rw [← g4]; simpa using h1
        match hres : fn.results.toList, he with
        | [], he => simp only [rvEs, Option.some.injEq] at he; subst he; simp at hl2
        | [x], _ => exact hne x hres
        | x :: x' :: l, he =>
          simp only [rvEs] at he
          split at he
          · rename_i e es' _ h2
            split at h2
            · simp only [Option.some.injEq] at he h2
              subst h2; subst he; simp at hl2
            · cases h2
          · cases he
      rw [dif_neg hlen]
      exact ⟨_, rfl, by simp [g4], fun q x hq => by simpa using g5 q x hq⟩
    · cases hr
/-- a function's contract, out of its body -/
theorem DoesF.ofC (hlay : LayOk P lay) {f : FuncId} {fn : Func} {c : Code} {ys : List EV} {rs rs' : List (Nat × Res)} {y : SV} (n : Nat) (hf : P.funcs[f]? = some fn) (hb : fn.body = some c) (hnt : fn.ntmps = n) (hn : Nat.ble ys.length n = true)
    (hk : KW P [.code c] .normal ⟨n, idx 0 ys, rs⟩ fun e A' => (e = .ret ∨ e = .normal) ∧ ∃ y0 ρ, retC lay A' fn.results.toList = some y0 ∧ oneB ρ = true ∧ y0 = y.ren ρ ∧ subR ρ A' rs') :
    DoesF P f ys rs y rs' := by
  subst hnt
  have hn : ys.length ≤ fn.ntmps := by simpa using hn
  intro o h args w hs
  refine calls_of_wp hf hb ?_
  have hsz : args.size = ys.length := hs.size
  have hs' : Sat o h ⟨fn.ntmps, idx 0 ys, rs⟩ (args ++ Array.replicate (fn.ntmps - args.size) undef) w := by
    refine ⟨by simp [hsz]; omega, hs.tags, fun s x hl => ?_, hs.res⟩
    have := hs.slot s x hl
    obtain ⟨_, hlt, _⟩ := idx_lt ys 0 s x hl
    have e1 : (args ++ Array.replicate (fn.ntmps - args.size) undef).getD s undef = args.getD s undef := by
      rw [Array.getD_eq_getD_getElem?, Array.getD_eq_getD_getElem?, Array.getElem?_append_left (by omega)]
    rw [e1]; exact this
  refine wp_mono (codeQ_wp (hk o h _ w hs')) ?_
  rintro e ⟨tm', ds⟩ w' hl
  obtain ⟨hd, o', h', A', ⟨he, y0, ρ, hr, h1, rfl, hR⟩, hs2, hx⟩ : lift _ o w e ⟨tm', ds⟩ w' := by
    cases e <;> exact hl
  simp only at hd
  subst hd
  obtain ⟨v, hv, hy⟩ := resultsC_ok (P := P) hlay hs2 hr
  have hfin : ∃ v o' h', Ending.returned v = .returned v ∧ Sat o' h' ⟨1, [(0, y)], rs'⟩ #[v] w' ∧ Ext o w o' w' ∧ (results fn tm').run P w' = .ok v w' := by
    refine ⟨v, viewO ρ (fun _ => false) o', viewH ρ h', rfl, ⟨rfl, tags_view hs2 ρ _, fun s x hl => ?_, fun j r hl => ?_⟩, hx.trans ⟨Nat.le_refl _, rfl, rfl, rfl, Nat.le_refl _, fun b hb _ => ⟨viewO_sh hb, rfl⟩, fun b hb _ => ⟨viewO_no hb, rfl⟩⟩, hv⟩
    · rw [lk_cons] at hl
      split at hl
      · rename_i e; subst e; cases hl; exact hy.view (keep_view ρ _)
      · simp [lk] at hl
    · obtain ⟨i, hi, hr⟩ := subR_ok hR j r hl
      exact (hs2.res i _ hr).view h1 hi
  obtain ⟨v, o2, h2, _, g1, g2, g3⟩ := hfin
  rcases he with rfl | rfl
  · exact ⟨rfl, v, g3, v, o2, h2, rfl, g1, g2⟩
  · exact ⟨rfl, v, g3, v, o2, h2, rfl, g1, g2⟩
/-- what a function comes to -/
def RetQC (lay : Lay) (rv : List ResultVar) (y : SV) (rs' : List (Nat × Res)) : Exit → St → Prop := fun e A' =>
  (e = .ret ∨ e = .normal) ∧ ∃ y0 ρ, retC lay A' rv = some y0 ∧ oneB ρ = true ∧ y0 = y.ren ρ ∧ subR ρ A' rs'
theorem DoesF.bodyC {f : FuncId} {fn : Func} {c : Code} {ys : List EV} {rs rs' : List (Nat × Res)} {y : SV} {rv : List ResultVar} (hl : LayOk P lay) (n : Nat) (hf : P.funcs[f]? = some fn) (hb : fn.body = some c) (hnt : fn.ntmps = n) (hn : Nat.ble ys.length n = true)
    (hrv : fn.results.toList = rv) (hk : KW P [.code c] .normal ⟨n, idx 0 ys, rs⟩ (RetQC lay rv y rs')) : DoesF P f ys rs y rs' := by
  subst hrv
  exact DoesF.ofC hl n hf hb hnt hn hk
theorem KW.finC {rv : List ResultVar} {y y0 : SV} {rs' : List (Nat × Res)} (ρ : List (Nat × Nat)) (h1 : retC lay A rv = some y0) (h2 : oneB ρ = true) (h3 : y0 = y.ren ρ) (h4 : subR ρ A rs') : KW P [] .ret A (RetQC lay rv y rs') :=
  KW.done ⟨.inl rfl, y0, ρ, h1, h2, h3, h4⟩
theorem KW.goRetC {fns : Fns} (hl : LayOk P lay) (hT : FnsOk P fns) (f : Nat) {φ : Prop} (h : run2 lay fns f k e A True = ([], .ret, A', φ)) {rv : List ResultVar} {y y0 : SV} {rs' : List (Nat × Res)} (h1 : retC lay A' rv = some y0) (h3 : y0 = y.ren []) (hφ : φ) (h4 : subR [] A' rs') : KW P k e A (RetQC lay rv y rs') :=
  KW.go hl hT f h hφ (KW.finC [] h1 rfl h3 h4)
theorem fdiv_far {a : Int} (ha : inK .i64 a) {n : Nat} (hn : 64 ≤ n) : a.fdiv (2 ^ n) = a.fdiv (2 ^ 64) := by
  have key : ∀ m : Nat, 64 ≤ m → a.fdiv (2 ^ m) = if a < 0 then -1 else 0 := fun m hm => by
    have h1 : (2 : Nat) ^ 64 ≤ 2 ^ m := Nat.pow_le_pow_right (by decide) hm
    have h2 : (2 : Nat) ^ 64 = 18446744073709551616 := rfl
    have h3 : ((2 ^ m : Nat) : Int) = (2 : Int) ^ m := by simp
    have h4 : (18446744073709551616 : Int) ≤ (2 : Int) ^ m := by rw [← h3]; omega
    generalize (2 : Int) ^ m = M at h4
    simp only [inK] at ha
    rw [Int.fdiv_eq_ediv_of_nonneg _ (by omega)]
    split
    · refine Int.le_antisymm ?_ ?_
      · have := Int.ediv_lt_of_lt_mul (a := a) (b := 0) (c := M) (by omega) (by omega); omega
      · exact Int.le_ediv_of_mul_le (by omega) (by omega)
    · exact Int.ediv_eq_zero_of_lt (by omega) (by omega)
  rw [key n hn, key 64 (Nat.le_refl _)]
/-- a shift to the right, by however much -/
theorem KW.shrI {all : Array Oper} {op : Oper} {rest : List Oper} {T T2 d : Nat} {x y : Operand} {a b : Int} {k1 : IntKind} {p q : Prop} (ho : op.op = .binOp .shr T x y T2) (hg : op.guard = none) (hd : op.dst = some d) (hlt : Nat.blt d A.n = true)
    (hx : litOf A x = some (.int .i64 a, p)) (hy : litOf A y = some (.int k1 b, q)) (hp : p) (hq : q) (ha : inK .i64 a) (hb : 0 ≤ b)
    (hn : KW P (.ops all rest :: k) .normal ⟨A.n, (d, sI (ishr a b)) :: A.sl, A.rs⟩ Q) : KW P (.ops all (op :: rest) :: k) .normal A Q := by
  intro o h tm w hs
  have hlt : d < A.n := by simpa [Nat.blt, Nat.succ_le_iff] using hlt
  show wpList P all (kq P (lift Q o w) k) (op :: rest) ⟨tm, []⟩ w
  unfold wpList
  rw [if_pos (by simp [Region.wanted, hg])]
  left
  unfold Oper.wp
  show op.upon P ⟨tm, []⟩ _ _ ((execOp (evl tm) op).run P w)
  have hx' := (litOf_ok hs hx hp).1
  have hy' := (litOf_ok hs hy hq).1
  have hbit : IntKind.bits .i64 = 64 := rfl
  have hf : a.fdiv (2 ^ min b.toNat 64) = ishr a b := by
    unfold ishr
    rcases Nat.lt_or_ge b.toNat 64 with h | h
    · rw [Nat.min_eq_left (by omega)]
    · rw [Nat.min_eq_right h, fdiv_far ha h]
  have hrun : (execOp (evl tm) op).run P w = .ok (.value (.int .i64 (ishr a b))) w := by
    simp only [execOp, ho]
    refine value_of ?_
    rw [hx', hy']
    have hgd : (eqGuard .shr T x y (.int .i64 a) (.int k1 b)).run P w = .ok () w := by
      unfold eqGuard; split <;> first | rfl | simp_all
    simp only [Sem.run_bind, hgd, Result.andThen_ok]
    simp [binOp, Op.shift, show ¬ b < 0 by omega, hbit, hf]
  rw [hrun]
  show wpList P all (kq P (lift Q o w) k) rest ((⟨tm, []⟩ : Act).put op.dst _) w
  have hput : (⟨tm, []⟩ : Act).put op.dst (.int .i64 (ishr a b)) = ⟨tm.setIfInBounds d (.int .i64 (ishr a b)), []⟩ := by simp [Act.put, hd]
  rw [hput]
  exact hn o h _ w (hs.put hlt (show SvOk o h w (sI (ishr a b)) _ from ⟨rfl, rfl⟩))
/-- one operation that only computes a value -/
theorem KW.one (hl : LayOk P lay) {all : Array Oper} {op : Oper} {rest : List Oper} {d : Nat} {x : SV} {φ : Prop} (hg : op.guard = none) (hd : op.dst = some d) (hlt : Nat.blt d A.n = true) (he : evP lay A op = some (x, φ)) (hφ : φ)
    (hn : KW P (.ops all rest :: k) .normal ⟨A.n, (d, x) :: A.sl, A.rs⟩ Q) : KW P (.ops all (op :: rest) :: k) .normal A Q := by
  intro o h tm w hs
  have hlt : d < A.n := by simpa [Nat.blt, Nat.succ_le_iff] using hlt
  show wpList P all (kq P (lift Q o w) k) (op :: rest) ⟨tm, []⟩ w
  unfold wpList
  rw [if_pos (by simp [Region.wanted, hg])]
  left
  unfold Oper.wp
  show op.upon P ⟨tm, []⟩ _ _ ((execOp (evl tm) op).run P w)
  obtain ⟨v, hr, hv⟩ := evP_ok hl hs he hφ
  rw [hr]
  show wpList P all (kq P (lift Q o w) k) rest ((⟨tm, []⟩ : Act).put op.dst _) w
  have hput : (⟨tm, []⟩ : Act).put op.dst v = ⟨tm.setIfInBounds d v, []⟩ := by simp [Act.put, hd]
  rw [hput]
  exact hn o h _ w (hs.put hlt hv)
end
end Go.Sy

/-
  SyDa, SyDb, one text.
-/
/-
  SYMBOLIC STATES: a region that draws its order, some operations of which lay new memory.
-/
namespace Go.Sy
variable [Drw]
abbrev Tri := Nat × SV × List (Nat × Res)
def slotsX (ps : List Tri) : List (Nat × SV) := ps.map fun p => (p.1, p.2.1)
def resOf (ls : Nat → Bool) : Nat → List Tri → List (Nat × Res)
  | _, [] => []
  | k, p :: l => (if ls k = true then p.2.2 else []) ++ resOf ls (k + 1) l
theorem slotsX_length (ps : List Tri) : (slotsX ps).length = ps.length := by simp [slotsX]
theorem slotsX_get {ps : List Tri} {j d : Nat} {y : SV} {rn : List (Nat × Res)} (h : ps[j]? = some (d, y, rn)) : (slotsX ps)[j]? = some (d, y) := by simp [slotsX, h]
theorem slotsX_inv {ps : List Tri} {j d : Nat} {y : SV} (h : (slotsX ps)[j]? = some (d, y)) : ∃ y' rn, ps[j]? = some (d, y', rn) := by
  simp only [slotsX, List.getElem?_map, Option.map_eq_some_iff] at h
  obtain ⟨⟨d', y', rn⟩, h1, h2⟩ := h
  cases h2
  exact ⟨_, _, h1⟩
theorem resOf_congr_k {ls ls' : Nat → Bool} : ∀ {ps : List Tri} {k : Nat}, (∀ j, j < ps.length → ls (k + j) = ls' (k + j)) → resOf ls k ps = resOf ls' k ps
  | [], k, h => rfl
  | p :: l, k, h => by
    have h0 := h 0 (by simp)
    simp only [Nat.add_zero] at h0
    simp only [resOf, h0]
    congr 1
    exact resOf_congr_k fun j hj => by have := h (j + 1) (by simpa using hj); rwa [show k + (j + 1) = k + 1 + j by omega] at this
theorem resOf_congr {ls ls' : Nat → Bool} {ps : List Tri} (h : ∀ j, j < ps.length → ls j = ls' j) : resOf ls 0 ps = resOf ls' 0 ps := resOf_congr_k fun j hj => by simpa using h j hj
theorem resOf_none_k {ls : Nat → Bool} (h : ∀ j, ls j = false) : ∀ {ps : List Tri} {k : Nat}, resOf ls k ps = []
  | [], k => rfl
  | p :: l, k => by simp [resOf, h k, resOf_none_k h]
theorem resOf_none {ls : Nat → Bool} {ps : List Tri} (h : ∀ j, ls j = false) : resOf ls 0 ps = [] := resOf_none_k h
theorem resOf_mem_k {ls : Nat → Bool} {t : Nat} {r : Res} : ∀ {ps : List Tri} {k : Nat}, (t, r) ∈ resOf ls k ps → ∃ (j d : Nat) (y : SV) (rn : List (Nat × Res)), ps[j]? = some (d, y, rn) ∧ ls (k + j) = true ∧ (t, r) ∈ rn
  | [], k, h => by simp [resOf] at h
  | (d, y, rn) :: l, k, h => by
    simp only [resOf, List.mem_append] at h
    rcases h with h | h
    · split at h
      · rename_i hk; exact ⟨0, d, y, rn, rfl, hk, h⟩
      · cases h
    · obtain ⟨j, d', y', rn', h1, h2, h3⟩ := resOf_mem_k h
      exact ⟨j + 1, d', y', rn', by simpa using h1, by rw [show k + (j + 1) = k + 1 + j by omega]; exact h2, h3⟩
theorem resOf_mem {ls : Nat → Bool} {ps : List Tri} {t : Nat} {r : Res} (h : (t, r) ∈ resOf ls 0 ps) : ∃ (j d : Nat) (y : SV) (rn : List (Nat × Res)), ps[j]? = some (d, y, rn) ∧ ls (0 + j) = true ∧ (t, r) ∈ rn := resOf_mem_k h
/-- each lays what bears its own slot's number, if it lays anything -/
def OwnKeys (ps : List Tri) : Prop := ∀ (j d : Nat) (y : SV) (rn : List (Nat × Res)), ps[j]? = some (d, y, rn) → rn = [] ∨ ∃ r, rn = [(d, r)]
theorem lk_app_none {l base : List (Nat × Res)} {i : Nat} (h : ∀ r, (i, r) ∉ l) : lk (l ++ base) i = lk base i := by
  induction l with
  | nil => rfl
  | cons p l ih =>
    obtain ⟨k, r⟩ := p
    rw [List.cons_append, lk_cons, if_neg (fun e => h r (by rw [← e]; exact .head _)), ih fun r' hr => h r' (.tail _ hr)]
theorem freshR_mem {d : Nat} : ∀ {l : List (Nat × Res)}, freshR d l = true → ∀ {t : Nat} {r : Res}, (t, r) ∈ l → t ≠ d ∧ r.men d = false
  | [], _, t, r, h => by cases h
  | (j, r0) :: l, hf, t, r, h => by
    simp only [freshR, Bool.and_eq_true, Bool.not_eq_true'] at hf
    rcases List.mem_cons.1 h with e | e
    · cases e
      exact ⟨fun e => by subst e; simp at hf, hf.2.1⟩
    · exact freshR_mem hf.2.2 e
theorem freshR_of {d : Nat} : ∀ {l : List (Nat × Res)}, (∀ (t : Nat) (r : Res), (t, r) ∈ l → t ≠ d ∧ r.men d = false) → freshR d l = true
  | [], _ => rfl
  | (j, r0) :: l, h => by
    have h0 := h j r0 (.head _)
    have hb : Nat.beq j d = false := by
      cases hb : Nat.beq j d with
      | false => rfl
      | true => exact absurd (Nat.eq_of_beq_eq_true hb) h0.1
    simp only [freshR, hb, h0.2, Bool.not_false, Bool.true_and]
    exact freshR_of fun t r hm => h t r (.tail _ hm)
theorem freshS_of {d : Nat} : ∀ {l : List (Nat × SV)}, (∀ (t : Nat) (x : SV), (t, x) ∈ l → x.men d = false) → freshS d l = true
  | [], _ => rfl
  | (j, x) :: l, h => by
    simp only [freshS, h j x (.head _), Bool.not_false, Bool.true_and]
    exact freshS_of fun t x hm => h t x (.tail _ hm)
theorem freshS_mem {d : Nat} : ∀ {l : List (Nat × SV)}, freshS d l = true → ∀ {t : Nat} {x : SV}, (t, x) ∈ l → x.men d = false
  | [], _, t, x, h => by cases h
  | (j, x0) :: l, hf, t, x, h => by
    simp only [freshS, Bool.and_eq_true, Bool.not_eq_true'] at hf
    rcases List.mem_cons.1 h with e | e
    · cases e; exact hf.1
    · exact freshS_mem hf.2 e
theorem fresh_super {n d : Nat} {sl sl0 : List (Nat × SV)} {rs rs0 : List (Nat × Res)} (f2 : freshS d sl0 = true) (f3 : freshR d rs0 = true) (h1 : ∀ (t : Nat) (x : SV), (t, x) ∈ sl → x.men d = false) (h2 : ∀ (t : Nat) (r : Res), (t, r) ∈ rs → t ≠ d ∧ r.men d = false) : freshB ⟨n, sl ++ sl0, rs ++ rs0⟩ d = true := by
  simp only [freshB, Bool.and_eq_true]
  refine ⟨freshS_of fun t x hm => ?_, freshR_of fun t r hm => ?_⟩
  · rcases List.mem_append.1 hm with h | h
    · exact h1 t x h
    · exact freshS_mem f2 h
  · rcases List.mem_append.1 hm with h | h
    · exact h2 t r h
    · exact freshR_mem f3 h
theorem lk_mem {α : Type} : ∀ {l : List (Nat × α)} {i : Nat} {r : α}, lk l i = some r → (i, r) ∈ l
  | [], _, _, h => by simp [lk] at h
  | (j, x) :: l, i, r, h => by
    rw [lk_cons] at h
    split at h
    · rename_i e; subst e; cases h; exact .head _
    · exact .tail _ (lk_mem h)
theorem resOf_base {ls : Nat → Bool} {ps : List Tri} {rs : List (Nat × Res)} (hk : OwnKeys ps) (hf : ∀ (j d : Nat) (y : SV) (rn : List (Nat × Res)), ps[j]? = some (d, y, rn) → rn ≠ [] → freshR d rs = true) {i : Nat} {r : Res} (h : lk rs i = some r) : lk (resOf ls 0 ps ++ rs) i = some r := by
  rw [lk_app_none fun r' hm => ?_]
  · exact h
  · obtain ⟨j, d, y, rn, h1, h2, h3⟩ := resOf_mem hm
    rcases hk j d y rn h1 with e | ⟨r0, e⟩
    · rw [e] at h3; cases h3
    · rw [e] at h3
      simp only [List.mem_singleton, Prod.mk.injEq] at h3
      have := freshR_mem (hf j d y rn h1 (by rw [e]; simp)) (lk_mem h)
      exact this.1 h3.1
theorem resOf_upd {ls ls' : Nat → Bool} {base : List (Nat × Res)} {d : Nat} {y : SV} {rn : List (Nat × Res)} {t : Nat} (ht : ∀ r, (t, r) ∉ rn) : ∀ {ps : List Tri} {k i : Nat}, ps[i]? = some (d, y, rn) → (∀ j, j ≠ i → ls' (k + j) = ls (k + j)) → lk (resOf ls' k ps ++ base) t = lk (resOf ls k ps ++ base) t
  | [], k, i, h, _ => by simp at h
  | p :: l, k, 0, h, hl => by
    simp at h
    subst h
    have : resOf ls' (k + 1) l = resOf ls (k + 1) l := resOf_congr_k fun j hj => by have := hl (j + 1) (by omega); rwa [show k + (j + 1) = k + 1 + j by omega] at this
    simp only [resOf, this, List.append_assoc]
    have e1 : ∀ (b : Bool) (X : List (Nat × Res)), lk ((if b = true then rn else []) ++ X) t = lk X t := fun b X => lk_app_none fun r hm => by
      split at hm
      · exact ht r hm
      · cases hm
    rw [e1, e1]
  | p :: l, k, i + 1, h, hl => by
    have h0 := hl 0 (by omega)
    simp only [Nat.add_zero] at h0
    have ih := resOf_upd (ls := ls) (ls' := ls') (base := base) ht (ps := l) (k := k + 1) (i := i) (by simpa using h) fun j hj => by have := hl (j + 1) (by omega); rwa [show k + (j + 1) = k + 1 + j by omega] at this
    simp only [resOf, h0, List.append_assoc]
    generalize (if ls k = true then p.2.2 else []) = pre
    induction pre with
    | nil => exact ih
    | cons q pre ih2 => rw [List.cons_append, List.cons_append, lk_cons, lk_cons, ih2]
theorem resOf_hit {ls : Nat → Bool} {base : List (Nat × Res)} {d : Nat} {y : SV} {r : Res} : ∀ {ps : List Tri} {k i : Nat}, ps[i]? = some (d, y, [(d, r)]) → ls (k + i) = true → OwnKeys ps → (slotsX ps).Pairwise (fun a b => a.1 ≠ b.1) → lk (resOf ls k ps ++ base) d = some r
  | [], k, i, h, _, _, _ => by simp at h
  | p :: l, k, 0, h, hl, _, _ => by
    simp at h
    subst h
    simp only [Nat.add_zero] at hl
    simp only [resOf, hl, if_true, List.cons_append, lk_cons]
  | p :: l, k, i + 1, h, hl, hk, hpw => by
    have hpw' : (slotsX (p :: l)) = (p.1, p.2.1) :: slotsX l := rfl
    rw [hpw'] at hpw
    obtain ⟨hp1, hp2⟩ := List.pairwise_cons.1 hpw
    have hi : l[i]? = some (d, y, [(d, r)]) := by simpa using h
    have ih := resOf_hit (base := base) hi (by rw [show k + 1 + i = k + (i + 1) by omega]; exact hl) (fun j d' y' rn' hj => hk (j + 1) d' y' rn' (by simpa using hj)) hp2
    simp only [resOf, List.append_assoc]
    rw [lk_app_none fun r' hm => ?_]
    · exact ih
    · split at hm
      · rcases hk 0 p.1 p.2.1 p.2.2 rfl with e | ⟨r0, e⟩
        · rw [e] at hm; cases hm
        · rw [e] at hm
          simp only [List.mem_singleton, Prod.mk.injEq] at hm
          exact hp1 (d, y) (List.mem_of_getElem? (slotsX_get hi)) hm.1.symm
      · cases hm
theorem resOf_step {ls ls' : Nat → Bool} {base : List (Nat × Res)} {d : Nat} {y : SV} {rn : List (Nat × Res)} {ps : List Tri} {i : Nat} (hk : OwnKeys ps) (hpw : (slotsX ps).Pairwise (fun a b => a.1 ≠ b.1)) (h : ps[i]? = some (d, y, rn)) (hi : ls' i = true) (hl : ∀ j, j ≠ i → ls' j = ls j) {t : Nat} {r : Res} (hr : lk (resOf ls' 0 ps ++ base) t = some r) :
    lk (rn ++ (resOf ls 0 ps ++ base)) t = some r := by
  rcases hk i d y rn h with e | ⟨r0, e⟩
  · subst e
    rw [resOf_upd (ls := ls) (by simp) h (by simpa using hl)] at hr
    exact hr
  · subst e
    rw [List.cons_append, lk_cons]
    split
    · rename_i htd
      subst htd
      rw [resOf_hit (k := 0) h (by simpa using hi) hk hpw] at hr
      exact hr
    · rename_i htd
      rw [resOf_upd (ls := ls) (fun r' hm => by simp at hm; exact htd hm.1.symm) h (by simpa using hl)] at hr
      exact hr

def isNew : Op → Bool
  | .alloc _ => true
  | .buildSlice _ _ _ => true
  | _ => false
def stepX (lay : Lay) (fns : Fns) (B : St) (ops : Array Oper) (op : Oper) : Option (SV × List (Nat × Res) × Prop) :=
  match stepD lay fns B ops op with
  | some (y, φ) => some (y, [], φ)
  | none => match isNew op.op, op.guard, op.dst, evE lay B op with
    | true, none, some d, some (⟨_, _, (_, r) :: _⟩, φ) => some (.e (.r d), [(d, r)], φ)
    | _, _, _, _ => none
def drawX (lay : Lay) (fns : Fns) (ops : Array Oper) (rs0 : List (Nat × Res)) (n : Nat) : List Oper → List (Nat × SV) → Prop → Option (List Tri × Prop)
  | [], _, φ => some ([], φ)
  | op :: l, sl, φ => match op.dst with
    | some d => match Nat.blt d n, stepX lay fns ⟨n, pickS sl (looks ops op), rs0⟩ ops op with
      | true, some (y, rn, ψ) => match drawX lay fns ops rs0 n l ((d, y) :: sl) (φ ∧ ψ) with
        | some (ps, χ) => some ((d, y, rn) :: ps, χ)
        | none => none
      | _, _ => none
    | none => none
theorem drawX_spec {lay : Lay} {fns : Fns} {ops : Array Oper} {rs0 : List (Nat × Res)} {n : Nat} : ∀ {l : List Oper} {sl : List (Nat × SV)} {prs : List Tri} {φ φ' : Prop}, drawX lay fns ops rs0 n l sl φ = some (prs, φ') → φ' → φ ∧ prs.length = l.length ∧
    ∀ (i : Nat) op, l[i]? = some op → ∃ d y rn ψ, prs[i]? = some (d, y, rn) ∧ op.dst = some d ∧ Nat.blt d n = true ∧ stepX lay fns ⟨n, pickS (((slotsX prs).take i).reverse ++ sl) (looks ops op), rs0⟩ ops op = some (y, rn, ψ) ∧ ψ
  | [], sl, prs, φ, φ', h, hφ => by
    simp only [drawX, Option.some.injEq, Prod.mk.injEq] at h
    obtain ⟨rfl, rfl⟩ := h
    exact ⟨hφ, rfl, by simp⟩
  | op :: l, sl, prs, φ, φ', h, hφ => by
    simp only [drawX] at h
    split at h
    · rename_i d hd
      split at h
      · rename_i y rn ψ hlt hs
        split at h
        · rename_i ps χ hrec
          simp only [Option.some.injEq, Prod.mk.injEq] at h
          obtain ⟨rfl, rfl⟩ := h
          obtain ⟨h1, h2, h4⟩ := drawX_spec hrec hφ
          refine ⟨h1.1, by simp [h2], fun i op' hi => ?_⟩
          cases i with
          | zero => simp at hi; subst hi; exact ⟨d, y, rn, ψ, by simp, hd, hlt, by simpa using hs, h1.2⟩
          | succ i =>
            simp at hi
            obtain ⟨d', y', rn', ψ', g1, g2, g3, g4, g5⟩ := h4 i op' hi
            exact ⟨d', y', rn', ψ', by simpa using g1, g2, g3, by simpa [slotsX] using g4, g5⟩
        · cases h
      · cases h
    · cases h
theorem stepX_rn {lay : Lay} {fns : Fns} {ops : Array Oper} {rs0 : List (Nat × Res)} {n : Nat} {l : List Oper} {sl : List (Nat × SV)} {prs : List Tri} (hlen : prs.length = l.length)
    (h : ∀ (i : Nat) op, l[i]? = some op → ∃ d y rn ψ, prs[i]? = some (d, y, rn) ∧ op.dst = some d ∧ Nat.blt d n = true ∧ stepX lay fns ⟨n, pickS (((slotsX prs).take i).reverse ++ sl) (looks ops op), rs0⟩ ops op = some (y, rn, ψ) ∧ ψ) : OwnKeys prs := by
  intro j d y rn hj
  have hlt : j < l.length := by rw [← hlen]; exact (List.getElem?_eq_some_iff.1 hj).1
  obtain ⟨d', y', rn', ψ, g1, g2, g3, g4, g5⟩ := h j l[j] (List.getElem?_eq_getElem hlt)
  rw [hj] at g1
  cases g1
  unfold stepX at g4
  split at g4
  · simp only [Option.some.injEq, Prod.mk.injEq] at g4
    exact .inl g4.2.1.symm
  · split at g4
    · rename_i d2 n2 sl2 k2 r2 l2 φ2 _ _ hd2 _
      simp only [Option.some.injEq, Prod.mk.injEq] at g4
      rw [g2] at hd2
      cases hd2
      exact .inr ⟨_, g4.2.1.symm⟩
    · cases g4
def freshAt (d j : Nat) : Nat → List Tri → Bool
  | _, [] => true
  | k, (_, y, rn) :: l => (Nat.beq k j || (!y.men d && freshR d rn)) && freshAt d j (k + 1) l
def freshX1 (prs : List Tri) (A : St) : Nat → List Tri → Bool
  | _, [] => true
  | j, (d, _, rn) :: l => (match rn with
    | [] => true
    | _ => freshAt d j 0 prs && (freshS d A.sl && freshR d A.rs)) && freshX1 prs A (j + 1) l
def freshX (prs : List Tri) (A : St) : Bool := freshX1 prs A 0 prs
theorem freshAt_ok {d j : Nat} : ∀ {l : List Tri} {k : Nat}, freshAt d j k l = true → ∀ (i d' : Nat) (y : SV) (rn : List (Nat × Res)), l[i]? = some (d', y, rn) → k + i ≠ j → y.men d = false ∧ freshR d rn = true
  | [], _, _, i, d', y, rn, h, _ => by simp at h
  | (a, b, c) :: l, k, hf, i, d', y, rn, h, hne => by
    simp only [freshAt, Bool.and_eq_true, Bool.or_eq_true, Bool.not_eq_true'] at hf
    cases i with
    | zero =>
      simp at h
      obtain ⟨rfl, rfl, rfl⟩ := h
      rcases hf.1 with h1 | h1
      · exact absurd (Nat.eq_of_beq_eq_true h1) (by simpa using hne)
      · exact h1
    | succ i => exact freshAt_ok hf.2 i d' y rn (by simpa using h) (by omega)
theorem freshX1_ok {prs : List Tri} {A : St} : ∀ {l : List Tri} {k : Nat}, freshX1 prs A k l = true → ∀ (i d : Nat) (y : SV) (rn : List (Nat × Res)), l[i]? = some (d, y, rn) → rn ≠ [] → freshAt d (k + i) 0 prs = true ∧ freshS d A.sl = true ∧ freshR d A.rs = true
  | [], _, _, i, d, y, rn, h, _ => by simp at h
  | (a, b, c) :: l, k, hf, i, d, y, rn, h, hne => by
    simp only [freshX1, Bool.and_eq_true] at hf
    cases i with
    | zero =>
      simp at h
      obtain ⟨rfl, rfl, rfl⟩ := h
      have h1 := hf.1
      split at h1
      · exact absurd rfl hne
      · simpa [Bool.and_eq_true, and_assoc] using h1
    | succ i =>
      have := freshX1_ok hf.2 i d y rn (by simpa using h) hne
      rwa [show k + 1 + i = k + (i + 1) by omega] at this
theorem freshX_ok {prs : List Tri} {A : St} (h : freshX prs A = true) : ∀ (j d : Nat) (y : SV) (rn : List (Nat × Res)), prs[j]? = some (d, y, rn) → rn ≠ [] → (∀ (i d' : Nat) (y' : SV) (rn' : List (Nat × Res)), prs[i]? = some (d', y', rn') → i ≠ j → y'.men d = false ∧ freshR d rn' = true) ∧ freshS d A.sl = true ∧ freshR d A.rs = true := by
  intro j d y rn hj hne
  obtain ⟨h1, h2, h3⟩ := freshX1_ok h j d y rn hj hne
  exact ⟨fun i d' y' rn' hi hij => freshAt_ok h1 i d' y' rn' hi (by omega), h2, h3⟩


section
variable {P : Program} {lay : Lay} {A A' B : St} {Q : Exit → St → Prop} {fns : Fns} {o : Nat → Tag} {h : Nat → Value} {tm : Array Value} {w : World}
/-- 'B' is a part of 'A' -/
structure St.sub (B A : St) : Prop where
  n : B.n = A.n
  rs : ∀ i r, lk B.rs i = some r → lk A.rs i = some r
  sl : ∀ t x, lk B.sl t = some x → lk A.sl t = some x

theorem Sat.subX (hle : St.sub B A) (hs : Sat o h A tm w) : Sat o h B tm w := ⟨hle.n ▸ hs.size, hs.tags, fun s x hl => hs.slot s x (hle.sl s x hl), fun i r hl => hs.res i r (hle.rs i r hl)⟩
theorem rd_upS (hle : St.sub B A) {x : Operand} {r : EV × Prop} (hr : rd B x = some r) : rd A x = some r := by
  cases x with
  | tmp t =>
    simp only [rd] at hr ⊢
    split at hr
    · rename_i e; rw [hle.sl _ _ e]; exact hr
    · rename_i x hne e
      rw [hle.sl _ _ e]
      cases x with
      | gd b y => exact (hne b y rfl).elim
      | _ => exact hr
    · cases hr
  | _ => exact hr
theorem argE_upS (hle : St.sub B A) {z : EV} {r : EV × List Nat} (hr : argE B z = some r) : argE A z = some r := by
  unfold argE at hr ⊢
  split at hr
  · exact hr
  · exact hr
  · split at hr
    · rename_i e; rw [hle.rs _ _ e]; exact hr
    · cases hr
  · cases hr
theorem argsE_upS (hle : St.sub B A) : ∀ {xs : List Operand} {r}, argsE B xs = some r → argsE A xs = some r
  | [], r, hr => hr
  | x :: xs, r, hr => by
    simp only [argsE] at hr ⊢
    split at hr
    · rename_i z p e
      rw [rd_upS hle e]
      split at hr
      · rename_i y L e2
        have e2' : argE A z = some (y, L) := argE_upS hle e2
        simp only [e2']
        split at hr
        · rename_i e3
          rw [argsE_upS hle e3]; exact hr
        · cases hr
      · cases hr
    · cases hr
theorem stepC_upS (hle : St.sub B A) {op : Oper} {r : SV × Prop} (hr : stepC fns B op = some r) : stepC fns A op = some r := by
  unfold stepC at hr ⊢
  split at hr
  · split at hr
    · split at hr
      · split at hr
        · rename_i e2
          simp only [argsE_upS hle e2]
          exact hr
        · cases hr
      · cases hr
    · cases hr
  · cases hr

theorem stepD_wpS (hl : LayOk P lay) (hT : FnsOk P fns) {ops : Array Oper} {i : Nat} {op : Oper} (hi : ops[i]? = some op) {y : SV} {φ : Prop} {d : Nat} (hle : St.sub B A) (hs : Sat o h A tm w) (hd : op.dst = some d) (hlt : Nat.blt d A.n = true)
    (hc : stepD lay fns B ops op = some (y, φ)) (hφ : φ) {K : Act → World → Prop} {QQ : Exit → Act → World → Prop}
    (hn : ∀ o2 h2 v w1, Sat o2 h2 ⟨A.n, (d, y) :: A.sl, A.rs⟩ (tm.setIfInBounds d v) w1 → Ext o w o2 w1 → K ⟨tm.setIfInBounds d v, []⟩ w1) : wpOp P ops QQ i K ⟨tm, []⟩ w := by
  have hsB := hs.subX hle
  have hlt' : d < A.n := by simpa [Nat.blt, Nat.succ_le_iff] using hlt
  have hput : ∀ v, (⟨tm, []⟩ : Act).put op.dst v = ⟨tm.setIfInBounds d v, []⟩ := fun v => by simp [Act.put, hd]
  have pure_wp : ∀ {x φ'}, evP lay B op = some (x, φ') → φ' → ∀ y', (∀ v, SvOk o h w x v → SvOk o h w y' v) → (∀ o2 h2 v w1, Sat o2 h2 ⟨A.n, (d, y') :: A.sl, A.rs⟩ (tm.setIfInBounds d v) w1 → Ext o w o2 w1 → K ⟨tm.setIfInBounds d v, []⟩ w1) → op.wp P ⟨tm, []⟩ w K QQ := by
    intro x φ' he hφ' y' hy' hn'
    obtain ⟨v, hr, hv⟩ := evP_ok hl hsB he hφ'
    unfold Oper.wp
    show op.upon P ⟨tm, []⟩ _ _ ((execOp (evl tm) op).run P w)
    rw [hr]
    show K ((⟨tm, []⟩ : Act).put op.dst v) w
    rw [hput]
    exact hn' o h v w (hs.put hlt' (hy' v hv)) (Ext.refl o w)
  have skip_ok : ∀ {x}, SvOk o h w (.e (.gd false x)) undef := fun {x} => ⟨fun e => Bool.noConfusion e, fun _ => rfl⟩
  unfold wpOp
  simp only [hi]
  unfold stepD at hc
  split at hc
  · rename_i hg
    rw [if_pos (by simp [Region.wanted, hg])]
    left
    split at hc
    · rename_i r he
      simp only [Option.some.injEq] at hc
      subst hc
      exact pure_wp he hφ y (fun v hv => hv) hn
    · exact stepC_wp hT hs hd hlt (stepC_upS hle hc) hφ hn
  · rename_i j want hg
    split at hc
    · rename_i b hb
      have hskip : ∀ x, y = .e (.gd b x) → b = false → K (Act.put ⟨tm, []⟩ op.dst undef) w := by
        intro x hy hbf
        subst hy
        rw [hput]
        exact hn o h undef w (hs.put hlt' (by rw [hbf]; exact skip_ok)) (Ext.refl o w)
      have hwant : b = true → Region.wanted op (yielded ops (⟨tm, []⟩ : Act).tmps) = true := fun hbt => by simp [Region.wanted, hg, gdOf_true hsB hb hbt]
      have hwant' : b = false → ¬ Region.wanted op (yielded ops (⟨tm, []⟩ : Act).tmps) = true := fun hbf => by simp [Region.wanted, hg, gdOf_false hsB hb hbf]
      split at hc
      · rename_i x φ' he
        simp only [Option.some.injEq, Prod.mk.injEq] at hc
        obtain ⟨rfl, rfl⟩ := hc
        cases hbb : b with
        | true =>
          rw [if_pos (hwant hbb)]
          left
          exact pure_wp he (hφ hbb) (.e (.gd b x)) (fun v hv => (show SvOk o h w (.e (.gd b x)) v from ⟨fun _ => hv, fun e => by rw [hbb] at e; cases e⟩)) hn
        | false => rw [if_neg (hwant' hbb)]; exact hskip x rfl hbb
      · split at hc
        · rename_i x φ' he
          simp only [Option.some.injEq, Prod.mk.injEq] at hc
          obtain ⟨rfl, rfl⟩ := hc
          cases hbb : b with
          | true =>
            rw [if_pos (hwant hbb)]
            left
            refine stepC_wp hT hs hd hlt (stepC_upS hle he) (hφ hbb) fun o2 h2 v w1 hs2 hext => hn o2 h2 v w1 ?_ hext
            refine ⟨hs2.size, hs2.tags, fun s z hl => ?_, hs2.res⟩
            rw [lk_cons] at hl
            split at hl
            · rename_i e; cases hl; exact (show SvOk o2 h2 w1 (.e (.gd b x)) _ from ⟨fun _ => hs2.slot s (.e x) (by rw [lk_cons, if_pos e]), fun e => by rw [hbb] at e; cases e⟩)
            · rename_i hne; exact hs2.slot s z (by rw [lk_cons, if_neg hne]; exact hl)
          | false => rw [if_neg (hwant' hbb)]; exact hskip x rfl hbb
        · cases hc
    · cases hc

theorem partC_up (hle : St.sub B A) {x : Operand} {r : List CV × Prop} (hr : partC B x = some r) : partC A x = some r := by
  unfold partC at hr ⊢
  split at hr
  · rename_i y p e; rw [rd_upS hle e]; exact hr
  · rename_i cs p e; rw [rd_upS hle e]; exact hr
  · cases hr
theorem fillC_up (hle : St.sub B A) {place : Nat → Option (Nat × Nat)} : ∀ {ps : List (Nat × Operand)} {cs : List CV} {r : List CV × Prop}, fillC B place cs ps = some r → fillC A place cs ps = some r
  | [], cs, r, hr => hr
  | (i, x) :: rest, cs, r, hr => by
    simp only [fillC] at hr ⊢
    split at hr
    · rename_i off s xs p e1 e2
      simp only [e1, partC_up hle e2]
      split at hr
      · split at hr
        · rename_i cs' q e3
          simp only [fillC_up hle e3]
          exact hr
        · cases hr
      · cases hr
    · cases hr
theorem evE_up (hle : St.sub B A) {op : Oper} {d : Nat} (hd : op.dst = some d) (hnew : isNew op.op = true) (hf : freshB A d = true) {n : Nat} {sl : List (Nat × SV)} {k : Nat} {r : Res} {rs : List (Nat × Res)} {φ : Prop} (he : evE lay B op = some (⟨n, sl, (k, r) :: rs⟩, φ)) :
    evE lay A op = some (⟨A.n, (d, .e (.r d)) :: A.sl, (d, r) :: A.rs⟩, φ) := by
  cases hop : op.op <;> simp only [hop, isNew, Bool.false_eq_true] at hnew
  · rename_i T
    simp only [evE, hop, hd] at he ⊢
    split at he
    · rename_i rw1 e1 e2 e3
      simp only [Option.some.injEq, Prod.mk.injEq, St.mk.injEq, List.cons.injEq] at he
      obtain ⟨⟨_, _, ⟨_, hr⟩, _⟩, hφ⟩ := he
      rw [hle.n] at e2
      simp only [e1, e2, hf, ← hr, ← hφ]
    · cases he
  · rename_i T len ps
    simp only [evE, hop, hd] at he ⊢
    split at he
    · rename_i sz ag E es by' z e1 e2 e3
      rw [hle.n] at e2
      simp only [e1, e2, hf]
      split at he
      · rename_i rE e4 e5
        try simp only [e4, e5]
        split at he
        · rename_i cs p e6
          simp only [fillC_up hle e6]
          split at he
          · rename_i xs e7 e8
            try simp only [e7, e8]
            split at he
            · rename_i e9
              try simp only [e9]
              simp only [Option.some.injEq, Prod.mk.injEq, St.mk.injEq, List.cons.injEq] at he
              obtain ⟨⟨_, _, ⟨_, hr⟩, _⟩, hφ⟩ := he
              simp only [← hr, ← hφ]
            · cases he
          · rename_i e7
            simp only [Option.some.injEq, Prod.mk.injEq, St.mk.injEq, List.cons.injEq] at he
            obtain ⟨⟨_, _, ⟨_, hr⟩, _⟩, hφ⟩ := he
            simp only [← hr, ← hφ]
        · cases he
      · cases he
    · cases he
theorem stepX_wp (hl : LayOk P lay) (hT : FnsOk P fns) {ops : Array Oper} {i : Nat} {op : Oper} (hi : ops[i]? = some op) {y : SV} {rn : List (Nat × Res)} {φ : Prop} {d : Nat} (hle : St.sub B A) (hs : Sat o h A tm w) (hd : op.dst = some d) (hlt : Nat.blt d A.n = true)
    (hc : stepX lay fns B ops op = some (y, rn, φ)) (hφ : φ) (hfr : rn ≠ [] → freshB A d = true) {K : Act → World → Prop} {QQ : Exit → Act → World → Prop}
    (hn : ∀ o2 h2 v w1, Sat o2 h2 ⟨A.n, (d, y) :: A.sl, rn ++ A.rs⟩ (tm.setIfInBounds d v) w1 → Ext o w o2 w1 → K ⟨tm.setIfInBounds d v, []⟩ w1) : wpOp P ops QQ i K ⟨tm, []⟩ w := by
  unfold stepX at hc
  split at hc
  · rename_i y' φ' hD
    simp only [Option.some.injEq, Prod.mk.injEq] at hc
    obtain ⟨rfl, rfl, rfl⟩ := hc
    exact stepD_wpS hl hT hi hle hs hd hlt hD hφ hn
  · split at hc
    · rename_i d' n2 sl2 k2 r2 l2 φ2 hnew hg hd2 hE
      simp only [Option.some.injEq, Prod.mk.injEq] at hc
      obtain ⟨rfl, rfl, rfl⟩ := hc
      rw [hd] at hd2
      cases hd2
      have hA := evE_up hle hd hnew (hfr (by simp)) hE
      obtain ⟨x, v, w', o', h', hr, hx, hs', hext⟩ := evE_ok hl hA hφ o h tm w hs
      unfold wpOp
      simp only [hi]
      rw [if_pos (by simp [Region.wanted, hg])]
      left
      unfold Oper.wp
      show op.upon P ⟨tm, []⟩ _ _ ((execOp (evl tm) op).run P w)
      rw [hr]
      have hput : ∀ v, (⟨tm, []⟩ : Act).put op.dst v = ⟨tm.setIfInBounds d v, []⟩ := fun v => by simp [Act.put, hd]
      rw [hput] at hs'
      rcases hx with rfl | ⟨rfl, rfl⟩
      · show K ((⟨tm, []⟩ : Act).put op.dst v) w'
        rw [hput]
        exact hn o' h' v w' hs' hext
      · show K ((⟨tm, []⟩ : Act).put op.dst undef) w'
        rw [hput]
        exact hn o' h' undef w' hs' hext
    · cases hc
/-- The same where operations of the first part may lay new memory. -/
theorem KW.drawnX (hl : LayOk P lay) (hT : FnsOk P fns) (hm : P.follows .mixedOrders = true) {id : Nat} {ops : Array Oper} {k : List K} {φ : Prop} {n : Nat} (hsz0 : Nat.blt n ops.size = true) (hdep : depOk ops = true) (htl : tailsOk ops n = true) {prs : List (Nat × SV × List (Nat × Res))} (hg : drawX lay fns ops A.rs A.n (takeN n ops.toList) A.sl True = some (prs, φ)) (hfr : freshX prs A = true) (hφ : φ)
    (hn : KW P (.ops ops (dropN n ops.toList) :: k) .normal ⟨A.n, (slotsX prs).reverse ++ A.sl, resOf (fun _ => true) 0 prs ++ A.rs⟩ Q) : KW P (.code (.region id ops true) :: k) .normal A Q := by
  rw [takeN_eq] at hg
  rw [dropN_eq] at hn
  have hsize : n < ops.size := by simpa [Nat.blt, Nat.succ_le_iff] using hsz0
  obtain ⟨_, hlen, hprs⟩ := drawX_spec hg hφ
  have hfx := freshX_ok hfr
  have hrn := stepX_rn hlen hprs
  have dep := depOk_ok hdep
  have hlen' : prs.length = n := by simp only [List.length_take, Array.length_toList] at hlen; omega
  have hstep := tailsOk_ok htl
  have hop : ∀ (i : Nat) op, i < n → ops[i]? = some op → ∃ d y rn ψ, prs[i]? = some (d, y, rn) ∧ op.dst = some d ∧ Nat.blt d A.n = true ∧ stepX lay fns ⟨A.n, pickS (((slotsX prs).take i).reverse ++ A.sl) (looks ops op), A.rs⟩ ops op = some (y, rn, ψ) ∧ ψ :=
    fun i op hin hi => hprs i op (by rw [List.getElem?_take, if_pos hin]; simpa using hi)
  have hslen : (slotsX prs).length = n := by rw [slotsX_length]; exact hlen'
  have hinv : ∀ (j : Nat) d y, (slotsX prs)[j]? = some (d, y) → ∃ op, ops[j]? = some op ∧ op.dst = some d := fun j d y hj => by
    have hltn : j < n := by rw [← hslen]; exact (List.getElem?_eq_some_iff.1 hj).1
    have hlt : j < ops.size := by omega
    obtain ⟨d', y', rn', ψ, g1, g2, _⟩ := hop j ops[j] hltn (Array.getElem?_eq_getElem hlt)
    rw [slotsX_get g1] at hj
    cases hj
    exact ⟨_, Array.getElem?_eq_getElem hlt, g2⟩
  have hpw : (slotsX prs).Pairwise (fun a b => a.1 ≠ b.1) := by
    rw [List.pairwise_iff_getElem]
    intro i j hi hj hij e
    obtain ⟨oi, h1, h2⟩ := hinv i (slotsX prs)[i].1 (slotsX prs)[i].2 (List.getElem?_eq_getElem hi)
    obtain ⟨oj, h3, h4⟩ := hinv j (slotsX prs)[j].1 (slotsX prs)[j].2 (List.getElem?_eq_getElem hj)
    have := dep.dist i j oi oj _ h1 h3 h2 (by rw [h4, e])
    omega
  intro o h tm w hs
  show (Code.region id ops true).wp P (kq P (lift Q o w) k) ⟨tm, []⟩ w
  refine wp_region_any hm ?_
  have main : ∀ (fuel : Nat) (listed : Array Bool) (o' : Nat → Tag) (h' : Nat → Value) (tm' : Array Value) (w' : World), listed.size = ops.size → (∀ j, n ≤ j → listed.getD j false = false) → cntU (fun j => listed.getD j false) n + (ops.size - n) ≤ fuel →
      (∀ (i : Nat) oi, ops[i]? = some oi → listed.getD i false = true → ∀ e ∈ oi.after, Region.binds .any e = true → listed.getD e.on false = true) →
      Sat o' h' ⟨A.n, selL (fun j => listed.getD j false) 0 (slotsX prs) ++ A.sl, resOf (fun j => listed.getD j false) 0 prs ++ A.rs⟩ tm' w' → Ext o w o' w' → wpAny P .any ops (kq P (lift Q o w) k) fuel listed ⟨tm', []⟩ w' := by
    intro fuel
    -- all have come up
    have full : ∀ (listed : Array Bool) (o' : Nat → Tag) (h' : Nat → Value) (tm' : Array Value) (w' : World), (∀ j, j < n → listed.getD j false = true) →
        Sat o' h' ⟨A.n, selL (fun j => listed.getD j false) 0 (slotsX prs) ++ A.sl, resOf (fun j => listed.getD j false) 0 prs ++ A.rs⟩ tm' w' → Ext o w o' w' → kq P (lift Q o w) (.ops ops (ops.toList.drop n) :: k) .normal ⟨tm', []⟩ w' := by
      intro listed o' h' tm' w' hall hs' hx
      refine kq_mono (lift_trans hx) (.ops ops (ops.toList.drop n) :: k) .normal _ w' (hn o' h' tm' w' ?_)
      have hrs : resOf (fun j => listed.getD j false) 0 prs = resOf (fun _ => true) 0 prs := resOf_congr fun j hj => by simpa using hall j (by omega)
      refine ⟨hs'.size, hs'.tags, fun t x hl => hs'.slot t x ?_, fun i r hl => hs'.res i r (by simp only at hl ⊢; rw [hrs]; exact hl)⟩
      simp only at hl ⊢
      by_cases hex : ∃ y, (t, y) ∈ slotsX prs
      · obtain ⟨y, hy⟩ := hex
        have e1 := mem_lk (base := A.sl) (l := (slotsX prs).reverse) (List.pairwise_reverse.2 (hpw.imp fun h => Ne.symm h)) (List.mem_reverse.2 hy)
        rw [e1] at hl
        cases hl
        obtain ⟨j, hj⟩ := List.mem_iff_getElem?.1 hy
        refine mem_lk (hpw.sublist (selL_sub _ _ _)) (selL_mem.2 ⟨j, hj, ?_⟩)
        have : j < n := by rw [← hslen]; exact (List.getElem?_eq_some_iff.1 hj).1
        simpa using hall j this
      · have hno : ∀ y, (t, y) ∉ slotsX prs := fun y hy => hex ⟨y, hy⟩
        rw [nomem_lk fun y hy => hno y (List.mem_reverse.1 hy)] at hl
        rw [nomem_lk fun y hy => hno y ((selL_sub _ _ _).subset hy)]
        exact hl
    have done : ∀ (listed : Array Bool), listed.size = ops.size → Region.ready .any ops listed = [] → ∀ j, j < ops.size → listed.getD j false = true := by
      intro listed hsz hr j
      induction j using Nat.strongRecOn with
      | ind j ih =>
        intro hj
        cases hlj : listed.getD j false with
        | true => rfl
        | false =>
          exfalso
          have : j ∈ Region.ready .any ops listed := by
            rw [mem_ready]
            refine ⟨?_, ops[j], Array.getElem?_eq_getElem hj, fun e he hb => ?_⟩
            · rw [Array.getD_eq_getD_getElem?] at hlj ⊢
              rw [Array.getElem?_eq_getElem (by omega)] at hlj ⊢
              exact hlj
            · have hlt := dep.below j ops[j] (Array.getElem?_eq_getElem hj) e he hb
              exact ih e.on hlt (by omega)
          rw [hr] at this
          cases this
    induction fuel with
    | zero =>
      intro listed o' h' tm' w' hsz hnl hc
      omega
    | succ fuel ih =>
      intro listed o' h' tm' w' hsz hnl hc hcl hs' hx
      refine ⟨fun hr => (by have := done listed hsz hr n (by omega); rw [hnl n (Nat.le_refl n)] at this; cases this), fun i hi => ?_⟩
      by_cases hin : n ≤ i
      · obtain ⟨hun, op, hop', haft⟩ := mem_ready.1 hi
        have hlt : i < ops.size := (Array.getElem?_eq_some_iff.1 hop').1
        have hall : ∀ d j, j < i → i ≤ j + d → listed.getD j false = true := by
          intro d
          induction d with
          | zero => intro j h1 h2; omega
          | succ d ihd =>
            intro j h1 h2
            obtain ⟨q, oq, h3, h3', h4, e, h5, h6, h7⟩ := hstep i hin hlt j h1
            by_cases hqi : q = i
            · subst hqi
              rw [hop'] at h4
              cases h4
              rw [← h7]; exact haft e h5 h6
            · have := ihd q (by omega) (by omega)
              rw [← h7]; exact hcl q oq h4 this e h5 h6
        have hi0 : i = n := by
          rcases Nat.lt_or_ge n i with h | h
          · have := hall i n h (by omega)
            rw [hnl n (Nat.le_refl n)] at this; cases this
          · omega
        subst hi0
        have hf := full listed o' h' tm' w' (fun j hj => hall i j hj (by omega)) hs' hx
        exact (tailSeq hstep dep.below (ops.size - i) i (fuel + 1) listed ⟨tm', []⟩ w' (by omega) (Nat.le_refl _) hsz (fun j hj => hall i j hj (by omega)) hnl (by omega) hf).2 i hi
      obtain ⟨hun, op, hop', haft⟩ := mem_ready.1 hi
      have hlt : i < ops.size := (Array.getElem?_eq_some_iff.1 hop').1
      have hun' : listed.getD i false = false := by
        rw [Array.getD_eq_getD_getElem?, Array.getElem?_eq_getElem (by omega)] at hun ⊢
        exact hun
      obtain ⟨d, y, rn, ψ, g1, g2, g3, g4, g5⟩ := hop i op (by omega) hop'
      have gs := slotsX_get g1
      have hle : St.sub ⟨A.n, pickS (((slotsX prs).take i).reverse ++ A.sl) (looks ops op), A.rs⟩ ⟨A.n, selL (fun j => listed.getD j false) 0 (slotsX prs) ++ A.sl, resOf (fun j => listed.getD j false) 0 prs ++ A.rs⟩ := by
        refine ⟨rfl, fun i r hr => resOf_base hrn (fun j d y rn hj hne => (hfx j d y rn hj hne).2.2) hr, fun t x hl => ?_⟩
        obtain ⟨e1, hm⟩ := pickS_lk hl
        simp only at e1 ⊢
        by_cases hex : ∃ (j : Nat) (y' : SV), (slotsX prs)[j]? = some (t, y')
        · obtain ⟨j, y', hj⟩ := hex
          obtain ⟨oj, hoj, hdj⟩ := hinv j t y' hj
          have huniq : ∀ (j' : Nat) y'', (slotsX prs)[j']? = some (t, y'') → j' = j := fun j' y'' hj' => by
            obtain ⟨oj', hoj', hdj'⟩ := hinv j' t y'' hj'
            exact dep.dist j' j oj' oj t hoj' hoj hdj' hdj
          rcases dep.look i j op oj t hop' hoj hdj hm with ⟨hji, e, he, hb, heq⟩ | ⟨hij, e, he, hb, heq⟩
          · have hlj : listed.getD j false = true := by rw [← heq]; exact haft e he hb
            rw [mem_lk (List.pairwise_reverse.2 ((hpw.sublist (List.take_sublist i (slotsX prs))).imp fun h => Ne.symm h)) (List.mem_reverse.2 (List.mem_of_getElem? (i := j) (by rw [List.getElem?_take, if_pos hji]; exact hj)))] at e1
            cases e1
            exact mem_lk (hpw.sublist (selL_sub _ _ _)) (selL_mem.2 ⟨j, hj, by simpa using hlj⟩)
          · have hlj : listed.getD j false = false := by
              cases hlj : listed.getD j false with
              | false => rfl
              | true =>
                have := hcl j oj hoj hlj e he hb
                rw [heq, hun'] at this
                cases this
            rw [nomem_lk fun y'' hy => ?_] at e1
            · rw [nomem_lk fun y'' hy => ?_]
              · exact e1
              · obtain ⟨j', hj', hl'⟩ := selL_mem.1 hy
                rw [huniq j' y'' hj'] at hl'
                simp [hlj] at hl'
            · obtain ⟨j', hj'⟩ := List.mem_iff_getElem?.1 (List.mem_reverse.1 hy)
              rw [List.getElem?_take] at hj'
              split at hj'
              · have := huniq j' y'' hj'; omega
              · cases hj'
        · have hno : ∀ y, (t, y) ∉ slotsX prs := fun y hy => by
            obtain ⟨j, hj⟩ := List.mem_iff_getElem?.1 hy
            exact hex ⟨j, y, hj⟩
          rw [nomem_lk fun y hy => hno y (List.mem_of_mem_take (List.mem_reverse.1 hy))] at e1
          rw [nomem_lk fun y hy => hno y ((selL_sub _ _ _).subset hy)]
          exact e1
      have hfr' : rn ≠ [] → freshB ⟨A.n, selL (fun j => listed.getD j false) 0 (slotsX prs) ++ A.sl, resOf (fun j => listed.getD j false) 0 prs ++ A.rs⟩ d = true := fun hne => by
        obtain ⟨f1, f2, f3⟩ := hfx i d y rn g1 hne
        refine fresh_super f2 f3 (fun t x hm => ?_) (fun t r hm => ?_)
        · obtain ⟨j, hj, hlj⟩ := selL_mem.1 hm
          obtain ⟨y', rn', hj'⟩ := slotsX_inv hj
          simp only [Nat.zero_add] at hlj
          exact (f1 j _ _ _ hj' (by rintro rfl; rw [hun'] at hlj; cases hlj)).1 |> fun h => by rw [slotsX_get hj'] at hj; cases hj; exact h
        · obtain ⟨j, d', y', rn', hj, hlj, hm'⟩ := resOf_mem hm
          simp only [Nat.zero_add] at hlj
          have := (f1 j d' y' rn' hj (by rintro rfl; rw [hun'] at hlj; cases hlj)).2
          exact freshR_mem this hm'
      refine stepX_wp hl hT hop' hle hs' g2 g3 g4 g5 hfr' fun o2 h2 v w1 hs2 hext => ?_
      have hget : ∀ j, (listed.setIfInBounds i true).getD j false = if j = i then true else listed.getD j false := fun j => by
        by_cases hji : j = i
        · subst hji
          rw [if_pos rfl, Array.getD_eq_getD_getElem?, Array.getElem?_setIfInBounds_self]
          simp [hsz, hlt]
        · rw [if_neg hji, getD_set_ne false (Ne.symm hji)]
      refine ih (listed.setIfInBounds i true) o2 h2 _ w1 (by simp [hsz]) (fun j hj => by rw [hget, if_neg (by omega)]; exact hnl j hj) ?_ ?_ ⟨hs2.size, hs2.tags, fun t x hlk => hs2.slot t x ?_, fun t r hlk => hs2.res t r (resOf_step hrn hpw g1 (by simp [hget]) (fun j hj => by simp [hget, hj]) hlk)⟩ (hx.trans hext)
      · have := cntU_upd (ls := fun j => listed.getD j false) (ls' := fun j => (listed.setIfInBounds i true).getD j false) (i := i) (n := n) (by omega) hun' (by simp [hget]) fun j hj => by simp [hget, hj]
        omega
      · intro j oj hoj hlj e he hb
        rw [hget] at hlj ⊢
        by_cases he' : e.on = i
        · rw [if_pos he']
        · rw [if_neg he']
          by_cases hji : j = i
          · subst hji
            rw [hop'] at hoj
            cases hoj
            exact haft e he hb
          · rw [if_neg hji] at hlj
            exact hcl j oj hoj hlj e he hb
      · simp only at hlk ⊢
        rw [lk_cons]
        by_cases hdt : d = t
        · subst hdt
          rw [if_pos rfl]
          have := mem_lk (base := A.sl) (hpw.sublist (selL_sub (fun j => (listed.setIfInBounds i true).getD j false) 0 (slotsX prs))) (selL_mem.2 ⟨i, gs, by simp [hget]⟩)
          rw [this] at hlk
          exact hlk
        · rw [if_neg hdt]
          by_cases hex : ∃ (j : Nat) (y' : SV), (slotsX prs)[j]? = some (t, y') ∧ (listed.setIfInBounds i true).getD j false = true
          · obtain ⟨j, y', hj, hlj⟩ := hex
            have hji : j ≠ i := by
              rintro rfl
              rw [gs] at hj
              cases hj
              exact hdt rfl
            rw [hget, if_neg hji] at hlj
            have := mem_lk (base := A.sl) (hpw.sublist (selL_sub (fun j => (listed.setIfInBounds i true).getD j false) 0 (slotsX prs))) (selL_mem.2 ⟨j, hj, by simpa [hget, hji] using hlj⟩)
            rw [this] at hlk
            cases hlk
            exact mem_lk (hpw.sublist (selL_sub _ _ _)) (selL_mem.2 ⟨j, hj, by simpa using hlj⟩)
          · rw [nomem_lk fun y' hy => ?_] at hlk
            · rw [nomem_lk fun y' hy => ?_]
              · exact hlk
              · obtain ⟨j, hj, hlj⟩ := selL_mem.1 hy
                refine hex ⟨j, y', hj, ?_⟩
                rw [hget]
                split
                · rfl
                · simpa using hlj
            · obtain ⟨j, hj, hlj⟩ := selL_mem.1 hy
              exact hex ⟨j, y', hj, by simpa using hlj⟩
  refine main ops.size (Array.replicate ops.size false) o h tm w.drew (by simp) (fun j _ => by simp [Array.getD_eq_getD_getElem?, Array.getElem?_replicate]; split <;> rfl) ?_ ?_ ?_ (Ext.drew o w)
  · have : ∀ n, cntU (fun j => (Array.replicate ops.size false).getD j false) n ≤ n := by
      intro n
      induction n with
      | zero => exact Nat.le_refl _
      | succ n ih => simp only [cntU]; split <;> omega
    have := this n
    omega
  · intro i oi hoi hli
    simp [Array.getD_eq_getD_getElem?, Array.getElem?_replicate] at hli
    split at hli <;> cases hli
  · have hs' := hs.drew
    have hr0 : resOf (fun j => (Array.replicate ops.size false).getD j false) 0 prs = [] := resOf_none fun j => by
      simp [Array.getD_eq_getD_getElem?, Array.getElem?_replicate]
      split <;> rfl
    refine ⟨hs'.size, hs'.tags, fun t x hlk => hs'.slot t x ?_, fun i r hlk => hs'.res i r (by simp only at hlk ⊢; rw [hr0] at hlk; exact hlk)⟩
    rw [nomem_lk fun y hy => ?_] at hlk
    · exact hlk
    · obtain ⟨j, hj, hlj⟩ := selL_mem.1 hy
      simp [Array.getD_eq_getD_getElem?, Array.getElem?_replicate] at hlj
      split at hlj <;> cases hlj

/-- as far as such a region, and through it -/
theorem KW.goDX {k k' : List K} {e : Exit} (hl : LayOk P lay) (hT : FnsOk P fns) (hm : P.follows .mixedOrders = true) (f : Nat) {id : Nat} {ops : Array Oper} {φ ψ : Prop} (h : run2 lay fns f k e A True = (.code (.region id ops true) :: k', .normal, A', φ)) (n : Nat) (hsz0 : Nat.blt n ops.size = true) (hdep : depOk ops = true) (htl : tailsOk ops n = true)
    {prs : List (Nat × SV × List (Nat × Res))} (hg : drawX lay fns ops A'.rs A'.n (takeN n ops.toList) A'.sl True = some (prs, ψ)) (hfr : freshX prs A' = true) (hφ : φ) (hψ : ψ) (hn : KW P (.ops ops (dropN n ops.toList) :: k') .normal ⟨A'.n, (slotsX prs).reverse ++ A'.sl, resOf (fun _ => true) 0 prs ++ A'.rs⟩ Q) : KW P k e A Q :=
  KW.go hl hT f h hφ (KW.drawnX hl hT hm hsz0 hdep htl hg hfr hψ hn)
end
end Go.Sy

/-
  SYMBOLIC STATES: a box's cell that holds the nil slice, or an own row.
-/
namespace Go.Sy
variable [Drw]
section
variable {P : Program} {K0 : List K} {A : St} {Q : Exit → St → Prop} {ex : Exit} {o : Nat → Tag} {h : Nat → Value} {tm : Array Value} {w : World}
/-- the nil slice in a box's cell as an own row of no element -/
theorem Sat.nilB (hs : Sat o h A tm w) {i q d E k T : Nat} {f : Nat → Nat → CV} {cs : List EV} {bk : Option Nat} (hi : lk A.rs i = some (.box T cs bk)) (hq : nth cs q = some (.c (.lit (.slice none 0 0)))) (hf : freshB A d = true) (hid : i ≠ d) :
    Sat o (updH h d (.slice none 0 0)) ⟨A.n, A.sl, (i, .box T (setN cs q (.r d)) bk) :: (d, .own E (.sl 0 k f)) :: A.rs⟩ tm w := by
  have hc : Chg o h w o (updH h d (.slice none 0 0)) w (fun _ => False) A := by
    refine ⟨fun b hb => ⟨hb, rfl⟩, fun j b _ hb => ⟨hb, rfl⟩, fun j hj => ?_⟩
    have : j = d := Classical.byContradiction fun hne => hj (by simp [updH, hne])
    subst this; exact hf
  refine ⟨hs.size, hs.tags, fun s' x' hl' => hc.slot hs s' x' hl', fun j r hl' => ?_⟩
  rw [lk_cons] at hl'
  split at hl'
  · rename_i e
    subst e; cases hl'
    obtain ⟨b, vs, h0, h1, h2, h3, h4, h5⟩ := hc.resOk hs i _ (fun e => e) hi
    refine ⟨b, vs, h0, h1, h2, h3, by rw [setN_eq, List.length_set]; exact h4, fun q' x hx => ?_⟩
    rw [setN_eq, List.getElem?_set] at hx
    split at hx
    · rename_i e
      subst e
      split at hx
      · cases hx
        have hq' : cs[q]? = some (.c (.lit (.slice none 0 0))) := by rw [← nth_eq]; exact hq
        obtain ⟨u, hu, h6, h7⟩ := h5 q _ hq'
        refine ⟨u, hu, h6, ?_⟩
        have : u = .slice none 0 0 := h7.1
        rw [this]; simp [EvOk, updH]
      · cases hx
    · exact h5 q' x hx
  · rw [lk_cons] at hl'
    split at hl'
    · rename_i e
      subst e; cases hl'
      exact ⟨[], by simpa [updH] using World.ownsRow_nil w 0 E k, fun b hb => by simp [updH, Value.ownBlock] at hb, fun e q he => by omega⟩
    · exact hc.resOk hs j r (fun e => e) hl'
theorem KW.nilB (i q d E : Nat) (y : CV) {k' T : Nat} {f : Nat → Nat → CV} {cs : List EV} {bk : Option Nat} (hi : lk A.rs i = some (.box T cs bk)) (hq : nth cs q = some (.c (.lit (.slice none 0 0)))) (hy : y = .sl 0 k' f) (hf : freshB A d = true) (hid : Nat.beq i d = false)
    (hk : KW P K0 ex ⟨A.n, A.sl, (i, .box T (setN cs q (.r d)) bk) :: (d, .own E y) :: A.rs⟩ Q) : KW P K0 ex A Q := by
  subst hy
  exact KW.weaken (fun o h tm w hs => ⟨o, _, hs.nilB hi hq hf (fun e => by subst e; rw [Nat.beq_refl] at hid; cases hid), Ext.refl o w⟩) hk
/-- an own row in a box's cell becomes stable -/
theorem Sat.frzB (hs : Sat o h A tm w) {i j q T E n k : Nat} {f : Nat → Nat → CV} {cs : List EV} {bk : Option Nat} (hi : lk A.rs i = some (.box T cs bk)) (hq : nth cs q = some (.r j)) (hl : lk A.rs j = some (.own E (.sl n k f))) :
    Sat (frzO o j) h ⟨A.n, A.sl, (i, .box T (setN cs q (.c (.sl n k f))) bk) :: (j, .gone) :: A.rs⟩ tm w ∧ Ext o w (frzO o j) w := by
  have hk : Keep o w (frzO o j) w := fun b hb => ⟨by simp [frzO, hb], rfl⟩
  obtain ⟨h1, h2⟩ := hs.frz hl (ss := []) rfl
  have hij : j ≠ i := fun e => by subst e; rw [hl] at hi; cases hi
  have hrep : RepV (frzO o j) w (.sl n k f) (h j) := by
    obtain ⟨vs, hown, htag, hv⟩ := hs.res j _ hl
    rcases hown.2 with ⟨k1, rfl⟩ | ⟨b, cap, cur, k1, k2, k3, k4, k5, k6, k7⟩
    · exact ⟨none, 0, k1, Nat.le_refl _, Nat.zero_le _, .inl rfl⟩
    · refine ⟨_, cap, k1, k4, k5, .inr ⟨b, 0, rfl, by simp [frzO, htag b (by rw [k1]; rfl)], fun e q he hq => ?_⟩⟩
      obtain ⟨u, hu, hx⟩ := hv e q he hq
      have := hown.cells (g := b) (by rw [k1]; rfl) _ _ hu
      rw [addr_add] at this
      exact ⟨u, this, hx.keep hk⟩
  refine ⟨⟨h1.size, h1.tags, h1.slot, fun j' r hl' => ?_⟩, h2⟩
  rw [lk_cons] at hl'
  split at hl'
  · rename_i e
    subst e; cases hl'
    obtain ⟨b, vs, g0, g1, g2, g3, g4, g5⟩ := h1.res i (.box T cs bk) (by rw [lk_cons, if_neg hij]; exact hi)
    refine ⟨b, vs, g0, g1, g2, g3, by rw [setN_eq, List.length_set]; exact g4, fun q' x hx => ?_⟩
    rw [setN_eq, List.getElem?_set] at hx
    split at hx
    · rename_i e
      subst e
      split at hx
      · cases hx
        have hq' : cs[q]? = some (.r j) := by rw [← nth_eq]; exact hq
        obtain ⟨u, hu, h6, h7⟩ := g5 q _ hq'
        refine ⟨u, hu, h6, ?_⟩
        have : u = h j := h7
        subst this; exact hrep
      · cases hx
    · exact g5 q' x hx
  · exact h1.res j' r hl'
theorem KW.frzB (i q j : Nat) {T E n k' : Nat} {f : Nat → Nat → CV} {x : CV} {cs : List EV} {bk : Option Nat} (hi : lk A.rs i = some (.box T cs bk)) (hq : nth cs q = some (.r j)) (hl : lk A.rs j = some (.own E x)) (hx : x = .sl n k' f)
    (hk : KW P K0 ex ⟨A.n, A.sl, (i, .box T (setN cs q (.c x)) bk) :: (j, .gone) :: A.rs⟩ Q) : KW P K0 ex A Q := by
  subst hx
  exact KW.weaken (fun o h tm w hs => ⟨_, _, hs.frzB hi hq hl⟩) hk
end
end Go.Sy
