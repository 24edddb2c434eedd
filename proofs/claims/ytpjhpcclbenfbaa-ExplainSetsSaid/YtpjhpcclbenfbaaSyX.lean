/-
  SYMBOLIC STATES, PART X: a region that draws its order, walked by hand; copy into a row of one's own; all orders of a region.
-/
import Derived.Test.YtpjhpcclbenfbaaSyW
set_option linter.unusedVariables false
set_option linter.unusedSimpArgs false
namespace Go.Sy
section
variable {P : Program} {lay : Lay} {o : Nat → Tag} {h : Nat → Value} {A A' : St} {tm : Array Value} {w : World} {Q : Exit → St → Prop} {k : List K}

theorem wpOp_mono2 {ops : Array Oper} {Q Q' : Exit → Act → World → Prop} {K K' : Act → World → Prop} {i : Nat} {a : Act} {w : World} (hq : ∀ e a w, Q e a w → Q' e a w) (hk : ∀ a w, K a w → K' a w) (hh : wpOp P ops Q i K a w) : wpOp P ops Q' i K' a w := by
  unfold wpOp at *
  split
  · exact hk _ _ (by simpa [*] using hh)
  · rename_i o ho
    rw [ho] at hh
    simp only at hh
    split
    · rename_i hw
      rw [if_pos hw] at hh
      rcases hh with hh | ⟨h1, a', w', h2⟩
      · exact .inl (upon_mono hk hq hh)
      · exact .inr ⟨h1, a', w', hq _ _ _ h2⟩
    · rename_i hw
      rw [if_neg hw] at hh
      exact hk _ _ hh
theorem wpAny_mono2 {md : Region.Mode} {ops : Array Oper} {Q Q' : Exit → Act → World → Prop} (hq : ∀ e a w, Q e a w → Q' e a w) : ∀ (fuel : Nat) (listed : Array Bool) (a : Act) (w : World), wpAny P md ops Q fuel listed a w → wpAny P md ops Q' fuel listed a w
  | 0, _, _, _, hh => ⟨hh.1, hq _ _ _ hh.2⟩
  | fuel + 1, _, _, _, hh => ⟨fun hr => hq _ _ _ (hh.1 hr), fun i hi => wpOp_mono2 hq (fun a w => wpAny_mono2 hq fuel _ a w) (hh.2 i hi)⟩
/-- a region that draws its order, out of the kit's own law -/
def RawQ (o : Nat → Tag) (w : World) (A' : St) : Exit → Act → World → Prop := fun e a w' => e = .normal ∧ a.defers = [] ∧ ∃ o' h', Sat o' h' A' a.tmps w' ∧ Ext o w o' w'
theorem KW.rawD (hm : P.follows .mixedOrders = true) {id : Nat} {ops : Array Oper} (A' : St)
    (hh : ∀ o h tm w, Sat o h A tm w → wpAny P .any ops (RawQ o w A') ops.size (Array.replicate ops.size false) ⟨tm, []⟩ w.drew)
    (hn : KW P k .normal A' Q) : KW P (.code (.region id ops true) :: k) .normal A Q := by
  intro o h tm w hs
  show (Code.region id ops true).wp P (kq P (lift Q o w) k) ⟨tm, []⟩ w
  refine wp_region_any hm (wpAny_mono2 (fun e a w' hq => ?_) _ _ _ _ (hh o h tm w hs))
  obtain ⟨rfl, hd, o', h', hs', hx⟩ := hq
  obtain ⟨tm', d⟩ := a
  simp only at hd hs'
  subst hd
  exact kq_mono (lift_trans hx) k .normal _ w' (hn o' h' tm' w' hs')

/-- a row of integers of one's own, read and written as a whole -/
theorem Sat.write (hs : Sat o h A tm w) {i E : Nat} {xs : List Int} (hi : lk A.rs i = some (.own E (ints xs))) (hpos : 0 < xs.length) :
    ∃ g cap cur, h i = .slice (some ⟨g, 0, none⟩) xs.length cap ∧ w.heap[g]? = some (.cells cur E (0, 0)) ∧ xs.length ≤ cap ∧ cur.size = cap ∧ (∀ j, j < xs.length → cur[j]? = some (.int .i64 (xs.getD j 0))) ∧
      ∀ (cur' : Array Value) (ys : List Int), cur'.size = cap → ys.length = xs.length → (∀ j, j < xs.length → cur'[j]? = some (.int .i64 (ys.getD j 0))) → Sat o h ⟨A.n, A.sl, (i, .own E (ints ys)) :: A.rs⟩ tm (w.setRow g cur') ∧ Ext o w o (w.setRow g cur') := by
  obtain ⟨vs, ⟨hvl, hown⟩, htag, hvs⟩ := hs.res i _ hi
  rcases hown with ⟨_, h0⟩ | ⟨g, cap, cur, hv, _, hheap, hnc, hcm, hcs, htake⟩
  · omega
  · simp only [Nat.mul_one] at hcs htake hvl
    refine ⟨g, cap, cur, hv, hheap, hnc, hcs, fun j hj => ?_, fun cur' ys h1 h2 h3 => ?_⟩
    · obtain ⟨u, hu, hx⟩ := hvs j 0 hj (by decide)
      obtain ⟨rfl, _⟩ := hx
      rw [← htake] at hu
      simp only [Nat.mul_one, Nat.add_zero, List.getElem?_take, if_pos hj] at hu
      simpa using hu
    · refine Sat.setRow hs hheap (htag g (by rw [hv]; rfl)) fun hk => ?_
      show ResOk o h (w.setRow g cur') i (.own E (.sl ys.length 1 fun e _ => .lit (.int .i64 (ys.getD e 0))))
      refine ⟨cur'.toList.take ys.length, ⟨by simp; omega, .inr ⟨g, cap, cur', by rw [hv, h2], Nat.zero_le _, setRow_heap w g cur _ E _ hheap, by omega, hcm, by omega, by simp⟩⟩, htag, fun e q he hq => ?_⟩
      obtain rfl : q = 0 := by omega
      refine ⟨_, ?_, rfl, rfl⟩
      simp only [Nat.mul_one, Nat.add_zero, List.getElem?_take, if_pos he]
      simpa using h3 e (by omega)

/-- copy into a row of one's own, at its start -/
theorem copy_step (hl : LayOk P lay) {op : Oper} {c : Call} {d t t' sz E by' i : Nat} {ag : Bool} {zz : List Value} {x y : Operand} {xs ys : List Int} {p q : Prop} (ho : op.op = .call c) (hc : c.callee = .builtin .copy) (ha : c.args = #[x, y]) (ht : c.argTypes = #[t, t'])
    (hd : op.dst = some d) (hlt : d < A.n) (hT : lk lay t = some ⟨sz, ag, .sl E 1 by', zz⟩) (hx : rd A x = some (.r i, p)) (hp : p) (hi : lk A.rs i = some (.own E (ints xs))) (hy : srcOf A i y = some (ints ys, q)) (hq : q) (h0 : 0 < ys.length) (hle : ys.length ≤ xs.length) :
    OpStep P op A ⟨A.n, (d, sI ys.length) :: A.sl, (i, .own E (ints (ys ++ xs.drop ys.length))) :: A.rs⟩ := by
  intro o h tm w hs
  obtain ⟨hu, _, i0, hinfo, hsz, _⟩ := sl_elem hl hT
  obtain ⟨a, cc, hyv, hsrc⟩ := srcOf_ok hs hy hq rfl
  have hxv : evl tm x = h i := rd_ok hs hx hp
  obtain ⟨g, cap, cur, hv, hheap, hnc, hcs, hcur, hwr⟩ := hs.write hi (by omega)
  rcases hsrc with ⟨_, hm⟩ | ⟨ad, news, rfl, hln, hnews, h1, hC⟩
  · omega
  · simp only [Nat.mul_one] at hln
    have hrun := run_copy_row P w t t' op.type E g 0 xs.length cap ad ys.length cc cur E news hu (by simp [hinfo, hsz]) hheap (by rw [hln]; exact (Nat.min_eq_left hle).symm) hnews (by omega) h1
    have hnw : ∀ j, j < ys.length → news[j]? = some (.int .i64 (ys.getD j 0)) := fun j hj => by
      obtain ⟨u, hu', hx'⟩ := hC j 0 hj (by decide)
      obtain ⟨rfl, _⟩ := hx'
      simpa using hu'
    obtain ⟨hs1, hx1⟩ := hwr (cur.toList.take 0 ++ news ++ cur.toList.drop (0 + news.length)).toArray (ys ++ xs.drop ys.length) (by simp [hln]; omega) (by simp; omega) (fun j hj => by
      rw [List.getElem?_toArray]
      simp only [List.take_zero, List.nil_append, Nat.zero_add]
      by_cases hj' : j < ys.length
      · rw [List.getElem?_append_left (by omega), hnw j hj', List.getD_eq_getElem?_getD, List.getD_eq_getElem?_getD, List.getElem?_append_left hj']
      · rw [List.getElem?_append_right (by omega), List.getElem?_drop, hln, Nat.add_sub_cancel' (by omega)]
        have := hcur j hj
        rw [← Array.getElem?_toList] at this
        rw [this, List.getD_eq_getElem?_getD, List.getD_eq_getElem?_getD, List.getElem?_append_right (by omega), List.getElem?_drop, Nat.add_sub_cancel' (by omega)])
    refine ⟨_, .int .i64 ys.length, _, o, h, ?_, .inl rfl, ?_, hx1⟩
    · simp only [execOp, ho, resolve, hc, invoke, builtin, ha, ht]
      simp [hxv, hv, hyv, hrun, goInt, hln]
    · simp only [Act.put, hd]
      exact hs1.put (A := ⟨A.n, A.sl, (i, .own E (ints (ys ++ xs.drop ys.length))) :: A.rs⟩) hlt ⟨rfl, rfl⟩

/-! all orders of a region -/
def KA (P : Program) (ops : Array Oper) (k : List K) (Q : Exit → St → Prop) (fuel : Nat) (listed : Array Bool) (A : St) : Prop :=
  ∀ o0 w0 o h tm w, Sat o h A tm w → Ext o0 w0 o w → wpAny P .any ops (kq P (lift Q o0 w0) k) fuel listed ⟨tm, []⟩ w
theorem KW.orders (hm : P.follows .mixedOrders = true) {id : Nat} {ops : Array Oper} (hh : KA P ops k Q ops.size (Array.replicate ops.size false) A) : KW P (.code (.region id ops true) :: k) .normal A Q := by
  intro o h tm w hs
  exact wp_region_any hm (hh o w o h tm w.drew hs.drew (Ext.drew o w))
theorem KA.done {ops : Array Oper} {fuel : Nat} {listed : Array Bool} (hr : Region.ready .any ops listed = []) (hn : KW P k .normal A Q) : KA P ops k Q fuel listed A := by
  intro o0 w0 o h tm w hs hx
  exact wpAny_done hr (kq_mono (lift_trans hx) k .normal _ w (hn o h tm w hs)) fuel
theorem upon_out {o : Oper} {a : Act} {next next' : Act → World → Prop} {Q Q' : Exit → Act → World → Prop}
    (hn : ∀ a w, next a w → next' a w) (hq : ∀ e a w, e ≠ .normal → Q e a w → Q' e a w) {r : Result Next} (h : o.upon P a next Q r) : o.upon P a next' Q' r := by
  cases r with
  | ok x w' =>
    cases x with
    | value v => exact hn _ _ h
    | skip => exact hn _ _ h
    | defer d => exact hn _ _ h
    | enter f args =>
      refine Calls.mono h ?_
      intro e w'' h
      cases e with
      | returned v => exact hn _ _ h
      | panicked ch => exact hq _ _ _ (by simp) h
      | outgrown => exact let ⟨a, w, h⟩ := h; ⟨a, w, hq _ _ _ (by simp) h⟩
    | row row args => exact Rows.mono h fun v w'' h => hn _ _ h
    | _ => exact h.elim
  | halt x w' =>
    cases x with
    | panic v => exact hq _ _ _ (by simp) h
    | _ => exact h.elim
theorem KA.step {ops : Array Oper} {fuel : Nat} {listed : Array Bool} {rs : List Nat} (hr : Region.ready .any ops listed = rs) (hne : rs ≠ [])
    (hh : ∀ i ∈ rs, ∃ op, ops[i]? = some op ∧ KW P [.ops ops [op]] .normal A fun e A' => e = .normal ∧ KA P ops k Q fuel (listed.setIfInBounds i true) A') : KA P ops k Q (fuel + 1) listed A := by
  intro o0 w0 o h tm w hs hx
  refine wpAny_all hr hne fun i hi => ?_
  obtain ⟨op, hop, hk⟩ := hh i hi
  have h1 := hk o h tm w hs
  replace h1 : wpList P ops (lift (fun e A' => e = .normal ∧ KA P ops k Q fuel (listed.setIfInBounds i true) A') o w) [op] ⟨tm, []⟩ w := h1
  have hnx : ∀ a w', lift (fun e A' => e = Exit.normal ∧ KA P ops k Q fuel (listed.setIfInBounds i true) A') o w .normal a w' → wpAny P .any ops (kq P (lift Q o0 w0) k) fuel (listed.setIfInBounds i true) a w' := by
    rintro ⟨tm', d⟩ w' ⟨hd, o', h', A', ⟨_, hka⟩, hs', hx'⟩
    simp only at hd hs'
    subst hd
    exact hka o0 w0 o' h' tm' w' hs' (hx.trans hx')
  unfold wpOp
  rw [hop]
  simp only
  unfold wpList at h1
  split
  · rename_i hw
    rw [if_pos hw] at h1
    rcases h1 with h1 | ⟨_, a', w', h2⟩
    · refine .inl (upon_out (fun a w' h => hnx a w' (by unfold wpList at h; exact h)) (fun e a w' hne' hq => ?_) h1)
      obtain ⟨_, _, _, _, ⟨e0, _⟩, _⟩ := hq
      exact absurd e0 hne'
    · obtain ⟨_, _, _, _, ⟨e0, _⟩, _⟩ := h2
      cases e0
  · rename_i hw
    rw [if_neg hw] at h1
    exact hnx _ _ (by unfold wpList at h1; exact h1)
theorem KW.stop {e : Exit} (hq : Q e A) : KW P [] e A Q := fun o h tm w hs => ⟨rfl, o, h, A, hq, hs, Ext.refl o w⟩
end
end Go.Sy
