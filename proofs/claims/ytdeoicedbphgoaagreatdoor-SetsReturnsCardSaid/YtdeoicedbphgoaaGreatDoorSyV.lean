/-
  SYMBOLIC STATES: all orders of a region by phases: pure operations come up in any order until one special operation comes up. No program is named here.
-/
import Derived.Test.YtdeoicedbphgoaaGreatDoorSyZ
set_option linter.unusedSectionVars false
set_option linter.unusedVariables false
set_option linter.unusedSimpArgs false
namespace Go.Sy
variable [Drw]
section
variable {P : Program} {lay : Lay} {A A' B : St} {Q : Exit → St → Prop} {fns : Fns} {o : Nat → Tag} {h : Nat → Value} {tm : Array Value} {w : World}
/-- what each operation among F lays -/
def phaseE (lay : Lay) (fns : Fns) (ops : Array Oper) (rs : List (Nat × Res)) (n : Nat) (F : List Nat) : List Oper → Nat → List (Nat × SV) → Prop → Option (List Ent × Prop)
  | [], _, _, φ => some ([], φ)
  | op :: l, i, sl, φ => match memN i F with
    | false => match phaseE lay fns ops rs n F l (i + 1) sl φ with
      | some (ps, χ) => some (([], []) :: ps, χ)
      | none => none
    | true => match op.dst with
      | some d => match Nat.blt d n, stepZ lay fns ⟨n, pickS sl (looks ops op), rs⟩ ops op with
        | true, some (y, rn, ψ) => match phaseE lay fns ops rs n F l (i + 1) ((d, y) :: sl) (φ ∧ ψ) with
          | some (ps, χ) => some (([(d, y)], rn) :: ps, χ)
          | none => none
        | _, _ => none
      | none => none
theorem phaseE_spec {ops : Array Oper} {rs : List (Nat × Res)} {n : Nat} {F : List Nat} : ∀ {l : List Oper} {k : Nat} {sl : List (Nat × SV)} {prs : List Ent} {φ φ' : Prop}, phaseE lay fns ops rs n F l k sl φ = some (prs, φ') → φ' → φ ∧ prs.length = l.length ∧
    ∀ (i : Nat) op, l[i]? = some op → if memN (k + i) F = true then ∃ d y rn ψ, prs[i]? = some ([(d, y)], rn) ∧ op.dst = some d ∧ Nat.blt d n = true ∧ stepZ lay fns ⟨n, pickS (slotsE (prs.take i) ++ sl) (looks ops op), rs⟩ ops op = some (y, rn, ψ) ∧ ψ
      else prs[i]? = some ([], [])
  | [], k, sl, prs, φ, φ', h, hφ => by
    simp only [phaseE, Option.some.injEq, Prod.mk.injEq] at h
    obtain ⟨rfl, rfl⟩ := h
    exact ⟨hφ, rfl, by simp⟩
  | op :: l, k, sl, prs, φ, φ', h, hφ => by
    simp only [phaseE] at h
    split at h
    · rename_i hk
      split at h
      · rename_i ps χ hrec
        simp only [Option.some.injEq, Prod.mk.injEq] at h
        obtain ⟨rfl, rfl⟩ := h
        obtain ⟨h1, h2, h4⟩ := phaseE_spec hrec hφ
        refine ⟨h1, by simp [h2], fun i op' hi => ?_⟩
        cases i with
        | zero =>
          rw [Nat.add_zero, hk, if_neg (by decide)]; rfl
        | succ i =>
          simp at hi
          have := h4 i op' hi
          rw [show k + (i + 1) = k + 1 + i by omega]
          split
          · rename_i e
            rw [if_pos e] at this
            obtain ⟨d', y', rn', ψ', g1, g2, g3, g4, g5⟩ := this
            refine ⟨d', y', rn', ψ', by simpa using g1, g2, g3, ?_, g5⟩
            rw [List.take_succ_cons, slotsE_cons]; exact g4
          · rename_i e
            rw [if_neg e] at this
            simpa using this
      · cases h
    · rename_i hk
      split at h
      · rename_i d hd
        split at h
        · rename_i y rn ψ hlt hs
          split at h
          · rename_i ps χ hrec
            simp only [Option.some.injEq, Prod.mk.injEq] at h
            obtain ⟨rfl, rfl⟩ := h
            obtain ⟨h1, h2, h4⟩ := phaseE_spec hrec hφ
            refine ⟨h1.1, by simp [h2], fun i op' hi => ?_⟩
            cases i with
            | zero =>
              simp at hi; subst hi
              rw [Nat.add_zero, hk, if_pos rfl]
              exact ⟨d, y, rn, ψ, by simp, hd, hlt, by simpa [slotsE] using hs, h1.2⟩
            | succ i =>
              simp at hi
              have := h4 i op' hi
              rw [show k + (i + 1) = k + 1 + i by omega]
              split
              · rename_i e
                rw [if_pos e] at this
                obtain ⟨d', y', rn', ψ', g1, g2, g3, g4, g5⟩ := this
                refine ⟨d', y', rn', ψ', by simpa using g1, g2, g3, ?_, g5⟩
                rw [List.take_succ_cons, slotsE_cons]; exact g4
              · rename_i e
                rw [if_neg e] at this
                simpa using this
          · cases h
        · cases h
      · cases h
def eqA : List Bool → List Bool → Bool
  | [], [] => true
  | a :: l, b :: r => (a == b) && eqA l r
  | _, _ => false
theorem eqA_ok : ∀ {l r : List Bool}, eqA l r = true → l = r
  | [], [], _ => rfl
  | a :: l, b :: r, h => by
    simp only [eqA, Bool.and_eq_true] at h
    rw [eqA_ok h.2]
    rw [beq_iff_eq.1 h.1]
  | [], b :: r, h => by cases h
  | a :: l, [], h => by cases h
def inS (S : List (Array Bool)) (L : Array Bool) : Bool := S.any fun M => eqA M.toList L.toList
theorem inS_ok {S : List (Array Bool)} {L : Array Bool} (h : inS S L = true) : L ∈ S := by
  unfold inS at h
  obtain ⟨M, hM, h⟩ := List.any_eq_true.1 h
  have := Array.toList_inj.1 (eqA_ok h)
  rwa [← this]
/-- the sets of operations that may have come up before c does -/
def phaseS (ops : Array Oper) (l0 : Array Bool) : List Nat → List (Array Bool)
  | F => F.foldl (fun S i => S ++ (S.filter fun L => memN i (Region.ready .any ops L)).map fun L => L.setIfInBounds i true) [l0]
def cntF (L : Array Bool) : Nat := L.toList.countP fun b => !b
def closedL (ops : Array Oper) (L : Array Bool) : Bool := (List.range ops.size).all fun i => match ops[i]? with
  | some op => !L.getD i false || op.after.toList.all fun e => !Region.binds .any e || L.getD e.on false
  | none => true
theorem closedL_ok {ops : Array Oper} {L : Array Bool} (h : closedL ops L = true) (i : Nat) (op : Oper) (hop : ops[i]? = some op) (hi : L.getD i false = true) : ∀ e ∈ op.after, Region.binds .any e = true → L.getD e.on false = true := fun e he hb => by
  unfold closedL at h
  rw [List.all_eq_true] at h
  have := h i (List.mem_range.2 (Array.getElem?_eq_some_iff.1 hop).1)
  rw [hop] at this
  simp only [hi, Bool.not_true, Bool.false_or, List.all_eq_true] at this
  have := this e (by simpa using he)
  simpa [hb] using this
def phaseOk (ops : Array Oper) (F : List Nat) (c : Nat) (l0 : Array Bool) (S : List (Array Bool)) : Bool :=
  inS S l0 && (F.all fun i => !l0.getD i false) && S.all fun L => Nat.beq L.size ops.size && closedL ops L && (Region.ready .any ops L).all fun i => Nat.beq i c || (memN i F && inS S (L.setIfInBounds i true))
theorem cntF_set {L : Array Bool} {i : Nat} (hi : L.getD i true = false) : cntF L = cntF (L.setIfInBounds i true) + 1 := by
  have hlt : i < L.size := by
    rw [Array.getD_eq_getD_getElem?] at hi
    rcases Nat.lt_or_ge i L.size with h | h
    · exact h
    · rw [Array.getElem?_eq_none h] at hi; cases hi
  have hv : L.toList[i]? = some false := by
    rw [Array.getD_eq_getD_getElem?, Array.getElem?_eq_getElem hlt] at hi
    rw [Array.getElem?_toList, Array.getElem?_eq_getElem hlt]
    simpa using hi
  unfold cntF
  rw [Array.toList_setIfInBounds]
  generalize L.toList = l at hv
  clear hi hlt
  induction l generalizing i with
  | nil => simp at hv
  | cons a l ih =>
    cases i with
    | zero =>
      simp at hv
      subst hv
      simp [List.countP_cons]
    | succ i =>
      simp at hv
      have := ih hv
      simp only [List.set_cons_succ, List.countP_cons]
      omega
/-- a step of the wp calculus, as one operation of a region -/
theorem wpOp_of {ops : Array Oper} {k : List K} {fuel i : Nat} {listed : Array Bool} {op : Oper} (hop : ops[i]? = some op) (hk : KW P [.ops ops [op]] .normal A fun e A' => e = .normal ∧ KA P ops k Q fuel listed A')
    {o0 : Nat → Tag} {w0 : World} (hs : Sat o h A tm w) (hx : Ext o0 w0 o w) : wpOp P ops (fun e a w' => kq P (lift Q o0 w0) k e a w') i (fun a w' => wpAny P .any ops (kq P (lift Q o0 w0) k) fuel listed a w') ⟨tm, []⟩ w := by
  have h1 := hk o h tm w hs
  replace h1 : wpList P ops (lift (fun e A' => e = .normal ∧ KA P ops k Q fuel listed A') o w) [op] ⟨tm, []⟩ w := h1
  have hnx : ∀ a w', lift (fun e A' => e = Exit.normal ∧ KA P ops k Q fuel listed A') o w .normal a w' → wpAny P .any ops (kq P (lift Q o0 w0) k) fuel listed a w' := by
    rintro ⟨tm', d⟩ w' ⟨hd, o', h', A', ⟨_, hka⟩, hs', hx'⟩
    simp only at hd hs'
    subst hd
    exact hka o0 w0 o' h' tm' w' hs' (hx.trans hx')
  unfold wpOp
  rw [hop]
  simp only
  unfold wpList at h1
  split
  · rename_i hw
    rw [if_pos hw] at h1
    rcases h1 with h1 | ⟨_, a', w', h2⟩
    · refine .inl (upon_out (fun a w' h => hnx a w' (by unfold wpList at h; exact h)) (fun e a w' hne' hq => ?_) h1)
      obtain ⟨_, _, _, _, ⟨e0, _⟩, _⟩ := hq
      exact absurd e0 hne'
    · obtain ⟨_, _, _, _, ⟨e0, _⟩, _⟩ := h2
      cases e0
  · rename_i hw
    rw [if_neg hw] at h1
    exact hnx _ _ (by unfold wpList at h1; exact h1)
theorem pickL_nil {α : Type} {ls : Nat → Bool} : ∀ {ps : List (List (Nat × α))} {k : Nat}, (∀ (j : Nat) (p : List (Nat × α)), ps[j]? = some p → ls (k + j) = true → p = []) → pickL ls k ps = []
  | [], _, _ => rfl
  | p :: l, k, h => by
    have h0 : (if ls k then p else []) = [] := by
      split
      · rename_i e; exact h 0 p rfl (by simpa using e)
      · rfl
    rw [pickL, h0, pickL_nil (ps := l) (k := k + 1) fun j q hj hl => h (j + 1) q (by simpa using hj) (by rwa [show k + (j + 1) = k + 1 + j by omega])]
    rfl
/-- pure operations in any order, until c comes up -/
theorem KA.phase (hl : LayOk P lay) (hT : FnsOk P fns) {ops : Array Oper} {k : List K} (F : List Nat) (c : Nat) {l0 : Array Bool} (hdep : depOk ops = true) (hS : phaseOk ops F c l0 (phaseS ops l0 F) = true)
    {prs : List Ent} {φ : Prop} (hg : phaseE lay fns ops A.rs A.n F ops.toList 0 A.sl True = some (prs, φ)) (hfr : freshV1 ops prs [] A ops.size 0 0 prs = true) (hφ : φ)
    {cs : List (Array Bool)} (hcs : ((phaseS ops l0 F).filter fun L => memN c (Region.ready .any ops L)) = cs)
    (hc : ∀ L ∈ cs, ∃ opc, ops[c]? = some opc ∧ KW P [.ops ops [opc]] .normal ⟨A.n, pickL (fun j => L.getD j false) 0 (prs.map (·.1)) ++ A.sl, pickL (fun j => L.getD j false) 0 (prs.map (·.2)) ++ A.rs⟩ fun e A' => e = .normal ∧ KA P ops k Q (cntF (L.setIfInBounds c true)) (L.setIfInBounds c true) A')
    {ds : List (Array Bool)} (hds : ((phaseS ops l0 F).filter fun L => (Region.ready .any ops L).isEmpty) = ds)
    (hd : ∀ L ∈ ds, KW P k .normal ⟨A.n, pickL (fun j => L.getD j false) 0 (prs.map (·.1)) ++ A.sl, pickL (fun j => L.getD j false) 0 (prs.map (·.2)) ++ A.rs⟩ Q) : KA P ops k Q (cntF l0) l0 A := by
  obtain ⟨_, hlen, hprs⟩ := phaseE_spec hg hφ
  have dep := depOk_ok hdep
  have hlen' : prs.length = ops.size := by simpa using hlen
  generalize hSe : phaseS ops l0 F = S at *
  unfold phaseOk at hS
  simp only [Bool.and_eq_true] at hS
  obtain ⟨⟨hS0, hF0⟩, hS1⟩ := hS
  rw [List.all_eq_true] at hF0 hS1
  have hop : ∀ (i : Nat) op, ops[i]? = some op → if memN i F = true then ∃ d y rn ψ, prs[i]? = some ([(d, y)], rn) ∧ op.dst = some d ∧ Nat.blt d A.n = true ∧ stepZ lay fns ⟨A.n, pickS (slotsE (prs.take i) ++ A.sl) (looks ops op), A.rs⟩ ops op = some (y, rn, ψ) ∧ ψ
      else prs[i]? = some ([], []) := fun i op hi => by
    have := hprs i op (by simpa using hi)
    simpa only [Nat.zero_add] using this
  have hent : ∀ (j : Nat) (p : Ent), prs[j]? = some p → ∃ op, ops[j]? = some op ∧ (∀ t x, (t, x) ∈ p.1 → memN j F = true ∧ op.dst = some t ∧ p.1 = [(t, x)]) ∧ ∀ t r, (t, r) ∈ p.2 → memN j F = true ∧ op.dst = some t ∧ ∃ y, p.1 = [(t, y)] := fun j p hj => by
    have hlt : j < ops.size := by rw [← hlen']; exact (List.getElem?_eq_some_iff.1 hj).1
    refine ⟨ops[j], Array.getElem?_eq_getElem hlt, ?_⟩
    have h1 := hop j ops[j] (Array.getElem?_eq_getElem hlt)
    split at h1
    · rename_i e
      obtain ⟨d, y, rn, ψ, g1, g2, g3, g4, g5⟩ := h1
      rw [hj] at g1
      cases g1
      refine ⟨fun t x hm => ?_, fun t r hm => ?_⟩
      · simp only [List.mem_singleton, Prod.mk.injEq] at hm
        obtain ⟨rfl, rfl⟩ := hm
        exact ⟨e, g2, rfl⟩
      · rcases stepZ_shape g2 g4 with e' | ⟨r', e'⟩
        · rw [e'] at hm; cases hm
        · rw [e'] at hm
          simp only [List.mem_singleton, Prod.mk.injEq] at hm
          obtain ⟨rfl, rfl⟩ := hm
          exact ⟨e, g2, y, rfl⟩
    · rw [hj] at h1
      cases h1
      exact ⟨fun t x hm => (by cases hm), fun t r hm => (by cases hm)⟩
  have huS : ∀ (j j' : Nat) (p p' : Ent) (t : Nat) (x x' : SV), prs[j]? = some p → prs[j']? = some p' → (t, x) ∈ p.1 → (t, x') ∈ p'.1 → j = j' ∧ x' = x := fun j j' p p' t x x' hj hj' hm hm' => by
    obtain ⟨o1, h1, h2, _⟩ := hent j p hj
    obtain ⟨o2, h3, h4, _⟩ := hent j' p' hj'
    have e := dep.dist j j' o1 o2 t h1 h3 (h2 t x hm).2.1 (h4 t x' hm').2.1
    subst e
    rw [hj] at hj'
    cases hj'
    refine ⟨rfl, ?_⟩
    rw [(h2 t x hm).2.2] at hm'
    simpa using hm'
  have hapS : ApartL (prs.map (·.1)) := by
    intro i j q q' hij hi hj t r r' hm hm'
    obtain ⟨p, h1, rfl⟩ := mapGet hi
    obtain ⟨p', h2, rfl⟩ := mapGet hj
    exact hij (huS i j p p' t r r' h1 h2 hm hm').1
  have huM : ∀ (j j' : Nat) (p p' : Ent) (t : Nat) (x x' : Res), prs[j]? = some p → prs[j']? = some p' → (t, x) ∈ p.2 → (t, x') ∈ p'.2 → j = j' := fun j j' p p' t x x' hj hj' hm hm' => by
    obtain ⟨o1, h1, _, h2⟩ := hent j p hj
    obtain ⟨o2, h3, _, h4⟩ := hent j' p' hj'
    exact dep.dist j j' o1 o2 t h1 h3 (h2 t x hm).2.1 (h4 t x' hm').2.1
  have hapM : ApartL (prs.map (·.2)) := by
    intro i j q q' hij hi hj t r r' hm hm'
    obtain ⟨p, h1, rfl⟩ := mapGet hi
    obtain ⟨p', h2, rfl⟩ := mapGet hj
    exact hij (huM i j p p' t r r' h1 h2 hm hm')
  have hnew : ∀ (j : Nat) (p : Ent) (t : Nat) (r : Res), prs[j]? = some p → (t, r) ∈ p.2 → freshE ops t j 0 prs = true ∧ (freshS t A.sl = true ∧ freshR t A.rs = true) := fun j p t r hj hm => by
    obtain ⟨op, h1, h3, h4⟩ := hent j p hj
    obtain ⟨h5, h6, y, h7⟩ := h4 t r hm
    have e : p = ((t, y) :: [], p.2) := Prod.ext h7 rfl
    have := freshV1_ok hfr j t y [] p.2 (by rw [hj, ← e]) (.inr fun e' => by rw [e'] at hm; cases hm)
    rw [Nat.zero_add] at this
    exact ⟨this.1, this.2.1⟩
  let SL : (Nat → Bool) → List (Nat × SV) := fun ls => pickL ls 0 (prs.map (·.1)) ++ A.sl
  let RS : (Nat → Bool) → List (Nat × Res) := fun ls => pickL ls 0 (prs.map (·.2)) ++ A.rs
  have hSLin : ∀ (ls : Nat → Bool) (j : Nat) (p : Ent) (t : Nat) (x : SV), prs[j]? = some p → (t, x) ∈ p.1 → ls j = true → lk (SL ls) t = some x := fun ls j p t x hj hm hls => by
    refine pickL_in (k := 0) (i := j) (p := p.1) (by rw [List.getElem?_map, hj]; rfl) (by simpa using hls) ?_ fun j' q hne hq r' hm' => ?_
    · obtain ⟨r, hr⟩ := lkA_of hm
      rw [hr, (huS j j p p t x r hj hj hm (lkM hr)).2]
    · obtain ⟨p', h2, rfl⟩ := mapGet hq
      exact hne (huS j j' p p' t x r' hj h2 hm hm').1.symm
  have hSLout : ∀ (ls : Nat → Bool) (t : Nat), (∀ (j : Nat) (p : Ent) (x : SV), prs[j]? = some p → ls j = true → (t, x) ∉ p.1) → lk (SL ls) t = lk A.sl t := fun ls t hno =>
    pickL_out fun j q hq hls r hm => by
      obtain ⟨p', h2, rfl⟩ := mapGet hq
      exact hno j p' r h2 hls hm
  have hPMout : ∀ (ls : Nat → Bool) (t : Nat), (∀ (j : Nat) (p : Ent) (x : Res), prs[j]? = some p → ls j = true → (t, x) ∉ p.2) → lk (RS ls) t = lk A.rs t := fun ls t hno =>
    pickL_out fun j q hq hls r hm => by
      obtain ⟨p', h2, rfl⟩ := mapGet hq
      exact hno j p' r h2 hls hm
  have hPMbase : ∀ (ls : Nat → Bool) (t : Nat) (r : Res), lk A.rs t = some r → lk (RS ls) t = some r := fun ls t r hr => by
    rw [hPMout ls t fun j p x hj _ hm => ?_]
    · exact hr
    · exact (freshR_mem (hnew j p t x hj hm).2.2 (lk_mem hr)).1 rfl
  intro o0 w0 o h tm w hs hx0
  have main : ∀ (fuel : Nat) (L : Array Bool) (o' : Nat → Tag) (h' : Nat → Value) (tm' : Array Value) (w' : World), L ∈ S → cntF L = fuel →
      Sat o' h' ⟨A.n, SL (fun j => L.getD j false), RS (fun j => L.getD j false)⟩ tm' w' → Ext o0 w0 o' w' → wpAny P .any ops (kq P (lift Q o0 w0) k) fuel L ⟨tm', []⟩ w' := by
    intro fuel
    have fin : ∀ (f : Nat) (L : Array Bool) (o' : Nat → Tag) (h' : Nat → Value) (tm' : Array Value) (w' : World), L ∈ S → Region.ready .any ops L = [] →
        Sat o' h' ⟨A.n, SL (fun j => L.getD j false), RS (fun j => L.getD j false)⟩ tm' w' → Ext o0 w0 o' w' → wpAny P .any ops (kq P (lift Q o0 w0) k) f L ⟨tm', []⟩ w' := fun f L o' h' tm' w' hL hr hs' hx => by
      have hLd : L ∈ ds := by
        rw [← hds, List.mem_filter]
        exact ⟨hL, by rw [hr]; rfl⟩
      exact wpAny_done hr (kq_mono (lift_trans hx) k .normal _ w' (hd L hLd o' h' tm' w' hs')) f
    induction fuel with
    | zero =>
      intro L o' h' tm' w' hL hcn hs' hx
      refine fin 0 L o' h' tm' w' hL ?_ hs' hx
      cases hr : Region.ready .any ops L with
      | nil => rfl
      | cons i l =>
        exfalso
        have := cntF_set (mem_ready.1 (hr ▸ List.mem_cons_self : i ∈ Region.ready .any ops L)).1
        omega
    | succ fuel ih =>
      intro L o' h' tm' w' hL hcn hs' hx
      by_cases hne0 : Region.ready .any ops L = []
      · exact fin _ L o' h' tm' w' hL hne0 hs' hx
      have hck := hS1 L hL
      simp only [Bool.and_eq_true] at hck
      obtain ⟨⟨hsz, hcl0⟩, hrd⟩ := hck
      have hsz := Nat.eq_of_beq_eq_true hsz
      have hcl := closedL_ok hcl0
      rw [List.all_eq_true] at hrd
      refine wpAny_all rfl hne0 fun i hi => ?_
      obtain ⟨hun, op, hop', haft⟩ := mem_ready.1 hi
      have hlt : i < ops.size := (Array.getElem?_eq_some_iff.1 hop').1
      have hun' : L.getD i false = false := by
        rw [Array.getD_eq_getD_getElem?, Array.getElem?_eq_getElem (by omega)] at hun ⊢
        exact hun
      have hcn' : cntF (L.setIfInBounds i true) = fuel := by have := cntF_set hun; omega
      have h1 := hrd i hi
      rw [Bool.or_eq_true] at h1
      by_cases hic : i = c
      · subst hic
        have hLc : L ∈ cs := by
          rw [← hcs, List.mem_filter]
          exact ⟨hL, memN_of hi⟩
        obtain ⟨opc, hopc, hkc⟩ := hc L hLc
        have := wpOp_of hopc hkc hs' hx
        rw [hcn'] at this
        exact this
      · have h2 : memN i F = true ∧ inS S (L.setIfInBounds i true) = true := by
          rcases h1 with h1 | h1
          · exact absurd (Nat.eq_of_beq_eq_true h1) hic
          · simpa using h1
        obtain ⟨hiF, hin⟩ := h2
        have h1 := hop i op hop'
        rw [if_pos hiF] at h1
        obtain ⟨d, y, rn, ψ, g1, g2, g3, g4, g5⟩ := h1
        have hsl : ∀ t x, lk (pickS (slotsE (prs.take i) ++ A.sl) (looks ops op)) t = some x → lk (SL (fun j => L.getD j false)) t = some x := fun t x hl => by
          obtain ⟨e1, hm⟩ := pickS_lk hl
          by_cases hex : ∃ (j : Nat) (p : Ent) (y : SV), prs[j]? = some p ∧ (t, y) ∈ p.1
          · obtain ⟨j, p, y', hj, hy⟩ := hex
            obtain ⟨oj, hoj, hdj, _⟩ := hent j p hj
            rcases dep.look i j op oj t hop' hoj (hdj t y' hy).2.1 hm with ⟨hji, e, he, hb, heq⟩ | ⟨hij, e, he, hb, heq⟩
            · have hlj : L.getD j false = true := by rw [← heq]; exact haft e he hb
              rw [lkU (slotsE_mem.2 ⟨j, p, by rw [List.getElem?_take, if_pos hji]; exact hj, hy⟩) fun y'' hy'' => (by
                obtain ⟨j', p', hj', hm'⟩ := slotsE_mem.1 hy''
                rw [List.getElem?_take] at hj'
                split at hj'
                · exact (huS j j' p p' t y' y'' hj hj' hy hm').2
                · cases hj')] at e1
              cases e1
              exact hSLin _ j p t _ hj hy (by simpa using hlj)
            · have hlj : L.getD j false = false := by
                cases hlj : L.getD j false with
                | false => rfl
                | true =>
                  have := hcl j oj hoj hlj e he hb
                  rw [heq, hun'] at this
                  cases this
              rw [lkA_none fun y'' hy'' => (by
                obtain ⟨j', p', hj', hm'⟩ := slotsE_mem.1 hy''
                rw [List.getElem?_take] at hj'
                split at hj'
                · have := (huS j j' p p' t y' y'' hj hj' hy hm').1
                  omega
                · cases hj')] at e1
              rw [hSLout _ t fun j' p' x' hj' hls hm' => (by
                have := (huS j j' p p' t y' x' hj hj' hy hm').1
                subst this
                rw [hlj] at hls; cases hls)]
              exact e1
          · rw [lkA_none fun y'' hy'' => (by
              obtain ⟨j', p', hj', hm'⟩ := slotsE_mem.1 hy''
              rw [List.getElem?_take] at hj'
              split at hj'
              · exact hex ⟨j', p', y'', hj', hm'⟩
              · cases hj')] at e1
            rw [hSLout _ t fun j' p' x' hj' hls hm' => hex ⟨j', p', x', hj', hm'⟩]
            exact e1
        have hget : ∀ j, (L.setIfInBounds i true).getD j false = if j = i then true else L.getD j false := fun j => by
          by_cases hji : j = i
          · subst hji
            rw [if_pos rfl, Array.getD_eq_getD_getElem?, Array.getElem?_setIfInBounds_self]
            simp [hsz, hlt]
          · rw [if_neg hji, getD_set_ne false (Ne.symm hji)]
        have hfr' : rn ≠ [] → freshB ⟨A.n, SL (fun j => L.getD j false), RS (fun j => L.getD j false)⟩ d = true := fun hne => by
          obtain ⟨r, hr⟩ : ∃ r, (d, r) ∈ rn := by
            rcases stepZ_shape g2 g4 with e | ⟨r', e⟩
            · exact absurd e hne
            · exact ⟨r', by rw [e]; exact .head _⟩
          have hf := hnew i _ d r g1 hr
          refine fresh_super hf.2.1 hf.2.2 (fun t x hm => ?_) (fun t r' hm => ?_)
          · obtain ⟨j, q, hj, hlj, hm'⟩ := pickL_mem hm
            obtain ⟨p', hj', rfl⟩ := mapGet hj
            exact menL_ok (freshE_ok hf.1 j p' hj' (by intro e; rw [Nat.zero_add] at e hlj; subst e; rw [hun'] at hlj; cases hlj) (by
              rw [Nat.zero_add] at hlj ⊢
              cases hbo : bindsOn ops j i with
              | false => rfl
              | true =>
                have := waitsFor_ok (ls := fun j => L.getD j false) hcl hbo hlj
                rw [hun'] at this; cases this)).1 t x hm'
          · obtain ⟨j, q, hj, hlj, hm'⟩ := pickL_mem hm
            obtain ⟨p', hj', rfl⟩ := mapGet hj
            exact freshR_mem (freshE_ok hf.1 j p' hj' (by intro e; rw [Nat.zero_add] at e hlj; subst e; rw [hun'] at hlj; cases hlj) (by
              rw [Nat.zero_add] at hlj ⊢
              cases hbo : bindsOn ops j i with
              | false => rfl
              | true =>
                have := waitsFor_ok (ls := fun j => L.getD j false) hcl hbo hlj
                rw [hun'] at this; cases this)).2 hm'
        refine stepZ_wp hl hT hop' (A := ⟨A.n, SL (fun j => L.getD j false), RS (fun j => L.getD j false)⟩) (B := ⟨A.n, pickS (slotsE (prs.take i) ++ A.sl) (looks ops op), A.rs⟩) ⟨rfl, fun t r hr => hPMbase _ t r hr, hsl⟩ hs' g2 g3 g4 g5 hfr' fun o2 h2 v w1 hs2 hext => ?_
        refine ih (L.setIfInBounds i true) o2 h2 _ w1 (inS_ok hin) hcn' ⟨hs2.size, hs2.tags, fun t x hlk => hs2.slot t x ?_, fun t r hlk => hs2.res t r ?_⟩ (hx.trans hext)
        · exact pickL_step (p := [(d, y)]) hapS (by rw [List.getElem?_map, g1]; rfl) (by simp [hget]) (fun j hj => by simp [hget, hj]) hlk
        · exact pickL_step (p := rn) hapM (by rw [List.getElem?_map, g1]; rfl) (by simp [hget]) (fun j hj => by simp [hget, hj]) hlk
  have hl0 : ∀ (j : Nat), memN j F = true → l0.getD j false = false := fun j hj => by
    have := hF0 j (memN_yes hj)
    simpa using this
  have e1 : SL (fun j => l0.getD j false) = A.sl := by
    show pickL _ 0 _ ++ A.sl = _
    rw [pickL_nil fun j q hj hls => ?_]
    · rfl
    · obtain ⟨p, h1, rfl⟩ := mapGet hj
      obtain ⟨op, h2, h3, h4⟩ := hent j p h1
      cases hp : p.1 with
      | nil => rfl
      | cons a l =>
        have := (h3 a.1 a.2 (by rw [hp]; exact .head _)).1
        rw [Nat.zero_add] at hls
        rw [hl0 j this] at hls; cases hls
  have e2 : RS (fun j => l0.getD j false) = A.rs := by
    show pickL _ 0 _ ++ A.rs = _
    rw [pickL_nil fun j q hj hls => ?_]
    · rfl
    · obtain ⟨p, h1, rfl⟩ := mapGet hj
      obtain ⟨op, h2, h3, h4⟩ := hent j p h1
      cases hp : p.2 with
      | nil => rfl
      | cons a l =>
        have := (h4 a.1 a.2 (by rw [hp]; exact .head _)).1
        rw [Nat.zero_add] at hls
        rw [hl0 j this] at hls; cases hls
  refine main (cntF l0) l0 o h tm w (inS_ok hS0) rfl ?_ hx0
  rw [e1, e2]
  exact hs
/-- a region that draws its order, by phases -/
theorem KW.phases {k k' : List K} {e : Exit} (hl : LayOk P lay) (hT : FnsOk P fns) (hm : P.follows .mixedOrders = true) (f : Nat) {id : Nat} {ops : Array Oper} {φ : Prop} (h : run2 lay fns f k e A True = (.code (.region id ops true) :: k', .normal, A', φ)) (hφ : φ)
    (hn : KA P ops k' Q (cntF (Array.replicate ops.size false)) (Array.replicate ops.size false) A') : KW P k e A Q := by
  refine KW.go hl hT f h hφ (KW.orders hm ?_)
  have : cntF (Array.replicate ops.size false) = ops.size := by simp [cntF, Array.toList_replicate, List.countP_replicate]
  rwa [this] at hn
/-- a guarded operation that is not wanted -/
theorem KW.skipD {k : List K} {all : Array Oper} {op : Oper} {rest : List Oper} {j : Nat} {want b : Bool} {d : Nat} (x : EV) (hg : op.guard = some (j, want)) (hb : gdOf A all j want = some b) (hf : b = false) (hd : op.dst = some d) (hlt : Nat.blt d A.n = true)
    (hn : KW P (.ops all rest :: k) .normal ⟨A.n, (d, .e (.gd b x)) :: A.sl, A.rs⟩ Q) : KW P (.ops all (op :: rest) :: k) .normal A Q := by
  intro o h tm w hs
  show wpList P all (kq P (lift Q o w) k) (op :: rest) ⟨tm, []⟩ w
  unfold wpList
  have hput : ∀ v, (⟨tm, []⟩ : Act).put op.dst v = ⟨tm.setIfInBounds d v, []⟩ := fun v => by simp [Act.put, hd]
  have hy := gdOf_false hs hb hf
  rw [if_neg (by simp [Region.wanted, hg, hy])]
  show wpList P all (kq P (lift Q o w) k) rest ((⟨tm, []⟩ : Act).put op.dst undef) w
  rw [hput]
  exact hn o h _ w (hs.put (by simpa [Nat.blt, Nat.succ_le_iff] using hlt) (v := undef) ⟨fun e => absurd (hf.symm.trans e) Bool.false_ne_true, fun _ => rfl⟩)
end
end Go.Sy
