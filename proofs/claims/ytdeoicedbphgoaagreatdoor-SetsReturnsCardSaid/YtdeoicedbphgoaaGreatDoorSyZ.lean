/-
  SYMBOLIC STATES: regions that draw their order and hold ONE append to an own row among operations that compute values or lay new memory. No program is named here.
-/
import Derived.Test.YtdeoicedbphgoaaGreatDoorSyX
set_option linter.unusedSectionVars false
set_option linter.unusedVariables false
set_option linter.unusedSimpArgs false
namespace Go.Sy
variable [Drw]
section
variable {P : Program} {lay : Lay} {A A' B : St} {Q : Exit → St → Prop} {fns : Fns} {o : Nat → Tag} {h : Nat → Value} {tm : Array Value} {w : World}
theorem srcOf_upS (hle : St.sub B A) {i : Nat} {x : Operand} {r : CV × Prop} (hr : srcOf B i x = some r) : srcOf A i x = some r := by
  unfold srcOf at hr ⊢
  split at hr
  · rename_i e; rw [rd_upS hle e]; exact hr
  · rename_i j p e
    rw [rd_upS hle e]
    dsimp only
    split at hr
    · rename_i e2
      rw [hle.rs _ _ e2]; exact hr
    · cases hr
  · cases hr
theorem evA_up (hle : St.sub B A) {op : Oper} {d : Nat} (hd : op.dst = some d) (hf : freshB A d = true) {n : Nat} {sl : List (Nat × SV)} {r1 r2 : Nat × Res} {rs : List (Nat × Res)} {φ : Prop} (he : evA lay B op = some (⟨n, sl, r1 :: r2 :: rs⟩, φ)) :
    evA lay A op = some (⟨A.n, (d, .e (.r d)) :: A.sl, r1 :: r2 :: A.rs⟩, φ) := by
  unfold evA at he ⊢
  split at he
  · rename_i c d' ho hd'
    rw [hd] at hd'
    cases hd'
    try simp only [ho, hd]
    split at he
    · rename_i s x t t' e1 e2 e3
      try simp only [e1, e2, e3]
      split at he
      · rename_i sz ag E es bytes zz f1 f2 f3 f4
        rw [hle.n] at f3
        try simp only [f1, f2, f3, hf]
        split at he
        · rename_i i p rE g1 g2
          try simp only [rd_upS hle g1, g2]
          split at he
          · rename_i E' X Y q k1 k2
            try simp only [hle.rs _ _ k1, srcOf_upS hle k2]
            split at he
            · rename_i nn kk f m k' g
              split at he
              · rename_i m1 m2 m3
                try simp only [m1, m2, m3]
                simp only [Option.some.injEq, Prod.mk.injEq, St.mk.injEq, List.cons.injEq] at he
                obtain ⟨⟨_, _, hr1, hr2, _⟩, hφ⟩ := he
                simp only [← hr1, ← hr2, ← hφ]
              · cases he
            · cases he
          · cases he
        · rename_i p rE g1 g2
          try simp only [rd_upS hle g1, g2]
          split at he
          · rename_i Y q k1
            try simp only [srcOf_upS hle k1]
            split at he
            · rename_i m k' g
              split at he
              · rename_i m1
                try simp only [m1]
                simp only [Option.some.injEq, Prod.mk.injEq, St.mk.injEq, List.cons.injEq] at he
                obtain ⟨⟨_, _, hr1, hr2, _⟩, hφ⟩ := he
                simp only [← hr1, ← hr2, ← hφ]
              · cases he
            · cases he
          · cases he
        · cases he
      · cases he
    · cases he
  · cases he
theorem evS_up (hle : St.sub B A) {op : Oper} {n : Nat} {sl : List (Nat × SV)} {r : Nat × Res} {rs : List (Nat × Res)} {φ : Prop} (he : evS lay B op = some (⟨n, sl, r :: rs⟩, φ)) : evS lay A op = some (⟨A.n, A.sl, r :: A.rs⟩, φ) := by
  have partE_up : ∀ {x : Operand} {r : List EV × Prop}, partE B x = some r → partE A x = some r := by
    intro x r hr
    unfold partE at hr ⊢
    split at hr
    · rename_i e; rw [rd_upS hle e]; exact hr
    · rename_i e; rw [rd_upS hle e]; exact hr
    · rename_i j p e
      rw [rd_upS hle e]
      dsimp only
      split at hr
      · rename_i e2; rw [hle.rs _ _ e2]; exact hr
      · rename_i e2; rw [hle.rs _ _ e2]; exact hr
      · cases hr
    · cases hr
  unfold evS at he ⊢
  split at he
  · rename_i T a x ho hd
    try simp only [ho, hd]
    split at he
    · rename_i rT i p e1 e2
      try simp only [e1, rd_upS hle e2]
      split at he
      · rename_i T' cs bk xs p' e3 e4
        try simp only [hle.rs _ _ e3, partE_up e4]
        split at he
        · rename_i e5 e6
          try simp only [e5, e6]
          simp only [Option.some.injEq, Prod.mk.injEq, St.mk.injEq, List.cons.injEq] at he
          obtain ⟨⟨_, _, hr, _⟩, hφ⟩ := he
          simp only [← hr, ← hφ]
        · cases he
      · cases he
    · rename_i rT i k e q p e1 e2
      try simp only [e1, rd_upS hle e2]
      split at he
      · rename_i T' cs bk e3
        try simp only [hle.rs _ _ e3]
        split at he
        · rename_i xs p' e4
          try simp only [partE_up e4]
          split at he
          · rename_i e5 e6
            try simp only [e5, e6]
            simp only [Option.some.injEq, Prod.mk.injEq, St.mk.injEq, List.cons.injEq] at he
            obtain ⟨⟨_, _, hr, _⟩, hφ⟩ := he
            simp only [← hr, ← hφ]
          · cases he
        · cases he
      · rename_i E X e3
        try simp only [hle.rs _ _ e3]
        split at he
        · rename_i n' k' f xs p' e4
          try simp only [partC_up hle e4]
          split at he
          · rename_i e5 e6 e7
            try simp only [e5, e6, e7]
            simp only [Option.some.injEq, Prod.mk.injEq, St.mk.injEq, List.cons.injEq] at he
            obtain ⟨⟨_, _, hr, _⟩, hφ⟩ := he
            simp only [← hr, ← hφ]
          · cases he
        · cases he
      · cases he
    · cases he
  · cases he
/-- the one operation of a region that takes or writes: an append, or a store -/
def stepS (lay : Lay) (B : St) (i0 : Nat) (op : Oper) : Option (List (Nat × SV) × List (Nat × Res) × Prop) :=
  match op.guard, op.dst with
  | none, some d => match evA lay B op with
    | some (⟨_, _, (d1, r1) :: (i1, .gone) :: _⟩, φ) => match Nat.beq d1 d, Nat.beq i1 i0 with
      | true, true => some ([(d, .e (.r d))], [(d, r1), (i0, .gone)], φ)
      | _, _ => none
    | _ => none
  | none, none => match evS lay B op with
    | some (⟨_, _, (i1, r1) :: _⟩, φ) => match Nat.beq i1 i0 with
      | true => some ([], [(i0, r1)], φ)
      | false => none
    | _ => none
  | _, _ => none
theorem stepS_shape {i0 : Nat} {op : Oper} {ys : List (Nat × SV)} {rn : List (Nat × Res)} {φ : Prop} (hc : stepS lay B i0 op = some (ys, rn, φ)) : op.guard = none ∧
    ((∃ d r1, op.dst = some d ∧ ys = [(d, .e (.r d))] ∧ rn = [(d, r1), (i0, .gone)] ∧ ∃ n sl rs, evA lay B op = some (⟨n, sl, (d, r1) :: (i0, .gone) :: rs⟩, φ)) ∨
      (∃ r1, op.dst = none ∧ ys = [] ∧ rn = [(i0, r1)] ∧ ∃ n sl rs, evS lay B op = some (⟨n, sl, (i0, r1) :: rs⟩, φ))) := by
  unfold stepS at hc
  split at hc
  · rename_i d hg hd
    refine ⟨hg, .inl ?_⟩
    split at hc
    · rename_i n sl d1 r1 i1 rs φ' he
      split at hc
      · rename_i h1 h2
        obtain rfl := Nat.eq_of_beq_eq_true h1
        obtain rfl := Nat.eq_of_beq_eq_true h2
        simp only [Option.some.injEq, Prod.mk.injEq] at hc
        obtain ⟨rfl, rfl, rfl⟩ := hc
        exact ⟨d1, r1, hd, rfl, rfl, n, sl, rs, he⟩
      · cases hc
    · cases hc
  · rename_i hg hd
    refine ⟨hg, .inr ?_⟩
    split at hc
    · rename_i n sl i1 r1 rs φ' he
      split at hc
      · rename_i h2
        obtain rfl := Nat.eq_of_beq_eq_true h2
        simp only [Option.some.injEq, Prod.mk.injEq] at hc
        obtain ⟨rfl, rfl, rfl⟩ := hc
        exact ⟨r1, hd, rfl, rfl, n, sl, rs, he⟩
      · cases hc
    · cases hc
  · cases hc
theorem stepS_wp (hl : LayOk P lay) {ops : Array Oper} {i i0 : Nat} {op : Oper} (hi : ops[i]? = some op) {ys : List (Nat × SV)} {rn : List (Nat × Res)} {φ : Prop} (hle : St.sub B A) (hs : Sat o h A tm w)
    (hc : stepS lay B i0 op = some (ys, rn, φ)) (hφ : φ) (hfr : ∀ d y, (d, y) ∈ ys → freshB A d = true) {K : Act → World → Prop} {QQ : Exit → Act → World → Prop}
    (hn : ∀ o2 h2 tm2 w1, Sat o2 h2 ⟨A.n, ys ++ A.sl, rn ++ A.rs⟩ tm2 w1 → Ext o w o2 w1 → K ⟨tm2, []⟩ w1) : wpOp P ops QQ i K ⟨tm, []⟩ w := by
  obtain ⟨hg, ⟨d, r1, hd, rfl, rfl, n, sl, rs, he⟩ | ⟨r1, hd, rfl, rfl, n, sl, rs, he⟩⟩ := stepS_shape hc
  · obtain ⟨x, v, w', o', h', hr, hx, hs', hext⟩ := evA_ok hl (evA_up hle hd (hfr d _ (.head _)) he) hφ o h tm w hs
    unfold wpOp
    simp only [hi]
    rw [if_pos (by simp [Region.wanted, hg])]
    left
    unfold Oper.wp
    show op.upon P ⟨tm, []⟩ _ _ ((execOp (evl tm) op).run P w)
    rw [hr]
    have hput : ∀ v, (⟨tm, []⟩ : Act).put op.dst v = ⟨tm.setIfInBounds d v, []⟩ := fun v => by simp [Act.put, hd]
    rw [hput] at hs'
    rcases hx with rfl | ⟨rfl, rfl⟩
    · show K ((⟨tm, []⟩ : Act).put op.dst v) w'
      rw [hput]
      exact hn o' h' _ w' hs' hext
    · show K ((⟨tm, []⟩ : Act).put op.dst undef) w'
      rw [hput]
      exact hn o' h' _ w' hs' hext
  · obtain ⟨x, v, w', o', h', hr, hx, hs', hext⟩ := evS_ok hl (evS_up hle he) hφ o h tm w hs
    unfold wpOp
    simp only [hi]
    rw [if_pos (by simp [Region.wanted, hg])]
    left
    unfold Oper.wp
    show op.upon P ⟨tm, []⟩ _ _ ((execOp (evl tm) op).run P w)
    rw [hr]
    have hput : ∀ v, (⟨tm, []⟩ : Act).put op.dst v = ⟨tm, []⟩ := fun v => by simp [Act.put, hd]
    rw [hput] at hs'
    rcases hx with rfl | ⟨rfl, rfl⟩
    · show K ((⟨tm, []⟩ : Act).put op.dst v) w'
      rw [hput]
      exact hn o' h' _ w' hs' hext
    · show K ((⟨tm, []⟩ : Act).put op.dst undef) w'
      rw [hput]
      exact hn o' h' _ w' hs' hext
def isBS : Op → Bool
  | .buildSlice _ _ _ => true
  | _ => false
/-- as stepX, but for rows that are built: nobody writes them any more -/
def stepZ (lay : Lay) (fns : Fns) (B : St) (ops : Array Oper) (op : Oper) : Option (SV × List (Nat × Res) × Prop) :=
  match isBS op.op with
  | false => stepX lay fns B ops op
  | true => match op.guard, op.dst, evE lay B op with
    | none, some d, some (⟨_, _, (k, .own _ x) :: _⟩, φ) => match isSl x, Nat.beq k d with
      | true, true => some (.e (.c x), [(d, .gone)], φ)
      | _, _ => none
    | _, _, _ => none
theorem stepZ_shape {B : St} {ops : Array Oper} {op : Oper} {y : SV} {rn : List (Nat × Res)} {φ : Prop} {d : Nat} (hd : op.dst = some d) (hc : stepZ lay fns B ops op = some (y, rn, φ)) : rn = [] ∨ ∃ r, rn = [(d, r)] := by
  unfold stepZ at hc
  split at hc
  · unfold stepX at hc
    split at hc
    · simp only [Option.some.injEq, Prod.mk.injEq] at hc
      exact .inl hc.2.1.symm
    · split at hc
      · rename_i d2 n2 sl2 k2 r2 l2 φ2 _ _ hd2 _
        simp only [Option.some.injEq, Prod.mk.injEq] at hc
        rw [hd] at hd2
        cases hd2
        exact .inr ⟨_, hc.2.1.symm⟩
      · cases hc
  · split at hc
    · rename_i d2 _ _ _ _ _ _ _ _ hd2 _
      rw [hd] at hd2
      cases hd2
      split at hc
      · simp only [Option.some.injEq, Prod.mk.injEq] at hc
        exact .inr ⟨_, hc.2.1.symm⟩
      · cases hc
    · cases hc
theorem stepZ_wp (hl : LayOk P lay) (hT : FnsOk P fns) {ops : Array Oper} {i : Nat} {op : Oper} (hi : ops[i]? = some op) {y : SV} {rn : List (Nat × Res)} {φ : Prop} {d : Nat} (hle : St.sub B A) (hs : Sat o h A tm w) (hd : op.dst = some d) (hlt : Nat.blt d A.n = true)
    (hc : stepZ lay fns B ops op = some (y, rn, φ)) (hφ : φ) (hfr : rn ≠ [] → freshB A d = true) {K : Act → World → Prop} {QQ : Exit → Act → World → Prop}
    (hn : ∀ o2 h2 v w1, Sat o2 h2 ⟨A.n, (d, y) :: A.sl, rn ++ A.rs⟩ (tm.setIfInBounds d v) w1 → Ext o w o2 w1 → K ⟨tm.setIfInBounds d v, []⟩ w1) : wpOp P ops QQ i K ⟨tm, []⟩ w := by
  unfold stepZ at hc
  split at hc
  · exact stepX_wp hl hT hi hle hs hd hlt hc hφ hfr hn
  · rename_i hbs
    split at hc
    · rename_i d' n2 sl2 k2 E2 x rs2 φ2 hg hd2 hE
      rw [hd] at hd2
      cases hd2
      split at hc
      · rename_i hsl hkd
        simp only [Option.some.injEq, Prod.mk.injEq] at hc
        obtain ⟨rfl, rfl, rfl⟩ := hc
        obtain rfl := Nat.eq_of_beq_eq_true hkd
        obtain ⟨n3, k3, f3, rfl⟩ := isSl_ok hsl
        have hnew : isNew op.op = true := by cases hop : op.op <;> rw [hop] at hbs <;> simp [isBS] at hbs <;> rfl
        have hA := evE_up hle hd hnew (hfr (by simp)) hE
        obtain ⟨x, v, w', o', h', hr, hx, hs', hext⟩ := evE_ok hl hA hφ o h tm w hs
        have hput : ∀ v, (⟨tm, []⟩ : Act).put op.dst v = ⟨tm.setIfInBounds k2 v, []⟩ := fun v => by simp [Act.put, hd]
        rw [hput] at hs'
        obtain ⟨g1, g2⟩ := hs'.frz (i := k2) (E := E2) (n := n3) (k := k3) (f := f3) (by rw [lk_cons, if_pos rfl]) (ss := [k2]) (by simp [allR, lk_cons])
        have hs2 : Sat (frzO o' k2) h' ⟨A.n, (k2, .e (.c (.sl n3 k3 f3))) :: A.sl, [(k2, .gone)] ++ A.rs⟩ (tm.setIfInBounds k2 v) w' := by
          refine ⟨g1.size, g1.tags, fun s z hl => g1.slot s z ?_, fun j r hl => g1.res j r ?_⟩
          · simp only [pushC] at hl ⊢
            rw [lk_cons] at hl ⊢
            split at hl
            · rename_i e; rw [if_pos e]; exact hl
            · rename_i e; rw [if_neg e, lk_cons, if_neg e]; exact hl
          · simp only [List.cons_append, List.nil_append] at hl ⊢
            rw [lk_cons] at hl ⊢
            split at hl
            · rename_i e; rw [if_pos e]; exact hl
            · rename_i e; rw [if_neg e, lk_cons, if_neg e]; exact hl
        unfold wpOp
        simp only [hi]
        rw [if_pos (by simp [Region.wanted, hg])]
        left
        unfold Oper.wp
        show op.upon P ⟨tm, []⟩ _ _ ((execOp (evl tm) op).run P w)
        rw [hr]
        rcases hx with rfl | ⟨rfl, rfl⟩
        · show K ((⟨tm, []⟩ : Act).put op.dst v) w'
          rw [hput]
          exact hn _ h' v w' hs2 (hext.trans g2)
        · show K ((⟨tm, []⟩ : Act).put op.dst undef) w'
          rw [hput]
          exact hn _ h' undef w' hs2 (hext.trans g2)
      · cases hc
    · cases hc
/-! lists of what each operation of a region lays -/
def pickL {α : Type} (ls : Nat → Bool) : Nat → List (List (Nat × α)) → List (Nat × α)
  | _, [] => []
  | k, p :: l => (if ls k then p else []) ++ pickL ls (k + 1) l
theorem lkA_none {α : Type} {l base : List (Nat × α)} {i : Nat} (h : ∀ r, (i, r) ∉ l) : lk (l ++ base) i = lk base i := by
  induction l with
  | nil => rfl
  | cons p l ih =>
    obtain ⟨k, r⟩ := p
    rw [List.cons_append, lk_cons, if_neg (fun e => h r (by rw [← e]; exact .head _)), ih fun r' hr => h r' (.tail _ hr)]
theorem lkA_some {α : Type} {l base : List (Nat × α)} {t : Nat} {r : α} (h : lk l t = some r) : lk (l ++ base) t = some r := by
  induction l with
  | nil => simp [lk] at h
  | cons q l ih =>
    rw [List.cons_append, lk_cons]
    rw [lk_cons] at h
    split
    · rename_i e; rw [if_pos e] at h; exact h
    · rename_i e; rw [if_neg e] at h; exact ih h
theorem lkA_of {α : Type} {l : List (Nat × α)} {t : Nat} {r : α} (h : (t, r) ∈ l) : ∃ r', lk l t = some r' := by
  induction l with
  | nil => cases h
  | cons q l ih =>
    rw [lk_cons]
    split
    · exact ⟨_, rfl⟩
    · rename_i hne
      rcases List.mem_cons.1 h with e | e
      · rw [← e] at hne; exact absurd rfl hne
      · exact ih e
theorem pickL_mem {α : Type} {ls : Nat → Bool} {t : Nat} {r : α} : ∀ {ps : List (List (Nat × α))} {k : Nat}, (t, r) ∈ pickL ls k ps → ∃ (j : Nat) (p : List (Nat × α)), ps[j]? = some p ∧ ls (k + j) = true ∧ (t, r) ∈ p
  | [], k, h => by simp [pickL] at h
  | p :: l, k, h => by
    simp only [pickL, List.mem_append] at h
    rcases h with h | h
    · split at h
      · rename_i hk; exact ⟨0, p, rfl, hk, h⟩
      · cases h
    · obtain ⟨j, p', h1, h2, h3⟩ := pickL_mem h
      exact ⟨j + 1, p', by simpa using h1, by rw [show k + (j + 1) = k + 1 + j by omega]; exact h2, h3⟩
theorem pickL_in {α : Type} {ls : Nat → Bool} {base : List (Nat × α)} {t : Nat} {r : α} : ∀ {ps : List (List (Nat × α))} {k i : Nat} {p : List (Nat × α)}, ps[i]? = some p → ls (k + i) = true → lk p t = some r →
    (∀ (j : Nat) (p' : List (Nat × α)), j ≠ i → ps[j]? = some p' → ∀ r', (t, r') ∉ p') → lk (pickL ls k ps ++ base) t = some r
  | [], k, i, p, h, _, _, _ => by simp at h
  | q :: l, k, 0, p, h, hl, hr, hu => by
    simp at h
    subst h
    simp only [Nat.add_zero] at hl
    simp only [pickL, hl, if_true, List.append_assoc]
    exact lkA_some hr
  | q :: l, k, i + 1, p, h, hl, hr, hu => by
    have ih := pickL_in (base := base) (ps := l) (k := k + 1) (i := i) (by simpa using h) (by rw [show k + 1 + i = k + (i + 1) by omega]; exact hl) hr fun j p' hj hp => hu (j + 1) p' (by omega) (by simpa using hp)
    simp only [pickL, List.append_assoc]
    rw [lkA_none fun r' hm => ?_]
    · exact ih
    · split at hm
      · exact hu 0 q (by omega) rfl r' hm
      · cases hm
theorem pickL_out {α : Type} {ls : Nat → Bool} {base : List (Nat × α)} {ps : List (List (Nat × α))} {t : Nat} (hu : ∀ (j : Nat) (p : List (Nat × α)), ps[j]? = some p → ls j = true → ∀ r, (t, r) ∉ p) : lk (pickL ls 0 ps ++ base) t = lk base t :=
  lkA_none fun r hm => by
    obtain ⟨j, p, h1, h2, h3⟩ := pickL_mem hm
    exact hu j p h1 (by simpa using h2) r h3
theorem pickL_congr {α : Type} {ls ls' : Nat → Bool} : ∀ {ps : List (List (Nat × α))} {k : Nat}, (∀ j, j < ps.length → ls (k + j) = ls' (k + j)) → pickL ls k ps = pickL ls' k ps
  | [], _, _ => rfl
  | p :: l, k, h => by
    have h0 := h 0 (by simp)
    simp only [Nat.add_zero] at h0
    simp only [pickL, h0]
    rw [pickL_congr (ls := ls) (ls' := ls') (ps := l) (k := k + 1) fun j hj => by
      have := h (j + 1) (by simp; omega)
      rwa [show k + (j + 1) = k + 1 + j by omega] at this]
theorem pickL_none {α : Type} {ls : Nat → Bool} (h : ∀ j, ls j = false) : ∀ {ps : List (List (Nat × α))} {k : Nat}, pickL ls k ps = []
  | [], _ => rfl
  | p :: l, k => by simp [pickL, h k, pickL_none h]
/-- no two lay the same number -/
def ApartL {α : Type} (ps : List (List (Nat × α))) : Prop := ∀ (i j : Nat) (p p' : List (Nat × α)), i ≠ j → ps[i]? = some p → ps[j]? = some p' → ∀ t r r', (t, r) ∈ p → (t, r') ∉ p'
theorem pickL_step {α : Type} {ls ls' : Nat → Bool} {base : List (Nat × α)} {p : List (Nat × α)} {ps : List (List (Nat × α))} {i : Nat} (hk : ApartL ps) (h : ps[i]? = some p) (hi : ls' i = true) (hl : ∀ j, j ≠ i → ls' j = ls j) {t : Nat} {r : α} (hr : lk (pickL ls' 0 ps ++ base) t = some r) :
    lk (p ++ (pickL ls 0 ps ++ base)) t = some r := by
  by_cases hm : ∃ r0, (t, r0) ∈ p
  · obtain ⟨r0, hm⟩ := hm
    obtain ⟨r1, h1⟩ := lkA_of hm
    have := pickL_in (base := base) (k := 0) h (by simpa using hi) h1 fun j p' hj hp r' => hk i j p p' (Ne.symm hj) h hp t r0 r' hm
    rw [this] at hr
    cases hr
    exact lkA_some h1
  · rw [lkA_none fun r0 hm' => hm ⟨r0, hm'⟩]
    by_cases hx : ∃ (j : Nat) (q : List (Nat × α)), ps[j]? = some q ∧ ls' j = true ∧ ∃ r0, (t, r0) ∈ q
    · obtain ⟨j, q, hj, hlj, r0, hq⟩ := hx
      have hji : j ≠ i := by rintro rfl; rw [h] at hj; cases hj; exact hm ⟨r0, hq⟩
      obtain ⟨r1, h1⟩ := lkA_of hq
      have e1 := pickL_in (base := base) (k := 0) hj (by simpa using hlj) h1 fun j' p' hj' hp r' => hk j j' q p' (Ne.symm hj') hj hp t r0 r' hq
      rw [e1] at hr
      cases hr
      exact pickL_in (k := 0) hj (by simpa using (hl j hji) ▸ hlj) h1 fun j' p' hj' hp r' => hk j j' q p' (Ne.symm hj') hj hp t r0 r' hq
    · rw [pickL_out fun j q hj hlj r0 hq => hx ⟨j, q, hj, hlj, r0, hq⟩] at hr
      rw [pickL_out fun j q hj hlj r0 hq => hx ⟨j, q, hj, by
        by_cases hji : j = i
        · subst hji; exact hi
        · rw [hl j hji]; exact hlj, r0, hq⟩]
      exact hr
theorem lkM {α : Type} : ∀ {l : List (Nat × α)} {i : Nat} {r : α}, lk l i = some r → (i, r) ∈ l
  | [], _, _, h => by simp [lk] at h
  | (j, x) :: l, i, r, h => by
    rw [lk_cons] at h
    split at h
    · rename_i e; subst e; cases h; exact .head _
    · exact .tail _ (lkM h)
/-- what an operation lays: slots, memory -/
abbrev Ent := List (Nat × SV) × List (Nat × Res)
def pickR (rn : List (Nat × Res)) (ts : List Nat) : List (Nat × Res) := rn.filter fun p => memN p.1 ts
/-- the numbers of what is there, but for one -/
def without (i0 : Nat) (rs : List (Nat × Res)) : List (Nat × Res) := rs.filter fun p => !Nat.beq p.1 i0
theorem without_lk {i0 : Nat} : ∀ {rs : List (Nat × Res)} {i : Nat} {r : Res}, lk (without i0 rs) i = some r → lk rs i = some r ∧ i ≠ i0
  | [], i, r, h => by simp [without, lk] at h
  | p :: rs, i, r, h => by
    unfold without at h
    rw [List.filter_cons] at h
    split at h
    · rename_i hp
      rw [lk_cons] at h ⊢
      split at h
      · rename_i e
        rw [if_pos e]
        refine ⟨h, fun e2 => ?_⟩
        rw [e, e2] at hp; simp at hp
      · rename_i e
        rw [if_neg e]
        exact without_lk h
    · rename_i hp
      obtain ⟨h1, h2⟩ := without_lk h
      refine ⟨?_, h2⟩
      rw [lk_cons, if_neg]
      · exact h1
      · intro e
        have : p.1 = i0 := by
          simp only [Bool.not_eq_true', Bool.not_eq_false] at hp
          exact Nat.eq_of_beq_eq_true (by simpa using hp)
        exact h2 (e ▸ this)
/-- does operation s wait for operation i, at once or by way of another? -/
def waitsFor (ops : Array Oper) : Nat → Nat → Nat → Bool
  | 0, _, _ => false
  | f + 1, s, i => match ops[s]? with
    | some op => anyE op.after.toList i || op.after.toList.any fun e => Region.binds .any e && waitsFor ops f e.on i
    | none => false
def bindsOn (ops : Array Oper) (s i : Nat) : Bool := waitsFor ops 2 s i
theorem waitsFor_ok {ops : Array Oper} {ls : Nat → Bool} (hcl : ∀ (i : Nat) oi, ops[i]? = some oi → ls i = true → ∀ e ∈ oi.after, Region.binds .any e = true → ls e.on = true) : ∀ {f s i : Nat}, waitsFor ops f s i = true → ls s = true → ls i = true
  | 0, _, _, h, _ => by cases h
  | f + 1, s, i, h, hs => by
    unfold waitsFor at h
    split at h
    · rename_i op ho
      rw [Bool.or_eq_true] at h
      rcases h with h | h
      · obtain ⟨e, he, h1, h2⟩ := anyE_ok h
        rw [← h2]; exact hcl s op ho hs e (by simpa using he) h1
      · rw [List.any_eq_true] at h
        obtain ⟨e, he, h1⟩ := h
        rw [Bool.and_eq_true] at h1
        exact waitsFor_ok hcl h1.2 (hcl s op ho hs e (by simpa using he) h1.1)
    · cases h
def drawV (lay : Lay) (fns : Fns) (ops : Array Oper) (rs0 rs1 : List (Nat × Res)) (n s i0 : Nat) : List Oper → Nat → List (Nat × SV) → List (Nat × Res) → Prop → Option (List Ent × List (Nat × Res) × Prop)
  | [], _, _, _, φ => some ([], [], φ)
  | op :: l, i, sl, acc, φ => match Nat.beq i s with
    | true => match stepS lay ⟨n, pickS sl (looks ops op), pickR acc (looks ops op) ++ rs0⟩ i0 op with
      | some (ys, rn, ψ) => match drawV lay fns ops rs0 rs1 n s i0 l (i + 1) (ys ++ sl) acc (φ ∧ ψ) with
        | some (ps, _, χ) => some ((ys, []) :: ps, rn, χ)
        | none => none
      | none => none
    | false => match op.dst with
      | some d => match Nat.blt d n, stepZ lay fns ⟨n, pickS sl (looks ops op), bif bindsOn ops s i then rs0 else rs1⟩ ops op with
        | true, some (y, rn, ψ) => match drawV lay fns ops rs0 rs1 n s i0 l (i + 1) ((d, y) :: sl) (acc ++ rn) (φ ∧ ψ) with
          | some (ps, sp, χ) => some (([(d, y)], rn) :: ps, sp, χ)
          | none => none
        | _, _ => none
      | none => none
def slotsE (ps : List Ent) : List (Nat × SV) := (ps.map (·.1)).reverse.flatten
def memE (ps : List Ent) : List (Nat × Res) := (ps.map (·.2)).flatten
theorem slotsE_cons (p : Ent) (ps : List Ent) (sl : List (Nat × SV)) : slotsE (p :: ps) ++ sl = slotsE ps ++ (p.1 ++ sl) := by simp [slotsE]
theorem memE_cons (p : Ent) (ps : List Ent) (acc : List (Nat × Res)) : acc ++ memE (p :: ps) = (acc ++ p.2) ++ memE ps := by simp [memE]
theorem drawV_spec {ops : Array Oper} {rs0 rs1 : List (Nat × Res)} {n s i0 : Nat} : ∀ {l : List Oper} {k : Nat} {sl : List (Nat × SV)} {acc : List (Nat × Res)} {prs : List Ent} {sp : List (Nat × Res)} {φ φ' : Prop}, drawV lay fns ops rs0 rs1 n s i0 l k sl acc φ = some (prs, sp, φ') → φ' → φ ∧ prs.length = l.length ∧
    ∀ (i : Nat) op, l[i]? = some op → if k + i = s then ∃ ys ψ, prs[i]? = some (ys, []) ∧ stepS lay ⟨n, pickS (slotsE (prs.take i) ++ sl) (looks ops op), pickR (acc ++ memE (prs.take i)) (looks ops op) ++ rs0⟩ i0 op = some (ys, sp, ψ) ∧ ψ
      else ∃ d y rn ψ, prs[i]? = some ([(d, y)], rn) ∧ op.dst = some d ∧ Nat.blt d n = true ∧ stepZ lay fns ⟨n, pickS (slotsE (prs.take i) ++ sl) (looks ops op), bif bindsOn ops s (k + i) then rs0 else rs1⟩ ops op = some (y, rn, ψ) ∧ ψ
  | [], k, sl, acc, prs, sp, φ, φ', h, hφ => by
    simp only [drawV, Option.some.injEq, Prod.mk.injEq] at h
    obtain ⟨rfl, rfl, rfl⟩ := h
    exact ⟨hφ, rfl, by simp⟩
  | op :: l, k, sl, acc, prs, sp, φ, φ', h, hφ => by
    simp only [drawV] at h
    split at h
    · rename_i hks
      have hks := Nat.eq_of_beq_eq_true hks
      split at h
      · rename_i ys rn ψ hs
        split at h
        · rename_i ps sp' χ hrec
          simp only [Option.some.injEq, Prod.mk.injEq] at h
          obtain ⟨rfl, rfl, rfl⟩ := h
          obtain ⟨h1, h2, h4⟩ := drawV_spec hrec hφ
          refine ⟨h1.1, by simp [h2], fun i op' hi => ?_⟩
          cases i with
          | zero =>
            simp at hi; subst hi
            rw [if_pos (by omega)]
            exact ⟨ys, ψ, rfl, by simpa [slotsE, memE] using hs, h1.2⟩
          | succ i =>
            simp at hi
            have := h4 i op' hi
            rw [show k + (i + 1) = k + 1 + i by omega]
            rw [if_neg (by omega)] at this ⊢
            obtain ⟨d', y', rn', ψ', g1, g2, g3, g4, g5⟩ := this
            refine ⟨d', y', rn', ψ', by simpa using g1, g2, g3, ?_, g5⟩
            rw [List.take_succ_cons, slotsE_cons]; exact g4
        · cases h
      · cases h
    · rename_i hks
      have hks : k ≠ s := fun e => by rw [e] at hks; simp at hks
      split at h
      · rename_i d hd
        split at h
        · rename_i y rn ψ hlt hs
          split at h
          · rename_i ps sp' χ hrec
            simp only [Option.some.injEq, Prod.mk.injEq] at h
            obtain ⟨rfl, rfl, rfl⟩ := h
            obtain ⟨h1, h2, h4⟩ := drawV_spec hrec hφ
            refine ⟨h1.1, by simp [h2], fun i op' hi => ?_⟩
            cases i with
            | zero =>
              simp at hi; subst hi
              rw [if_neg (by omega)]
              exact ⟨d, y, rn, ψ, by simp, hd, hlt, by simpa [slotsE] using hs, h1.2⟩
            | succ i =>
              simp at hi
              have := h4 i op' hi
              rw [show k + (i + 1) = k + 1 + i by omega]
              split
              · rename_i e
                rw [if_pos e] at this
                obtain ⟨ys', ψ', g1, g2, g3⟩ := this
                refine ⟨ys', ψ', by simpa using g1, ?_, g3⟩
                rw [List.take_succ_cons, slotsE_cons, memE_cons]; exact g2
              · rename_i e
                rw [if_neg e] at this
                obtain ⟨d', y', rn', ψ', g1, g2, g3, g4, g5⟩ := this
                refine ⟨d', y', rn', ψ', by simpa using g1, g2, g3, ?_, g5⟩
                rw [List.take_succ_cons, slotsE_cons]; exact g4
          · cases h
        · cases h
      · cases h
def menL (d : Nat) : List (Nat × SV) → Bool
  | [] => false
  | p :: l => p.2.men d || menL d l
theorem menL_ok {d : Nat} : ∀ {l : List (Nat × SV)}, menL d l = false → ∀ t x, (t, x) ∈ l → x.men d = false
  | [], _, t, x, h => by cases h
  | p :: l, hf, t, x, h => by
    simp only [menL, Bool.or_eq_false_iff] at hf
    rcases List.mem_cons.1 h with e | e
    · rw [← e] at hf; exact hf.1
    · exact menL_ok hf.2 t x e
def freshE (ops : Array Oper) (d j : Nat) : Nat → List Ent → Bool
  | _, [] => true
  | k, p :: l => (Nat.beq k j || (bindsOn ops k j || (!menL d p.1 && freshR d p.2))) && freshE ops d j (k + 1) l
theorem freshE_ok {ops : Array Oper} {d j : Nat} : ∀ {l : List Ent} {k : Nat}, freshE ops d j k l = true → ∀ (i : Nat) (p : Ent), l[i]? = some p → k + i ≠ j → bindsOn ops (k + i) j = false → menL d p.1 = false ∧ freshR d p.2 = true
  | [], _, _, i, p, h, _, _ => by simp at h
  | q :: l, k, hf, i, p, h, hne, hnb => by
    simp only [freshE, Bool.and_eq_true, Bool.or_eq_true, Bool.not_eq_true'] at hf
    cases i with
    | zero =>
      simp at h
      subst h
      rcases hf.1 with h1 | h1 | h1
      · exact absurd (Nat.eq_of_beq_eq_true h1) (by simpa using hne)
      · rw [Nat.add_zero, h1] at hnb; cases hnb
      · exact h1
    | succ i => exact freshE_ok hf.2 i p (by simpa using h) (by omega) (by rw [show k + 1 + i = k + (i + 1) by omega]; exact hnb)
/-- each new number is new to all the others -/
def freshV1 (ops : Array Oper) (prs : List Ent) (sp : List (Nat × Res)) (A : St) (s i0 : Nat) : Nat → List Ent → Bool
  | _, [] => true
  | j, (ys, rn) :: l => (match ys with
    | [] => true
    | (d, _) :: _ => match Nat.beq j s, rn with
      | true, _ => freshE ops d j 0 prs && (freshS d A.sl && freshR d A.rs)
      | false, [] => true
      | false, _ => freshE ops d j 0 prs && (freshS d A.sl && freshR d A.rs) && (Nat.beq d i0 || freshR d sp)) && freshV1 ops prs sp A s i0 (j + 1) l
theorem freshV1_ok {ops : Array Oper} {prs : List Ent} {sp : List (Nat × Res)} {A : St} {s i0 : Nat} : ∀ {l : List Ent} {k : Nat}, freshV1 ops prs sp A s i0 k l = true → ∀ (i d : Nat) (y : SV) (ys : List (Nat × SV)) (rn : List (Nat × Res)), l[i]? = some ((d, y) :: ys, rn) → k + i = s ∨ rn ≠ [] → freshE ops d (k + i) 0 prs = true ∧ (freshS d A.sl = true ∧ freshR d A.rs = true) ∧ (k + i ≠ s → d = i0 ∨ freshR d sp = true)
  | [], _, _, i, d, y, ys, rn, h, _ => by simp at h
  | (qs, qn) :: l, k, hf, i, d, y, ys, rn, h, hne => by
    simp only [freshV1, Bool.and_eq_true] at hf
    cases i with
    | zero =>
      simp at h
      obtain ⟨rfl, rfl⟩ := h
      have h1 := hf.1
      simp only [Nat.add_zero] at hne ⊢
      dsimp only at h1
      split at h1
      · rename_i hb
        simp only [Bool.and_eq_true] at h1
        exact ⟨h1.1, h1.2, fun e => absurd (Nat.eq_of_beq_eq_true hb) e⟩
      · rename_i hb
        rcases hne with e | e
        · rw [e] at hb; simp at hb
        · exact absurd rfl e
      · simp only [Bool.and_eq_true, Bool.or_eq_true] at h1
        exact ⟨h1.1.1, h1.1.2, fun _ => h1.2.imp Nat.eq_of_beq_eq_true id⟩
    | succ i =>
      have := freshV1_ok hf.2 i d y ys rn (by simpa using h) (by rcases hne with e | e; exact .inl (by omega); exact .inr e)
      rwa [show k + 1 + i = k + (i + 1) by omega] at this
theorem memN_no {t : Nat} : ∀ {l : List Nat}, t ∉ l → memN t l = false
  | [], _ => rfl
  | a :: l, h => by
    simp only [memN, Bool.or_eq_false_iff]
    refine ⟨?_, memN_no fun h' => h (.tail _ h')⟩
    cases hb : Nat.beq a t with
    | false => rfl
    | true => exact absurd (by rw [Nat.eq_of_beq_eq_true hb]; exact .head _) h
theorem memN_yes {t : Nat} {l : List Nat} (h : memN t l = true) : t ∈ l := Classical.byContradiction fun hno => by rw [memN_no hno] at h; cases h
theorem drawV_sp {ops : Array Oper} {rs0 rs1 : List (Nat × Res)} {n s i0 : Nat} : ∀ {l : List Oper} {k : Nat} {sl : List (Nat × SV)} {acc : List (Nat × Res)} {prs : List Ent} {sp : List (Nat × Res)} {φ φ' : Prop}, drawV lay fns ops rs0 rs1 n s i0 l k sl acc φ = some (prs, sp, φ') → k + l.length ≤ s → sp = []
  | [], k, sl, acc, prs, sp, φ, φ', h, _ => by
    simp only [drawV, Option.some.injEq, Prod.mk.injEq] at h
    exact h.2.1.symm
  | op :: l, k, sl, acc, prs, sp, φ, φ', h, hs => by
    simp only [List.length_cons] at hs
    simp only [drawV] at h
    split at h
    · rename_i hks
      have hks := Nat.eq_of_beq_eq_true hks
      omega
    · split at h
      · split at h
        · split at h
          · rename_i ps sp' χ hrec
            simp only [Option.some.injEq, Prod.mk.injEq] at h
            obtain ⟨_, rfl, _⟩ := h
            exact drawV_sp hrec (by omega)
          · cases h
        · cases h
      · cases h
/-- whoever lays the special number is waited for -/
def layBefore (ops : Array Oper) (s i0 n : Nat) : Bool := (List.range n).all fun j => match ops[j]? with
  | some op => match op.dst with
    | some d => !Nat.beq d i0 || (Nat.beq j s || bindsOn ops s j)
    | none => true
  | none => true
theorem layBefore_ok {ops : Array Oper} {s i0 n j : Nat} {op : Oper} (h : layBefore ops s i0 n = true) (hj : j < n) (ho : ops[j]? = some op) (hd : op.dst = some i0) (hne : j ≠ s) : bindsOn ops s j = true := by
  unfold layBefore at h
  rw [List.all_eq_true] at h
  have := h j (List.mem_range.2 hj)
  rw [ho] at this
  simp only [hd, Nat.beq_refl, Bool.not_true, Bool.false_or, Bool.or_eq_true] at this
  rcases this with h1 | h1
  · exact absurd (Nat.eq_of_beq_eq_true h1) hne
  · exact h1
theorem lkU {α : Type} {L base : List (Nat × α)} {t : Nat} {y : α} (h : (t, y) ∈ L) (hu : ∀ y', (t, y') ∈ L → y' = y) : lk (L ++ base) t = some y := by
  obtain ⟨r, hr⟩ := lkA_of h
  have := hu r (lkM hr)
  subst this
  exact lkA_some hr
theorem slotsE_mem {ps : List Ent} {t : Nat} {y : SV} : (t, y) ∈ slotsE ps ↔ ∃ (j : Nat) (p : Ent), ps[j]? = some p ∧ (t, y) ∈ p.1 := by
  unfold slotsE
  rw [List.mem_flatten]
  constructor
  · rintro ⟨l, hl, hm⟩
    rw [List.mem_reverse, List.mem_map] at hl
    obtain ⟨p, hp, rfl⟩ := hl
    obtain ⟨j, hj⟩ := List.mem_iff_getElem?.1 hp
    exact ⟨j, p, hj, hm⟩
  · rintro ⟨j, p, hj, hm⟩
    exact ⟨p.1, by rw [List.mem_reverse]; exact List.mem_map_of_mem (List.mem_of_getElem? hj), hm⟩
theorem memE_mem {ps : List Ent} {t : Nat} {y : Res} : (t, y) ∈ memE ps ↔ ∃ (j : Nat) (p : Ent), ps[j]? = some p ∧ (t, y) ∈ p.2 := by
  unfold memE
  rw [List.mem_flatten]
  constructor
  · rintro ⟨l, hl, hm⟩
    rw [List.mem_map] at hl
    obtain ⟨p, hp, rfl⟩ := hl
    obtain ⟨j, hj⟩ := List.mem_iff_getElem?.1 hp
    exact ⟨j, p, hj, hm⟩
  · rintro ⟨j, p, hj, hm⟩
    exact ⟨p.2, List.mem_map_of_mem (List.mem_of_getElem? hj), hm⟩
theorem pickL_all {α : Type} {ls : Nat → Bool} : ∀ {ps : List (List (Nat × α))} {k : Nat}, (∀ j, j < ps.length → ls (k + j) = true) → pickL ls k ps = ps.flatten
  | [], _, _ => rfl
  | p :: l, k, h => by
    have h0 := h 0 (by simp)
    simp only [Nat.add_zero] at h0
    simp only [pickL, h0, if_true, List.flatten_cons]
    rw [pickL_all (ls := ls) (ps := l) (k := k + 1) fun j hj => by
      have := h (j + 1) (by simp; omega)
      rwa [show k + (j + 1) = k + 1 + j by omega] at this]
theorem mapGet {α β : Type} {f : α → β} {l : List α} {i : Nat} {q : β} (h : (l.map f)[i]? = some q) : ∃ p, l[i]? = some p ∧ q = f p := by
  rw [List.getElem?_map] at h
  obtain ⟨p, h1, h2⟩ := Option.map_eq_some_iff.1 h
  exact ⟨p, h1, h2.symm⟩
theorem stepS_keys {i0 : Nat} {op : Oper} {ys : List (Nat × SV)} {rn : List (Nat × Res)} {φ : Prop} (hc : stepS lay B i0 op = some (ys, rn, φ)) : ∀ t r, (t, r) ∈ rn → t = i0 ∨ ∃ y, (t, y) ∈ ys := by
  intro t r hm
  obtain ⟨_, ⟨d, r1, hd, rfl, rfl, _⟩ | ⟨r1, hd, rfl, rfl, _⟩⟩ := stepS_shape hc
  · simp only [List.mem_cons, Prod.mk.injEq, List.not_mem_nil, or_false] at hm
    rcases hm with ⟨rfl, _⟩ | ⟨rfl, _⟩
    · exact .inr ⟨_, .head _⟩
    · exact .inl rfl
  · simp only [List.mem_cons, Prod.mk.injEq, List.not_mem_nil, or_false] at hm
    exact .inl hm.1
/-- a region that draws its order, with one append or one store among its first part -/
theorem KW.drawnV (hl : LayOk P lay) (hT : FnsOk P fns) (hm : P.follows .mixedOrders = true) {id : Nat} {ops : Array Oper} {k : List K} {φ : Prop} {n : Nat} (s i0 : Nat) (hsz0 : Nat.blt n ops.size = true) (hdep : depOk ops = true) (htl : tailsOk ops n = true) (hat : (match lk A.rs i0 with | some _ => true | none => layBefore ops s i0 n) = true)
    {prs : List Ent} {sp : List (Nat × Res)} (hg : drawV lay fns ops A.rs (without i0 A.rs) A.n s i0 (takeN n ops.toList) 0 A.sl [] True = some (prs, sp, φ)) (hfr : freshV1 ops prs sp A s i0 0 prs = true) (hφ : φ)
    (hn : KW P (.ops ops (dropN n ops.toList) :: k) .normal ⟨A.n, slotsE prs ++ A.sl, sp ++ (memE prs ++ A.rs)⟩ Q) : KW P (.code (.region id ops true) :: k) .normal A Q := by
  rw [takeN_eq] at hg
  rw [dropN_eq] at hn
  have hsize : n < ops.size := by simpa [Nat.blt, Nat.succ_le_iff] using hsz0
  obtain ⟨_, hlen, hprs⟩ := drawV_spec hg hφ
  have dep := depOk_ok hdep
  have hlen' : prs.length = n := by simp only [List.length_take, Array.length_toList] at hlen; omega
  have hsp0 : n ≤ s → sp = [] := fun h => drawV_sp hg (by simp only [List.length_take, Array.length_toList]; omega)
  have hstep := tailsOk_ok htl
  have hop : ∀ (i : Nat) op, i < n → ops[i]? = some op → if i = s then ∃ ys ψ, prs[i]? = some (ys, []) ∧ stepS lay ⟨A.n, pickS (slotsE (prs.take i) ++ A.sl) (looks ops op), pickR (memE (prs.take i)) (looks ops op) ++ A.rs⟩ i0 op = some (ys, sp, ψ) ∧ ψ
      else ∃ d y rn ψ, prs[i]? = some ([(d, y)], rn) ∧ op.dst = some d ∧ Nat.blt d A.n = true ∧ stepZ lay fns ⟨A.n, pickS (slotsE (prs.take i) ++ A.sl) (looks ops op), bif bindsOn ops s i then A.rs else without i0 A.rs⟩ ops op = some (y, rn, ψ) ∧ ψ :=
    fun i op hin hi => by
      have := hprs i op (by rw [List.getElem?_take, if_pos hin]; simpa using hi)
      simpa only [Nat.zero_add, List.nil_append] using this
  -- what each lays
  have hent : ∀ (j : Nat) (p : Ent), prs[j]? = some p → ∃ op, ops[j]? = some op ∧ j < n ∧ (∀ t x, (t, x) ∈ p.1 → op.dst = some t ∧ p.1 = [(t, x)]) ∧ ∀ t r, (t, r) ∈ p.2 → op.dst = some t ∧ j ≠ s ∧ ∃ y, p.1 = [(t, y)] := fun j p hj => by
    have hltn : j < n := by rw [← hlen']; exact (List.getElem?_eq_some_iff.1 hj).1
    have hlt : j < ops.size := by omega
    refine ⟨ops[j], Array.getElem?_eq_getElem hlt, hltn, ?_⟩
    have h1 := hop j ops[j] hltn (Array.getElem?_eq_getElem hlt)
    split at h1
    · rename_i e
      obtain ⟨ys, ψ, g1, g2, g3⟩ := h1
      rw [hj] at g1
      cases g1
      obtain ⟨_, ⟨d, r1, hd, rfl, _⟩ | ⟨r1, hd, rfl, _⟩⟩ := stepS_shape g2
      · refine ⟨fun t x hm => ?_, fun t r hm => (by cases hm)⟩
        simp only [List.mem_singleton, Prod.mk.injEq] at hm
        obtain ⟨rfl, rfl⟩ := hm
        exact ⟨hd, rfl⟩
      · exact ⟨fun t x hm => (by cases hm), fun t r hm => (by cases hm)⟩
    · rename_i e
      obtain ⟨d, y, rn, ψ, g1, g2, g3, g4, g5⟩ := h1
      rw [hj] at g1
      cases g1
      refine ⟨fun t x hm => ?_, fun t r hm => ?_⟩
      · simp only [List.mem_singleton, Prod.mk.injEq] at hm
        obtain ⟨rfl, rfl⟩ := hm
        exact ⟨g2, rfl⟩
      · rcases stepZ_shape g2 g4 with e' | ⟨r', e'⟩
        · rw [e'] at hm; cases hm
        · rw [e'] at hm
          simp only [List.mem_singleton, Prod.mk.injEq] at hm
          obtain ⟨rfl, rfl⟩ := hm
          exact ⟨g2, e, y, rfl⟩
  have huS : ∀ (j j' : Nat) (p p' : Ent) (t : Nat) (x x' : SV), prs[j]? = some p → prs[j']? = some p' → (t, x) ∈ p.1 → (t, x') ∈ p'.1 → j = j' ∧ x' = x := fun j j' p p' t x x' hj hj' hm hm' => by
    obtain ⟨o1, h1, _, h2, _⟩ := hent j p hj
    obtain ⟨o2, h3, _, h4, _⟩ := hent j' p' hj'
    have e := dep.dist j j' o1 o2 t h1 h3 (h2 t x hm).1 (h4 t x' hm').1
    subst e
    rw [hj] at hj'
    cases hj'
    refine ⟨rfl, ?_⟩
    rw [(h2 t x hm).2] at hm'
    simpa using hm'
  have hapS : ApartL (prs.map (·.1)) := by
    intro i j q q' hij hi hj t r r' hm hm'
    obtain ⟨p, h1, rfl⟩ := mapGet hi
    obtain ⟨p', h2, rfl⟩ := mapGet hj
    exact hij (huS i j p p' t r r' h1 h2 hm hm').1
  have huM : ∀ (j j' : Nat) (p p' : Ent) (t : Nat) (x x' : Res), prs[j]? = some p → prs[j']? = some p' → (t, x) ∈ p.2 → (t, x') ∈ p'.2 → j = j' := fun j j' p p' t x x' hj hj' hm hm' => by
    obtain ⟨o1, h1, _, _, h2⟩ := hent j p hj
    obtain ⟨o2, h3, _, _, h4⟩ := hent j' p' hj'
    exact dep.dist j j' o1 o2 t h1 h3 (h2 t x hm).1 (h4 t x' hm').1
  have hapM : ApartL (prs.map (·.2)) := by
    intro i j q q' hij hi hj t r r' hm hm'
    obtain ⟨p, h1, rfl⟩ := mapGet hi
    obtain ⟨p', h2, rfl⟩ := mapGet hj
    exact hij (huM i j p p' t r r' h1 h2 hm hm')
  have hnew : ∀ (j : Nat) (p : Ent) (t : Nat) (r : Res), prs[j]? = some p → (t, r) ∈ p.2 → freshE ops t j 0 prs = true ∧ (freshS t A.sl = true ∧ freshR t A.rs = true) ∧ (t = i0 ∨ freshR t sp = true) := fun j p t r hj hm => by
    obtain ⟨op, h1, h2, h3, h4⟩ := hent j p hj
    obtain ⟨h5, h6, y, h7⟩ := h4 t r hm
    have e : p = ((t, y) :: [], p.2) := Prod.ext h7 rfl
    have := freshV1_ok hfr j t y [] p.2 (by rw [hj, ← e]) (.inr fun e' => by rw [e'] at hm; cases hm)
    rw [Nat.zero_add] at this
    exact ⟨this.1, this.2.1, this.2.2 h6⟩
  -- the special number, laid here, is laid before it is looked at
  have hi0b : ∀ (j : Nat) (p : Ent) (r : Res), prs[j]? = some p → (i0, r) ∈ p.2 → bindsOn ops s j = true := fun j p r hj hm => by
    obtain ⟨op, h1, h2, h3, h4⟩ := hent j p hj
    obtain ⟨h5, h6, _⟩ := h4 i0 r hm
    have hf := (hnew j p i0 r hj hm).2.1.2
    have hno : lk A.rs i0 = none := by
      cases hlk : lk A.rs i0 with
      | none => rfl
      | some r' => exact absurd rfl (freshR_mem hf (lk_mem hlk)).1
    rw [hno] at hat
    exact layBefore_ok hat h2 h1 h5 h6
  let SL : (Nat → Bool) → List (Nat × SV) := fun ls => pickL ls 0 (prs.map (·.1)) ++ A.sl
  let RS : (Nat → Bool) → List (Nat × Res) := fun ls => (if ls s then sp else []) ++ (pickL ls 0 (prs.map (·.2)) ++ A.rs)
  have hSLin : ∀ (ls : Nat → Bool) (j : Nat) (p : Ent) (t : Nat) (x : SV), prs[j]? = some p → (t, x) ∈ p.1 → ls j = true → lk (SL ls) t = some x := fun ls j p t x hj hm hls => by
    refine pickL_in (k := 0) (i := j) (p := p.1) (by rw [List.getElem?_map, hj]; rfl) (by simpa using hls) ?_ fun j' q hne hq r' hm' => ?_
    · obtain ⟨r, hr⟩ := lkA_of hm
      rw [hr, (huS j j p p t x r hj hj hm (lkM hr)).2]
    · obtain ⟨p', h2, rfl⟩ := mapGet hq
      exact hne (huS j j' p p' t x r' hj h2 hm hm').1.symm
  have hSLout : ∀ (ls : Nat → Bool) (t : Nat), (∀ (j : Nat) (p : Ent) (x : SV), prs[j]? = some p → ls j = true → (t, x) ∉ p.1) → lk (SL ls) t = lk A.sl t := fun ls t hno =>
    pickL_out fun j q hq hls r hm => by
      obtain ⟨p', h2, rfl⟩ := mapGet hq
      exact hno j p' r h2 hls hm
  have hPMin : ∀ (ls : Nat → Bool) (j : Nat) (p : Ent) (t : Nat) (x : Res), prs[j]? = some p → lk p.2 t = some x → ls j = true → lk (pickL ls 0 (prs.map (·.2)) ++ A.rs) t = some x := fun ls j p t x hj hm hls => by
    refine pickL_in (k := 0) (i := j) (p := p.2) (by rw [List.getElem?_map, hj]; rfl) (by simpa using hls) hm fun j' q hne hq r' hm' => ?_
    obtain ⟨p', h2, rfl⟩ := mapGet hq
    exact hne (huM j j' p p' t x r' hj h2 (lkM hm) hm').symm
  have hPMout : ∀ (ls : Nat → Bool) (t : Nat), (∀ (j : Nat) (p : Ent) (x : Res), prs[j]? = some p → ls j = true → (t, x) ∉ p.2) → lk (pickL ls 0 (prs.map (·.2)) ++ A.rs) t = lk A.rs t := fun ls t hno =>
    pickL_out fun j q hq hls r hm => by
      obtain ⟨p', h2, rfl⟩ := mapGet hq
      exact hno j p' r h2 hls hm
  have hPMbase : ∀ (ls : Nat → Bool) (t : Nat) (r : Res), lk A.rs t = some r → lk (pickL ls 0 (prs.map (·.2)) ++ A.rs) t = some r := fun ls t r hr => by
    rw [hPMout ls t fun j p x hj _ hm => ?_]
    · exact hr
    · exact (freshR_mem (hnew j p t x hj hm).2.1.2 (lk_mem hr)).1 rfl
  intro o h tm w hs
  show (Code.region id ops true).wp P (kq P (lift Q o w) k) ⟨tm, []⟩ w
  refine wp_region_any hm ?_
  have main : ∀ (fuel : Nat) (listed : Array Bool) (o' : Nat → Tag) (h' : Nat → Value) (tm' : Array Value) (w' : World), listed.size = ops.size → (∀ j, n ≤ j → listed.getD j false = false) → cntU (fun j => listed.getD j false) n + (ops.size - n) ≤ fuel →
      (∀ (i : Nat) oi, ops[i]? = some oi → listed.getD i false = true → ∀ e ∈ oi.after, Region.binds .any e = true → listed.getD e.on false = true) →
      Sat o' h' ⟨A.n, SL (fun j => listed.getD j false), RS (fun j => listed.getD j false)⟩ tm' w' → Ext o w o' w' → wpAny P .any ops (kq P (lift Q o w) k) fuel listed ⟨tm', []⟩ w' := by
    intro fuel
    -- all have come up
    have full : ∀ (listed : Array Bool) (o' : Nat → Tag) (h' : Nat → Value) (tm' : Array Value) (w' : World), (∀ j, j < n → listed.getD j false = true) →
        Sat o' h' ⟨A.n, SL (fun j => listed.getD j false), RS (fun j => listed.getD j false)⟩ tm' w' → Ext o w o' w' → kq P (lift Q o w) (.ops ops (ops.toList.drop n) :: k) .normal ⟨tm', []⟩ w' := by
      intro listed o' h' tm' w' hall hs' hx
      refine kq_mono (lift_trans hx) (.ops ops (ops.toList.drop n) :: k) .normal _ w' (hn o' h' tm' w' ?_)
      refine ⟨hs'.size, hs'.tags, fun t x hl => hs'.slot t x ?_, fun i r hl => hs'.res i r ?_⟩
      · simp only at hl ⊢
        by_cases hex : ∃ (j : Nat) (p : Ent) (y : SV), prs[j]? = some p ∧ (t, y) ∈ p.1
        · obtain ⟨j, p, y, hj, hy⟩ := hex
          obtain ⟨_, _, hjn, _⟩ := hent j p hj
          rw [lkU (slotsE_mem.2 ⟨j, p, hj, hy⟩) fun y' hy' => (by
            obtain ⟨j', p', hj', hm'⟩ := slotsE_mem.1 hy'
            exact (huS j j' p p' t y y' hj hj' hy hm').2)] at hl
          cases hl
          exact hSLin _ j p t _ hj hy (by simpa using hall j hjn)
        · rw [lkA_none fun y hy => (by
            obtain ⟨j', p', hj', hm'⟩ := slotsE_mem.1 hy
            exact hex ⟨j', p', y, hj', hm'⟩)] at hl
          rw [hSLout _ t fun j p x hj _ hm => hex ⟨j, p, x, hj, hm⟩]
          exact hl
      · simp only at hl ⊢
        have e1 : (if listed.getD s false then sp else []) = sp := by
          by_cases hsn : s < n
          · rw [hall s hsn]; rfl
          · rw [hsp0 (by omega)]; split <;> rfl
        have e2 : pickL (fun j => listed.getD j false) 0 (prs.map (·.2)) = memE prs := pickL_all fun j hj => by
          simp only [List.length_map, hlen'] at hj
          simpa using hall j hj
        simp only [RS, e1, e2]
        exact hl
    have done : ∀ (listed : Array Bool), listed.size = ops.size → Region.ready .any ops listed = [] → ∀ j, j < ops.size → listed.getD j false = true := by
      intro listed hsz hr j
      induction j using Nat.strongRecOn with
      | ind j ih =>
        intro hj
        cases hlj : listed.getD j false with
        | true => rfl
        | false =>
          exfalso
          have : j ∈ Region.ready .any ops listed := by
            rw [mem_ready]
            refine ⟨?_, ops[j], Array.getElem?_eq_getElem hj, fun e he hb => ?_⟩
            · rw [Array.getD_eq_getD_getElem?] at hlj ⊢
              rw [Array.getElem?_eq_getElem (by omega)] at hlj ⊢
              exact hlj
            · have hlt := dep.below j ops[j] (Array.getElem?_eq_getElem hj) e he hb
              exact ih e.on hlt (by omega)
          rw [hr] at this
          cases this
    induction fuel with
    | zero =>
      intro listed o' h' tm' w' hsz hnl hc
      omega
    | succ fuel ih =>
      intro listed o' h' tm' w' hsz hnl hc hcl hs' hx
      refine ⟨fun hr => (by have := done listed hsz hr n (by omega); rw [hnl n (Nat.le_refl n)] at this; cases this), fun i hi => ?_⟩
      by_cases hin : n ≤ i
      · obtain ⟨hun, op, hop', haft⟩ := mem_ready.1 hi
        have hlt : i < ops.size := (Array.getElem?_eq_some_iff.1 hop').1
        have hall : ∀ d j, j < i → i ≤ j + d → listed.getD j false = true := by
          intro d
          induction d with
          | zero => intro j h1 h2; omega
          | succ d ihd =>
            intro j h1 h2
            obtain ⟨q, oq, h3, h3', h4, e, h5, h6, h7⟩ := hstep i hin hlt j h1
            by_cases hqi : q = i
            · subst hqi
              rw [hop'] at h4
              cases h4
              rw [← h7]; exact haft e h5 h6
            · have := ihd q (by omega) (by omega)
              rw [← h7]; exact hcl q oq h4 this e h5 h6
        have hi0 : i = n := by
          rcases Nat.lt_or_ge n i with h | h
          · have := hall i n h (by omega)
            rw [hnl n (Nat.le_refl n)] at this; cases this
          · omega
        subst hi0
        have hf := full listed o' h' tm' w' (fun j hj => hall i j hj (by omega)) hs' hx
        exact (tailSeq hstep dep.below (ops.size - i) i (fuel + 1) listed ⟨tm', []⟩ w' (by omega) (Nat.le_refl _) hsz (fun j hj => hall i j hj (by omega)) hnl (by omega) hf).2 i hi
      obtain ⟨hun, op, hop', haft⟩ := mem_ready.1 hi
      have hlt : i < ops.size := (Array.getElem?_eq_some_iff.1 hop').1
      have hun' : listed.getD i false = false := by
        rw [Array.getD_eq_getD_getElem?, Array.getElem?_eq_getElem (by omega)] at hun ⊢
        exact hun
      have h1 := hop i op (by omega) hop'
      -- what has to come before the special one has come, once that one has
      have hsb : listed.getD s false = true → ∀ j, bindsOn ops s j = true → listed.getD j false = true := fun hls j hb => by
        exact waitsFor_ok (ls := fun j => listed.getD j false) hcl hb hls
      have hsl : ∀ t x, lk (pickS (slotsE (prs.take i) ++ A.sl) (looks ops op)) t = some x → lk (SL (fun j => listed.getD j false)) t = some x := fun t x hl => by
        obtain ⟨e1, hm⟩ := pickS_lk hl
        by_cases hex : ∃ (j : Nat) (p : Ent) (y : SV), prs[j]? = some p ∧ (t, y) ∈ p.1
        · obtain ⟨j, p, y', hj, hy⟩ := hex
          obtain ⟨oj, hoj, _, hdj, _⟩ := hent j p hj
          rcases dep.look i j op oj t hop' hoj (hdj t y' hy).1 hm with ⟨hji, e, he, hb, heq⟩ | ⟨hij, e, he, hb, heq⟩
          · have hlj : listed.getD j false = true := by rw [← heq]; exact haft e he hb
            rw [lkU (slotsE_mem.2 ⟨j, p, by rw [List.getElem?_take, if_pos hji]; exact hj, hy⟩) fun y'' hy'' => (by
              obtain ⟨j', p', hj', hm'⟩ := slotsE_mem.1 hy''
              rw [List.getElem?_take] at hj'
              split at hj'
              · exact (huS j j' p p' t y' y'' hj hj' hy hm').2
              · cases hj')] at e1
            cases e1
            exact hSLin _ j p t _ hj hy (by simpa using hlj)
          · have hlj : listed.getD j false = false := by
              cases hlj : listed.getD j false with
              | false => rfl
              | true =>
                have := hcl j oj hoj hlj e he hb
                rw [heq, hun'] at this
                cases this
            rw [lkA_none fun y'' hy'' => (by
              obtain ⟨j', p', hj', hm'⟩ := slotsE_mem.1 hy''
              rw [List.getElem?_take] at hj'
              split at hj'
              · have := (huS j j' p p' t y' y'' hj hj' hy hm').1
                omega
              · cases hj')] at e1
            rw [hSLout _ t fun j' p' x' hj' hls hm' => (by
              have := (huS j j' p p' t y' x' hj hj' hy hm').1
              subst this
              rw [hlj] at hls; cases hls)]
            exact e1
        · rw [lkA_none fun y'' hy'' => (by
            obtain ⟨j', p', hj', hm'⟩ := slotsE_mem.1 hy''
            rw [List.getElem?_take] at hj'
            split at hj'
            · exact hex ⟨j', p', y'', hj', hm'⟩
            · cases hj')] at e1
          rw [hSLout _ t fun j' p' x' hj' hls hm' => hex ⟨j', p', x', hj', hm'⟩]
          exact e1
      have hget : ∀ j, (listed.setIfInBounds i true).getD j false = if j = i then true else listed.getD j false := fun j => by
        by_cases hji : j = i
        · subst hji
          rw [if_pos rfl, Array.getD_eq_getD_getElem?, Array.getElem?_setIfInBounds_self]
          simp [hsz, hlt]
        · rw [if_neg hji, getD_set_ne false (Ne.symm hji)]
      have next : ∀ {ys : List (Nat × SV)} {rn sp' : List (Nat × Res)}, prs[i]? = some (ys, rn) → (∀ t r, lk (RS (fun j => (listed.setIfInBounds i true).getD j false)) t = some r → lk (sp' ++ RS (fun j => listed.getD j false)) t = some r) →
          ∀ o2 h2 tm2 w1, Sat o2 h2 ⟨A.n, ys ++ SL (fun j => listed.getD j false), sp' ++ RS (fun j => listed.getD j false)⟩ tm2 w1 → Ext o' w' o2 w1 → wpAny P .any ops (kq P (lift Q o w) k) fuel (listed.setIfInBounds i true) ⟨tm2, []⟩ w1 := fun {ys rn sp'} hpi hrs o2 h2 tm2 w1 hs2 hext => by
        refine ih (listed.setIfInBounds i true) o2 h2 _ w1 (by simp [hsz]) (fun j hj => by rw [hget, if_neg (by omega)]; exact hnl j hj) ?_ ?_ ⟨hs2.size, hs2.tags, fun t x hlk => hs2.slot t x ?_, fun t r hlk => hs2.res t r (hrs t r hlk)⟩ (hx.trans hext)
        · have := cntU_upd (ls := fun j => listed.getD j false) (ls' := fun j => (listed.setIfInBounds i true).getD j false) (i := i) (n := n) (by omega) hun' (by simp [hget]) fun j hj => by simp [hget, hj]
          omega
        · intro j oj hoj hlj e he hb
          rw [hget] at hlj ⊢
          by_cases he' : e.on = i
          · rw [if_pos he']
          · rw [if_neg he']
            by_cases hji : j = i
            · subst hji
              rw [hop'] at hoj
              cases hoj
              exact haft e he hb
            · rw [if_neg hji] at hlj
              exact hcl j oj hoj hlj e he hb
        · exact pickL_step (p := ys) hapS (by rw [List.getElem?_map, hpi]; rfl) (by simp [hget]) (fun j hj => by simp [hget, hj]) hlk
      by_cases his : i = s
      · rw [if_pos his] at h1
        obtain ⟨ys, ψ, g1, g2, g3⟩ := h1
        have huns : listed.getD s false = false := by rw [← his]; exact hun'
        have hRS : RS (fun j => listed.getD j false) = pickL (fun j => listed.getD j false) 0 (prs.map (·.2)) ++ A.rs := by
          simp only [RS, huns]; rfl
        refine stepS_wp hl hop' (A := ⟨A.n, SL (fun j => listed.getD j false), RS (fun j => listed.getD j false)⟩) (B := ⟨A.n, pickS (slotsE (prs.take i) ++ A.sl) (looks ops op), pickR (memE (prs.take i)) (looks ops op) ++ A.rs⟩) ⟨rfl, fun t r hr => ?_, hsl⟩ hs' g2 g3 (fun d y hdy => ?_) (next g1 fun t r hr => ?_)
        · simp only at hr ⊢
          rw [hRS]
          by_cases hm : ∃ r', (t, r') ∈ pickR (memE (prs.take i)) (looks ops op)
          · obtain ⟨r', hm⟩ := hm
            obtain ⟨r2, h2⟩ := lkA_of hm
            rw [lkA_some h2] at hr
            cases hr
            have hm2 := lkM h2
            rw [pickR, List.mem_filter] at hm2
            obtain ⟨hm3, hlook⟩ := hm2
            obtain ⟨j, p, hj, hm4⟩ := memE_mem.1 hm3
            rw [List.getElem?_take] at hj
            split at hj
            · rename_i hji
              obtain ⟨oj, hoj, _, _, hdj⟩ := hent j p hj
              obtain ⟨k1, k2, y, k3⟩ := hdj t _ hm4
              rcases dep.look i j op oj t hop' hoj k1 (memN_yes hlook) with ⟨_, ed, hed, hb, heq⟩ | ⟨hij, _⟩
              · have hlj : listed.getD j false = true := by rw [← heq]; exact haft ed hed hb
                obtain ⟨r4, h4⟩ := lkA_of hm4
                have e4 : r4 = r := by
                  have h5 := hop j oj (by omega) hoj
                  rw [if_neg k2] at h5
                  obtain ⟨d', y', rn', ψ', q1, q2, _, q4, _⟩ := h5
                  rw [hj] at q1
                  cases q1
                  rcases stepZ_shape q2 q4 with e | ⟨r5, e⟩
                  · rw [e] at hm4; cases hm4
                  · rw [e] at hm4 h4
                    simp only [List.mem_singleton, Prod.mk.injEq] at hm4
                    obtain ⟨rfl, rfl⟩ := hm4
                    rw [lk_cons, if_pos rfl] at h4
                    cases h4; rfl
                rw [e4] at h4
                exact hPMin _ j p t r hj h4 (by simpa using hlj)
              · omega
            · cases hj
          · rw [lkA_none fun r' h' => hm ⟨r', h'⟩] at hr
            exact hPMbase _ t r hr
        · have hf := freshV1_ok hfr i d y [] [] (by
            rw [g1]
            obtain ⟨_, ⟨d', r1, _, e, _⟩ | ⟨r1, _, e, _⟩⟩ := stepS_shape g2
            · rw [e] at hdy ⊢
              simp only [List.mem_singleton, Prod.mk.injEq] at hdy
              obtain ⟨rfl, rfl⟩ := hdy
              rfl
            · rw [e] at hdy; cases hdy) (.inl (by omega))
          rw [Nat.zero_add] at hf
          rw [hRS]
          refine fresh_super hf.2.1.1 hf.2.1.2 (fun t x hm => ?_) (fun t r hm => ?_)
          · obtain ⟨j, q, hj, hlj, hm'⟩ := pickL_mem hm
            obtain ⟨p', hj', rfl⟩ := mapGet hj
            exact menL_ok (freshE_ok hf.1 j p' hj' (by intro e; rw [Nat.zero_add] at e hlj; subst e; rw [hun'] at hlj; cases hlj) (by
              rw [Nat.zero_add] at hlj ⊢
              cases hbo : bindsOn ops j i with
              | false => rfl
              | true =>
                have := waitsFor_ok (ls := fun j => listed.getD j false) hcl hbo hlj
                rw [hun'] at this; cases this)).1 t x hm'
          · obtain ⟨j, q, hj, hlj, hm'⟩ := pickL_mem hm
            obtain ⟨p', hj', rfl⟩ := mapGet hj
            exact freshR_mem (freshE_ok hf.1 j p' hj' (by intro e; rw [Nat.zero_add] at e hlj; subst e; rw [hun'] at hlj; cases hlj) (by
              rw [Nat.zero_add] at hlj ⊢
              cases hbo : bindsOn ops j i with
              | false => rfl
              | true =>
                have := waitsFor_ok (ls := fun j => listed.getD j false) hcl hbo hlj
                rw [hun'] at this; cases this)).2 hm'
        · have hnews : (listed.setIfInBounds i true).getD s false = true := by rw [hget, if_pos his.symm]
          have hRS' : RS (fun j => (listed.setIfInBounds i true).getD j false) = sp ++ (pickL (fun j => (listed.setIfInBounds i true).getD j false) 0 (prs.map (·.2)) ++ A.rs) := by
            simp only [RS, hnews]; rfl
          rw [hRS'] at hr
          rw [hRS]
          by_cases hmem : ∃ r', (t, r') ∈ sp
          · obtain ⟨r', hmem⟩ := hmem
            obtain ⟨r2, h2⟩ := lkA_of hmem
            rw [lkA_some h2] at hr ⊢
            exact hr
          · rw [lkA_none fun r' h' => hmem ⟨r', h'⟩] at hr ⊢
            have := pickL_step (p := []) hapM (by rw [List.getElem?_map, g1]; rfl) (ls' := fun j => (listed.setIfInBounds i true).getD j false) (ls := fun j => listed.getD j false) (by simp [hget]) (fun j hj => by simp [hget, hj]) hr
            simpa using this
      · rw [if_neg his] at h1
        obtain ⟨d, y, rn, ψ, g1, g2, g3, g4, g5⟩ := h1
        have hkey : ∀ t r, (t, r) ∈ rn → t = d := fun t r hm => by
          rcases stepZ_shape g2 g4 with e | ⟨r', e⟩
          · rw [e] at hm; cases hm
          · rw [e] at hm
            simp only [List.mem_singleton, Prod.mk.injEq] at hm
            exact hm.1
        -- the new number is none of the special ones, once these are there
        have hspd : listed.getD s false = true → ∀ t r, (t, r) ∈ rn → freshR t sp = true := fun hls t r hm => by
          rcases (hnew i _ t r g1 hm).2.2 with e | e
          · rw [e] at hm
            have := hsb hls i (hi0b i _ r g1 hm)
            rw [hun'] at this; cases this
          · exact e
        have hfr' : rn ≠ [] → freshB ⟨A.n, SL (fun j => listed.getD j false), RS (fun j => listed.getD j false)⟩ d = true := fun hne => by
          obtain ⟨r, hr⟩ : ∃ r, (d, r) ∈ rn := by
            rcases stepZ_shape g2 g4 with e | ⟨r', e⟩
            · exact absurd e hne
            · exact ⟨r', by rw [e]; exact .head _⟩
          have hf := hnew i _ d r g1 hr
          simp only [RS]
          rw [← List.append_assoc]
          refine fresh_super hf.2.1.1 hf.2.1.2 (fun t x hm => ?_) (fun t r' hm => ?_)
          · obtain ⟨j, q, hj, hlj, hm'⟩ := pickL_mem hm
            obtain ⟨p', hj', rfl⟩ := mapGet hj
            exact menL_ok (freshE_ok hf.1 j p' hj' (by intro e; rw [Nat.zero_add] at e hlj; subst e; rw [hun'] at hlj; cases hlj) (by
              rw [Nat.zero_add] at hlj ⊢
              cases hbo : bindsOn ops j i with
              | false => rfl
              | true =>
                have := waitsFor_ok (ls := fun j => listed.getD j false) hcl hbo hlj
                rw [hun'] at this; cases this)).1 t x hm'
          · rcases List.mem_append.1 hm with hm | hm
            · split at hm
              · rename_i hls
                exact freshR_mem (hspd hls d r hr) hm
              · cases hm
            · obtain ⟨j, q, hj, hlj, hm'⟩ := pickL_mem hm
              obtain ⟨p', hj', rfl⟩ := mapGet hj
              exact freshR_mem (freshE_ok hf.1 j p' hj' (by intro e; rw [Nat.zero_add] at e hlj; subst e; rw [hun'] at hlj; cases hlj) (by
              rw [Nat.zero_add] at hlj ⊢
              cases hbo : bindsOn ops j i with
              | false => rfl
              | true =>
                have := waitsFor_ok (ls := fun j => listed.getD j false) hcl hbo hlj
                rw [hun'] at this; cases this)).2 hm'
        refine stepZ_wp hl hT hop' (A := ⟨A.n, SL (fun j => listed.getD j false), RS (fun j => listed.getD j false)⟩) (B := ⟨A.n, pickS (slotsE (prs.take i) ++ A.sl) (looks ops op), bif bindsOn ops s i then A.rs else without i0 A.rs⟩) ⟨rfl, fun t r hr => ?_, hsl⟩ hs' g2 g3 g4 g5 hfr' fun o2 h2 v w1 hs2 hext => next g1 (sp' := rn) (fun t r hr => ?_) o2 h2 _ w1 hs2 hext
        · simp only at hr ⊢
          cases hbo : bindsOn ops s i with
          | true =>
            rw [hbo] at hr
            have huns : listed.getD s false = false := by
              cases hls : listed.getD s false with
              | false => rfl
              | true => have := hsb hls i hbo; rw [hun'] at this; cases this
            simp only [RS, huns]
            exact hPMbase _ t r hr
          | false =>
            rw [hbo] at hr
            obtain ⟨k1, k2⟩ := without_lk hr
            simp only [RS]
            rw [lkA_none fun r' hm => ?_]
            · exact hPMbase _ t r k1
            · split at hm
              · rename_i hls
                by_cases hsn : s < n
                · have h6 := hop s ops[s] hsn (Array.getElem?_eq_getElem (by omega))
                  rw [if_pos rfl] at h6
                  obtain ⟨ys, ψ', q1, q2, _⟩ := h6
                  rcases stepS_keys q2 t r' hm with e | ⟨y', hy'⟩
                  · exact k2 e
                  · obtain ⟨_, ⟨d', r1, _, e, _⟩ | ⟨r1, _, e, _⟩⟩ := stepS_shape q2
                    · rw [e] at q1 hy'
                      simp only [List.mem_singleton, Prod.mk.injEq] at hy'
                      obtain ⟨rfl, _⟩ := hy'
                      have hf := freshV1_ok hfr s t _ [] [] q1 (.inl (by omega))
                      exact (freshR_mem hf.2.1.2 (lk_mem k1)).1 rfl
                    · rw [e] at hy'; cases hy'
                · rw [hsp0 (by omega)] at hm; cases hm
              · cases hm
        · have hnews : (listed.setIfInBounds i true).getD s false = listed.getD s false := by rw [hget, if_neg (Ne.symm his)]
          simp only [RS, hnews] at hr ⊢
          by_cases hmem : ∃ r', (t, r') ∈ (if listed.getD s false = true then sp else [])
          · obtain ⟨r', hmem⟩ := hmem
            rw [lkA_none fun r2 h2 => ?_]
            · obtain ⟨r3, h3⟩ := lkA_of hmem
              rw [lkA_some h3] at hr ⊢
              exact hr
            · split at hmem
              · rename_i hls
                exact (freshR_mem (hspd hls t r2 h2) hmem).1 rfl
              · cases hmem
          · rw [lkA_none fun r' h' => hmem ⟨r', h'⟩] at hr
            have := pickL_step (p := rn) hapM (by rw [List.getElem?_map, g1]; rfl) (ls' := fun j => (listed.setIfInBounds i true).getD j false) (ls := fun j => listed.getD j false) (by simp [hget]) (fun j hj => by simp [hget, hj]) hr
            by_cases hrn : ∃ r', (t, r') ∈ rn
            · obtain ⟨r', hrn⟩ := hrn
              obtain ⟨r2, h2⟩ := lkA_of hrn
              rw [lkA_some h2] at this ⊢
              exact this
            · rw [lkA_none fun r' h' => hrn ⟨r', h'⟩] at this ⊢
              rw [lkA_none fun r' h' => hmem ⟨r', h'⟩]
              exact this
  refine main ops.size (Array.replicate ops.size false) o h tm w.drew (by simp) (fun j _ => by simp [Array.getD_eq_getD_getElem?, Array.getElem?_replicate]; split <;> rfl) ?_ ?_ ?_ (Ext.drew o w)
  · have : ∀ n, cntU (fun j => (Array.replicate ops.size false).getD j false) n ≤ n := by
      intro n
      induction n with
      | zero => exact Nat.le_refl _
      | succ n ih => simp only [cntU]; split <;> omega
    have := this n
    omega
  · intro i oi hoi hli
    simp [Array.getD_eq_getD_getElem?, Array.getElem?_replicate] at hli
    split at hli <;> cases hli
  · have hs' := hs.drew
    have hno : ∀ j, (fun j => (Array.replicate ops.size false).getD j false) j = false := fun j => by
      simp [Array.getD_eq_getD_getElem?, Array.getElem?_replicate]
      split <;> rfl
    have hno' := hno s
    simp only at hno'
    have e1 : SL (fun j => (Array.replicate ops.size false).getD j false) = A.sl := by simp only [SL]; rw [pickL_none hno]; rfl
    have e2 : RS (fun j => (Array.replicate ops.size false).getD j false) = A.rs := by simp only [RS, hno']; rw [pickL_none hno]; rfl
    rw [e1, e2]
    exact hs'
theorem KW.goDV {k k' : List K} {e : Exit} (hl : LayOk P lay) (hT : FnsOk P fns) (hm : P.follows .mixedOrders = true) (f : Nat) {id : Nat} {ops : Array Oper} {φ ψ : Prop} (h : run2 lay fns f k e A True = (.code (.region id ops true) :: k', .normal, A', φ)) (n s i0 : Nat) (hsz0 : Nat.blt n ops.size = true) (hdep : depOk ops = true) (htl : tailsOk ops n = true) (hat : (match lk A'.rs i0 with | some _ => true | none => layBefore ops s i0 n) = true)
    {prs : List Ent} {sp : List (Nat × Res)} (hg : drawV lay fns ops A'.rs (without i0 A'.rs) A'.n s i0 (takeN n ops.toList) 0 A'.sl [] True = some (prs, sp, ψ)) (hfr : freshV1 ops prs sp A' s i0 0 prs = true) (hφ : φ) (hψ : ψ)
    (hn : KW P (.ops ops (dropN n ops.toList) :: k') .normal ⟨A'.n, slotsE prs ++ A'.sl, sp ++ (memE prs ++ A'.rs)⟩ Q) : KW P k e A Q :=
  KW.go hl hT f h hφ (KW.drawnV hl hT hm s i0 hsz0 hdep htl hat hg hfr hψ hn)
/-- a package variable's content, once more under another number -/
theorem KW.dupG (i j : Nat) {k : List K} {e : Exit} {b T : Nat} {vs : List Value} (hi : lk A.rs i = some (.glo b T vs)) (hk : KW P k e ⟨A.n, A.sl, (j, .glo b T vs) :: A.rs⟩ Q) : KW P k e A Q :=
  KW.weaken (A' := ⟨A.n, A.sl, (j, .glo b T vs) :: A.rs⟩) (fun o h tm w hs => ⟨o, h, ⟨hs.size, hs.tags, hs.slot, fun i' r hl => by
    rw [lk_cons] at hl
    split at hl
    · cases hl; exact hs.res i _ hi
    · exact hs.res i' r hl⟩, Ext.refl o w⟩) hk
end
end Go.Sy
